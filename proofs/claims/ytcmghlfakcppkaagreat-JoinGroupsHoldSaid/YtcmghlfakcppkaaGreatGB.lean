/- Lemmas, joined by program. -/
import Derived.Test.YtcmghlfakcppkaaGreatGA
import Derived.KernelRfl
import Derived.Shelf.SlSortCmp.NoneTotal
import Derived.Test.YtcmghlfakcppkaaGreatChecked
set_option maxHeartbeats 4000000
set_option linter.all false
namespace Go.Pg
open Go.RowKit Go.Proofs Go.Shelf Go.Sort Go.Lib
def SpecW (P:Program) (f:FuncId) (pre post:List V1) (e k n:Nat) (g g':Nat->Nat->D) (res:List V1):Prop:=
 Ent P f /\ ∀ (w:World) (ok:Nat->Prop) (vs us:List Value) (v:Value) (xs:List Value),(∀ b,ok b->b<w.heap.size)->All2 (Rep1 w ok) pre vs->All2 (Rep1 w ok) post us->RowAt w ok e k n g v xs ->
  Calls P f (vs++v :: us).toArray w fun en w'=>∃ r,en = .returned r/\w.grownBy w' (blk v)/\ResRep w' (fun _=>False) res r /\
   ∃ xs',w'.ownsRow 0 e k v n xs'/\(∀ u∈xs',u.oneCell'=true) /\ ∀ m,m<n -> ∀ j,j<k -> ∃ u,xs'[m * k+j]?=some u/\Rep w' ok (g' m j) u
section
variable {s:St} {o:Oper} {fo:Operand} {f:FuncId} {K:St->Prop}
theorem CallSt.rwW {E:Env} (hdr:E.dr=false) {args:Array Operand} {at':Array TypeId} (hop:o.op = .call { callee:=.value fo,args,argTypes:=at' }) {pre post res:List V1} {i e k n:Nat} {g g':Nat->Nat->D} (h:SpecW PP f pre post e k n g g' res)
  (ha:RowArgs s fo args.toList f pre i post) (hi:s.ob i=some (.row e k n g)) (hk:K ((s.setOb i (some (.row e k n g'))).putO o.dst (resAV res))):CallSt E PP s o fo args.toList K:=by
 rw[zae]
 refine .inr (.inr (.inl ⟨_,⟨fun cx a w hD hd hR=>?_⟩,hk⟩))
 obtain⟨γ,hg⟩:=hR
 obtain⟨caps,vs,us,xs,h1,h2,h3,h4,h5⟩:=zcb hg ha hi
 refine .enter (zaw hop h1 h.1) ?_
 rw[h2]
 refine (h.2 w _ vs us _ xs (fun b hb=>zai hg hb) h3 h4 h5).mono fun en w' ⟨r,he,hgr,hres,ys,y1,y2,y3⟩=>⟨r,he,γ,?_⟩
 refine (hg.change (i:=i) (o':=.row e k n g') hi hgr (fun e=>by have:=hD e; rw[hdr] at this; cases this) (fun ok hok=>⟨ys,y1,fun b hb=>(zax hg hi hb).1,y2,fun m hm j hj=>?_⟩) (fun cs e=>by cases e)).putO hd (zaO (.inl fun b hb=>hb.elim) hres) (fun j hj=>by rw[zav] at hj; cases hj)
 obtain⟨u,hu,hr⟩:=y3 m hm j hj
 exact⟨u,hu,Rep.keep0 (w:=w') (fun b hb=>⟨(hok b hb).1,zdp rfl⟩) hr⟩
end
theorem SpecW.congr {P:Program} {f:FuncId} {pre post res:List V1} {e k n:Nat} {g0 g g1 g':Nat->Nat->D} (h:SpecW P f pre post e k n g0 g1 res) (he:∀ m,m<n -> ∀ j,j<k->g m j=g0 m j) (he':∀ m,m<n -> ∀ j,j<k->g' m j=g1 m j):SpecW P f pre post e k n g g' res:=
 ⟨h.1,fun w ok vs us v xs h1 h2 h3 hr=>(h.2 w ok vs us v xs h1 h2 h3 ⟨hr.own,hr.one,fun m hm j hj=>by rw[<- he m hm j hj]; exact hr.rep m hm j hj,hr.sep⟩).mono fun en w' ⟨r,e1,e2,e3,xs',e4,e5,e6⟩=>⟨r,e1,e2,e3,xs',e4,e5,fun m hm j hj=>by rw[he' m hm j hj]; exact e6 m hm j hj⟩⟩
section
variable {α:Type} [Inhabited α] {k:Nat} (enc:α->List Value) (hl:∀ x,(enc x).length=k) (h1:∀ x,∀ v∈enc x,v.oneCell'=true)
include hl in
theorem zlR (d:Array α) {t:Nat} (h:t<d.size * k):(enc d[t / k]!)[t % k]?=some (flatK enc k d)[t]!:=by
 have hk:0<k:=by
  rcases wF k with h0 | h0
  ·subst h0; simp at h
  exact h0
 rw[get_flatK _ _ _ _ h]
 have:t % k<(enc d[t / k]!).length:=by rw[hl]; exact jaf t hk
 rw[List.getElem!_eq_getElem?_getD,hZ this]; rfl
include hl in
theorem zmw {w:World} {e g:Nat} {cur:Array Value} {l:List α} {xs:List Value} (hh:w.heap[g]?=some (.cells cur e (0,0))) (ht:cur.toList.take (l.length * k)=xs)
  (hr:∀ m,m<l.length -> ∀ j,j<k->xs[m * k+j]?=(enc (l.getD m default))[j]?):HoldsK enc k w g 0 l.toArray:=by
 intro t ht'
 rw[size_flatK] at ht'
 have ht2:=ht'
 simp only[jaC] at ht'
 have hk:0<k:=by
  rcases wF k with h0 | h0
  ·subst h0; simp at ht'
  exact h0
 have hm:t / k<l.length:=jaz (by rwa [qC] at ht')
 have hu:=hr (t / k) hm (t % k) (jaf t hk)
 have e1:t / k * k+t % k=t:=by rw[qC]; exact ja9 t k
 have hf:=zlR enc hl l.toArray ht2
 rw[zbm l hm] at hf
 rw[e1,<- ht,jS,kG ht',hf] at hu
 rw[qG]
 refine⟨?_,?_⟩
 ·simp only[World.cell?,hh,id_eq]
  have:cur[t]?=some (flatK enc k l.toArray)[t]!:=by simpa using hu
  simp[this]
 simp[World.frozen?,hh]
include hl h1 in
theorem zn5 {w:World} {e g cap:Nat} {cur:Array Value} (m:Nat) (l:List α) (os:Array Obj) (hh:w.heap[g]?=some (.cells cur e (0,0))) (hlc:l.length<=cap) (hcap:cap<=maxLen) (hcs:cur.size=cap * k) :
  w.grownBy (sortWorldK enc k w g 0 m l.toArray os) (some g) /\ ∃ xs',(sortWorldK enc k w g 0 m l.toArray os).ownsRow 0 e k (.slice (some ⟨g,0,none⟩) l.length cap) l.length xs'/\(∀ u∈xs',u.oneCell'=true) /\
   ∀ m',m'<l.length -> ∀ j,j<k->xs'[m' * k+j]?=(enc (l.getD m' default))[j]?:=by
 have hg:g<w.heap.size:=(jB.1 hh).1
 have hheap:∀ i,i<w.heap.size->(sortWorldK enc k w g 0 m l.toArray os).heap[i]?=if i=g then some (.cells (putCells id 0 (flatK enc k l.toArray) cur) e (0,0)) else w.heap[i]?:=fun i hi=>by
  simp only[sortWorldK,grow,putRowK,putRow,mapBlock,ahead]
  rw[jar (by simpa using hi),ja0]
  by_cases e':g=i
  ·subst e'; simp[hh,onCells]
  rw[kF e',kF (fun e''=>e' e''.symm)]; rfl
 refine⟨⟨rfl,rfl,rfl,by simp[sortWorldK,grow,putRowK,putRow,mapBlock,ahead],fun i hi hne=>?_⟩,?_⟩
 ·rw[hheap i hi,kF fun e'=>hne (by rw[e'])]
 have hF:=size_flatK enc k l.toArray
 simp only[jaC] at hF
 have hle:l.length * k<=cap * k:=jW k hlc
 have hget:∀ t,t<l.length * k->(putCells id 0 (flatK enc k l.toArray) cur).toList[t]?=(enc (l.getD (t / k) default))[t % k]?:=fun t ht=>by
  have hk:0<k:=by
   rcases wF k with h0 | h0
   ·subst h0; simp at ht
   exact h0
  have hm:t / k<l.length:=jaz (by rwa [qC] at ht)
  have hlt:t<cur.size:=by omega
  rw[jaK,putCells,Array.getElem?_mapIdx,qM hlt]
  simp only[kZ,jF,true_and,qG,hF,kG ht,Nat.sub_zero,id_eq]
  rw[<- zlR enc hl l.toArray (by simpa using ht),zbm l hm]
 have hsz:(putCells id 0 (flatK enc k l.toArray) cur).size=cap * k:=by simp[putCells,hcs]
 have hsz':(putCells id 0 (flatK enc k l.toArray) cur).toList.length=cap * k:=(kB).trans hsz
 refine⟨(putCells id 0 (flatK enc k l.toArray) cur).toList.take (l.length * k),⟨by rw[jQ,hsz']; exact Nat.min_eq_left hle,.inr ⟨g,cap,_,rfl,jF _,by rw[hheap g hg,kG rfl],hlc,hcap,hsz,rfl⟩⟩,fun u hu=>?_,fun m' hm' j hj=>?_⟩
 ·obtain⟨t,ht⟩:=jah hu
  rw[jS] at ht
  split at ht
  ·rename_i hlt; rw[hget t hlt] at ht; exact h1 _ _ (kP ht)
  cases ht
 have hlt:m' * k+j<l.length * k:=by
  have:(m'+1) * k<=l.length * k:=jW k hm'
  rw[kW] at this; omega
 rw[jS,kG hlt,hget _ hlt]
 have e1:(m' * k+j) / k=m':=by rw[qC,Nat.mul_add_div (by omega),Nat.div_eq_of_lt hj]; simp
 have e2:(m' * k+j) % k=j:=by rw[qC,jaT,jas hj]
 rw[e1,e2]
end
structure Dats (α:Type) (k:Nat) where
  lst:α->List D
  len:∀ x,(lst x).length=k
  at_:α->Nat->D
  hat:∀ x j,j<k->(lst x)[j]?=some (at_ x j)
def Dats.row {α:Type} [Inhabited α] {k:Nat} (A:Dats α k) (l:List α):Nat->Nat->D:=fun i=>A.at_ (l.getD i default)
theorem zdT {P:Program} {ρ:Ren} (S:SlLaysF0.n6 P ρ) (hent:Ent P (ρ.f 6)) {k:Nat} (aE:∀ w,(isAgg (ρ.t 24)).run P w = .ok true w) (zE:∀ w,(Go.sizeOf (ρ.t 24)).run P w = .ok k w)
  {α:Type} [Inhabited α] (A:Dats α k) (L:List α) (cf:α->α->Int) (hO:SWO (ltOf cf)) (hT:∀ i j,i<L.length->j<L.length->ltOf cf (L.getD i default) (L.getD j default)=false->ltOf cf (L.getD j default) (L.getD i default)=false->i=j)
  (g:FuncId) (hc:∀ x∈L,∀ y∈L,SpecD P g [.agg (A.lst x),.agg (A.lst y)] [.d (.int .i64 (cf x y))]) (e:TypeId) (hn:L.length<=1000000) :
  SpecW P (ρ.f 6) [] [.d (.fn g)] e k L.length (A.row L) (A.row (L.mergeSort fun x y=>!(ltOf cf) y x)) []:=by
 refine⟨hent,fun w ok vs us v xs hok h1 h2 hr=>?_⟩
 cases h1
 cases h2 with
 | cons h2 h3=>
 cases h3
 rename_i fv
 have hfv:fv = .func (.func g) #[] #[]:=h2
 subst hfv
 by_cases h0:L=[]
 ·subst h0
  obtain⟨p,cap,rfl⟩:∃ p cap,v = .slice p 0 cap:=by
   rcases hr.own.2 with⟨h3,_⟩ | ⟨q,cap,cur,h3,_⟩
   ·exact⟨_,_,h3⟩
   exact⟨_,_,h3⟩
  refine (AnyF.slices_SortFunc_none S p cap _ w).mono ?_
  rintro en w' ⟨rfl,rfl⟩
  exact⟨_,rfl,⟨rfl,rfl,rfl,jE _,fun _ _ _=>rfl⟩,⟨[],rfl,.nil⟩,xs,hr.own,hr.one,fun m hm=>absurd hm (qD _)⟩
 have hpos:0<L.length:=List.length_pos_iff.2 h0
 haveI:Inhabited (Fin L.length):=⟨⟨0,hpos⟩⟩
 rcases hr.own.2 with⟨_,h4⟩ | ⟨q,cap,cur,rfl,_,hh,hnc,hcap,hcs,htk⟩
 ·exact absurd (jbj.1 h4) h0
 have hxl:xs.length=L.length * k:=hr.own.1
 let enc:Fin L.length->List Value:=fun i=>(xs.drop (i.1 * k)).take k
 have enc_get:∀ (i:Fin L.length) j,j<k->(enc i)[j]?=xs[i.1 * k+j]?:=fun i j hj=>by
  show ((xs.drop (i.1 * k)).take k)[j]?=_
  rw[jS,kG hj,qV]
 have enc_len:∀ i,(enc i).length=k:=fun i=>by
  show ((xs.drop (i.1 * k)).take k).length=k
  rw[jQ,jag,hxl]
  have:(i.1+1) * k<=L.length * k:=jW k i.2
  rw[kW] at this; omega
 have enc_one:∀ i,∀ v∈enc i,v.oneCell'=true:=fun i v hv=>hr.one v (ja4 (wJ hv))
 have fr:∀ m,∀ hm:m<L.length,(List.finRange L.length).getD m default=⟨m,hm⟩:=fun m hm=>by
  rw[hX,hZ (by simpa using hm)]; simp
 have hH:HoldsK enc k w q 0 (List.finRange L.length).toArray:=zmw enc enc_len (xs:=xs) hh (by rw[ja5]; exact htk) fun m hm j hj=>by
  rw[ja5] at hm
  rw[fr m hm,enc_get _ j hj]
 have hq:q<w.heap.size:=(jB.1 hh).1
 let cf':Fin L.length->Fin L.length->Int:=fun i j=>cf (L.getD i.1 default) (L.getD j.1 default)
 have hmem:∀ i:Fin L.length,L.getD i.1 default∈L:=fun i=>by
  rw[hX,hZ i.2]; exact kR i.2
 have hlt:∀ i j,ltOf cf' i j=ltOf cf (L.getD i.1 default) (L.getD j.1 default):=fun _ _=>rfl
 have hent':∀ args w,(callFunc g args).run P w = .ok (.enter g args) w:=fun args w=>zaz (hc _ (hmem ⟨0,hpos⟩) _ (hmem ⟨0,hpos⟩)).1 args w
 have hcmp:CmpLays P g #[] enc k cf' q 0 (List.finRange L.length).toArray.size w:=fun m os dk hdk x y=>by
  have hdl:dk.toList.length=L.length:=by rw[kB,hdk]; simp
  have hgr:w.grownBy (sortWorldK enc k w q 0 m dk os) (some q):=by
   have:=(zn5 enc enc_len enc_one (cap:=cap) m dk.toList os hh (by rw[hdl]; exact hnc) hcap hcs).1
   simpa using this
  refine ((hc _ (hmem x) _ (hmem y)).2 _ ok [.agg (enc x).toArray,.agg (enc y).toArray] (fun b hb=>jN (hok b hb) hgr.size) ?_).mono ?_
  ·have one:∀ z:Fin L.length,Rep1 (sortWorldK enc k w q 0 m dk os) ok (.agg (A.lst (L.getD z.1 default))) (.agg (enc z).toArray):=fun z=>by
    refine⟨enc z,rfl,All2.of_get (by rw[A.len,enc_len]) fun j a b ha hb=>?_⟩
    have hj:j<k:=by rw[<- enc_len z]; exact (kC.1 hb).1
    rw[A.hat _ j hj] at ha
    cases ha
    rw[enc_get z j hj] at hb
    obtain⟨u,hu,hrep⟩:=hr.rep z.1 z.2 j hj
    rw[hb] at hu; cases hu
    exact Rep.keep0 (fun b hb=>⟨hb,zdp (hgr.block b (hok b hb) fun e=>hr.sep b e.symm hb)⟩) hrep
   exact .cons (one x) (.cons (one y) .nil)
  rintro en w' ⟨v,rfl,⟨hb,hd⟩,hres⟩
  have hv:v = .int .i64 (cf' x y):=hres
  exact⟨by rw[hv],zck hb (hd rfl)⟩
 have hrun:=AnyQ.slices_SortFunc_total S k aE zE enc enc_len enc_one cf' ⟨fun i=>hO.1 _,fun i j l=>hO.2 _ _ _,fun i j l=>hO.3 _ _ _⟩ g #[] q 0 cap (List.finRange L.length).toArray w hent' hcmp hH hq (by simp; omega) (fun i j a b=>Fin.ext (hT i.1 j.1 i.2 j.2 a b))
 simp only[jaC,ja5] at hrun
 refine hrun.mono ?_
 rintro en w' ⟨rfl,m,os,rfl⟩
 have hlen:((List.finRange L.length).mergeSort fun x y=>!(ltOf cf') y x).length=L.length:=by rw[qE,ja5]
 obtain⟨p1,xs',p2,p3,p4⟩:=zn5 enc enc_len enc_one (cap:=cap) m ((List.finRange L.length).mergeSort fun x y=>!(ltOf cf') y x) os hh (by rw[hlen]; exact hnc) hcap hcs
 rw[hlen] at p2 p4
 have hmap:((List.finRange L.length).mergeSort fun x y=>!(ltOf cf') y x).map (fun i=>L.getD i.1 default)=L.mergeSort fun x y=>!(ltOf cf) y x:=by
  rw[List.map_mergeSort (f:=fun i:Fin L.length=>L.getD i.1 default) (r:=fun x y=>!(ltOf cf') y x) (s:=fun x y=>!(ltOf cf) y x) (fun a _ b _=>rfl)]
  congr 1
  apply List.ext_getElem?
  intro i
  by_cases hi:i<L.length
  ·rw[jU,hZ (by simpa using hi),hZ hi]
   simp[hX,hi]
  rw[qR (by simpa using hi),qR (by omega)]
 refine⟨_,rfl,p1,⟨[],rfl,.nil⟩,xs',p2,p3,fun m' hm' j hj=>?_⟩
 have hx:(L.mergeSort fun x y=>!(ltOf cf) y x).getD m' default=L.getD (((List.finRange L.length).mergeSort fun x y=>!(ltOf cf') y x).getD m' default).1 default:=by
  rw[<- hmap,hX,jU,hZ (by rw[hlen]; exact hm'),hX (l:=List.mergeSort _ _),hZ (by rw[hlen]; exact hm')]
  rfl
 have q4:=p4 m' hm' j hj
 generalize ((List.finRange L.length).mergeSort fun x y=>!(ltOf cf') y x).getD m' default=i at hx q4
 obtain⟨u,hu,hrep⟩:=hr.rep i.1 i.2 j hj
 refine⟨u,by rw[q4,enc_get i j hj,hu],?_⟩
 show Rep _ ok (A.at_ ((L.mergeSort fun x y=>!(ltOf cf) y x).getD m' default) j) u
 rw[hx]
 exact Rep.keep0 (fun b hb=>⟨hb,zdp (p1.block b (hok b hb) fun e=>hr.sep b e.symm hb)⟩) hrep
end Go.Pg
namespace Go.Proofs
open Go.Shelf Go.RowKit Go.Lib Go.Sort
def Tryz.sortFt_ren:Go.Shelf.Ren:=⟨fun | 6=>63 | 15=>103 | 14=>102 | 28=>151 | 29=>152 | 20=>143 | 21=>144 | 22=>145 | 23=>146 | 24=>147 | 25=>148 | 26=>149 | 27=>150 | 46=>215 | 47=>216 | 48=>217 | 49=>218 | 50=>219 | 57=>257 | n=>n,fun | 22=>83 | 24=>130 | 25=>140 | 3=>3 | 39=>182 | 0=>0 | 53=>226 | 55=>207 | 4=>4 | 46=>220 | 45=>219 | 50=>53 | 5=>5 | 9=>9 | 66=>290 | 70=>294 | 76=>332 | 77=>333 | n=>n,fun | n=>n⟩
theorem Tryz.sortFt:Go.Proofs.SlLaysF0.n6 Tryz.prog Tryz.sortFt_ren:={
  mixed:=by kernel_rfl,
  f6:=⟨Tryz.f63.name,by decide,Tryz.func63.trans (jI some (by kernel_rfl))⟩,
  f14:=⟨Tryz.f102.name,by decide,Tryz.func102.trans (jI some (by kernel_rfl))⟩,
  f15:=Tryz.func103.trans (jI some (by kernel_rfl)),
  f20:=⟨Tryz.f143.name,by decide,Tryz.func143.trans (jI some (by kernel_rfl))⟩,
  f21:=⟨Tryz.f144.name,by decide,Tryz.func144.trans (jI some (by kernel_rfl))⟩,
  f22:=⟨Tryz.f145.name,by decide,Tryz.func145.trans (jI some (by kernel_rfl))⟩,
  f23:=⟨Tryz.f146.name,by decide,Tryz.func146.trans (jI some (by kernel_rfl))⟩,
  f24:=⟨Tryz.f147.name,by decide,Tryz.func147.trans (jI some (by kernel_rfl))⟩,
  f25:=⟨Tryz.f148.name,by decide,Tryz.func148.trans (jI some (by kernel_rfl))⟩,
  f26:=⟨Tryz.f149.name,by decide,Tryz.func149.trans (jI some (by kernel_rfl))⟩,
  f27:=⟨Tryz.f150.name,by decide,Tryz.func150.trans (jI some (by kernel_rfl))⟩,
  f28:=Tryz.func151.trans (jI some (by kernel_rfl)),
  f29:=Tryz.func152.trans (jI some (by kernel_rfl)),
  f46:=⟨Tryz.f215.name,by decide,Tryz.func215.trans (jI some (by kernel_rfl))⟩,
  f47:=Tryz.func216.trans (jI some (by kernel_rfl)),
  f48:=Tryz.func217.trans (jI some (by kernel_rfl)),
  f49:=⟨Tryz.f218.name,by decide,Tryz.func218.trans (jI some (by kernel_rfl))⟩,
  f50:=⟨Tryz.f219.name,by decide,Tryz.func219.trans (jI some (by kernel_rfl))⟩,
  f57:=⟨Tryz.f257.name,by decide,Tryz.func257.trans (jI some (by kernel_rfl))⟩,
  t0:=Tryz.underlying0,
  a0:=Tryz.isAgg0,
  z0:=Tryz.sizeOf0,
  v0:=Tryz.zeroValue0,
  t3:=Tryz.underlying3,
  a3:=Tryz.isAgg3,
  z3:=Tryz.sizeOf3,
  v3:=Tryz.zeroValue3,
  t4:=Tryz.underlying4,
  a4:=Tryz.isAgg4,
  z4:=Tryz.sizeOf4,
  v4:=Tryz.zeroValue4,
  t5:=Tryz.underlying5,
  a5:=Tryz.isAgg5,
  z5:=Tryz.sizeOf5,
  v5:=Tryz.zeroValue5,
  t9:=Tryz.underlying9,
  a9:=Tryz.isAgg9,
  z9:=Tryz.sizeOf9,
  v9:=Tryz.zeroValue9,
  t22:=Tryz.underlying83,
  a22:=Tryz.isAgg83,
  z22:=Tryz.sizeOf83,
  v22:=Tryz.zeroValue83,
  t25:=Tryz.underlying140,
  a25:=Tryz.isAgg140,
  z25:=Tryz.sizeOf140,
  v25:=Tryz.zeroValue140,
  t39:=Tryz.underlying182,
  a39:=Tryz.isAgg182,
  z39:=Tryz.sizeOf182,
  v39:=Tryz.zeroValue182,
  t45:=Tryz.underlying219,
  a45:=Tryz.isAgg219,
  z45:=Tryz.sizeOf219,
  v45:=Tryz.zeroValue219,
  t46:=Tryz.underlying220,
  a46:=Tryz.isAgg220,
  z46:=Tryz.sizeOf220,
  v46:=Tryz.zeroValue220,
  t50:=Tryz.underlying53,
  a50:=Tryz.isAgg53,
  z50:=Tryz.sizeOf53,
  v50:=Tryz.zeroValue53,
  t53:=Tryz.underlying226,
  a53:=Tryz.isAgg226,
  z53:=Tryz.sizeOf226,
  v53:=Tryz.zeroValue226,
  t55:=Tryz.underlying207,
  a55:=Tryz.isAgg207,
  z55:=Tryz.sizeOf207,
  v55:=Tryz.zeroValue207,
  t66:=Tryz.underlying290,
  a66:=Tryz.isAgg290,
  z66:=Tryz.sizeOf290,
  v66:=Tryz.zeroValue290,
  t70:=Tryz.underlying294,
  a70:=Tryz.isAgg294,
  z70:=Tryz.sizeOf294,
  v70:=Tryz.zeroValue294,
  t76:=Tryz.underlying332,
  a76:=Tryz.isAgg332,
  z76:=Tryz.sizeOf332,
  v76:=Tryz.zeroValue332,
  t77:=Tryz.underlying333,
  a77:=Tryz.isAgg333,
  z77:=Tryz.sizeOf333,
  v77:=Tryz.zeroValue333 }
def Tryz.sortMf_ren:Go.Shelf.Ren:=⟨fun | 6=>66 | 15=>103 | 14=>105 | 28=>151 | 29=>152 | 20=>154 | 21=>155 | 22=>156 | 23=>157 | 24=>158 | 25=>159 | 26=>160 | 27=>161 | 46=>221 | 47=>216 | 48=>217 | 49=>222 | 50=>223 | 57=>258 | n=>n,fun | 22=>84 | 24=>132 | 25=>142 | 3=>3 | 39=>182 | 0=>0 | 53=>226 | 55=>207 | 4=>4 | 46=>220 | 45=>219 | 50=>53 | 5=>5 | 9=>9 | 66=>290 | 70=>294 | 76=>332 | 77=>333 | n=>n,fun | n=>n⟩
theorem Tryz.sortMf:Go.Proofs.SlLaysF0.n6 Tryz.prog Tryz.sortMf_ren:={
  mixed:=by kernel_rfl,
  f6:=⟨Tryz.f66.name,by decide,Tryz.func66.trans (jI some (by kernel_rfl))⟩,
  f14:=⟨Tryz.f105.name,by decide,Tryz.func105.trans (jI some (by kernel_rfl))⟩,
  f15:=Tryz.func103.trans (jI some (by kernel_rfl)),
  f20:=⟨Tryz.f154.name,by decide,Tryz.func154.trans (jI some (by kernel_rfl))⟩,
  f21:=⟨Tryz.f155.name,by decide,Tryz.func155.trans (jI some (by kernel_rfl))⟩,
  f22:=⟨Tryz.f156.name,by decide,Tryz.func156.trans (jI some (by kernel_rfl))⟩,
  f23:=⟨Tryz.f157.name,by decide,Tryz.func157.trans (jI some (by kernel_rfl))⟩,
  f24:=⟨Tryz.f158.name,by decide,Tryz.func158.trans (jI some (by kernel_rfl))⟩,
  f25:=⟨Tryz.f159.name,by decide,Tryz.func159.trans (jI some (by kernel_rfl))⟩,
  f26:=⟨Tryz.f160.name,by decide,Tryz.func160.trans (jI some (by kernel_rfl))⟩,
  f27:=⟨Tryz.f161.name,by decide,Tryz.func161.trans (jI some (by kernel_rfl))⟩,
  f28:=Tryz.func151.trans (jI some (by kernel_rfl)),
  f29:=Tryz.func152.trans (jI some (by kernel_rfl)),
  f46:=⟨Tryz.f221.name,by decide,Tryz.func221.trans (jI some (by kernel_rfl))⟩,
  f47:=Tryz.func216.trans (jI some (by kernel_rfl)),
  f48:=Tryz.func217.trans (jI some (by kernel_rfl)),
  f49:=⟨Tryz.f222.name,by decide,Tryz.func222.trans (jI some (by kernel_rfl))⟩,
  f50:=⟨Tryz.f223.name,by decide,Tryz.func223.trans (jI some (by kernel_rfl))⟩,
  f57:=⟨Tryz.f258.name,by decide,Tryz.func258.trans (jI some (by kernel_rfl))⟩,
  t0:=Tryz.underlying0,
  a0:=Tryz.isAgg0,
  z0:=Tryz.sizeOf0,
  v0:=Tryz.zeroValue0,
  t3:=Tryz.underlying3,
  a3:=Tryz.isAgg3,
  z3:=Tryz.sizeOf3,
  v3:=Tryz.zeroValue3,
  t4:=Tryz.underlying4,
  a4:=Tryz.isAgg4,
  z4:=Tryz.sizeOf4,
  v4:=Tryz.zeroValue4,
  t5:=Tryz.underlying5,
  a5:=Tryz.isAgg5,
  z5:=Tryz.sizeOf5,
  v5:=Tryz.zeroValue5,
  t9:=Tryz.underlying9,
  a9:=Tryz.isAgg9,
  z9:=Tryz.sizeOf9,
  v9:=Tryz.zeroValue9,
  t22:=Tryz.underlying84,
  a22:=Tryz.isAgg84,
  z22:=Tryz.sizeOf84,
  v22:=Tryz.zeroValue84,
  t25:=Tryz.underlying142,
  a25:=Tryz.isAgg142,
  z25:=Tryz.sizeOf142,
  v25:=Tryz.zeroValue142,
  t39:=Tryz.underlying182,
  a39:=Tryz.isAgg182,
  z39:=Tryz.sizeOf182,
  v39:=Tryz.zeroValue182,
  t45:=Tryz.underlying219,
  a45:=Tryz.isAgg219,
  z45:=Tryz.sizeOf219,
  v45:=Tryz.zeroValue219,
  t46:=Tryz.underlying220,
  a46:=Tryz.isAgg220,
  z46:=Tryz.sizeOf220,
  v46:=Tryz.zeroValue220,
  t50:=Tryz.underlying53,
  a50:=Tryz.isAgg53,
  z50:=Tryz.sizeOf53,
  v50:=Tryz.zeroValue53,
  t53:=Tryz.underlying226,
  a53:=Tryz.isAgg226,
  z53:=Tryz.sizeOf226,
  v53:=Tryz.zeroValue226,
  t55:=Tryz.underlying207,
  a55:=Tryz.isAgg207,
  z55:=Tryz.sizeOf207,
  v55:=Tryz.zeroValue207,
  t66:=Tryz.underlying290,
  a66:=Tryz.isAgg290,
  z66:=Tryz.sizeOf290,
  v66:=Tryz.zeroValue290,
  t70:=Tryz.underlying294,
  a70:=Tryz.isAgg294,
  z70:=Tryz.sizeOf294,
  v70:=Tryz.zeroValue294,
  t76:=Tryz.underlying332,
  a76:=Tryz.isAgg332,
  z76:=Tryz.sizeOf332,
  v76:=Tryz.zeroValue332,
  t77:=Tryz.underlying333,
  a77:=Tryz.isAgg333,
  z77:=Tryz.sizeOf333,
  v77:=Tryz.zeroValue333 }
end Go.Proofs
set_option maxRecDepth 100000
namespace Go.Pg
open Go.Proofs Go.RowKit Go.Sort Go.Shelf
section
variable {s:St} {o:Oper} {fo:Operand} {f:FuncId} {K:St->Prop} {E:Env}
theorem CallSt.tkF (ids:List Nat) {args:Array Operand} {at':Array TypeId} (hop:o.op = .call { callee:=.value fo,args,argTypes:=at' }) {pre post po:List V1} {i e k n n':Nat} {g g':Nat->Nat->D} (h:SpecT PP f pre post e k n g n' g')
  (ha:RowArgs (s.freezes ids) fo args.toList f pre i po) (he:eqV1s po post) (hi:(s.freezes ids).ob i=some (.row e k n g)) (hk:K (remk (s.freezes ids) i (.row e k n' g') o.dst)):CallSt EN PP s o fo args.toList K:=by
 rw[zae]
 refine .inr (.inr (.inl ⟨_,⟨fun cx a w hD hd hR=>?_⟩,hk⟩))
 obtain⟨γ,hg⟩:=R.freezes ids hR
 obtain⟨caps,vs,us,xs,h1,h2,h3,h4,h5⟩:=zcb hg ha hi
 refine .enter (zaw hop h1 h.1) ?_
 rw[h2]
 refine (h.2 w _ vs us _ xs (fun b hb=>zai hg hb) h3 (za6 he h4) h5).mono fun en w' ⟨r,he,hgr,hbl,ys,y1,y2,y3⟩=>⟨r,he,?_⟩
 refine zcB (o':=.row e k n' g') hg hi hd hgr (fun e=>by have:=hD e; cases this) (fun b hb=>hbl b hb) (fun ok hok=>⟨ys,by rw[zac]; exact y1,(fun b hb=>?_),y2,fun m hm j hj=>?_⟩) (fun cs e=>by cases e)
 ·rw[zac] at hb
  rcases hbl b hb with h6 | h6
  ·exact (zax hg hi h6).1
  exact .inl (jM hg.below.size h6)
 obtain⟨u,hu,hr⟩:=y3 m hm j hj
 exact⟨u,hu,Rep.keep0 (w:=w') (fun b hb=>hb.elim) hr⟩
end
theorem za7 {α:Type} (m:List α) (k i:Nat) (p d:α) (hk:k<m.length):(m.set k p).getD i d=if i=k then p else m.getD i d:=by
 rw[hX,List.getElem?_set,hX]
 by_cases h:k=i
 ·subst h; simp[hk]
 rw[kF h,kF fun e=>h e.symm]
theorem setRp {m:List Rpt} {n k k':Nat} {p q:Rpt} (hk:k<m.length) (e1:k'=k) (e2:q=p):D.eqv (.slc 8 n (storeRow (rowRp m) k' 0 [I q.ID,I q.Kind,I q.Tower,I q.C,I q.Tick,I q.From,I q.To,I q.Slack])) (.slc 8 n (rowRp (m.set k p))):=by
 subst e1; subst e2
 refine⟨rfl,.inr ⟨rfl,fun i hi j hj=>?_⟩⟩
 show D.eqv (storeRow (rowRp m) k' 0 _ i j) (((m.set k' q).getD i default).at j)
 rw[za7 m k' i q default hk]
 unfold storeRow
 by_cases h:i=k'
 ·rw[kG h,kG ⟨h,by omega,by simpa using hj⟩]
  match j,hj with
  | 0,_=>exact⟨rfl,rfl⟩
  | 1,_=>exact⟨rfl,rfl⟩
  | 2,_=>exact⟨rfl,rfl⟩
  | 3,_=>exact⟨rfl,rfl⟩
  | 4,_=>exact⟨rfl,rfl⟩
  | 5,_=>exact⟨rfl,rfl⟩
  | 6,_=>exact⟨rfl,rfl⟩
  | 7,_=>exact⟨rfl,rfl⟩
 rw[kF h,kF fun hh=>h hh.1]
 exact dE _
theorem zmG (p:Rpt->Bool) (g:FuncId) (c0:D) (hg:∀ r:Rpt,Spec PP g [r.v,.d c0] [B (p r)]) (l:List Rpt) (hn:l.length<=1000000):SpecT PP 99 [] [.d (cloB g [c0])] 90 8 l.length (rowRp l) (filR p l l.length).length (rowRp (filR p l l.length)):=by
 refine zkA Tryz.func99 rfl (by kernel_rfl) (fun i _ j _=>zmf _ i j) rfl fun v=>?_
 refine cP (zlU l g c0 p hn fun i _=>hg _) rfl rfl ?_
 rcases idxL_cases p l default with⟨e0,h1⟩ | ⟨i,h1,e0,h2,h3⟩
 ·refine sYe (by rw[e0]; rfl) ?_
  have e:filR p l l.length=l:=by rw[zhr p l (jE _) h1,jZ]
  rw[e]
  exact⟨rfl,rfl,rfl,fun i hi j hj=>dE _⟩
 refine sNo (by rw[e0]; simp) ?_
 have ck:filR p l (i+1)=l.take i:=by rw[zco p l h1,kG h2,jaJ,zhr p l (by omega) h3]
 refine⟨by rw[e0]; exact i6,?_⟩
 refine lOf (σ:=Nat × Nat × List Rpt) (fun x=>([(0,.own 0),(1,.d (cloB g [c0])),(5,.d (I x.2.1)),(6,.d (I x.1))],[(0,.row 90 8 l.length (rowRp x.2.2))]))
  (fun x=>i+1<=x.1/\x.1<=l.length/\x.2.2.length=l.length/\x.2.1<=x.1 - 1/\x.2.2.take x.2.1=filR p l x.1 /\ ∀ m,x.1<=m->x.2.2.getD m default=l.getD m default) (fun x=>l.length - x.1) (i+1,i,l)
  ⟨rfl,⟨obR rfl (dE _),trivial⟩,rfl,avQ rfl,?_,?_,trivial⟩ ⟨jE _,h1,rfl,by simp,ck.symm,fun _ _=>rfl⟩ fun x hx=>?_
 ·exact avQ (by rw[e0]; rfl)
 ·exact avQ (by rw[e0]; rfl)
 obtain⟨x1,x2,x3,x4,x5,x6⟩:=hx
 apply bY <;> intro g1
 ·have g1:x.1<l.length:=by have:=dT g1; omega
  have e1:x.2.2.getD (x.1:Int).toNat default=l.getD x.1 default:=by rw[wD,x6 x.1 (jE _)]
  refine⟨⟨by omega,by omega⟩,⟨by omega,?_⟩⟩
  refine cP (hg (x.2.2.getD (x.1:Int).toNat default)) rfl rfl ?_
  apply bY <;> intro g2
  ·have g2:p (l.getD x.1 default)=false:=by rw[e1] at g2; simpa using g2
   refine⟨⟨by omega,by omega⟩,⟨by omega,?_⟩⟩
   refine⟨i6,?_⟩
   refine⟨i6,?_⟩
   refine⟨(x.1+1,x.2.1+1,x.2.2.set x.2.1 (l.getD x.1 default)),⟨rfl,⟨obR rfl (setRp (by omega) (wD _) e1),trivial⟩,rfl,wq rfl⟩,⟨by omega,by omega,by simp; omega,(show x.2.1+1<=x.1+1 - 1 by omega),?_,fun m hm=>?_⟩,?_⟩
   ·show (x.2.2.set x.2.1 (l.getD x.1 default)).take (x.2.1+1)=filR p l (x.1+1)
    rw[zco p l g1,kF (by rw[g2]; decide),zaM (i:=x.2.1) (by simp; omega) default,za7 _ _ _ _ _ (by omega),kG rfl,<- x5,List.take_set_of_le (jE _)]
   ·have hm:x.1+1<=m:=hm
    show (x.2.2.set x.2.1 (l.getD x.1 default)).getD m default=_
    rw[za7 _ _ _ _ _ (by omega),kF (by omega)]
    exact x6 m (by omega)
   show l.length - (x.1+1)<l.length - x.1
   omega
  have g2:p (l.getD x.1 default)=true:=by rw[e1] at g2; simpa using g2
  refine⟨i6,?_⟩
  refine⟨(x.1+1,x.2.1,x.2.2),⟨rfl,⟨obR rfl (dE _),trivial⟩,rfl,wq rfl⟩,⟨by omega,by omega,x3,(show x.2.1<=x.1+1 - 1 by omega),?_,fun m hm=>x6 m (by have:x.1+1<=m:=hm; omega)⟩,?_⟩
  ·show x.2.2.take x.2.1=filR p l (x.1+1)
   rw[zco p l g1,kG g2,jaJ,x5]
  show l.length - (x.1+1)<l.length - x.1
  omega
 have g1:x.1=l.length:=by have:=dF g1; omega
 have hk':x.2.1=(filR p l l.length).length:=by
  have:=jI List.length x5
  rw[jQ,g1] at this
  omega
 refine⟨⟨rfl,by omega,by omega⟩,?_⟩
 refine⟨by omega,?_⟩
 refine⟨⟨by omega,by omega⟩,?_⟩
 refine⟨rfl,rfl,?_,fun i hi j hj=>?_⟩
 ·show (x.2.1:Int).toNat=_
  omega
 have e3:(filR p l l.length).getD i default=x.2.2.getD i default:=by
  rw[<- g1,<- x5,hX,jS,kG (by omega),<- hX]
 show D.eqv (clrRow (rowRp x.2.2) (x.2.1:Int).toNat (l.length - (x.2.1:Int).toNat) _ i j) (((filR p l l.length).getD i default).at j)
 unfold clrRow
 rw[kF (by omega),e3]
 exact dE _
def offB (ids:List Int) (r:Rpt):Bool:=(r.Kind==1) && !ids.contains r.ID
def lstD (d:Day) (ids:List Int):List Rpt:=d.R.filter fun r=>!offB ids r
theorem znp (ids:List Int) (hi:ids.length<=1000000) (r:Rpt):Spec PP 101 [r.v,.d (capB [lI ids])] [B (offB ids r)]:=by
 refine sA Tryz.func101 ?_
 apply bY <;> intro h1
 ·have h1:(r.Kind==1)=true:=h1
  refine cP (zdY ids r.ID hi) rfl rfl ?_
  refine sT ?_
  exact r1B rfl (by unfold offB; rw[h1,wI])
 have h1:(r.Kind==1)=false:=h1
 refine sF ?_
 exact r1B rfl (by unfold offB; rw[h1,jal])
theorem zjv (d:Day) (ids:List Int) (hn:d.R.length<=1000000) (hi:ids.length<=1000000):Spec PP 62 [d.v,.d (lI ids)] [.d (lR (lstD d ids))]:=by
 have e:filR (offB ids) d.R d.R.length=lstD d ids:=by unfold filR lstD; rw[jZ]
 refine sA Tryz.func62 ?_
 refine CallSt.own (zk4 d.R hn) rfl rfl (fun m j _ _=>zmf _ m j) ?_
 refine CallSt.tkF [3] rfl (zmG (offB ids) 101 (capB [lI ids]) (znp ids hi) d.R hn) ⟨⟨[],.tmp 7,[.tmp 8],[],rfl,rfl,rfl,rfl,rfl,rfl,rfl⟩⟩ ⟨⟨rfl,rfl,fun j hj=>by obtain rfl:j=0:=jak.1 hj; exact dE _⟩,trivial⟩ rfl ?_
 rw[e]
 exact⟨⟨_,_,_,_,rfl,rfl,.inr ⟨rfl,fun i _ j _=>dE _⟩⟩,trivial⟩
def day1E (d:Day) (i:Nat):Int:=
 if crpE d.s (d.R.getD i default)≠0 then crpE d.s (d.R.getD i default) else if ((d.R.take i).any fun x=>x.ID==(d.R.getD i default).ID)=true then 6 else 0
def dayE (d:Day):Int:=
 if svcE d.s≠0 then svcE d.s else if (!within d.Rise 0 200 || !within d.Long 0 1440)=true then 1
 else if 7<(sigK d.R).length \/ 10+(sigK d.R).length<d.R.length then 2 else err1 (day1E d) d.R.length
theorem zlo (x r:Rpt):Spec PP 72 [x.v,.d (capB r.ds)] [B (x.ID==r.ID)]:=by
 refine sA Tryz.func72 ?_
 exact r1B rfl rfl
theorem znl (l:List Rpt) {i:Nat} (h:i<=l.length):D.eqv (.slc 8 i fun m=>(l.getD m default).at) (lR (l.take i)):=by
 refine⟨by rw[jQ]; omega,.inr ⟨rfl,fun m hm j _=>?_⟩⟩
 show D.eqv ((l.getD m default).at j) (((l.take i).getD m default).at j)
 rw[hX,hX,jS,kG hm]
 exact dE _
theorem zb4 (d:Day) (hn:d.R.length<=1000000):Spec PP 29 [d.v] [.d (.int .i64 (dayE d))]:=by
 refine sA Tryz.func29 ?_
 refine cP (zgm d.s) rfl rfl ?_
 apply bY <;> intro h0
 ·refine r1I rfl ?_
  unfold dayE; rw[kG (by simpa using h0)]
 have h0:svcE d.s=0:=by simpa using h0
 refine cP (zhf d.Rise 0 200) rfl rfl ?_
 apply bY <;> intro h1
 ·have h1:(!within d.Rise 0 200)=true:=h1
  repeat first | apply sT | apply sF
  refine r1I rfl ?_
  unfold dayE; rw[kF (fun hh=>hh h0),kG (by rw[h1]; rfl)]
 have h1:(!within d.Rise 0 200)=false:=h1
 refine cP (zhf d.Long 0 1440) rfl rfl ?_
 repeat first | apply sT | apply sF
 apply bY <;> intro h2
 ·have h2:(!within d.Long 0 1440)=true:=h2
  refine r1I rfl ?_
  unfold dayE; rw[kF (fun hh=>hh h0),kG (by rw[h1,h2]; rfl)]
 have h2:(!within d.Long 0 1440)=false:=h2
 refine cR (zaY d hn) rfl rfl ?_
 have e1:(sigL d.R).length=(sigK d.R).length:=zbd d.R
 have eg:dayE d=if 7<(sigK d.R).length \/ 10+(sigK d.R).length<d.R.length then 2 else err1 (day1E d) d.R.length:=by
  unfold dayE; rw[kF (fun hh=>hh h0),kF (by rw[h1,h2]; decide)]
 rw[eg]
 apply bY <;> intro h3
 ·have h3:7<(sigK d.R).length:=by have:(7:Int)<(sigL d.R).length:=dT h3; omega
  repeat first | apply sT | apply sF
  refine r1I rfl ?_
  rw[kG (.inl h3)]
 have h3:¬ 7<(sigK d.R).length:=by have:¬ (7:Int)<(sigL d.R).length:=dF h3; omega
 refine⟨i6,?_⟩
 repeat first | apply sT | apply sF
 apply bY <;> intro h4
 ·have h4:10+(sigK d.R).length<d.R.length:=by have:(10:Int)<(d.R.length:Int) - (sigL d.R).length:=dT h4; omega
  refine r1I rfl ?_
  rw[kG (.inr h4)]
 have h4:¬ 10+(sigK d.R).length<d.R.length:=by have:¬ (10:Int)<(d.R.length:Int) - (sigL d.R).length:=dF h4; omega
 rw[kF (fun h=>h.elim h3 h4)]
 have hl:d.R.length<=17:=by omega
 refine lOf (σ:=Nat) (fun i=>([(1,.box 1 0),(38,.d (lR d.R)),(39,.d (I d.R.length)),(40,.d (I i))],[(1,.box (d.ds.map AV.d))])) (fun i=>i<=d.R.length /\ ∀ j,j<i->day1E d j=0) (fun i=>d.R.length - i) 0
  ⟨rfl,⟨obD d.ds rfl,trivial⟩,wq rfl⟩ z0L fun i hi=>?_
 obtain⟨hi,ha⟩:=hi
 apply bY <;> intro h5
 ·have h5:i<d.R.length:=by have:=dT h5; omega
  refine⟨⟨rfl,by omega,by omega⟩,?_⟩
  refine cP (zeO d.s (d.R.getD i default)) rfl rfl ?_
  apply bY <;> intro h6
  ·have h6:crpE d.s (d.R.getD i default)≠0:=by simpa using h6
   have e2:day1E d i=crpE d.s (d.R.getD i default):=by unfold day1E; rw[kG h6]
   refine r1I rfl ?_
   rw[zaH ha (by rw[e2]; exact h6) h5,e2]
  have h6:crpE d.s (d.R.getD i default)=0:=by simpa using h6
  refine⟨⟨.inr rfl,by omega,by omega⟩,?_⟩
  refine fEq [6] (zn4 (d.R.take i) 72 (capB (d.R.getD i default).ds) (fun x=>x.ID==(d.R.getD i default).ID) (by rw[jQ]; omega) fun k _=>zlo _ _) rfl ⟨znl d.R hi,⟨rfl,rfl,fun j hj=>?_⟩,trivial⟩ rfl ?_
  ·obtain rfl:j=0:=jak.1 hj
   exact dE _
  apply bY <;> intro h7
  ·have e2:day1E d i=6:=by unfold day1E; rw[kF (fun hh=>hh h6),kG h7]
   refine r1I rfl ?_
   rw[zaH ha (by rw[e2]; decide) h5,e2]
  have e2:day1E d i=0:=by unfold day1E; rw[kF (fun hh=>hh h6),kF (by rw[show ((d.R.take i).any fun x=>x.ID==(d.R.getD i default).ID)=false from h7]; decide)]
  refine⟨i6,?_⟩
  refine⟨i+1,⟨rfl,⟨obD d.ds rfl,trivial⟩,wq rfl⟩,⟨h5,fun j hj=>?_⟩,msr h5⟩
  by_cases e:j=i
  ·subst e; exact e2
  exact ha j (by omega)
 have h5:i=d.R.length:=by have:=dF h5; omega
 subst h5
 refine r1I rfl ?_
 rw[zbh ha]
def askE (d:Day) (ids:List Int):Int:=if dayE d≠0 then dayE d else if setB ids=false then 1 else if partB ids (sigL d.R)=false then 5 else 0
theorem zjx (d:Day) (ids:List Int) (hn:d.R.length<=1000000) (hi:ids.length<=1000000):Spec PP 53 [d.v,.d (lI ids)] [.d (.int .i64 (askE d ids))]:=by
 refine sA Tryz.func53 ?_
 refine cP (zb4 d hn) rfl rfl ?_
 apply bY <;> intro h0
 ·refine r1I rfl ?_
  unfold askE; rw[kG (by simpa using h0)]
 have h0:dayE d=0:=by simpa using h0
 refine cP (znq ids hi) rfl rfl ?_
 apply bY <;> intro h1
 ·have h1:setB ids=false:=by simpa using h1
  refine r1I rfl ?_
  unfold askE; rw[kF (fun hh=>hh h0),kG h1]
 have h1:setB ids=true:=by simpa using h1
 have hs:(sigL d.R).length<=1000000:=by rw[zbd]; exact jM (zb9 _) hn
 refine cR (zaY d hn) rfl rfl ?_
 refine cP (zl9 ids (sigL d.R) hi hs) rfl rfl ?_
 apply bY <;> intro h2
 ·have h2:partB ids (sigL d.R)=false:=by simpa using h2
  refine r1I rfl ?_
  unfold askE; rw[kF (fun hh=>hh h0),kF (by rw[h1]; decide),kG h2]
 have h2:partB ids (sigL d.R)=true:=by simpa using h2
 refine r1I rfl ?_
 unfold askE; rw[kF (fun hh=>hh h0),kF (by rw[h1]; decide),kF (by rw[h2]; decide)]
def brn1 (ids:List Int) (x:Bool × Int × Int) (r:Rpt):Bool × Int × Int:=if ids.contains r.ID=true then (true,min (if x.1=true then x.2.1 else r.Tick) r.Tick,max (if x.1=true then x.2.2 else r.Tick) r.Tick) else x
def brnS (ids:List Int) (l:List Rpt):Bool × Int × Int:=l.foldl (brn1 ids) (false,0,0)
def brnD (d:Day) (ids:List Int):Brn:=⟨(brnS ids d.R).2.1,(brnS ids d.R).2.2,d.Rise⟩
theorem zfU (ids:List Int) (l:List Rpt) {i:Nat} (h:i<l.length):brnS ids (l.take (i+1))=brn1 ids (brnS ids (l.take i)) (l.getD i default):=by
 unfold brnS
 rw[zaM h default,jam]; rfl
theorem zjw (d:Day) (ids:List Int) (hn:d.R.length<=1000000) (hi:ids.length<=1000000):Spec PP 59 [d.v,.d (lI ids)] [(brnD d ids).v]:=by
 refine sA Tryz.func59 ?_
 refine lOf (σ:=Nat) (fun i=>([(1,.d (lI ids)),(2,.box 2 0),(4,.box 4 0),(5,.box 5 0),(6,.d (.bool (brnS ids (d.R.take i)).1)),(13,.d (lR d.R)),(14,.d (I d.R.length)),(15,.d (I i))],
   [(2,.box (d.ds.map AV.d)),(4,.box ([I 0,I 0,I 0].map AV.d)),(5,.box ([I (brnS ids (d.R.take i)).2.1,I (brnS ids (d.R.take i)).2.2,I d.Rise].map AV.d))])) (fun i=>i<=d.R.length) (fun i=>d.R.length - i) 0
  ⟨rfl,⟨obD d.ds rfl,obD [I 0,I 0,I 0] rfl,obD [I 0,I 0,I d.Rise] rfl,trivial⟩,wq rfl⟩ (jF _) fun i hi'=>?_
 have hi':i<=d.R.length:=hi'
 apply bY <;> intro h1
 ·have h1:i<d.R.length:=by have:=dT h1; omega
  have es:=zfU ids d.R h1
  refine⟨⟨rfl,by omega,by omega⟩,?_⟩
  refine cP (zdY ids (d.R.getD i default).ID hi) rfl rfl ?_
  apply bY <;> intro h2
  ·have h2:ids.contains (d.R.getD i default).ID=false:=by simpa using h2
   have e:brnS ids (d.R.take (i+1))=brnS ids (d.R.take i):=by rw[es]; unfold brn1; rw[kF (by rw[h2]; decide)]
   refine⟨i6,?_⟩
   refine⟨i+1,⟨rfl,⟨obD d.ds rfl,obD [I 0,I 0,I 0] rfl,?_,trivial⟩,?_⟩,h1,msr h1⟩
   ·rw[e]; exact obD [I _,I _,I _] rfl
   rw[e]; exact wq rfl
  have h2:ids.contains (d.R.getD i default).ID=true:=by simpa using h2
  apply bY <;> intro h3
  ·have h3:(brnS ids (d.R.take i)).1=false:=by simpa using h3
   have e:brnS ids (d.R.take (i+1))=(true,min (d.R.getD i default).Tick (d.R.getD i default).Tick,max (d.R.getD i default).Tick (d.R.getD i default).Tick):=by rw[es]; unfold brn1; rw[kG h2,h3]; rfl
   refine oL [0,1,2,4,4003,5,6,7,8] (FzOb.fz [8] ⟨rfl,?_⟩)
   refine oL [0,1,2,3,4,5,6,7,10,4008,9,11,12,13] (FzOb.fz [8] ⟨rfl,?_⟩)
   refine⟨i6,?_⟩
   refine⟨i+1,⟨rfl,⟨obD d.ds rfl,obD [I 0,I 0,I 0] rfl,?_,trivial⟩,?_⟩,h1,msr h1⟩
   ·rw[e]; exact obD [I _,I _,I _] rfl
   rw[e]; exact wq rfl
  have h3:(brnS ids (d.R.take i)).1=true:=by simpa using h3
  have e:brnS ids (d.R.take (i+1))=(true,min (brnS ids (d.R.take i)).2.1 (d.R.getD i default).Tick,max (brnS ids (d.R.take i)).2.2 (d.R.getD i default).Tick):=by rw[es]; unfold brn1; rw[kG h2,kG h3,kG h3]
  refine oL [0,1,2,3,4,5,6,7,10,4008,9,11,12,13] (FzOb.fz [8] ⟨rfl,?_⟩)
  refine⟨i6,?_⟩
  refine⟨i+1,⟨rfl,⟨obD d.ds rfl,obD [I 0,I 0,I 0] rfl,?_,trivial⟩,?_⟩,h1,msr h1⟩
  ·rw[e]; exact obD [I _,I _,I _] rfl
  rw[e]; exact⟨avQ rfl,avQ rfl,avQ rfl,avQ rfl,avQ (jI (fun b=>AV.d (.bool b)) h3),avQ rfl,avQ rfl,avQ rfl,trivial⟩
 have h1:i=d.R.length:=by have:=dF h1; omega
 subst h1
 rw[jZ]
 exact⟨rtC (a:=4) rfl rfl rfl rfl rfl rfl (zab _),trivial⟩
theorem zgo (d:Day) (b:Brn) (hb:inR .i64 (b.To - b.From)):Spec PP 60 [d.v,b.v] [B (decide (b.To - b.From<=d.Long))]:=by
 refine sA Tryz.func60 ?_
 refine⟨hb,?_⟩
 exact r1B rfl rfl
structure DayOk (d:Day):Prop where
  s:svcE d.s=0
  rise:within d.Rise 0 200=true
  long:within d.Long 0 1440=true
  sg:(sigK d.R).length<=7
  bl:d.R.length<=10+(sigK d.R).length
  rp:∀ i,i<d.R.length->crpE d.s (d.R.getD i default)=0
  tw:∀ i,i<d.R.length->((d.R.take i).any fun x=>x.ID==(d.R.getD i default).ID)=false
theorem zcS {d:Day} (h:dayE d=0):DayOk d:=by
 unfold dayE at h
 split at h
 ·rename_i h1; exact absurd h h1
 rename_i h1
 split at h
 ·cases h
 rename_i h2
 split at h
 ·cases h
 rename_i h3
 have a:=zbb h
 have A:∀ i,i<d.R.length->crpE d.s (d.R.getD i default)=0/\((d.R.take i).any fun x=>x.ID==(d.R.getD i default).ID)=false:=fun i hi=>by
  have:=a i hi
  unfold day1E at this
  split at this
  ·rename_i h4; exact absurd this h4
  rename_i h4
  split at this
  ·cases this
  rename_i h5
  exact⟨jL h4,by simpa using h5⟩
 have h2:within d.Rise 0 200=true/\within d.Long 0 1440=true:=by
  cases e1:within d.Rise 0 200 <;> cases e2:within d.Long 0 1440 <;> simp_all
 exact⟨jL h1,h2.1,h2.2,by omega,by omega,fun i hi=>(A i hi).1,fun i hi=>(A i hi).2⟩
theorem DayOk.n {d:Day} (h:DayOk d):d.R.length<=17:=by have:=h.sg; have:=h.bl; omega
theorem zhF {n lo hi:Int} (h:within n lo hi=true):lo<=n/\n<=hi:=by
 unfold within at h
 simpa using h
theorem DayOk.tick {d:Day} (h:DayOk d) {i:Nat} (hi:i<d.R.length):0<=(d.R.getD i default).Tick/\(d.R.getD i default).Tick<=1048576:=by
 have h1:=(crp_0 (h.rp i hi)).2.2
 unfold frmB frmC at h1
 have:within (d.R.getD i default).Tick 0 1048576=true:=by
  cases e:within (d.R.getD i default).Tick 0 1048576 with
  | true=>rfl
  | false=>rw[e] at h1; simp at h1
 exact zhF this
theorem zj7 {d:Day} (h:DayOk d) (ids:List Int):∀ i,i<=d.R.length->0<=(brnS ids (d.R.take i)).2.1/\(brnS ids (d.R.take i)).2.1<=1048576/\0<=(brnS ids (d.R.take i)).2.2/\(brnS ids (d.R.take i)).2.2<=1048576
 | 0,_=>by simp[brnS]
 | i+1,hi=>by
  obtain⟨a1,a2,a3,a4⟩:=zj7 h ids i (by omega)
  obtain⟨b1,b2⟩:=h.tick (show i<d.R.length by omega)
  rw[zfU ids d.R (by omega)]
  unfold brn1
  split
  ·show 0<=min _ _/\min _ _<=_/\0<=max _ _/\max _ _<=_
   split <;> omega
  exact⟨a1,a2,a3,a4⟩
theorem zgC {d:Day} (h:DayOk d) (ids:List Int):inR .i64 ((brnD d ids).To - (brnD d ids).From):=by
 have:=zj7 h ids d.R.length (jE _)
 rw[jZ] at this
 show inR .i64 ((brnS ids d.R).2.2 - (brnS ids d.R).2.1)
 exact i6
def plsD (d:Day) (ids:List Int):List Place:=if (brnD d ids).To - (brnD d ids).From<=d.Long then (plcR d.s (brnD d ids) (lstD d ids)).1 else []
theorem zhg {d:Day} (h:DayOk d) (ids:List Int) (hi:ids.length<=1000000):Spec PP 45 [d.v,.d (lI ids)] [.d (lP (plsD d ids))]:=by
 have hn:=h.n
 refine sA Tryz.func45 ?_
 refine cP (zjw d ids (by omega) hi) rfl rfl ?_
 refine cP (zgo d (brnD d ids) (zgC h ids)) rfl rfl ?_
 apply bY <;> intro h1
 ·have h1:¬ (brnD d ids).To - (brnD d ids).From<=d.Long:=by simpa using h1
  have e:plsD d ids=[]:=by unfold plsD; rw[kF h1]
  rw[e]
  exact⟨⟨_,_,_,_,rfl,rfl,.inl rfl⟩,trivial⟩
 have h1:(brnD d ids).To - (brnD d ids).From<=d.Long:=by simpa using h1
 have e:plsD d ids=(plcR d.s (brnD d ids) (lstD d ids)).1:=by unfold plsD; rw[kG h1]
 rw[e]
 refine oN 12 ?_
 refine oRo (zjv d ids (by omega) hi) rfl rfl ?_
 refine oRo (zlg d.s (brnD d ids) (lstD d ids)) rfl rfl ?_
 exact⟨dE _,trivial⟩
def offS (a i:Nat):Nat:=a &&& (127 - 2 ^ i)
def onS (a i:Nat):Nat:=a ||| 2 ^ i
theorem al7L {n m:Nat} {P:Nat->Nat->Bool} (h:((List.range n).all fun a=>(List.range m).all (P a))=true) {a i:Nat} (ha:a<n) (hi:i<m):P a i=true:=
 jC.1 (jC.1 h a (kK.2 ha)) i (kK.2 hi)
theorem bShl {i:Nat} (hi:i<=7):IntKind.wrap .i64 (1 * 2 ^ (min ((i:Nat):Int).toNat 64))=((2 ^ i:Nat):Int):=by
 have:∀ i,i<8->IntKind.wrap .i64 (1 * 2 ^ (min ((i:Nat):Int).toNat 64))=((2 ^ i:Nat):Int):=by decide
 exact this i (by omega)
theorem bOff {a i:Nat} (ha:a<128) (hi:i<7):IntKind.wrap .i64 ((BitVec.ofInt 64 (a:Int) &&& ~~~ BitVec.ofInt 64 (IntKind.wrap .i64 (1 * 2 ^ (min ((i:Nat):Int).toNat 64)))).toNat:Int)=((offS a i:Nat):Int):=by
 have:=al7L (n:=128) (m:=7) (P:=fun a i=>decide (IntKind.wrap .i64 ((BitVec.ofInt 64 (a:Int) &&& ~~~ BitVec.ofInt 64 (IntKind.wrap .i64 (1 * 2 ^ (min ((i:Nat):Int).toNat 64)))).toNat:Int)=((offS a i:Nat):Int))) (by decide +kernel) ha hi
 exact kO this
theorem bOn {a i:Nat} (ha:a<128) (hi:i<7):IntKind.wrap .i64 ((BitVec.ofInt 64 (a:Int) ||| BitVec.ofInt 64 (IntKind.wrap .i64 (1 * 2 ^ (min ((i:Nat):Int).toNat 64)))).toNat:Int)=((onS a i:Nat):Int):=by
 have:=al7L (n:=128) (m:=7) (P:=fun a i=>decide (IntKind.wrap .i64 ((BitVec.ofInt 64 (a:Int) ||| BitVec.ofInt 64 (IntKind.wrap .i64 (1 * 2 ^ (min ((i:Nat):Int).toNat 64)))).toNat:Int)=((onS a i:Nat):Int))) (by decide +kernel) ha hi
 exact kO this
theorem bHas {a i:Nat} (ha:a<128) (hi:i<7):(IntKind.wrap .i64 ((BitVec.ofInt 64 ((a:Int).fdiv (2 ^ (min ((i:Nat):Int).toNat 64))) &&& BitVec.ofInt 64 1).toNat:Int)==1)=a.testBit i:=by
 have:=al7L (n:=128) (m:=7) (P:=fun a i=>decide ((IntKind.wrap .i64 ((BitVec.ofInt 64 ((a:Int).fdiv (2 ^ (min ((i:Nat):Int).toNat 64))) &&& BitVec.ofInt 64 1).toNat:Int)==1)=a.testBit i)) (by decide +kernel) ha hi
 exact kO this
theorem zoN {a i:Nat} (ha:a<128) (hi:i<7):onS a i<128:=Nat.or_lt_two_pow (n:=7) ha (Nat.pow_lt_pow_right (by decide) hi)
def membA (ids:List Int) (set i:Nat):List Int:=((List.range i).filter (set.testBit ·)).map (ids.getD · 0)
def memb (ids:List Int) (set:Nat):List Int:=membA ids set ids.length
theorem zch {ids:List Int} {set i:Nat} (h:set.testBit i=true):membA ids set (i+1)=membA ids set i ++ [ids.getD i 0]:=by
 unfold membA
 rw[qY,k9,qT h,jT]; rfl
theorem zc5 {ids:List Int} {set i:Nat} (h:set.testBit i=false):membA ids set (i+1)=membA ids set i:=by
 unfold membA
 rw[qY,k9,qU (by rw[h]; decide)]; simp
theorem zci (ids:List Int) (set i:Nat):(membA ids set i).length<=i:=by
 unfold membA
 rw[kN]
 exact jM (jac _ _) (by rw[List.length_range]; exact jE _)
theorem zfy (ids:List Int) (set:Nat) (hn:ids.length<=7) (hs:set<128):Spec PP 55 [.d (lI ids),N (set:Int)] [.d (lI (memb ids set))]:=by
 refine sA Tryz.func55 ?_
 refine lOf (σ:=Nat) (fun i=>([(1,.d (I set)),(5,.own 5),(8,.d (lI ids)),(9,.d (I ids.length)),(10,.d (I i))],[(5,.row 3 1 (membA ids set i).length (rowI (membA ids set i)))])) (fun i=>i<=ids.length) (fun i=>ids.length - i) 0
  ⟨rfl,⟨obR rfl ⟨rfl,.inl rfl⟩,trivial⟩,wq rfl⟩ (jF _) fun i hi=>?_
 have hi:i<=ids.length:=hi
 have hl:=zci ids set i
 apply bY <;> intro h1
 ·have h1:i<ids.length:=by have:=dT h1; omega
  refine⟨⟨rfl,by omega,by omega⟩,?_⟩
  refine⟨by omega,?_⟩
  apply bY <;> intro h2
  ·have h2:set.testBit i=true:=by rw[<- bHas hs (show i<7 by omega)]; exact h2
   refine⟨⟨.inr rfl,by unfold maxLen; omega,by show ((membA ids set i).length+1) * 8<=140737488355328; omega⟩,?_⟩
   refine⟨i6,?_⟩
   refine⟨i+1,⟨rfl,⟨obR rfl ?_,trivial⟩,wq rfl⟩,h1,msr h1⟩
   rw[zch h2]
   exact zmX rfl
  have h2:set.testBit i=false:=by rw[<- bHas hs (show i<7 by omega)]; exact h2
  refine⟨i6,?_⟩
  refine⟨i+1,⟨rfl,⟨obR rfl ?_,trivial⟩,wq rfl⟩,h1,msr h1⟩
  rw[zc5 h2]
  exact dE _
 have h1:i=ids.length:=by have:=dF h1; omega
 subst h1
 exact⟨⟨_,_,_,_,rfl,rfl,.inr ⟨rfl,fun i _ j _=>dE _⟩⟩,trivial⟩
abbrev celD (d:Day) (set:Nat):List Place:=plsD d (memb (sigL d.R) set)
abbrev keyN (ks:List Nat):List (List Int):=ks.map fun k=>[((k:Nat):Int)]
abbrev cmap (d:Day) (ks:List Nat):D:=.mp 1 (keyN ks) fun j=>lP (celD d (ks.getD j 0))
abbrev lkV (d:Day) (ks:List Nat):V1:=.agg (d.ds ++ [lI (sigL d.R),cmap d ks])
def fitK (d:Day) (ks:List Nat) (set:Nat):Bool:=ks.contains set && decide (0<(celD d set).length)
theorem idxN:∀ (ks:List Nat) (k:Nat),(keyN ks).idxOf [((k:Nat):Int)]=ks.idxOf k
 | [],_=>rfl
 | a :: r,k=>by
  show List.idxOf _ ([((a:Nat):Int)] :: keyN r)=_
  rw[List.idxOf_cons,List.idxOf_cons,idxN r k]
  by_cases h:a=k
  ·subst h; simp
  have h1:([((a:Nat):Int)] == [((k:Nat):Int)])=false:=by simp only[jao,ne_eq,jad,and_true]; omega
  have h2:(a==k)=false:=by simpa using h
  rw[h1,h2]
theorem zl6 (d:Day) (ks:List Nat) (k:Nat):D.eqv (lkD (keyN ks) (fun j=>lP (celD d (ks.getD j 0))) [((k:Nat):Int)] .nil) (lP (if ks.contains k=true then celD d k else [])):=by
 unfold lkD
 rw[idxN,kN]
 by_cases h:ks.contains k=true
 ·have hm:k∈ks:=kD.1 h
  have hl:=jaD.2 hm
  rw[kG hl,kG h]
  have:ks.getD (ks.idxOf k) 0=k:=by
   rw[hX,hZ hl]
   exact List.getElem_idxOf hl
  show D.eqv (lP (celD d (ks.getD (ks.idxOf k) 0))) _
  rw[this]
  exact dE _
 have hm:k∉ks:=fun hm=>h (kD.2 hm)
 rw[kF (fun hl=>hm (jaD.1 hl)),kF h]
 rfl
theorem zd8 (d:Day) (ks:List Nat) (set:Nat):Spec PP 56 [lkV d ks,N (set:Int)] [B (fitK d ks set)]:=by
 refine sA Tryz.func56 ?_
 refine⟨⟨kInt,rfl⟩,_,zl6 d ks set,?_⟩
 refine r1B rfl ?_
 unfold fitK
 by_cases h:ks.contains set=true
 ·rw[kG h,h,wI]
  exact wA.2 (by omega)
 rw[kF h,wE.2 h]; rfl
def parK (d:Day) (ks:List Nat) (set i:Nat):Bool:=(offS set i==set) || (offS set i==0) || fitK d ks (offS set i)
def partK (d:Day) (ks:List Nat) (set:Nat):Bool:=(List.range (sigL d.R).length).all (parK d ks set)
def groK (d:Day) (ks:List Nat) (set i:Nat):Bool:=(onS set i != set) && fitK d ks (onS set i)
def growK (d:Day) (ks:List Nat) (set:Nat):Bool:=(List.range (sigL d.R).length).any (groK d ks set)
theorem neT {a b:Nat} (h:((a:Int) != (b:Int))=true):¬ a=b:=fun e=>by subst e; simp at h
theorem neF {a b:Nat} (h:((a:Int) != (b:Int))=false):a=b:=by
 have:(a:Int)=b:=by simpa using h
 omega
theorem sig7 {d:Day} (h:DayOk d):(sigL d.R).length<=7:=by rw[zbd]; exact h.sg
theorem zju (d:Day) (ks:List Nat) (set:Nat) (hn:(sigL d.R).length<=7) (hs:set<128):Spec PP 58 [lkV d ks,N (set:Int)] [B (partK d ks set)]:=by
 refine sA Tryz.func58 ?_
 refine lOf (σ:=Nat) (fun i=>([(1,.d (I set)),(2,.box 2 0),(8,.d (lI (sigL d.R))),(9,.d (I (sigL d.R).length)),(10,.d (I i))],[(2,.box ((d.ds ++ [lI (sigL d.R),cmap d ks]).map AV.d))])) (fun i=>i<=(sigL d.R).length /\ ∀ j,j<i->parK d ks set j=true) (fun i=>(sigL d.R).length - i) 0
  ⟨rfl,⟨obD (d.ds ++ [lI (sigL d.R),cmap d ks]) rfl,trivial⟩,wq rfl⟩ z0L fun i hi=>?_
 obtain⟨hi,ha⟩:=hi
 apply bY <;> intro h1
 ·have h1:i<(sigL d.R).length:=by have:=dT h1; omega
  have eo:=bOff hs (show i<7 by omega)
  refine⟨by omega,?_⟩
  have next:parK d ks set i=true -> ∀ j,j<i+1->parK d ks set j=true:=fun e j hj=>by
   by_cases q:j=i
   ·subst q; exact e
   exact ha j (by omega)
  apply bY <;> intro h2
  ·have h2:((offS set i:Int) != set)=true:=by rw[<- eo]; exact h2
   have h2:¬ offS set i=set:=neT h2
   repeat first | apply sT | apply sF
   apply bY <;> intro h3
   ·have h3:((offS set i:Int) != 0)=true:=by rw[<- eo]; exact h3
    have h3:¬ offS set i=0:=neT (b:=0) h3
    repeat first | apply sT | apply sF
    refine fEq [] (zd8 d ks (offS set i)) rfl ⟨zab _,⟨rfl,eo⟩,trivial⟩ rfl ?_
    repeat first | apply sT | apply sF
    have ep:parK d ks set i=fitK d ks (offS set i):=by unfold parK; simp[h2,h3]
    apply bY <;> intro h4
    ·have h4:fitK d ks (offS set i)=false:=by simpa using h4
     refine r1B rfl ?_
     symm
     rw[wE]
     intro hh
     have:=jC.1 hh i (kK.2 h1)
     rw[ep,h4] at this; cases this
    have h4:fitK d ks (offS set i)=true:=by simpa using h4
    refine⟨i6,?_⟩
    exact⟨i+1,⟨rfl,⟨obD (d.ds ++ [lI (sigL d.R),cmap d ks]) rfl,trivial⟩,wq rfl⟩,⟨h1,next (by rw[ep,h4])⟩,msr h1⟩
   have h3:((offS set i:Int) != 0)=false:=by rw[<- eo]; exact h3
   have h3:offS set i=0:=neF (b:=0) h3
   repeat first | apply sT | apply sF
   refine⟨i6,?_⟩
   exact⟨i+1,⟨rfl,⟨obD (d.ds ++ [lI (sigL d.R),cmap d ks]) rfl,trivial⟩,wq rfl⟩,⟨h1,next (by unfold parK; simp[h3])⟩,msr h1⟩
  have h2:((offS set i:Int) != set)=false:=by rw[<- eo]; exact h2
  have h2:offS set i=set:=neF h2
  repeat first | apply sT | apply sF
  refine⟨i6,?_⟩
  exact⟨i+1,⟨rfl,⟨obD (d.ds ++ [lI (sigL d.R),cmap d ks]) rfl,trivial⟩,wq rfl⟩,⟨h1,next (by unfold parK; simp[h2])⟩,msr h1⟩
 have h1:i=(sigL d.R).length:=by have:=dF h1; omega
 subst h1
 refine r1B rfl ?_
 exact (jC.2 fun j hj=>ha j (kK.1 hj)).symm
theorem znr (d:Day) (ks:List Nat) (set:Nat) (hn:(sigL d.R).length<=7) (hs:set<128):Spec PP 57 [lkV d ks,N (set:Int)] [B (growK d ks set)]:=by
 refine sA Tryz.func57 ?_
 refine lOf (σ:=Nat) (fun i=>([(1,.d (I set)),(2,.box 2 0),(8,.d (lI (sigL d.R))),(9,.d (I (sigL d.R).length)),(10,.d (I i))],[(2,.box ((d.ds ++ [lI (sigL d.R),cmap d ks]).map AV.d))])) (fun i=>i<=(sigL d.R).length /\ ∀ j,j<i->groK d ks set j=false) (fun i=>(sigL d.R).length - i) 0
  ⟨rfl,⟨obD (d.ds ++ [lI (sigL d.R),cmap d ks]) rfl,trivial⟩,wq rfl⟩ z0L fun i hi=>?_
 obtain⟨hi,ha⟩:=hi
 apply bY <;> intro h1
 ·have h1:i<(sigL d.R).length:=by have:=dT h1; omega
  have eo:=bOn hs (show i<7 by omega)
  refine⟨by omega,?_⟩
  have next:groK d ks set i=false -> ∀ j,j<i+1->groK d ks set j=false:=fun e j hj=>by
   by_cases q:j=i
   ·subst q; exact e
   exact ha j (by omega)
  apply bY <;> intro h2
  ·have h2:((onS set i:Int) != set)=true:=by rw[<- eo]; exact h2
   have h2:¬ onS set i=set:=neT h2
   refine fEq [] (zd8 d ks (onS set i)) rfl ⟨zab _,⟨rfl,eo⟩,trivial⟩ rfl ?_
   repeat first | apply sT | apply sF
   have ep:groK d ks set i=fitK d ks (onS set i):=by unfold groK; simp[h2]
   apply bY <;> intro h4
   ·have h4:fitK d ks (onS set i)=true:=h4
    refine r1B rfl ?_
    exact (kS.2 ⟨i,kK.2 h1,by rw[ep,h4]⟩).symm
   have h4:fitK d ks (onS set i)=false:=h4
   refine⟨i6,?_⟩
   exact⟨i+1,⟨rfl,⟨obD (d.ds ++ [lI (sigL d.R),cmap d ks]) rfl,trivial⟩,wq rfl⟩,⟨h1,next (by rw[ep,h4])⟩,msr h1⟩
  have h2:((onS set i:Int) != set)=false:=by rw[<- eo]; exact h2
  have h2:onS set i=set:=neF h2
  repeat first | apply sT | apply sF
  refine⟨i6,?_⟩
  exact⟨i+1,⟨rfl,⟨obD (d.ds ++ [lI (sigL d.R),cmap d ks]) rfl,trivial⟩,wq rfl⟩,⟨h1,next (by unfold groK; simp[h2])⟩,msr h1⟩
 have h1:i=(sigL d.R).length:=by have:=dF h1; omega
 subst h1
 refine r1B rfl ?_
 symm
 rw[wE]
 intro hh
 obtain⟨j,hj,e⟩:=kS.1 hh
 rw[ha j (kK.1 hj)] at e; cases e
def keysD (d:Day):Nat->List Nat
 | 0=>[]
 | m+1=>if m≠0/\partK d (keysD d m) m=true then keysD d m ++ [m] else keysD d m
theorem zeP (d:Day):∀ (m:Nat),∀ k∈keysD d m,0<k/\k<m
 | 0,k,h=>by cases h
 | m+1,k,h=>by
  unfold keysD at h
  split at h
  ·rename_i hm
   rcases kQ.1 h with h | h
   ·have:=zeP d m k h; omega
   obtain rfl:=kH.1 h; omega
  have:=zeP d m k h; omega
theorem zmV {d:Day} {ks:List Nat} {m:Nat} (h:m∉ks):D.eqv (.mp 1 (putK (keyN ks) [((m:Nat):Int)]) (putF (keyN ks) (fun j=>lP (celD d (ks.getD j 0))) [((m:Nat):Int)] (lP (celD d m)))) (cmap d (ks ++ [m])):=by
 have hi:(keyN ks).idxOf [((m:Nat):Int)]=ks.length:=by rw[idxN]; exact List.idxOf_eq_length h
 have hn:¬ (keyN ks).idxOf [((m:Nat):Int)]<(keyN ks).length:=by rw[hi,kN]; exact Nat.lt_irrefl _
 refine⟨rfl,?_,fun j hj=>?_⟩
 ·unfold putK
  rw[kF hn]
  show keyN ks++_=keyN (ks ++ [m])
  rw[keyN,keyN,jT]; rfl
 unfold putF
 rw[hi]
 by_cases e:j=ks.length
 ·subst e
  rw[kG rfl]
  show D.eqv _ (lP (celD d ((ks ++ [m]).getD ks.length 0)))
  rw[hX,jK (jE _),kE]
  exact dE _
 have hj:j<ks.length:=by
  unfold putK at hj
  rw[kF hn,jR,kN] at hj
  simp at hj; omega
 rw[kF e]
 show D.eqv (lP (celD d (ks.getD j 0))) (lP (celD d ((ks ++ [m]).getD j 0)))
 rw[hX,hX,jJ hj]
 exact dE _
theorem zhB {s:St} {ob:Nat->Option Ob}:∀ (cs:List AV),avles s ob cs (List.replicate cs.length .any)
 | []=>trivial
 | _ :: r=>⟨by unfold AVle; trivial,zhB r⟩
theorem zby {s:St} {ob:Nat->Option Ob} {cs:List AV} {n:Nat} {o:Option Ob} (h:o=some (.box cs)) (hn:cs.length=n):Oble s ob o (.box (List.replicate n .any)):=by
 subst h; subst hn; exact zhB cs
abbrev lkA (d:Day):List AV:=d.ds.map AV.d ++ [.d (lI (sigL d.R)),.own 8]
theorem zma {d:Day} (h:DayOk d):Spec PP 54 [d.v] [lkV d (keysD d (2 ^ (sigL d.R).length))]:=by
 have hn:=h.n
 have h7:=sig7 h
 refine zc0 [7] Tryz.func54 rfl (by kernel_rfl) rfl ?_
 refine oL [0,1,2,2003,4,5,6] (fNo ?_)
 refine oRo (zaY d (by omega)) rfl rfl ?_
 refine⟨rfl,?_⟩
 refine lOf (σ:=Nat) (fun m=>([(1,.box 1 0),(2,.box 2 0),(3,.box 3 0),(4,.d (I m))],[(1,.box (d.ds.map AV.d)),(2,.box (List.replicate 12 .any)),(3,.box (lkA d)),(8,.mp 1 (keyN (keysD d m)) fun j=>lP (celD d ((keysD d m).getD j 0)))])) (fun m=>1<=m/\m<=2 ^ (sigL d.R).length) (fun m=>2 ^ (sigL d.R).length - m) 1
  ⟨rfl,⟨obD d.ds rfl,zby rfl rfl,obX rfl,obMp rfl ⟨rfl,rfl,fun j hj=>absurd hj (qD _)⟩,trivial⟩,avQ rfl,avQ rfl,avQ rfl,avQ rfl,trivial⟩ ⟨jE _,Nat.one_le_two_pow⟩ fun m hm=>?_
 obtain⟨hm,hm2⟩:=hm
 have hp:2 ^ (sigL d.R).length<=2 ^ 7:=jaO (by decide) h7
 have es:=bShl h7
 refine⟨by omega,?_⟩
 apply bY <;> intro h1
 ·have h1:m<2 ^ (sigL d.R).length:=by
   have h1:(m:Int)<((2 ^ (sigL d.R).length:Nat):Int):=by rw[<- es]; exact dT h1
   omega
  refine cP (zju d (keysD d m) m h7 (by omega)) rfl rfl ?_
  apply bY <;> intro h2
  ·have h2:partK d (keysD d m) m=true:=h2
   have e:keysD d (m+1)=keysD d m ++ [m]:=by rw[keysD,kG ⟨by omega,h2⟩]
   refine oN 10 ?_
   refine oRo (zfy (sigL d.R) m h7 (by omega)) rfl rfl ?_
   refine oRo (zhg h (memb (sigL d.R) m) (jM (zci _ _ _) (by omega))) rfl rfl ?_
   refine⟨⟨kInt,rfl⟩,?_⟩
   refine⟨i6,?_⟩
   refine⟨m+1,⟨rfl,⟨obD d.ds rfl,zby rfl rfl,obX rfl,obMp rfl ?_,trivial⟩,wq rfl⟩,⟨by omega,h1⟩,(show 2 ^ (sigL d.R).length - (m+1)<2 ^ (sigL d.R).length - m by omega)⟩
   rw[e]
   exact zmV fun hm=>by have:=zeP d m m hm; omega
  have h2:partK d (keysD d m) m=false:=h2
  have e:keysD d (m+1)=keysD d m:=by rw[keysD,kF fun hh=>by rw[h2] at hh; cases hh.2]
  refine⟨i6,?_⟩
  refine⟨m+1,⟨rfl,⟨obD d.ds rfl,zby rfl rfl,obX rfl,obMp rfl ?_,trivial⟩,wq rfl⟩,⟨by omega,h1⟩,(show 2 ^ (sigL d.R).length - (m+1)<2 ^ (sigL d.R).length - m by omega)⟩
  rw[e]
  exact dE _
 have h1:m=2 ^ (sigL d.R).length:=by
  have h1:¬ (m:Int)<((2 ^ (sigL d.R).length:Nat):Int):=by rw[<- es]; exact dF h1
  omega
 subst h1
 refine kAt [(2,.box 2 0),(3,.box 3 0)] [(2,.box (List.replicate 12 .any)),(3,.box ((d.ds ++ [lI (sigL d.R),cmap d (keysD d (2 ^ (sigL d.R).length))]).map AV.d))]
  ⟨rfl,⟨zby rfl rfl,⟨dE _,dE _,dE _,dE _,dE _,dE _,dE _,dE _,dE _,dE _,dE _,⟨rfl,_,_,_,rfl,dE _⟩,trivial⟩,trivial⟩,wq rfl⟩ ?_
 exact⟨rtC (a:=2) rfl rfl rfl rfl rfl rfl (zab _),trivial⟩
abbrev ksD (d:Day):List Nat:=keysD d (2 ^ (sigL d.R).length)
theorem ordC (a b:Int):(ord a b = -1/\a<b) \/ (ord a b=1/\b<a) \/ (ord a b=0/\a=b):=by
 unfold ord
 by_cases h1:a<b
 ·exact .inl ⟨kG h1,h1⟩
 by_cases h2:b<a
 ·exact .inr (.inl ⟨by rw[kF h1,kG h2],h2⟩)
 exact .inr (.inr ⟨by rw[kF h1,kF h2],by omega⟩)
def cmpL:List Int->List Int->Int
 | [],[]=>0
 | [],_ :: _=>-1
 | _ :: _,[]=>1
 | a :: r,b :: q=>if ord a b≠0 then ord a b else cmpL r q
theorem zfN:∀ a,cmpL a a=0
 | []=>rfl
 | a :: r=>by
  have:ord a a=0:=by rcases ordC a a with⟨_,h⟩ | ⟨_,h⟩ | ⟨h,_⟩ <;> omega
  rw[cmpL,kF (by rw[this]; simp),zfN r]
theorem cmpL_cases:∀ a b,(cmpL a b = -1/\cmpL b a=1) \/ (cmpL a b=1/\cmpL b a = -1) \/ (cmpL a b=0/\a=b)
 | [],[]=>.inr (.inr ⟨rfl,rfl⟩)
 | [],_ :: _=>.inl ⟨rfl,rfl⟩
 | _ :: _,[]=>.inr (.inl ⟨rfl,rfl⟩)
 | a :: r,b :: q=>by
  unfold cmpL
  rcases ordC a b with⟨e,h⟩ | ⟨e,h⟩ | ⟨e,h⟩ <;> rcases ordC b a with⟨e',h'⟩ | ⟨e',h'⟩ | ⟨e',h'⟩ <;> first | omega | skip
  subst h
  rw[kF (by rw[e]; simp),kF (by rw[e]; simp)]
  rcases cmpL_cases r q with h | h | ⟨h,e⟩
  ·exact .inl h
  ·exact .inr (.inl h)
  exact .inr (.inr ⟨h,by rw[e]⟩)
theorem zcF:∀ a b c,cmpL a b = -1->cmpL b c = -1->cmpL a c = -1
 | [],[],_,h,_=>by cases h
 | [],_ :: _,[],_,h=>by cases h
 | [],_ :: _,_ :: _,_,_=>rfl
 | _ :: _,[],_,h,_=>by cases h
 | _ :: _,_ :: _,[],_,h=>by cases h
 | a :: r,b :: q,c :: p,h1,h2=>by
  unfold cmpL at h1 h2 ⊢
  rcases ordC a b with⟨e,h⟩ | ⟨e,h⟩ | ⟨e,h⟩ <;> rcases ordC b c with⟨e',h'⟩ | ⟨e',h'⟩ | ⟨e',h'⟩ <;> rcases ordC a c with⟨e2,h3⟩ | ⟨e2,h3⟩ | ⟨e2,h3⟩ <;> first | omega | skip
  all_goals rw[e] at h1; rw[e'] at h2; rw[e2]
  all_goals first | rfl | (simp at h1; done) | (simp at h2; done) | skip
  simp only[ne_eq,jaB,jat] at h1 h2 ⊢
  exact zcF r q p h1 h2
theorem swoL {α:Type} (key:α->List Int):SWO (ltOf fun x y:α=>cmpL (key x) (key y)):=by
 have lt:∀ x y:α,ltOf (fun x y:α=>cmpL (key x) (key y)) x y=decide (cmpL (key x) (key y)<0):=fun _ _=>rfl
 have iff:∀ a b,cmpL a b<0 ↔ cmpL a b = -1:=fun a b=>by rcases cmpL_cases a b with⟨h,_⟩ | ⟨h,_⟩ | ⟨h,_⟩ <;> omega
 refine⟨fun x=>?_,fun x y z h1 h2=>?_,fun x y z h1 h2=>?_⟩
 ·rw[lt,zfN]; rfl
 ·rw[lt,kA,iff] at *
  exact zcF _ _ _ h1 h2
 rw[lt,jaS,iff] at *
 intro h3
 rcases cmpL_cases (key x) (key y) with⟨h,_⟩ | ⟨_,h⟩ | ⟨_,h⟩
 ·exact h1 h
 ·exact h2 (zcF _ _ _ h h3)
 rw[h] at h3; exact h2 h3
theorem zfO {a b:List Int} (h1:decide (cmpL a b<0)=false) (h2:decide (cmpL b a<0)=false):a=b:=by
 rw[jaS] at h1 h2
 rcases cmpL_cases a b with⟨h,_⟩ | ⟨_,h⟩ | ⟨_,h⟩
 ·omega
 ·omega
 exact h
theorem zpj (a b:List Int) (ha:a.length<=1000000) (hb:b.length<=1000000):SpecD PP 104 [.d (lI a),.d (lI b)] [N (cmpL a b)]:=by
 refine zbn Tryz.func104 rfl (by kernel_rfl) rfl ?_
 refine lOf (σ:=Nat) (fun i=>([(0,.d (lI a)),(1,.d (lI b)),(9,.d (lI a)),(10,.d (I a.length)),(11,.d (I i))],[])) (fun i=>i<=a.length/\i<=b.length/\cmpL (a.drop i) (b.drop i)=cmpL a b) (fun i=>a.length - i) 0
  ⟨rfl,trivial,wq rfl⟩ ⟨jF _,jF _,rfl⟩ fun i hi=>?_
 obtain⟨hi,hj,he⟩:=hi
 apply bY <;> intro h1
 ·have h1:i<a.length:=by have:=dT h1; omega
  have da:a.drop i=a.getD i 0 :: a.drop (i+1):=by rw[kU h1,hX,hZ h1]; rfl
  refine⟨⟨rfl,by omega,by omega⟩,?_⟩
  apply bY <;> intro h2
  ·have h2:b.length<=i:=by have:(b.length:Int)<=i:=dT h2; omega
   have db:b.drop i=[]:=List.drop_eq_nil_iff.2 h2
   rw[da,db] at he
   exact r1I rfl he
  have h2:i<b.length:=by have:¬ (b.length:Int)<=i:=dF h2; omega
  have db:b.drop i=b.getD i 0 :: b.drop (i+1):=by rw[kU h2,hX,hZ h2]; rfl
  refine⟨⟨rfl,by omega,by omega⟩,?_⟩
  refine cP (zpk (a.getD i 0) (b.getD i 0)) rfl rfl ?_
  rw[da,db,cmpL] at he
  apply bY <;> intro h3
  ·have h3:ord (a.getD i 0) (b.getD i 0)≠0:=by simpa using h3
   rw[kG h3] at he
   exact r1I rfl he
  have h3:ord (a.getD i 0) (b.getD i 0)=0:=by simpa using h3
  rw[kF (by rw[h3]; simp)] at he
  refine⟨i6,?_⟩
  exact⟨i+1,⟨rfl,trivial,wq rfl⟩,⟨h1,h2,he⟩,msr h1⟩
 have h1:i=a.length:=by have:=dF h1; omega
 subst h1
 rw[ja2] at he
 apply bY <;> intro h2
 ·have h2:a.length<b.length:=by have:(a.length:Int)<b.length:=dT h2; omega
  have db:b.drop a.length=b.getD a.length 0 :: b.drop (a.length+1):=by rw[kU h2,hX,hZ h2]; rfl
  rw[db] at he
  exact r1I rfl he
 have h2:b.length<=a.length:=by have:¬ (a.length:Int)<b.length:=dF h2; omega
 rw[List.drop_eq_nil_iff.2 h2] at he
 exact r1I rfl he
theorem zmj (a b:List Int) (ha:a.length<=1000000) (hb:b.length<=1000000):SpecD PP 65 [.d (lI a),.d (lI b)] [N (cmpL a b)]:=by
 refine zbn Tryz.func65 rfl (by kernel_rfl) rfl ?_
 refine cP (zpj a b ha hb) rfl rfl ?_
 exact r1I rfl rfl
structure Fit where
  IDs:List Int
  At:Place
  deriving Inhabited
structure Mis where
  IDs:List Int
  R:List Rsn
  deriving Inhabited
def Fit.at (x:Fit):Nat->D
 | 0=>lI x.IDs
 | 1=>I x.At.X
 | _=>I x.At.Y
def Mis.at (x:Mis):Nat->D
 | 0=>lI x.IDs
 | _=>lRs x.R
abbrev Fit.v (x:Fit):V1:=.agg [lI x.IDs,I x.At.X,I x.At.Y]
abbrev Mis.v (x:Mis):V1:=.agg [lI x.IDs,lRs x.R]
abbrev lFt (l:List Fit):D:=.slc 3 l.length fun i=>(l.getD i default).at
abbrev lMs (l:List Mis):D:=.slc 2 l.length fun i=>(l.getD i default).at
def FtD:Dats Fit 3 where
  lst x:=[lI x.IDs,I x.At.X,I x.At.Y]
  len _:=rfl
  at_ x:=x.at
  hat x j hj:=by
    match j,hj with
    | 0,_=>rfl
    | 1,_=>rfl
    | 2,_=>rfl
def MsD:Dats Mis 2 where
  lst x:=[lI x.IDs,lRs x.R]
  len _:=rfl
  at_ x:=x.at
  hat x j hj:=by
    match j,hj with
    | 0,_=>rfl
    | 1,_=>rfl
theorem zll (x y:Fit) (hx:x.IDs.length<=1000000) (hy:y.IDs.length<=1000000):SpecD PP 64 [x.v,y.v] [N (cmpL x.IDs y.IDs)]:=by
 refine zbn Tryz.func64 rfl (by kernel_rfl) rfl ?_
 refine cP (zmj x.IDs y.IDs hx hy) rfl rfl ?_
 exact r1I rfl rfl
theorem zlk (x y:Mis) (hx:x.IDs.length<=1000000) (hy:y.IDs.length<=1000000):SpecD PP 67 [x.v,y.v] [N (cmpL x.IDs y.IDs)]:=by
 refine zbn Tryz.func67 rfl (by kernel_rfl) rfl ?_
 refine cP (zmj x.IDs y.IDs hx hy) rfl rfl ?_
 exact r1I rfl rfl
def srtF (l:List Fit):List Fit:=l.mergeSort fun x y=>!decide (cmpL y.IDs x.IDs<0)
def srtM (l:List Mis):List Mis:=l.mergeSort fun x y=>!decide (cmpL y.IDs x.IDs<0)
theorem aggFt:∀ w,(isAgg (Tryz.sortFt_ren.t 24)).run PP w = .ok true w:=fun _=>by kernel_rfl
theorem sizFt:∀ w,(Go.sizeOf (Tryz.sortFt_ren.t 24)).run PP w = .ok 3 w:=fun _=>by kernel_rfl
theorem aggMs:∀ w,(isAgg (Tryz.sortMf_ren.t 24)).run PP w = .ok true w:=fun _=>by kernel_rfl
theorem sizMs:∀ w,(Go.sizeOf (Tryz.sortMf_ren.t 24)).run PP w = .ok 2 w:=fun _=>by kernel_rfl
theorem zkV (L:List Fit) (hn:L.length<=1000000) (hd:∀ i j,i<L.length->j<L.length->(L.getD i default).IDs=(L.getD j default).IDs->i=j) (hl:∀ x∈L,x.IDs.length<=1000000) :
  SpecW PP 63 [] [.d (.fn 64)] 130 3 L.length (FtD.row L) (FtD.row (srtF L)) []:=
 zdT Tryz.sortFt ⟨_,Tryz.func63,by kernel_rfl,by kernel_rfl⟩ aggFt sizFt FtD L (fun x y=>cmpL x.IDs y.IDs) (swoL Fit.IDs) (fun i j hi hj h1 h2=>hd i j hi hj (zfO h1 h2)) 64 (fun x hx y hy=>zll x y (hl x hx) (hl y hy)) 130 hn
theorem zkT (L:List Mis) (hn:L.length<=1000000) (hd:∀ i j,i<L.length->j<L.length->(L.getD i default).IDs=(L.getD j default).IDs->i=j) (hl:∀ x∈L,x.IDs.length<=1000000) :
  SpecW PP 66 [] [.d (.fn 67)] 132 2 L.length (MsD.row L) (MsD.row (srtM L)) []:=
 zdT Tryz.sortMf ⟨_,Tryz.func66,by kernel_rfl,by kernel_rfl⟩ aggMs sizMs MsD L (fun x y=>cmpL x.IDs y.IDs) (swoL Mis.IDs) (fun i j hi hj h1 h2=>hd i j hi hj (zfO h1 h2)) 67 (fun x hx y hy=>zlk x y (hl x hx) (hl y hy)) 132 hn
def misR (d:Day) (ids:List Int):List Rsn:=if (brnD d ids).To - (brnD d ids).From<=d.Long then (rsnR d.s (brnD d ids) (lstD d ids)).1 else []
def greB (d:Day) (ks:List Nat) (m:Nat):Bool:=fitK d ks m && !growK d ks m
def leaB (d:Day) (ks:List Nat) (m:Nat):Bool:=!fitK d ks m && partK d ks m
abbrev fitF (d:Day) (m:Nat):Fit:=⟨memb (sigL d.R) m,(celD d m).getD 0 default⟩
abbrev misF (d:Day) (m:Nat):Mis:=⟨memb (sigL d.R) m,misR d (memb (sigL d.R) m)⟩
def tabA {α:Type} (p:Nat->Bool) (f:Nat->α):Nat->List α
 | 0=>[]
 | m+1=>if m≠0/\p m=true then tabA p f m ++ [f m] else tabA p f m
theorem zeo {α:Type} {p:Nat->Bool} {f:Nat->α} {m:Nat} (h0:1<=m) (h:p m=true):tabA p f (m+1)=tabA p f m ++ [f m]:=by rw[tabA,kG ⟨by omega,h⟩]
theorem zbX {α:Type} {p:Nat->Bool} {f:Nat->α} {m:Nat} (h:p m=false):tabA p f (m+1)=tabA p f m:=by rw[tabA,kF fun hh=>by rw[h] at hh; cases hh.2]
theorem zep {α:Type} (p:Nat->Bool) (f:Nat->α):∀ m,(tabA p f m).length<=m
 | 0=>jE _
 | m+1=>by
  have:=zep p f m
  unfold tabA
  split
  ·rw[jR]; simp; omega
  omega
theorem zbM {α:Type} {p:Nat->Bool} {f:Nat->α}:∀ {m:Nat} {x:α},x∈tabA p f m -> ∃ k,0<k/\k<m/\p k=true/\x=f k
 | 0,x,h=>by cases h
 | m+1,x,h=>by
  unfold tabA at h
  split at h
  ·rename_i hm
   rcases kQ.1 h with h | h
   ·obtain⟨k,h1,h2,h3⟩:=zbM h; exact⟨k,h1,by omega,h3⟩
   exact⟨m,by omega,by omega,hm.2,kH.1 h⟩
  obtain⟨k,h1,h2,h3⟩:=zbM h; exact⟨k,h1,by omega,h3⟩
theorem zb7 {α:Type} (p:Nat->Bool) (f:Nat->α):∀ m,tabA p f m=(tabA p id m).map f
 | 0=>rfl
 | m+1=>by
  unfold tabA
  split
  ·rw[zb7 p f m,jT]; rfl
  exact zb7 p f m
theorem zcx {p:Nat->Bool}:∀ m,(tabA p id m).Nodup
 | 0=>qS
 | m+1=>by
  unfold tabA
  split
  ·refine jaM.2 ⟨zcx m,by simp,fun a ha b hb=>?_⟩
   obtain⟨k,_,h2,_,h3⟩:=zbM ha
   simp at hb; subst hb; simp at h3; omega
  exact zcx m
theorem pushF {l:List Fit} {x:Fit} {g:Nat->Nat->D} (hg:∀ j,j<3->D.eqv (g 0 j) (x.at j)):D.eqv (.slc 3 (l.length+1) (appRow l.length (FtD.row l) g)) (.slc 3 (l ++ [x]).length (FtD.row (l ++ [x]))):=by
 refine⟨by simp,.inr ⟨rfl,fun i hi j hj=>?_⟩⟩
 show D.eqv (appRow l.length (FtD.row l) g i j) (((l ++ [x]).getD i default).at j)
 unfold appRow
 by_cases h:i<l.length
 ·rw[kG h,hX,jJ h,<- hX]
  exact dE _
 have e:i=l.length:=by omega
 subst e
 rw[kF h,kE,hX,jK (jE _),kE]
 exact hg j hj
theorem zov {l:List Mis} {x:Mis} {g:Nat->Nat->D} (hg:∀ j,j<2->D.eqv (g 0 j) (x.at j)):D.eqv (.slc 2 (l.length+1) (appRow l.length (MsD.row l) g)) (.slc 2 (l ++ [x]).length (MsD.row (l ++ [x]))):=by
 refine⟨by simp,.inr ⟨rfl,fun i hi j hj=>?_⟩⟩
 show D.eqv (appRow l.length (MsD.row l) g i j) (((l ++ [x]).getD i default).at j)
 unfold appRow
 by_cases h:i<l.length
 ·rw[kG h,hX,jJ h,<- hX]
  exact dE _
 have e:i=l.length:=by omega
 subst e
 rw[kF h,kE,hX,jK (jE _),kE]
 exact hg j hj
theorem zi9 {α:Type} {l:List α} (h:l.Nodup) {i j:Nat} (hi:i<l.length) (hj:j<l.length) (e:l[i]=l[j]):i=j:=by
 have h:=kI.1 h
 rcases Nat.lt_trichotomy i j with g | g | g
 ·exact absurd e (h i j hi hj g)
 ·exact g
 exact absurd e.symm (h j i hj hi g)
theorem zc4 {ids:List Int} (hd:ids.Nodup) {m i:Nat} (hi:i<ids.length):ids.getD i 0∈memb ids m ↔ m.testBit i=true:=by
 unfold memb membA
 rw[kJ]
 constructor
 ·rintro⟨j,hj,e⟩
  rw[jap,kK] at hj
  rw[hX,hX,hZ hj.1,hZ hi] at e
  have:j=i:=zi9 hd hj.1 hi e
  subst this; exact hj.2
 intro h
 exact⟨i,jap.2 ⟨kK.2 hi,h⟩,rfl⟩
theorem zk7 {ids:List Int} (hd:ids.Nodup) {m k:Nat} (hm:m<2 ^ ids.length) (hk:k<2 ^ ids.length) (h:memb ids m=memb ids k):m=k:=by
 apply Nat.eq_of_testBit_eq
 intro i
 by_cases hi:i<ids.length
 ·rw[kY,<- zc4 hd hi,<- zc4 hd hi,h]
 have h2:2 ^ ids.length<=2 ^ i:=jaO (by decide) (by omega)
 rw[jaG (by omega),jaG (by omega)]
theorem DayOk.nodR {d:Day} (h:DayOk d):(d.R.map Rpt.ID).Nodup:=by
 have:∀ i,i<=d.R.length->((d.R.take i).map Rpt.ID).Nodup:=by
  intro i
  induction i with
  | zero=>intro _; simp
  | succ i ih=>
  intro hi
  rw[zaM (by omega) default,jT]
  refine jaM.2 ⟨ih (by omega),by simp,fun a ha b hb=>?_⟩
  have:=h.tw i (by omega)
  rw[jan] at this
  obtain⟨x,hx,rfl⟩:=kJ.1 ha
  have h1:=this x hx
  simp at hb h1
  rw[hb]; exact h1
 have:=this d.R.length (jE _)
 rwa [jZ] at this
theorem DayOk.nod {d:Day} (h:DayOk d):(sigL d.R).Nodup:=by
 unfold sigL
 refine (jaQ _ _).nodup_iff.2 ?_
 unfold sigK
 exact List.Nodup.sublist (List.Sublist.map _ (List.filter_sublist ..)) h.nodR
theorem zgP {α:Type} [Inhabited α] {d:Day} (h:DayOk d) (key:α->List Int) (p:Nat->Bool) (f:Nat->α) (hk:∀ m,key (f m)=memb (sigL d.R) m) {n:Nat} (hn:n<=2 ^ (sigL d.R).length) :
  ∀ i j,i<(tabA p f n).length->j<(tabA p f n).length->key ((tabA p f n).getD i default)=key ((tabA p f n).getD j default)->i=j:=by
 intro i j hi hj e
 have hl:(tabA p f n).length=(tabA p id n).length:=by rw[zb7 p f,kN]
 have g:∀ i,i<(tabA p f n).length -> ∃ hi:i<(tabA p id n).length,(tabA p f n).getD i default=f (tabA p id n)[i]:=fun i hi=>by
  have hi':i<(tabA p id n).length:=by rw[<- hl]; exact hi
  refine⟨hi',?_⟩
  rw[hX,zb7 p f,jU,hZ hi']; rfl
 obtain⟨hi',e1⟩:=g i hi
 obtain⟨hj',e2⟩:=g j hj
 rw[e1,e2,hk,hk] at e
 have lt:∀ i,∀ hi:i<(tabA p id n).length,(tabA p id n)[i]<2 ^ (sigL d.R).length:=fun i hi=>by
  obtain⟨k,_,h2,_,h3⟩:=zbM (kR hi)
  rw[h3]; simp; omega
 have:=zk7 h.nod (lt i hi') (lt j hj') e
 exact zi9 (zcx n) hi' hj' this
def tabR (d:Day):List Fit × List Mis × Int:=
 if dayE d≠0 then ([],[],dayE d) else (srtF (tabA (greB d (ksD d)) (fitF d) (2 ^ (sigL d.R).length)),srtM (tabA (leaB d (ksD d)) (misF d) (2 ^ (sigL d.R).length)),0)
theorem zns (d:Day) (hn:d.R.length<=1000000):Spec PP 27 [d.v] [.agg [lFt (tabR d).1,lMs (tabR d).2.1],.d (.int .i64 (tabR d).2.2)]:=by
 refine zc0 [20] Tryz.func27 rfl (by kernel_rfl) rfl ?_
 refine cP (zb4 d hn) rfl rfl ?_
 apply bY <;> intro h0
 ·have e:tabR d=([],[],dayE d):=by unfold tabR; rw[kG (by simpa using h0)]
  rw[e]
  exact⟨rtC (a:=2) rfl rfl rfl rfl rfl rfl ⟨rfl,rfl,trivial⟩,rtI rfl rfl,trivial⟩
 have h0:dayE d=0:=by simpa using h0
 have h:=zcS h0
 have hn:=h.n
 have h7:=sig7 h
 have e:tabR d=(srtF (tabA (greB d (ksD d)) (fitF d) (2 ^ (sigL d.R).length)),srtM (tabA (leaB d (ksD d)) (misF d) (2 ^ (sigL d.R).length)),0):=by unfold tabR; rw[kF (fun hh=>hh h0)]
 rw[e]
 refine cR (zma h) rfl rfl ?_
 have hp:2 ^ (sigL d.R).length<=2 ^ 7:=jaO (by decide) h7
 refine lOf (σ:=Nat) (fun m=>([(1,.box 1 0),(2,.box 2 0),(5,.box 5 0),(6,.box 6 0),(7,.d (I m))],[(1,.box (d.ds.map AV.d)),(2,.box (List.replicate 2 .any)),(5,.box ((d.ds ++ [lI (sigL d.R),cmap d (ksD d)]).map AV.d)),(6,.box [.own 52,.own 87]),
   (52,.row 130 3 (tabA (greB d (ksD d)) (fitF d) m).length (FtD.row (tabA (greB d (ksD d)) (fitF d) m))),(87,.row 132 2 (tabA (leaB d (ksD d)) (misF d) m).length (MsD.row (tabA (leaB d (ksD d)) (misF d) m)))]))
  (fun m=>1<=m/\m<=2 ^ (sigL d.R).length) (fun m=>2 ^ (sigL d.R).length - m) 1
  ⟨rfl,⟨obD d.ds rfl,zby rfl rfl,obD (d.ds ++ [lI (sigL d.R),cmap d (ksD d)]) rfl,⟨⟨rfl,_,_,_,rfl⟩,⟨rfl,_,_,_,rfl⟩,trivial⟩,rfl,rfl,trivial⟩,wq rfl⟩ ⟨jE _,Nat.one_le_two_pow⟩ fun m hm=>?_
 obtain⟨hm,hm2⟩:=hm
 have es:=bShl h7
 have l1:=zep (greB d (ksD d)) (fitF d) m
 have l2:=zep (leaB d (ksD d)) (misF d) m
 have hi:(memb (sigL d.R) m).length<=1000000:=jM (zci _ _ _) (by omega)
 refine⟨by omega,?_⟩
 apply bY <;> intro h1
 ·have h1:m<2 ^ (sigL d.R).length:=by
   have h1:(m:Int)<((2 ^ (sigL d.R).length:Nat):Int):=by rw[<- es]; exact dT h1
   omega
  have hms:2 ^ (sigL d.R).length - (m+1)<2 ^ (sigL d.R).length - m:=by omega
  refine cR (zfy (sigL d.R) m h7 (by omega)) rfl rfl ?_
  refine cP (zd8 d (ksD d) m) rfl rfl ?_
  apply bY <;> intro h2
  ·have h2:fitK d (ksD d) m=true:=h2
   have e2:leaB d (ksD d) m=false:=by unfold leaB; rw[h2]; rfl
   refine cP (znr d (ksD d) m h7 (by omega)) rfl rfl ?_
   repeat first | apply sT | apply sF
   apply bY <;> intro h3
   ·have h3:growK d (ksD d) m=false:=by simpa using h3
    have e1:greB d (ksD d) m=true:=by unfold greB; rw[h2,h3]; rfl
    have hf:(ksD d).contains m=true/\0<(celD d m).length:=by unfold fitK at h2; simpa using h2
    refine oN 14 ?_
    refine⟨⟨kInt,rfl⟩,lP (celD d m),?_,?_⟩
    ·have:=zl6 d (ksD d) m
     rw[kG hf.1] at this
     exact this
    refine⟨⟨rfl,by omega,by omega⟩,?_⟩
    refine⟨⟨.inr rfl,by unfold maxLen; omega,by show ((tabA (greB d (ksD d)) (fitF d) m).length+1) * 40<=140737488355328; omega⟩,?_⟩
    refine⟨i6,?_⟩
    refine⟨m+1,⟨rfl,⟨obD d.ds rfl,zby rfl rfl,obD (d.ds ++ [lI (sigL d.R),cmap d (ksD d)]) rfl,obX rfl,obR rfl ?_,obR rfl ?_,trivial⟩,wq rfl⟩,⟨by omega,h1⟩,hms⟩
    ·rw[zeo hm e1]
     refine pushF fun j hj=>?_
     match j,hj with
     | 0,_=>exact dE _
     | 1,_=>exact dE _
     | 2,_=>exact dE _
    rw[zbX e2]; exact dE _
   have h3:growK d (ksD d) m=true:=by simpa using h3
   have e1:greB d (ksD d) m=false:=by unfold greB; rw[h2,h3]; rfl
   refine cP (zd8 d (ksD d) m) rfl rfl ?_
   refine sNo (by rw[h2]; rfl) ?_
   repeat first | apply sT | apply sF
   refine⟨i6,?_⟩
   refine⟨m+1,⟨rfl,⟨obD d.ds rfl,zby rfl rfl,obD (d.ds ++ [lI (sigL d.R),cmap d (ksD d)]) rfl,obX rfl,obR rfl ?_,obR rfl ?_,trivial⟩,wq rfl⟩,⟨by omega,h1⟩,hms⟩
   ·rw[zbX e1]; exact dE _
   rw[zbX e2]; exact dE _
  have h2:fitK d (ksD d) m=false:=h2
  have e1:greB d (ksD d) m=false:=by unfold greB; rw[h2]; rfl
  repeat first | apply sT | apply sF
  refine cP (zd8 d (ksD d) m) rfl rfl ?_
  refine sYe (by rw[h2]; rfl) ?_
  refine cP (zju d (ksD d) m h7 (by omega)) rfl rfl ?_
  repeat first | apply sT | apply sF
  apply bY <;> intro h3
  ·have h3:partK d (ksD d) m=true:=h3
   have e2:leaB d (ksD d) m=true:=by unfold leaB; rw[h2,h3]; rfl
   refine cP (zjw d (memb (sigL d.R) m) (by omega) hi) rfl rfl ?_
   refine cP (zgo d (brnD d (memb (sigL d.R) m)) (zgC h _)) rfl rfl ?_
   apply bY <;> intro h4
   ·have h4:(brnD d (memb (sigL d.R) m)).To - (brnD d (memb (sigL d.R) m)).From<=d.Long:=by simpa using h4
    have er:misR d (memb (sigL d.R) m)=(rsnR d.s (brnD d (memb (sigL d.R) m)) (lstD d (memb (sigL d.R) m))).1:=by unfold misR; rw[kG h4]
    refine oN 12 ?_
    refine oRo (zjv d (memb (sigL d.R) m) (by omega) hi) rfl rfl ?_
    refine oRo (zjp d.s (brnD d (memb (sigL d.R) m)) (lstD d (memb (sigL d.R) m))) rfl rfl ?_
    refine⟨⟨.inr rfl,by unfold maxLen; omega,by show ((tabA (leaB d (ksD d)) (misF d) m).length+1) * 48<=140737488355328; omega⟩,?_⟩
    refine⟨i6,?_⟩
    refine⟨m+1,⟨rfl,⟨obD d.ds rfl,zby rfl rfl,obD (d.ds ++ [lI (sigL d.R),cmap d (ksD d)]) rfl,obX rfl,obR rfl ?_,obR rfl ?_,trivial⟩,wq rfl⟩,⟨by omega,h1⟩,hms⟩
    ·rw[zbX e1]; exact dE _
    rw[zeo hm e2]
    refine zov fun j hj=>?_
    match j,hj with
    | 0,_=>exact dE _
    | 1,_=>show D.eqv _ (lRs (misR d (memb (sigL d.R) m))); rw[er]; exact dE _
   have h4:¬ (brnD d (memb (sigL d.R) m)).To - (brnD d (memb (sigL d.R) m)).From<=d.Long:=by simpa using h4
   have er:misR d (memb (sigL d.R) m)=[]:=by unfold misR; rw[kF h4]
   refine⟨⟨.inr rfl,by unfold maxLen; omega,by show ((tabA (leaB d (ksD d)) (misF d) m).length+1) * 48<=140737488355328; omega⟩,?_⟩
   refine⟨i6,?_⟩
   refine⟨m+1,⟨rfl,⟨obD d.ds rfl,zby rfl rfl,obD (d.ds ++ [lI (sigL d.R),cmap d (ksD d)]) rfl,obX rfl,obR rfl ?_,obR rfl ?_,trivial⟩,wq rfl⟩,⟨by omega,h1⟩,hms⟩
   ·rw[zbX e1]; exact dE _
   rw[zeo hm e2]
   refine zov fun j hj=>?_
   match j,hj with
   | 0,_=>exact dE _
   | 1,_=>show D.eqv _ (lRs (misR d (memb (sigL d.R) m))); rw[er]; rfl
  have h3:partK d (ksD d) m=false:=h3
  have e2:leaB d (ksD d) m=false:=by unfold leaB; rw[h3,jaY]
  refine⟨i6,?_⟩
  refine⟨m+1,⟨rfl,⟨obD d.ds rfl,zby rfl rfl,obD (d.ds ++ [lI (sigL d.R),cmap d (ksD d)]) rfl,obX rfl,obR rfl ?_,obR rfl ?_,trivial⟩,wq rfl⟩,⟨by omega,h1⟩,hms⟩
  ·rw[zbX e1]; exact dE _
  rw[zbX e2]; exact dE _
 have h1:m=2 ^ (sigL d.R).length:=by
  have h1:¬ (m:Int)<((2 ^ (sigL d.R).length:Nat):Int):=by rw[<- es]; exact dF h1
  omega
 subst h1
 have hl:∀ m,(memb (sigL d.R) m).length<=1000000:=fun m=>jM (zci _ _ _) (by omega)
 refine CallSt.rwW rfl rfl (zkV (tabA (greB d (ksD d)) (fitF d) (2 ^ (sigL d.R).length)) (by omega) (zgP h Fit.IDs _ _ (fun _=>rfl) (jE _)) (fun x hx=>by
  obtain⟨k,_,_,_,rfl⟩:=zbM hx; exact hl k)) ⟨⟨[],.tmp 90,[.func 64],[],rfl,rfl,rfl,rfl,rfl,rfl,rfl⟩⟩ rfl ?_
 refine CallSt.rwW rfl rfl (zkT (tabA (leaB d (ksD d)) (misF d) (2 ^ (sigL d.R).length)) (by omega) (zgP h Mis.IDs _ _ (fun _=>rfl) (jE _)) (fun x hx=>by
  obtain⟨k,_,_,_,rfl⟩:=zbM hx; exact hl k)) ⟨⟨[],.tmp 93,[.func 67],[],rfl,rfl,rfl,rfl,rfl,rfl,rfl⟩⟩ rfl ?_
 refine kAt [(2,.box 2 0),(6,.box 6 0)] [(2,.box (List.replicate 2 .any)),(6,.box ([lFt (srtF (tabA (greB d (ksD d)) (fitF d) (2 ^ (sigL d.R).length))),lMs (srtM (tabA (leaB d (ksD d)) (misF d) (2 ^ (sigL d.R).length)))].map AV.d))]
  ⟨rfl,⟨zby rfl rfl,⟨⟨rfl,_,_,_,_,rfl,⟨(qE _).symm,.inr ⟨rfl,fun i _ j _=>dE _⟩⟩⟩,⟨rfl,_,_,_,_,rfl,⟨(qE _).symm,.inr ⟨rfl,fun i _ j _=>dE _⟩⟩⟩,trivial⟩,trivial⟩,wq rfl⟩ ?_
 exact⟨rtC (a:=2) rfl rfl rfl rfl rfl rfl (zab _),rtI rfl rfl,trivial⟩
structure Lim where
  lo:Int
  hi:Int
  no:Bool
  deriving DecidableEq,Inhabited
abbrev Lim.ds (x:Lim):List D:=[I x.lo,I x.hi,.bool x.no]
structure Tg where
  N:Int
  T:Int
  lo:Int
  hi:Int
  no:Bool
  deriving DecidableEq,Inhabited
abbrev Tg.ds (x:Tg):List D:=[I x.N,I x.T,I x.lo,I x.hi,.bool x.no]
abbrev Tg.v (x:Tg):V1:=.agg x.ds
def Tg.at (x:Tg):Nat->D
 | 0=>I x.N
 | 1=>I x.T
 | 2=>I x.lo
 | 3=>I x.hi
 | _=>.bool x.no
end Go.Pg
