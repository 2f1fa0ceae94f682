/- Lemmas, joined by program. -/
import Derived.Test.YtcgbaefojdoicaaGreatTF
set_option maxHeartbeats 4000000
set_option linter.all false
set_option maxRecDepth 100000
namespace Go.Pg
open Go.Proofs Go.RowKit Go.Sort Go.Shelf
theorem zmy {d:Day} (hd:dayE d=0) {s:List Int} (h1:setB s=true) (h2:partB s (sigL d.R)=true):(d.R.any fun r=>s.contains r.ID)=true:=by
 have ok:=zaZ hd
 obtain⟨m1,m2⟩:=zdQ ok.lt h1 h2
 have:=zcF hd m2 (zf9 (sigL d.R) s)
 rwa [m1] at this
theorem zpn {all s:List Int} (h:¬ (setB s && partB s all)=true):btsR all s=(0,false):=by unfold btsR; rw[kG h]
theorem zf4 {all s:List Int} (h1:setB s=true) (h2:partB s all=true):btsR all s=(bitS all s,true):=by unfold btsR; rw[h1,h2]; rfl
theorem zjN {d:Day} (hd:dayE d=0) (f:Fit) (hf:f.IDs.length<=1000000):Spec PP 83 [d.v,f.v] [B (ckFt d f)]:=by
 have ok:=zaZ hd
 have hn:=ok.n
 have h7:=sig7 ok
 have hB:=zhv (sigL d.R) f.IDs ok.lt h7 hf
 refine sA Tryz.func83 ?_
 refine oN 10 ?_
 refine oRo (zdH d (by omega)) rfl rfl ?_
 unfold ckFt
 by_cases hs:(setB f.IDs && partB f.IDs (sigL d.R))=true
 case neg=>
  rw[zpn hs] at hB
  refine oP hB rfl rfl ?_
  repeat first | apply sT | apply sF
  rw[kX.2 hs,kP]
  exact r1B rfl rfl
 rw[hs,kL]
 rw[jP] at hs
 have ha:=zmy hd hs.1 hs.2
 rw[zf4 hs.1 hs.2] at hB
 refine oP hB rfl rfl ?_
 repeat first | apply sT | apply sF
 have hL:=zht ok f.IDs hf
 have hU:=zfr d f.IDs (by omega) hf
 rw[zf5 ok ha] at hL hU
 refine cP hL rfl rfl ?_
 repeat first | apply sT | apply sF
 by_cases h3:(brnD d f.IDs).To - (brnD d f.IDs).From<=d.Long
 case neg=>
  refine sYe (jG (show d.Long<(brnD d f.IDs).To - (brnD d f.IDs).From by omega)) ?_
  rw[show shoB d f.IDs=false from jH h3,kP]
  exact r1B rfl rfl
 refine sNo (jH (show ¬ d.Long<(brnD d f.IDs).To - (brnD d f.IDs).From by omega)) ?_
 rw[show shoB d f.IDs=true from jG h3,kL]
 have hll:=zfH d f.IDs
 refine cR (zhu d f.IDs (by omega) hf) rfl rfl ?_
 have hq:∀ r,alwQ d f r=(decide ((alwR d.s (brnD d f.IDs) r f.At).2=0) && (alwR d.s (brnD d f.IDs) r f.At).1):=fun r=>rfl
 generalize lstD d f.IDs=l at hll ⊢
 refine lOf (σ:=Nat) (fun i=>([(2,.box 2 0),(3,.box 3 0),(7,.d (lR l)),(8,.d (I i))],[(2,.box (d.ds.map AV.d)),(3,.box (f.ds.map AV.d))])) (fun i=>i<=l.length /\ ∀ j,j<i->alwQ d f (l.getD j default)=true) (fun i=>l.length - i) 0
  ⟨rfl,⟨obD d.ds rfl,obD f.ds rfl,trivial⟩,wq rfl⟩ z0L fun i hi=>?_
 obtain⟨hi,hal⟩:=hi
 apply bY <;> intro h4
 ·have h4:i<l.length:=by have:=dT h4; omega
  have hw:=zkX d.s (brnD d f.IDs) (l.getD i default) f.At
  have hqi:=hq (l.getD i default)
  generalize alwR d.s (brnD d f.IDs) (l.getD i default) f.At=x at hw hqi
  refine oN 18 ?_
  refine oP hU rfl rfl ?_
  refine⟨⟨rfl,by omega,by omega⟩,?_⟩
  refine oP hw rfl rfl ?_
  have bad:alwQ d f (l.getD i default)=false->l.all (alwQ d f)=false:=fun e=>by
   rw[kX]
   intro hh
   have:=jC.1 hh (l.getD i default) (by rw[hZ,kH h4]; exact kW h4)
   rw[e] at this; cases this
  by_cases h5:x.2=0
  case neg=>
   refine sYe (show (x.2 != 0)=true from bne_iff_ne.2 h5) ?_
   repeat first | apply sT | apply sF
   rw[bad (by rw[hqi,jH h5]; rfl)]
   exact r1B rfl rfl
  refine sNo (show (x.2 != 0)=false by rw[h5]; rfl) ?_
  rw[jG h5,kL] at hqi
  cases h6:x.1 with
  | false=>
   repeat first | apply sT | apply sF
   rw[bad (by rw[hqi,h6])]
   exact r1B rfl rfl
  | true=>
  repeat first | apply sT | apply sF
  refine⟨i6,?_⟩
  refine⟨i+1,⟨rfl,⟨obD d.ds rfl,obD f.ds rfl,trivial⟩,wq rfl⟩,⟨h4,fun j hj=>?_⟩,msr h4⟩
  by_cases e:j=i
  ·subst e; rw[hqi,h6]
  exact hal j (by omega)
 have h4:i=l.length:=by have:=dF h4; omega
 subst h4
 have:l.all (alwQ d f)=true:=jC.2 fun r hr=>by
  obtain⟨j,hj,rfl⟩:=kQ hr
  have:=hal j hj
  rwa [hZ,kH hj] at this
 rw[this]
 exact r1B rfl rfl
theorem zfq {d:Day} (hd:dayE d=0) (m:Mis) (hf:m.IDs.length<=1000000) (hr:m.R.length<=1000000):Spec PP 85 [d.v,m.v] [B (ckMs d m)]:=by
 have ok:=zaZ hd
 have hn:=ok.n
 have h7:=sig7 ok
 have hB:=zhv (sigL d.R) m.IDs ok.lt h7 hf
 refine sA Tryz.func85 ?_
 refine oN 10 ?_
 refine oRo (zdH d (by omega)) rfl rfl ?_
 unfold ckMs
 by_cases hs:(setB m.IDs && partB m.IDs (sigL d.R))=true
 case neg=>
  rw[zpn hs] at hB
  refine oP hB rfl rfl ?_
  repeat first | apply sT | apply sF
  rw[kX.2 hs,kP]
  exact r1B rfl rfl
 rw[hs,kL]
 rw[jP] at hs
 have ha:=zmy hd hs.1 hs.2
 rw[zf4 hs.1 hs.2] at hB
 refine oP hB rfl rfl ?_
 repeat first | apply sT | apply sF
 have hL:=zht ok m.IDs hf
 have hU:=zfr d m.IDs (by omega) hf
 rw[zf5 ok ha] at hL hU
 refine cP hL rfl rfl ?_
 by_cases h3:(brnD d m.IDs).To - (brnD d m.IDs).From<=d.Long
 case neg=>
  refine sYe (jG (show d.Long<(brnD d m.IDs).To - (brnD d m.IDs).From by omega)) ?_
  rw[show shoB d m.IDs=false from jH h3,kG (by decide)]
  refine r1B rfl ?_
  rw[kN,jaE,kS]
  omega
 refine sNo (jH (show ¬ d.Long<(brnD d m.IDs).To - (brnD d m.IDs).From by omega)) ?_
 rw[show shoB d m.IDs=true from jG h3,kI rfl]
 refine oN 15 ?_
 refine oP hU rfl rfl ?_
 refine oRo (zhu d m.IDs (by omega) hf) rfl rfl ?_
 refine CallOb.pureE (zgt d.s (brnD d m.IDs) (lstD d m.IDs) [] m.R (jF _) hr) rfl ⟨zaa _,zaa _,dE _,rfl,dE _,trivial⟩ rfl ?_
 refine r1B rfl ?_
 rw[kN,jaE,kS]
def knA (F:List Fit) (ids:List Int) (i k q:Nat):Bool:=decide (0<q) && hasB (F.take (if q<k then i+1 else i)) (memb ids q)
def knB (F:List Fit) (M:List Mis) (ids:List Int) (i k q:Nat):Bool:=decide (0<q) && (hasB F (memb ids q) || fndM (M.take (if q<k then i+1 else i)) (memb ids q))
theorem getF {F:List Fit} {i:Nat} (h:i<F.length):F.getD i default∈F:=by rw[hZ,kH h]; exact kW h
theorem zlZ {F:List Mis} {i:Nat} (h:i<F.length):F.getD i default∈F:=by rw[hZ,kH h]; exact kW h
theorem zcr (d:Day) {j:Jns} (hj:JnOk j) (hn:d.R.length<=1000000):Spec PP 29 [d.v,j.v] [.d (.int .i64 (ctbE d j))]:=by
 have hF:=hj.F
 have hM:=hj.M
 refine sA Tryz.func29 ?_
 refine cP (ziy d hn) rfl rfl ?_
 unfold ctbE
 apply bY <;> intro h0
 ·rw[kI (by simpa using h0)]
  exact r1I rfl rfl
 have h0:dayE d=0:=by simpa using h0
 have ok:=zaZ h0
 have h7:=sig7 ok
 rw[kG (fun hh=>hh h0)]
 by_cases c1:127<j.F.length \/ 127<j.M.length
 ·rw[kI c1]
  apply bY <;> intro h1
  ·repeat first | apply sT | apply sF
   exact r1I rfl rfl
  have h1:¬ 127<j.F.length:=by have:=dF h1; omega
  repeat first | apply sT | apply sF
  refine sYe (jG (show (127:Int)<(j.M.length:Int) by omega)) ?_
  exact r1I rfl rfl
 rw[kG c1]
 refine sNo (jH (show ¬ (127:Int)<(j.F.length:Int) by omega)) ?_
 repeat first | apply sT | apply sF
 refine sNo (jH (show ¬ (127:Int)<(j.M.length:Int) by omega)) ?_
 have es:IntKind.wrap .i64 (1 * 2 ^ (min (((sigL d.R).length:Nat):Int).toNat (IntKind.bits .i64)))=((2 ^ (sigL d.R).length:Nat):Int):=bShl h7
 have hp:2 ^ (sigL d.R).length<=128:=jM (qT (j:=7) (by decide) (by omega)) (by decide)
 have h1p:1<=2 ^ (sigL d.R).length:=Nat.one_le_two_pow
 refine cR (zdH d hn) rfl rfl ?_
 refine⟨by omega,?_⟩
 have et:(IntKind.wrap .i64 (1 * 2 ^ (min (((sigL d.R).length:Nat):Int).toNat (IntKind.bits .i64)))).toNat=2 ^ (sigL d.R).length:=by rw[es]; exact jaq _
 refine⟨⟨by rw[es]; omega,rfl,by rw[et]; show 2 ^ (sigL d.R).length * 1<=16777216; omega,by rw[et]; show 2 ^ (sigL d.R).length * 1<=140737488355328; omega⟩,?_⟩
 have hlt:=ok.lt
 have hbit:=fun (k:Nat) (hk:k<2 ^ (sigL d.R).length) (s:List Int) (h1:setB s=true) (h2:partB s (sigL d.R)=true)=>show decide (k &&& bitS (sigL d.R) s=k)=partB (memb (sigL d.R) k) s by
  have:=zgx hlt hk (zf9 (sigL d.R) s)
  rw[(zdQ hlt h1 h2).1] at this
  exact this.symm
 have hbit2:=fun (k:Nat) (hk:k<2 ^ (sigL d.R).length) (s:List Int) (h1:setB s=true) (h2:partB s (sigL d.R)=true)=>show decide (bitS (sigL d.R) s &&& k=bitS (sigL d.R) s)=partB s (memb (sigL d.R) k) by
  have:=zgx hlt (zf9 (sigL d.R) s) hk
  rw[(zdQ hlt h1 h2).1] at this
  exact this.symm
 have hb7:=fun s=>zjA h7 s
 have hBt:=fun (s:List Int) (hs:s.length<=1000000)=>zhv (sigL d.R) s hlt h7 hs
 have hFi:=fun (f:Fit) (hf:f.IDs.length<=1000000)=>zjN h0 f hf
 have hMi:=fun (m:Mis) (h1:m.IDs.length<=1000000) (h2:m.R.length<=1000000)=>zfq h0 m h1 h2
 have cF:∀ f,ckFt d f=true->setB f.IDs=true/\partB f.IDs (sigL d.R)=true:=fun f h=>by
  unfold ckFt at h
  rw[jP,jP] at h
  exact h.1
 have cM:∀ m,ckMs d m=true->setB m.IDs=true/\partB m.IDs (sigL d.R)=true:=fun m h=>by
  unfold ckMs at h
  rw[jP,jP] at h
  exact h.1
 generalize sigL d.R=ids at *
 refine lOf (σ:=Nat) (fun i=>([(2,.box 2 0),(3,.box 3 0),(6,.d (lI ids)),(7,.own 37),(8,.d (I i))],[(2,.box (d.ds.map AV.d)),(3,.box (j.ds.map AV.d)),(37,.row 4 1 (2 ^ ids.length) (rowBo (knA j.F ids i 1)))])) (fun i=>i<=j.F.length /\ ∀ q,q<i->ckFt d (j.F.getD q default)=true) (fun i=>j.F.length - i) 0
  ⟨rfl,⟨obD d.ds rfl,obD j.ds rfl,obR rfl ⟨et,.inr ⟨rfl,fun i hi q hq=>?_⟩⟩,trivial⟩,wq rfl⟩ z0L fun i hi=>?_
 ·obtain rfl:q=0:=wE.1 hq
  show D.eqv (.bool false) (.bool (knA j.F ids 0 1 i))
  have:knA j.F ids 0 1 i=false:=by
   unfold knA
   by_cases e:i<1
   ·rw[jH (by omega)]; rfl
   rw[kG e,List.take_zero]; simp[hasB]
  rw[this]
  rfl
 obtain⟨hi,hall⟩:=hi
 apply bY <;> intro h1
 ·have h1:i<j.F.length:=by have:=dT h1; omega
  have hfl:=hj.get h1
  have hc:=hFi (j.F.getD i default) hfl
  refine oN 8 ?_
  refine⟨⟨rfl,by omega,by omega⟩,?_⟩
  refine oP hc rfl rfl ?_
  cases h2:ckFt d (j.F.getD i default) with
  | false=>
   repeat first | apply sT | apply sF
   have e:(j.F.all (ckFt d) && j.M.all (ckMs d))=false:=by
    rw[Bool.and_eq_false_iff]; left
    rw[kX]
    intro hh
    have:=jC.1 hh _ (getF h1)
    rw[h2] at this; cases this
   rw[kI e]
   exact r1I rfl rfl
  | true=>
  repeat first | apply sT | apply sF
  obtain⟨s1,s2⟩:=cF _ h2
  have hb:=hBt (j.F.getD i default).IDs hfl
  rw[zf4 s1 s2] at hb
  refine⟨⟨rfl,by omega,by omega⟩,?_⟩
  refine cP hb rfl rfl ?_
  refine lOf (σ:=Nat) (fun k=>([(2,.box 2 0),(3,.box 3 0),(6,.d (lI ids)),(7,.own 37),(8,.d (I i)),(9,.d (I (bitS ids (j.F.getD i default).IDs:Nat))),(11,.d (I k))],[(2,.box (d.ds.map AV.d)),(3,.box (j.ds.map AV.d)),(37,.row 4 1 (2 ^ ids.length) (rowBo (knA j.F ids i k)))])) (fun k=>1<=k/\k<=2 ^ ids.length) (fun k=>2 ^ ids.length - k) 1
   ⟨rfl,⟨obD d.ds rfl,obD j.ds rfl,obR rfl (dE _),trivial⟩,wq rfl⟩ ⟨jE _,h1p⟩ fun k hk=>?_
  obtain⟨hk,hk2⟩:=hk
  apply bY <;> intro h3
  ·have h3:k<2 ^ ids.length:=by have:=dT h3; omega
   have hv:knA j.F ids i k k=hasB (j.F.take i) (memb ids k):=by unfold knA; rw[jG (by omega:0<k),kG (Nat.lt_irrefl k),kL]
   have nx:knA j.F ids i (k+1) k=(hasB (j.F.take i) (memb ids k) || partB (memb ids k) (j.F.getD i default).IDs):=by
    unfold knA
    rw[jG (by omega:0<k),kI (Nat.lt_succ_self k),kL,zn0 h1]
   have ot:∀ q,q<2 ^ ids.length->q≠k->knA j.F ids i k q=knA j.F ids i (k+1) q:=fun q _ e=>by
    unfold knA
    by_cases e2:q<k
    ·rw[kI e2,kI (by omega)]
    rw[kG e2,kG (by omega)]
   refine⟨⟨by omega,by omega⟩,⟨by omega,?_⟩⟩
   apply bY <;> intro h4
   ·have h4:hasB (j.F.take i) (memb ids k)=true:=by rw[<- hv]; exact h4
    repeat first | apply sT | apply sF
    refine⟨⟨by omega,by omega⟩,⟨by omega,?_⟩⟩
    refine⟨i6,?_⟩
    exact⟨k+1,⟨rfl,⟨obD d.ds rfl,obD j.ds rfl,obR rfl (zcn (by rw[nx,h4,qP]) ot),trivial⟩,wq rfl⟩,⟨by omega,h3⟩,(show 2 ^ ids.length - (k+1)<2 ^ ids.length - k by omega)⟩
   have h4:hasB (j.F.take i) (memb ids k)=false:=by rw[<- hv]; exact h4
   repeat first | apply sT | apply sF
   refine cP (zfp k (bitS ids (j.F.getD i default).IDs) (by omega) (hb7 _)) rfl rfl ?_
   repeat first | apply sT | apply sF
   refine⟨⟨by omega,by omega⟩,⟨by omega,?_⟩⟩
   refine⟨i6,?_⟩
   exact⟨k+1,⟨rfl,⟨obD d.ds rfl,obD j.ds rfl,obR rfl (zcn (by rw[nx,h4,wB]; exact (hbit k h3 _ s1 s2).symm) ot),trivial⟩,wq rfl⟩,⟨by omega,h3⟩,(show 2 ^ ids.length - (k+1)<2 ^ ids.length - k by omega)⟩
  have h3:k=2 ^ ids.length:=by have:=dF h3; omega
  subst h3
  refine⟨i6,?_⟩
  refine⟨i+1,⟨rfl,⟨obD d.ds rfl,obD j.ds rfl,obR rfl (zco fun q hq=>?_),trivial⟩,wq rfl⟩,⟨h1,fun q hq=>?_⟩,msr h1⟩
  ·unfold knA
   rw[kI hq]
   by_cases e:q<1
   ·rw[jH (by omega)]; rfl
   rw[kG e]
  by_cases e:q=i
  ·subst e; exact h2
  exact hall q (by omega)
 have h1:i=j.F.length:=by have:=dF h1; omega
 subst h1
 have hFa:j.F.all (ckFt d)=true:=jC.2 fun f hf=>by
  obtain⟨q,hq,rfl⟩:=kQ hf
  have:=hall q hq
  rwa [hZ,kH hq] at this
 clear hall
 refine lOf (σ:=Nat) (fun i=>([(2,.box 2 0),(3,.box 3 0),(6,.d (lI ids)),(7,.own 37),(12,.d (I i))],[(2,.box (d.ds.map AV.d)),(3,.box (j.ds.map AV.d)),(37,.row 4 1 (2 ^ ids.length) (rowBo (knB j.F j.M ids i 1)))])) (fun i=>i<=j.M.length /\ ∀ q,q<i->ckMs d (j.M.getD q default)=true) (fun i=>j.M.length - i) 0
  ⟨rfl,⟨obD d.ds rfl,obD j.ds rfl,obR rfl (zco fun q hq=>?_),trivial⟩,wq rfl⟩ z0L fun i hi=>?_
 ·unfold knA knB
  by_cases e:q<1
  ·rw[jH (by omega)]; rfl
  rw[kG e,kG e,jZ,List.take_zero]; simp[fndM]
 obtain⟨hi,hall⟩:=hi
 apply bY <;> intro h1
 ·have h1:i<j.M.length:=by have:=dT h1; omega
  obtain⟨hfl,hrl⟩:=hj.getM h1
  have hc:=hMi (j.M.getD i default) hfl hrl
  refine oN 8 ?_
  refine⟨⟨rfl,by omega,by omega⟩,?_⟩
  refine oP hc rfl rfl ?_
  cases h2:ckMs d (j.M.getD i default) with
  | false=>
   repeat first | apply sT | apply sF
   have e:(j.F.all (ckFt d) && j.M.all (ckMs d))=false:=by
    rw[Bool.and_eq_false_iff]; right
    rw[kX]
    intro hh
    have:=jC.1 hh _ (zlZ h1)
    rw[h2] at this; cases this
   rw[kI e]
   exact r1I rfl rfl
  | true=>
  repeat first | apply sT | apply sF
  obtain⟨s1,s2⟩:=cM _ h2
  have hb:=hBt (j.M.getD i default).IDs hfl
  rw[zf4 s1 s2] at hb
  refine⟨⟨rfl,by omega,by omega⟩,?_⟩
  refine cP hb rfl rfl ?_
  refine lOf (σ:=Nat) (fun k=>([(2,.box 2 0),(3,.box 3 0),(6,.d (lI ids)),(7,.own 37),(12,.d (I i)),(13,.d (I (bitS ids (j.M.getD i default).IDs:Nat))),(15,.d (I k))],[(2,.box (d.ds.map AV.d)),(3,.box (j.ds.map AV.d)),(37,.row 4 1 (2 ^ ids.length) (rowBo (knB j.F j.M ids i k)))])) (fun k=>1<=k/\k<=2 ^ ids.length) (fun k=>2 ^ ids.length - k) 1
   ⟨rfl,⟨obD d.ds rfl,obD j.ds rfl,obR rfl (dE _),trivial⟩,wq rfl⟩ ⟨jE _,h1p⟩ fun k hk=>?_
  obtain⟨hk,hk2⟩:=hk
  apply bY <;> intro h3
  ·have h3:k<2 ^ ids.length:=by have:=dT h3; omega
   have hv:knB j.F j.M ids i k k=(hasB j.F (memb ids k) || fndM (j.M.take i) (memb ids k)):=by unfold knB; rw[jG (by omega:0<k),kG (Nat.lt_irrefl k),kL]
   have nx:knB j.F j.M ids i (k+1) k=((hasB j.F (memb ids k) || fndM (j.M.take i) (memb ids k)) || partB (j.M.getD i default).IDs (memb ids k)):=by
    unfold knB
    rw[jG (by omega:0<k),kI (Nat.lt_succ_self k),kL,zje h1,Bool.or_assoc]
   have ot:∀ q,q<2 ^ ids.length->q≠k->knB j.F j.M ids i k q=knB j.F j.M ids i (k+1) q:=fun q _ e=>by
    unfold knB
    by_cases e2:q<k
    ·rw[kI e2,kI (by omega)]
    rw[kG e2,kG (by omega)]
   refine⟨⟨by omega,by omega⟩,⟨by omega,?_⟩⟩
   apply bY <;> intro h4
   ·have h4:(hasB j.F (memb ids k) || fndM (j.M.take i) (memb ids k))=true:=by rw[<- hv]; exact h4
    repeat first | apply sT | apply sF
    refine⟨⟨by omega,by omega⟩,⟨by omega,?_⟩⟩
    refine⟨i6,?_⟩
    exact⟨k+1,⟨rfl,⟨obD d.ds rfl,obD j.ds rfl,obR rfl (zcn (by rw[nx,h4,qP]) ot),trivial⟩,wq rfl⟩,⟨by omega,h3⟩,(show 2 ^ ids.length - (k+1)<2 ^ ids.length - k by omega)⟩
   have h4:(hasB j.F (memb ids k) || fndM (j.M.take i) (memb ids k))=false:=by rw[<- hv]; exact h4
   repeat first | apply sT | apply sF
   refine cP (zfp (bitS ids (j.M.getD i default).IDs) k (hb7 _) (by omega)) rfl rfl ?_
   repeat first | apply sT | apply sF
   refine⟨⟨by omega,by omega⟩,⟨by omega,?_⟩⟩
   refine⟨i6,?_⟩
   exact⟨k+1,⟨rfl,⟨obD d.ds rfl,obD j.ds rfl,obR rfl (zcn (by rw[nx,h4,wB]; exact (hbit2 k h3 _ s1 s2).symm) ot),trivial⟩,wq rfl⟩,⟨by omega,h3⟩,(show 2 ^ ids.length - (k+1)<2 ^ ids.length - k by omega)⟩
  have h3:k=2 ^ ids.length:=by have:=dF h3; omega
  subst h3
  refine⟨i6,?_⟩
  refine⟨i+1,⟨rfl,⟨obD d.ds rfl,obD j.ds rfl,obR rfl (zco fun q hq=>?_),trivial⟩,wq rfl⟩,⟨h1,fun q hq=>?_⟩,msr h1⟩
  ·unfold knB
   rw[kI hq]
   by_cases e:q<1
   ·rw[jH (by omega)]; rfl
   rw[kG e]
  by_cases e:q=i
  ·subst e; exact h2
  exact hall q (by omega)
 have h1:i=j.M.length:=by have:=dF h1; omega
 subst h1
 have hMa:j.M.all (ckMs d)=true:=jC.2 fun f hf=>by
  obtain⟨q,hq,rfl⟩:=kQ hf
  have:=hall q hq
  rwa [hZ,kH hq] at this
 rw[hFa,hMa,kG (by decide)]
 refine lOf (σ:=Nat) (fun k=>([(7,.own 37),(16,.d (I k))],[(37,.row 4 1 (2 ^ ids.length) (rowBo fun q=>decide (0<q) && stT ids j q))])) (fun k=>1<=k/\k<=2 ^ ids.length /\ ∀ q,0<q->q<k->stT ids j q=true) (fun k=>2 ^ ids.length - k) 1
  ⟨rfl,⟨obR rfl (zco fun q hq=>?_),trivial⟩,wq rfl⟩ ⟨jE _,h1p,fun q a b=>by omega⟩ fun k hk=>?_
 ·unfold knB stT
  by_cases e:q<1
  ·rw[jH (by omega)]; rfl
  rw[kG e,jZ]
 obtain⟨hk,hk2,hst⟩:=hk
 apply bY <;> intro h3
 ·have h3:k<2 ^ ids.length:=by have:=dT h3; omega
  refine⟨⟨by omega,by omega⟩,⟨by omega,?_⟩⟩
  have hv:(decide (0<k) && stT ids j k)=stT ids j k:=by rw[jG (by omega:0<k),kL]
  cases h4:stT ids j k with
  | false=>
   refine sYe (show (!(decide (0<k) && stT ids j k))=true by rw[hv,h4]; rfl) ?_
   have e:allT ids j=false:=by
    rw[kX]
    intro hh
    have:=jC.1 hh k (kJ.2 h3)
    rw[jH (by omega),wB,h4] at this
    cases this
   rw[kI e]
   exact r1I rfl rfl
  | true=>
  refine sNo (show (!(decide (0<k) && stT ids j k))=false by rw[hv,h4]; rfl) ?_
  refine⟨i6,?_⟩
  refine⟨k+1,⟨rfl,⟨obR rfl (dE _),trivial⟩,wq rfl⟩,⟨by omega,h3,fun q a b=>?_⟩,(show 2 ^ ids.length - (k+1)<2 ^ ids.length - k by omega)⟩
  by_cases e:q=k
  ·subst e; exact h4
  exact hst q a (by omega)
 have h3:k=2 ^ ids.length:=by have:=dF h3; omega
 subst h3
 have e:allT ids j=true:=jC.2 fun q hq=>by
  by_cases q0:q=0
  ·subst q0; rfl
  rw[hst q (by omega) (kJ.1 hq),kV]
 rw[kG (by rw[e]; decide)]
 exact r1I rfl rfl
section
variable {α:Type} [Inhabited α] {w:Nat} (at_:α->Nat->D)
theorem zb3 {l:List α} {n:Nat} {f:Nat->Nat->D} (hn:n=l.length) (hf:∀ i,i<l.length -> ∀ j,j<w->D.eqv (f i j) (at_ (l.getD i default) j)):D.eqv (.slc w n f) (.slc w l.length fun i=>at_ (l.getD i default)):=by
 subst hn
 exact⟨rfl,.inr ⟨rfl,hf⟩⟩
theorem zl7 {l:List α} {k n' lo:Nat} (hk:k<l.length) (hlo:lo=k+1) (hn:n'=l.length - (k+1)):D.eqv (.slc w (k+n') (cutRow (fun i=>at_ (l.getD i default)) k lo)) (.slc w (l.take k++l.drop (k+1)).length fun i=>at_ ((l.take k++l.drop (k+1)).getD i default)):=by
 subst hlo
 refine zb3 at_ (by rw[jR,jQ,qO]; omega) fun i hi j hj=>?_
 rw[jR,jQ,qO] at hi
 unfold cutRow appRow
 by_cases h:i<k
 ·rw[kI h,hZ (l:=l.take k++_),jJ (by rw[jQ]; omega),List.getElem?_take_of_lt h,<- hZ]
  exact dE _
 rw[kG h,hZ (l:=l.take k++_),jK (by rw[jQ]; omega),qM,jQ,<- hZ,show min k l.length=k by omega]
 exact dE _
theorem zcL {l:List α} {k c n:Nat} {ys:List D} {y:α} (hk:k<l.length) (hn:n=l.length) (hy:∀ j,j<w->D.eqv (if c<=j/\j<c+ys.length then getD' ys (j - c) else at_ (l.getD k default) j) (at_ y j)):D.eqv (.slc w n (storeRow (fun i=>at_ (l.getD i default)) k c ys)) (.slc w (l.set k y).length fun i=>at_ ((l.set k y).getD i default)):=by
 refine zb3 at_ (by rw[jag]; exact hn) fun i hi j hj=>?_
 rw[jag] at hi
 unfold storeRow
 by_cases e:i=k
 ·subst e
  have:=hy j hj
  rw[hZ (l:=l.set i y),List.getElem?_set_self hi]
  by_cases hc:c<=j/\j<c+ys.length
  ·rw[kI hc] at this
   rw[kI ⟨rfl,hc⟩]; exact this
  rw[kG hc] at this
  rw[kG fun hh=>hc hh.2]; exact this
 rw[kG fun hh=>e hh.1,hZ (l:=l.set k y),List.getElem?_set_ne (jao e),<- hZ]
 exact dE _
theorem znn {l:List α} {n:Nat} {g:Nat->Nat->D} {y:α} (hn:n=l.length) (hg:∀ j,j<w->D.eqv (g 0 j) (at_ y j)):D.eqv (.slc w (n+1) (appRow n (fun i=>at_ (l.getD i default)) g)) (.slc w (l ++ [y]).length fun i=>at_ ((l ++ [y]).getD i default)):=by
 subst hn
 refine zb3 at_ (by simp) fun i hi j hj=>?_
 rw[jR,qW] at hi
 unfold appRow
 by_cases h:i<l.length
 ·rw[kI h,hZ (l:=l ++ [y]),jJ h,<- hZ]
  exact dE _
 have e:i=l.length:=by omega
 subst e
 rw[kG h,kE,hZ (l:=l ++ [y]),jK (jE _),kE]
 exact hg j hj
end
def bntJ (j:Jns) (how a:Nat) (id:Int) (p:Place):Jns:=
 if how % 8=1/\0<j.F.length then ⟨j.F.take (a % j.F.length)++j.F.drop (a % j.F.length+1),j.M⟩
 else if how % 8=2/\0<j.M.length then ⟨j.F,j.M.take (a % j.M.length)++j.M.drop (a % j.M.length+1)⟩
 else if how % 8=3/\0<j.F.length then ⟨j.F.set (a % j.F.length) ⟨(j.F.getD (a % j.F.length) default).IDs,p⟩,j.M⟩
 else if how % 8=4/\0<j.F.length then ⟨j.F.set (a % j.F.length) ⟨(j.F.getD (a % j.F.length) default).IDs ++ [id],(j.F.getD (a % j.F.length) default).At⟩,j.M⟩
 else if how % 8=5/\0<j.M.length then ⟨j.F,j.M.set (a % j.M.length) ⟨(j.M.getD (a % j.M.length) default).IDs,if 0<(j.M.getD (a % j.M.length) default).R.length then (j.M.getD (a % j.M.length) default).R.drop 1 else [⟨p,id⟩]⟩⟩
 else if how % 8=6/\0<j.M.length then ⟨j.F,j.M.set (a % j.M.length) ⟨(j.M.getD (a % j.M.length) default).IDs,if 0<(j.M.getD (a % j.M.length) default).R.length then (j.M.getD (a % j.M.length) default).R.set (how % (j.M.getD (a % j.M.length) default).R.length) ⟨((j.M.getD (a % j.M.length) default).R.getD (how % (j.M.getD (a % j.M.length) default).R.length) default).At,id⟩ else (j.M.getD (a % j.M.length) default).R⟩⟩
 else if how % 8=7/\0<j.M.length then ⟨j.F,j.M ++ [j.M.getD (a % j.M.length) default]⟩
 else j
theorem mem_setL {α:Type} {l:List α} {k:Nat} {y x:α} (h:x∈l.set k y):x∈l \/ x=y:=jbu h
structure JnLt (n:Nat) (j:Jns):Prop where
  F:j.F.length<=n
  M:j.M.length<=n
  f:∀ f∈j.F,f.IDs.length<=n
  m:∀ m∈j.M,m.IDs.length<=n/\m.R.length<=n
theorem ztf {j:Jns} {n:Nat} (h:JnLt n j) (how a:Nat) (id:Int) (p:Place):JnLt (n+1) (bntJ j how a id p):=by
 obtain⟨hF,hM,hf,hm⟩:=h
 have up:JnLt (n+1) j:=⟨by omega,by omega,fun f h=>by have:=hf f h; omega,fun m h=>by have:=hm m h; omega⟩
 have kF:0<j.F.length->a % j.F.length<j.F.length:=fun h=>jae _ h
 have kM:0<j.M.length->a % j.M.length<j.M.length:=fun h=>jae _ h
 unfold bntJ
 split
 ·rename_i h1
  refine⟨?_,up.M,fun f h=>up.f f ?_,up.m⟩
  ·show (_++_:List Fit).length<=_
   rw[jR,jQ,qO]; omega
  rcases qD.1 h with h | h
  ·exact jab h
  exact jaN h
 split
 ·rename_i h1
  refine⟨up.F,?_,up.f,fun f h=>up.m f ?_⟩
  ·show (_++_:List Mis).length<=_
   rw[jR,jQ,qO]; omega
  rcases qD.1 h with h | h
  ·exact jab h
  exact jaN h
 split
 ·rename_i h1
  refine⟨by show (List.set _ _ _).length<=_; rw[jag]; omega,up.M,fun f h=>?_,up.m⟩
  rcases mem_setL h with h | h
  ·exact up.f f h
  subst h
  have:=up.f _ (getF (kF h1.2))
  exact this
 split
 ·rename_i h1
  refine⟨by show (List.set _ _ _).length<=_; rw[jag]; omega,up.M,fun f h=>?_,up.m⟩
  rcases mem_setL h with h | h
  ·exact up.f f h
  subst h
  show (_ ++ [id]:List Int).length<=_
  rw[jR,qW]
  have:=hf _ (getF (kF h1.2))
  omega
 split
 ·rename_i h1
  refine⟨up.F,by show (List.set _ _ _).length<=_; rw[jag]; omega,up.f,fun f h=>?_⟩
  rcases mem_setL h with h | h
  ·exact up.m f h
  subst h
  have:=hm _ (zlZ (kM h1.2))
  refine⟨by show (j.M.getD _ default).IDs.length<=_; omega,?_⟩
  show (if _ then _ else _:List Rsn).length<=_
  split
  ·rw[qO]; omega
  rw[qW]; omega
 split
 ·rename_i h1
  refine⟨up.F,by show (List.set _ _ _).length<=_; rw[jag]; omega,up.f,fun f h=>?_⟩
  rcases mem_setL h with h | h
  ·exact up.m f h
  subst h
  have:=hm _ (zlZ (kM h1.2))
  refine⟨by show (j.M.getD _ default).IDs.length<=_; omega,?_⟩
  show (if _ then _ else _:List Rsn).length<=_
  split
  ·rw[jag]; omega
  omega
 split
 ·rename_i h1
  refine⟨up.F,by show (_ ++ [_]:List Mis).length<=_; rw[jR,qW]; omega,up.f,fun f h=>?_⟩
  rcases qD.1 h with h | h
  ·exact up.m f h
  rw[kT.1 h]; exact up.m _ (zlZ (kM h1.2))
 exact up
theorem JnLt.ok {n:Nat} {j:Jns} (h:JnLt n j) (hn:n<=1000000):JnOk j:=⟨jM h.F hn,jM h.M hn,fun f hf=>jM (h.f f hf) hn,fun m hm=>⟨jM (h.m m hm).1 hn,jM (h.m m hm).2 hn⟩⟩
theorem tmy {how v:Nat} {c:Int} (h:how % 8=v) (e:((v:Nat):Int)=c):(((how:Nat):Int).tmod 8==c)=true:=by
 rw[show ((how:Nat):Int).tmod 8=((how % 8:Nat):Int) from rfl,h,e,jbf]
theorem tmn {how v:Nat} {c:Int} (h:how % 8=v) (e:((v:Nat):Int)≠c):(((how:Nat):Int).tmod 8==c)=false:=by
 rw[show ((how:Nat):Int).tmod 8=((how % 8:Nat):Int) from rfl,h]
 exact jaV.2 e
theorem nfc {how v c:Nat} {X:Prop} (hv:how % 8=v) (e:v≠c):¬ (how % 8=c/\X):=fun h=>e (hv.symm.trans h.1)
theorem ln0 {n:Nat} (h:n=0):decide ((0:Int)<(n:Int))=false:=jH (by omega)
theorem ln1 {n:Nat} (h:0<n):decide ((0:Int)<(n:Int))=true:=jG (by omega)
theorem wrA {a n:Nat} (ha:a<=255):(IntKind.wrap .i64 ((a:Nat):Int)).tmod ((n:Nat):Int)=((a % n:Nat):Int):=by
 rw[zbZ (by exact i6)]; rfl
theorem app0 {w:Nat} {n:Nat} {f g:Nat->Nat->D}:D.eqv (.slc w (0+n) (appRow 0 f g)) (.slc w n g):=⟨qF _,.inr ⟨rfl,fun i hi j hj=>by
 unfold appRow
 rw[kG (qI _),Nat.sub_zero]; exact dE _⟩⟩
abbrev rwF (F:List Fit):Nat->Nat->D:=fun i=>(F.getD i default).at
abbrev rwM (M:List Mis):Nat->Nat->D:=fun i=>(M.getD i default).at
abbrev bnS (how a:Nat) (id:Int):List (Nat × AV):=[(1,.d (.int .u8 (how:Int))),(2,.d (.int .u8 (a:Int))),(3,.d (I id)),(9,.box 9 0),(10,.box 10 0),(11,.box 11 0)]
abbrev bnK (how a:Nat) (id:Int) (q k:Nat):List (Nat × AV):=[(1,.d (.int .u8 (how:Int))),(2,.d (.int .u8 (a:Int))),(3,.d (I id)),(9,.box 9 0),(10,.box 10 0),(11,.box 11 0),(q,.d (I (k:Nat)))]
abbrev bnO (j:Jns) (p:Place):List (Nat × Ob):=[(9,.box ([I p.X,I p.Y].map AV.d)),(10,.box (List.replicate 2 .any)),(11,.box [.own 21,.own 25]),(21,.row 101 3 j.F.length (rwF j.F)),(25,.row 104 2 j.M.length (rwM j.M))]
theorem app1 {l:List Int} {x:Int} {f g:Nat->Nat->D} (hg:g 0 0=I x):D.eqv (.slc 1 (0+l.length+1) (appRow (0+l.length) (appRow 0 f (rowI l)) g)) (lI (l ++ [x])):=by
 rw[qF]
 refine⟨by simp,.inr ⟨rfl,fun i hi q hq=>?_⟩⟩
 obtain rfl:q=0:=by omega
 have hi:i<l.length+1:=hi
 show D.eqv (appRow l.length (appRow 0 f (rowI l)) g i 0) (I ((l ++ [x]).getD i 0))
 unfold appRow
 by_cases h:i<l.length
 ·rw[kI h,kG (qI _),Nat.sub_zero,hZ,jJ h,<- hZ]
  exact dE _
 obtain rfl:i=l.length:=by omega
 rw[kG h,kE,hg,hZ,jK (jE _),kE]
 exact dE _
theorem drp1 (R:List Rsn):D.eqv (.slc 3 (R.length - 1) fun i=>(R.getD (1+i) default).at) (lRs (R.drop 1)):=by
 refine zb3 Rsn.at (by rw[qO]) fun i hi q hq=>?_
 rw[hZ (l:=R.drop 1),qM,<- hZ]
 exact dE _
theorem one1 (p:Place) (id:Int):D.eqv (.slc 3 1 (rowOf 3 [I p.X,I p.Y,I id])) (lRs [⟨p,id⟩]):=by
 refine zb3 Rsn.at rfl fun i hi q hq=>?_
 obtain rfl:i=0:=wE.1 hi
 match q,hq with
 | 0,_=>exact dE _
 | 1,_=>exact dE _
 | 2,_=>exact dE _
theorem set6 {R:List Rsn} {r:Nat} {id:Int} {f:Nat->Nat->D} (hr:r<R.length):D.eqv (.slc 3 (0+R.length) (storeRow (appRow 0 f fun i=>(R.getD i default).at) ((r:Nat):Int).toNat 2 [I id])) (lRs (R.set r ⟨(R.getD r default).At,id⟩)):=by
 refine zb3 Rsn.at (by rw[jag,qF]) fun i hi q hq=>?_
 rw[jag] at hi
 show D.eqv (storeRow (appRow 0 f fun i=>(R.getD i default).at) r 2 [I id] i q) _
 unfold storeRow appRow
 by_cases e:i=r
 ·subst e
  rw[hZ (l:=R.set i _),List.getElem?_set_self hi,kG (qI _)]
  match q,hq with
  | 0,_=>rw[kG fun hh=>absurd hh.2.1 (by decide)]; exact dE _
  | 1,_=>rw[kG fun hh=>absurd hh.2.1 (by decide)]; exact dE _
  | 2,_=>rw[kI ⟨rfl,jE _,by simp⟩]; exact dE _
 rw[kG fun hh=>e hh.1,kG (qI _),Nat.sub_zero,hZ (l:=R.set r _),List.getElem?_set_ne (jao e),<- hZ]
 exact dE _
theorem set6' {R:List Rsn} {r:Nat} {e id:Int} {f:Nat->Nat->D} (he:e=((r:Nat):Int)) (hr:r<R.length):D.eqv (.slc 3 (0+R.length) (storeRow (appRow 0 f fun i=>(R.getD i default).at) e.toNat 2 [I id])) (lRs (R.set r ⟨(R.getD r default).At,id⟩)):=by
 subst he; exact set6 hr
abbrev bn6 (id:Int) (k:Nat) (R:List Rsn):List (Nat × AV):=[(10,.box 10 0),(11,.box 11 0),(19,.d (I (k:Nat))),(20,.d (lRs R))]
abbrev bnO6 (j:Jns):List (Nat × Ob):=[(10,.box (List.replicate 2 .any)),(11,.box [.own 21,.own 25]),(21,.row 101 3 j.F.length (rwF j.F)),(25,.row 104 2 j.M.length (rwM j.M))]
theorem zrw (j : Jns) (how a : Nat) (id : Int) (p : Place) (hh : how <= 255) (ha : a <= 255) (hF : j.F.length <= 1000000) (hM : j.M.length <= 1000000) (hf : ∀ i, i < j.F.length -> (j.F.getD i default).IDs.length <= 1000000) (hm : ∀ i, i < j.M.length -> (j.M.getD i default).R.length <= 1000000) :
    Spec PP 27 [j.v, .d (.int .u8 (how : Int)), .d (.int .u8 (a : Int)), N id, p.v] [(bntJ j how a id p).v] := by
  refine zbG [2, 6, 9, 11, 14, 17, 23, 26, 29, 2000000124, 2000000161] Tryz.func27 rfl (by kernel_rfl) rfl ?_
  refine oL [1, 2, 1005, 1006, 2000, 2004, 2003, 2007, 8, 9, 10] (fNo ?_)
  refine ⟨rfl, rfl, ?_⟩
  refine ⟨rfl, rfl, ?_⟩
  refine ⟨rfl, ?_⟩
  refine ⟨rfl, ?_⟩
  refine ⟨rfl, ⟨.inr rfl, by unfold maxLen; show 0 + j.F.length <= _; omega, by show (0 + j.F.length) * 40 <= 140737488355328; omega⟩, ?_⟩
  refine ⟨rfl, ⟨.inr rfl, by unfold maxLen; show 0 + j.M.length <= _; omega, by show (0 + j.M.length) * 48 <= 140737488355328; omega⟩, ?_⟩
  refine kAt (bnS how a id) (bnO j p) ⟨rfl, ⟨obD [I p.X, I p.Y] rfl, zan rfl rfl, obX rfl, obR rfl app0, obR rfl app0, trivial⟩, wq rfl⟩ ?_
  have bd : ∀ {n : Nat}, 0 < n -> ((n : Nat) : Int) ≠ 0 := fun h => by omega
  have h8 : how % 8 < 8 := jae _ (by decide)
  by_cases hn : (∀ c, c ≠ 0 -> how % 8 = c -> (c = 1 \/ c = 3 \/ c = 4 -> j.F.length = 0) /\ (c = 2 \/ c = 5 \/ c = 6 \/ c = 7 -> j.M.length = 0))
  · have hv0 := hn (how % 8)
    clear hn
    generalize hv : how % 8 = v at h8 hv0
    have e : bntJ j how a id p = j := by
      unfold bntJ
      rw [hv]
      have k : ∀ c n, v = c /\ 0 < n -> (v ≠ 0 -> n = 0) -> c ≠ 0 -> False := fun c n h1 h2 h3 => by have := h2 (by omega); omega
      rw [kG fun h => k _ _ h (fun h0 => (hv0 h0 rfl).1 (by omega)) (by decide), kG fun h => k _ _ h (fun h0 => (hv0 h0 rfl).2 (by omega)) (by decide), kG fun h => k _ _ h (fun h0 => (hv0 h0 rfl).1 (by omega)) (by decide), kG fun h => k _ _ h (fun h0 => (hv0 h0 rfl).1 (by omega)) (by decide), kG fun h => k _ _ h (fun h0 => (hv0 h0 rfl).2 (by omega)) (by decide), kG fun h => k _ _ h (fun h0 => (hv0 h0 rfl).2 (by omega)) (by decide), kG fun h => k _ _ h (fun h0 => (hv0 h0 rfl).2 (by omega)) (by decide)]
    rw [e]
    match v, hv, h8, hv0 with
    | 0, hv, _, hv0 =>
      have hL : j.F.length = j.F.length := rfl
      repeat first | apply sT | apply sF | refine sNo (tmn hv (by decide)) ?_ | refine sYe (tmy hv (by decide)) ?_ | refine sNo (ln0 hL) ?_ | refine sYe (ln1 hL) ?_ | refine ⟨by decide, ?_⟩
      refine kAt [(10, .box 10 0), (11, .box 11 0)] [(10, .box (List.replicate 2 .any)), (11, .box ([lFt (j.F), lMs (j.M)].map AV.d))] ⟨rfl, ⟨zan rfl rfl, ⟨⟨rfl, _, _, _, _, rfl, dE _⟩, ⟨rfl, _, _, _, _, rfl, dE _⟩, trivial⟩, trivial⟩, wq rfl⟩ ?_
      exact ⟨rtC (a := 10) rfl rfl rfl rfl rfl rfl (zaa _), trivial⟩
    | 1, hv, _, hv0 =>
      have hL := (hv0 (by decide) rfl).1 (by decide)
      repeat first | apply sT | apply sF | refine sNo (tmn hv (by decide)) ?_ | refine sYe (tmy hv (by decide)) ?_ | refine sNo (ln0 hL) ?_ | refine sYe (ln1 hL) ?_ | refine ⟨by decide, ?_⟩
      refine kAt [(10, .box 10 0), (11, .box 11 0)] [(10, .box (List.replicate 2 .any)), (11, .box ([lFt (j.F), lMs (j.M)].map AV.d))] ⟨rfl, ⟨zan rfl rfl, ⟨⟨rfl, _, _, _, _, rfl, dE _⟩, ⟨rfl, _, _, _, _, rfl, dE _⟩, trivial⟩, trivial⟩, wq rfl⟩ ?_
      exact ⟨rtC (a := 10) rfl rfl rfl rfl rfl rfl (zaa _), trivial⟩
    | 2, hv, _, hv0 =>
      have hL := (hv0 (by decide) rfl).2 (by decide)
      repeat first | apply sT | apply sF | refine sNo (tmn hv (by decide)) ?_ | refine sYe (tmy hv (by decide)) ?_ | refine sNo (ln0 hL) ?_ | refine sYe (ln1 hL) ?_ | refine ⟨by decide, ?_⟩
      refine kAt [(10, .box 10 0), (11, .box 11 0)] [(10, .box (List.replicate 2 .any)), (11, .box ([lFt (j.F), lMs (j.M)].map AV.d))] ⟨rfl, ⟨zan rfl rfl, ⟨⟨rfl, _, _, _, _, rfl, dE _⟩, ⟨rfl, _, _, _, _, rfl, dE _⟩, trivial⟩, trivial⟩, wq rfl⟩ ?_
      exact ⟨rtC (a := 10) rfl rfl rfl rfl rfl rfl (zaa _), trivial⟩
    | 3, hv, _, hv0 =>
      have hL := (hv0 (by decide) rfl).1 (by decide)
      repeat first | apply sT | apply sF | refine sNo (tmn hv (by decide)) ?_ | refine sYe (tmy hv (by decide)) ?_ | refine sNo (ln0 hL) ?_ | refine sYe (ln1 hL) ?_ | refine ⟨by decide, ?_⟩
      refine kAt [(10, .box 10 0), (11, .box 11 0)] [(10, .box (List.replicate 2 .any)), (11, .box ([lFt (j.F), lMs (j.M)].map AV.d))] ⟨rfl, ⟨zan rfl rfl, ⟨⟨rfl, _, _, _, _, rfl, dE _⟩, ⟨rfl, _, _, _, _, rfl, dE _⟩, trivial⟩, trivial⟩, wq rfl⟩ ?_
      exact ⟨rtC (a := 10) rfl rfl rfl rfl rfl rfl (zaa _), trivial⟩
    | 4, hv, _, hv0 =>
      have hL := (hv0 (by decide) rfl).1 (by decide)
      repeat first | apply sT | apply sF | refine sNo (tmn hv (by decide)) ?_ | refine sYe (tmy hv (by decide)) ?_ | refine sNo (ln0 hL) ?_ | refine sYe (ln1 hL) ?_ | refine ⟨by decide, ?_⟩
      refine kAt [(10, .box 10 0), (11, .box 11 0)] [(10, .box (List.replicate 2 .any)), (11, .box ([lFt (j.F), lMs (j.M)].map AV.d))] ⟨rfl, ⟨zan rfl rfl, ⟨⟨rfl, _, _, _, _, rfl, dE _⟩, ⟨rfl, _, _, _, _, rfl, dE _⟩, trivial⟩, trivial⟩, wq rfl⟩ ?_
      exact ⟨rtC (a := 10) rfl rfl rfl rfl rfl rfl (zaa _), trivial⟩
    | 5, hv, _, hv0 =>
      have hL := (hv0 (by decide) rfl).2 (by decide)
      repeat first | apply sT | apply sF | refine sNo (tmn hv (by decide)) ?_ | refine sYe (tmy hv (by decide)) ?_ | refine sNo (ln0 hL) ?_ | refine sYe (ln1 hL) ?_ | refine ⟨by decide, ?_⟩
      refine kAt [(10, .box 10 0), (11, .box 11 0)] [(10, .box (List.replicate 2 .any)), (11, .box ([lFt (j.F), lMs (j.M)].map AV.d))] ⟨rfl, ⟨zan rfl rfl, ⟨⟨rfl, _, _, _, _, rfl, dE _⟩, ⟨rfl, _, _, _, _, rfl, dE _⟩, trivial⟩, trivial⟩, wq rfl⟩ ?_
      exact ⟨rtC (a := 10) rfl rfl rfl rfl rfl rfl (zaa _), trivial⟩
    | 6, hv, _, hv0 =>
      have hL := (hv0 (by decide) rfl).2 (by decide)
      repeat first | apply sT | apply sF | refine sNo (tmn hv (by decide)) ?_ | refine sYe (tmy hv (by decide)) ?_ | refine sNo (ln0 hL) ?_ | refine sYe (ln1 hL) ?_ | refine ⟨by decide, ?_⟩
      refine kAt [(10, .box 10 0), (11, .box 11 0)] [(10, .box (List.replicate 2 .any)), (11, .box ([lFt (j.F), lMs (j.M)].map AV.d))] ⟨rfl, ⟨zan rfl rfl, ⟨⟨rfl, _, _, _, _, rfl, dE _⟩, ⟨rfl, _, _, _, _, rfl, dE _⟩, trivial⟩, trivial⟩, wq rfl⟩ ?_
      exact ⟨rtC (a := 10) rfl rfl rfl rfl rfl rfl (zaa _), trivial⟩
    | 7, hv, _, hv0 =>
      have hL := (hv0 (by decide) rfl).2 (by decide)
      repeat first | apply sT | apply sF | refine sNo (tmn hv (by decide)) ?_ | refine sYe (tmy hv (by decide)) ?_ | refine sNo (ln0 hL) ?_ | refine sYe (ln1 hL) ?_ | refine ⟨by decide, ?_⟩
      refine kAt [(10, .box 10 0), (11, .box 11 0)] [(10, .box (List.replicate 2 .any)), (11, .box ([lFt (j.F), lMs (j.M)].map AV.d))] ⟨rfl, ⟨zan rfl rfl, ⟨⟨rfl, _, _, _, _, rfl, dE _⟩, ⟨rfl, _, _, _, _, rfl, dE _⟩, trivial⟩, trivial⟩, wq rfl⟩ ?_
      exact ⟨rtC (a := 10) rfl rfl rfl rfl rfl rfl (zaa _), trivial⟩
    | v + 8, _, h8, _ => omega
  have hn : (∃ c, how % 8 = c /\ (c = 1 \/ c = 3 \/ c = 4) /\ 0 < j.F.length) \/ ∃ c, how % 8 = c /\ (c = 2 \/ c = 5 \/ c = 6 \/ c = 7) /\ 0 < j.M.length := by
    refine jL fun hh => hn fun c c0 hc => ⟨fun h => ?_, fun h => ?_⟩
    · exact Nat.eq_zero_of_not_pos fun h0 => hh (.inl ⟨c, hc, h, h0⟩)
    exact Nat.eq_zero_of_not_pos fun h0 => hh (.inr ⟨c, hc, h, h0⟩)
  rcases hn with ⟨c, hv, h, hL⟩ | ⟨c, hv, h, hL⟩
  · have hk : a % j.F.length < j.F.length := jae _ hL
    have hfk := hf _ hk
    rcases h with rfl | rfl | rfl
    · have e : bntJ j how a id p = ⟨j.F.take (a % j.F.length) ++ j.F.drop (a % j.F.length + 1), j.M⟩ := by unfold bntJ; rw [kI ⟨hv, hL⟩]
      rw [e]
      clear e
      repeat first | apply sT | apply sF | refine sNo (tmn hv (by decide)) ?_ | refine sYe (tmy hv (by decide)) ?_ | refine sYe (ln1 hL) ?_ | refine ⟨by decide, ?_⟩
      refine ⟨bd hL, ?_⟩
      generalize hK : a % j.F.length = k at *
      refine kAt (bnK how a id 14 k) (bnO j p) ⟨rfl, ⟨obD [I p.X, I p.Y] rfl, zan rfl rfl, obX rfl, obR rfl (dE _), obR rfl (dE _), trivial⟩, avQ rfl, avQ rfl, avQ rfl, avQ rfl, avQ rfl, avQ rfl, avI rfl ((wrA ha).trans (jI Nat.cast hK)), trivial⟩ ?_
      refine oN 12 ?_
      refine ⟨⟨rfl, by omega, by omega⟩, ?_⟩
      refine ⟨i6, ?_⟩
      refine ⟨⟨rfl, by omega, by omega⟩, ?_⟩
      refine ⟨⟨⟨by omega, by omega⟩, by unfold maxLen; omega, by dsimp only; omega⟩, ?_⟩
      refine kAt [(10, .box 10 0), (11, .box 11 0)] [(10, .box (List.replicate 2 .any)), (11, .box ([lFt (j.F.take k ++ j.F.drop (k + 1)), lMs (j.M)].map AV.d))] ⟨rfl, ⟨zan rfl rfl, ⟨⟨rfl, _, _, _, _, rfl, zl7 Fit.at hk (by omega) (by omega)⟩, ⟨rfl, _, _, _, _, rfl, dE _⟩, trivial⟩, trivial⟩, wq rfl⟩ ?_
      exact ⟨rtC (a := 10) rfl rfl rfl rfl rfl rfl (zaa _), trivial⟩
    · have e : bntJ j how a id p = ⟨j.F.set (a % j.F.length) ⟨(j.F.getD (a % j.F.length) default).IDs, p⟩, j.M⟩ := by unfold bntJ; rw [kG (nfc hv (by decide)), kG (nfc hv (by decide)), kI ⟨hv, hL⟩]
      rw [e]
      clear e
      repeat first | apply sT | apply sF | refine sNo (tmn hv (by decide)) ?_ | refine sYe (tmy hv (by decide)) ?_ | refine sYe (ln1 hL) ?_ | refine ⟨by decide, ?_⟩
      generalize hK : a % j.F.length = k at *
      have wk := (wrA (n := j.F.length) ha).trans (jI Nat.cast hK)
      refine kAt (bnS how a id ++ [(12, .d (I j.F.length))]) (bnO j p) ⟨rfl, ⟨obD [I p.X, I p.Y] rfl, zan rfl rfl, obX rfl, obR rfl (dE _), obR rfl (dE _), trivial⟩, wq rfl⟩ ?_
      refine oN 10 ?_
      refine ⟨bd hL, ?_⟩
      refine ⟨⟨by rw [wk]; omega, by rw [wk]; omega⟩, ?_⟩
      refine ⟨by rw [wk]; omega, ?_⟩
      refine kAt [(10, .box 10 0), (11, .box 11 0)] [(10, .box (List.replicate 2 .any)), (11, .box ([lFt (j.F.set k ⟨(j.F.getD k default).IDs, p⟩), lMs (j.M)].map AV.d))] ⟨rfl, ⟨zan rfl rfl, ⟨⟨rfl, _, _, _, _, rfl, by
                rw [wk]
                refine zcL Fit.at hk rfl fun q hq => ?_
                match q, hq with
                | 0, _ => exact dE _
                | 1, _ => exact dE _
                | 2, _ => exact dE _⟩, ⟨rfl, _, _, _, _, rfl, dE _⟩, trivial⟩, trivial⟩, wq rfl⟩ ?_
      exact ⟨rtC (a := 10) rfl rfl rfl rfl rfl rfl (zaa _), trivial⟩
    have e : bntJ j how a id p = ⟨j.F.set (a % j.F.length) ⟨(j.F.getD (a % j.F.length) default).IDs ++ [id], (j.F.getD (a % j.F.length) default).At⟩, j.M⟩ := by unfold bntJ; rw [kG (nfc hv (by decide)), kG (nfc hv (by decide)), kG (nfc hv (by decide)), kI ⟨hv, hL⟩]
    rw [e]
    clear e
    repeat first | apply sT | apply sF | refine sNo (tmn hv (by decide)) ?_ | refine sYe (tmy hv (by decide)) ?_ | refine sYe (ln1 hL) ?_ | refine ⟨by decide, ?_⟩
    refine ⟨bd hL, ?_⟩
    generalize hK : a % j.F.length = k at *
    refine kAt (bnK how a id 16 k) (bnO j p) ⟨rfl, ⟨obD [I p.X, I p.Y] rfl, zan rfl rfl, obX rfl, obR rfl (dE _), obR rfl (dE _), trivial⟩, avQ rfl, avQ rfl, avQ rfl, avQ rfl, avQ rfl, avQ rfl, avI rfl ((wrA ha).trans (jI Nat.cast hK)), trivial⟩ ?_
    refine oL [4, 5, 6, 7, 8, 9, 1000, 1001, 1002, 1011, 1012, 3, 10, 13, 14, 15, 16] (fNo ?_)
    refine ⟨⟨by omega, by omega⟩, ?_⟩
    refine ⟨by omega, ?_⟩
    refine ⟨rfl, rfl, ?_⟩
    refine ⟨rfl, rfl, ?_⟩
    refine ⟨rfl, rfl, ?_⟩
    refine ⟨rfl, rfl, ?_⟩
    refine ⟨rfl, rfl, ?_⟩
    refine ⟨⟨.inr rfl, by unfold maxLen; show 0 + (j.F.getD k default).IDs.length <= _; omega, by show (0 + (j.F.getD k default).IDs.length) * 8 <= 140737488355328; omega⟩, ?_⟩
    refine ⟨⟨.inr rfl, by unfold maxLen; show 0 + (j.F.getD k default).IDs.length + 1 <= _; omega, by show (0 + (j.F.getD k default).IDs.length + 1) * 8 <= 140737488355328; omega⟩, ?_⟩
    refine ⟨⟨by omega, by omega⟩, ?_⟩
    refine ⟨by omega, ?_⟩
    refine kAt [(10, .box 10 0), (11, .box 11 0)] [(10, .box (List.replicate 2 .any)), (11, .box ([lFt (j.F.set k ⟨(j.F.getD k default).IDs ++ [id], (j.F.getD k default).At⟩), lMs (j.M)].map AV.d))] ⟨rfl, ⟨zan rfl rfl, ⟨⟨rfl, _, _, _, _, rfl, by
              refine zcL Fit.at hk rfl fun q hq => ?_
              match q, hq with
              | 0, _ => exact app1 rfl
              | 1, _ => exact dE _
              | 2, _ => exact dE _⟩, ⟨rfl, _, _, _, _, rfl, dE _⟩, trivial⟩, trivial⟩, wq rfl⟩ ?_
    exact ⟨rtC (a := 10) rfl rfl rfl rfl rfl rfl (zaa _), trivial⟩
  have hk : a % j.M.length < j.M.length := jae _ hL
  have hmk := hm _ hk
  rcases h with rfl | rfl | rfl | rfl
  · have e : bntJ j how a id p = ⟨j.F, j.M.take (a % j.M.length) ++ j.M.drop (a % j.M.length + 1)⟩ := by unfold bntJ; rw [kG (nfc hv (by decide)), kI ⟨hv, hL⟩]
    rw [e]
    clear e
    repeat first | apply sT | apply sF | refine sNo (tmn hv (by decide)) ?_ | refine sYe (tmy hv (by decide)) ?_ | refine sYe (ln1 hL) ?_ | refine ⟨by decide, ?_⟩
    refine ⟨bd hL, ?_⟩
    generalize hK : a % j.M.length = k at *
    refine kAt (bnK how a id 15 k) (bnO j p) ⟨rfl, ⟨obD [I p.X, I p.Y] rfl, zan rfl rfl, obX rfl, obR rfl (dE _), obR rfl (dE _), trivial⟩, avQ rfl, avQ rfl, avQ rfl, avQ rfl, avQ rfl, avQ rfl, avI rfl ((wrA ha).trans (jI Nat.cast hK)), trivial⟩ ?_
    refine oN 12 ?_
    refine ⟨⟨rfl, by omega, by omega⟩, ?_⟩
    refine ⟨i6, ?_⟩
    refine ⟨⟨rfl, by omega, by omega⟩, ?_⟩
    refine ⟨⟨⟨by omega, by omega⟩, by unfold maxLen; omega, by dsimp only; omega⟩, ?_⟩
    refine kAt [(10, .box 10 0), (11, .box 11 0)] [(10, .box (List.replicate 2 .any)), (11, .box ([lFt (j.F), lMs (j.M.take k ++ j.M.drop (k + 1))].map AV.d))] ⟨rfl, ⟨zan rfl rfl, ⟨⟨rfl, _, _, _, _, rfl, dE _⟩, ⟨rfl, _, _, _, _, rfl, zl7 Mis.at hk (by omega) (by omega)⟩, trivial⟩, trivial⟩, wq rfl⟩ ?_
    exact ⟨rtC (a := 10) rfl rfl rfl rfl rfl rfl (zaa _), trivial⟩
  · have e : bntJ j how a id p = ⟨j.F, j.M.set (a % j.M.length) ⟨(j.M.getD (a % j.M.length) default).IDs, if 0 < (j.M.getD (a % j.M.length) default).R.length then (j.M.getD (a % j.M.length) default).R.drop 1 else [⟨p, id⟩]⟩⟩ := by unfold bntJ; rw [kG (nfc hv (by decide)), kG (nfc hv (by decide)), kG (nfc hv (by decide)), kG (nfc hv (by decide)), kI ⟨hv, hL⟩]
    rw [e]
    clear e
    repeat first | apply sT | apply sF | refine sNo (tmn hv (by decide)) ?_ | refine sYe (tmy hv (by decide)) ?_ | refine sYe (ln1 hL) ?_ | refine ⟨by decide, ?_⟩
    refine ⟨bd hL, ?_⟩
    generalize hK : a % j.M.length = k at *
    refine kAt (bnK how a id 17 k) (bnO j p) ⟨rfl, ⟨obD [I p.X, I p.Y] rfl, zan rfl rfl, obX rfl, obR rfl (dE _), obR rfl (dE _), trivial⟩, avQ rfl, avQ rfl, avQ rfl, avQ rfl, avQ rfl, avQ rfl, avI rfl ((wrA ha).trans (jI Nat.cast hK)), trivial⟩ ?_
    refine ⟨⟨by omega, by omega⟩, ?_⟩
    refine ⟨by omega, ?_⟩
    by_cases hR : 0 < (j.M.getD k default).R.length
    · refine sYe (ln1 hR) ?_
      rw [kI hR]
      refine oN 8 ?_
      refine ⟨⟨.inr rfl, by omega, by show (1 : Int) <= (((j.M.getD k default).R.length : Nat) : Int); omega⟩, ?_⟩
      refine ⟨⟨by omega, by omega⟩, ?_⟩
      refine ⟨by omega, ?_⟩
      refine kAt [(10, .box 10 0), (11, .box 11 0)] [(10, .box (List.replicate 2 .any)), (11, .box ([lFt (j.F), lMs (j.M.set k ⟨(j.M.getD k default).IDs, (j.M.getD k default).R.drop 1⟩)].map AV.d))] ⟨rfl, ⟨zan rfl rfl, ⟨⟨rfl, _, _, _, _, rfl, dE _⟩, ⟨rfl, _, _, _, _, rfl, by
                  refine zcL Mis.at hk rfl fun q hq => ?_
                  match q, hq with
                  | 0, _ => exact dE _
                  | 1, _ => exact drp1 _⟩, trivial⟩, trivial⟩, wq rfl⟩ ?_
      exact ⟨rtC (a := 10) rfl rfl rfl rfl rfl rfl (zaa _), trivial⟩
    refine sNo (jH (show ¬ (0 : Int) < (((j.M.getD k default).R.length : Nat) : Int) by omega)) ?_
    rw [kG hR]
    refine ⟨⟨by omega, by omega⟩, ?_⟩
    refine ⟨by omega, ?_⟩
    refine kAt [(10, .box 10 0), (11, .box 11 0)] [(10, .box (List.replicate 2 .any)), (11, .box ([lFt (j.F), lMs (j.M.set k ⟨(j.M.getD k default).IDs, [⟨p, id⟩]⟩)].map AV.d))] ⟨rfl, ⟨zan rfl rfl, ⟨⟨rfl, _, _, _, _, rfl, dE _⟩, ⟨rfl, _, _, _, _, rfl, by
                refine zcL Mis.at hk rfl fun q hq => ?_
                match q, hq with
                | 0, _ => exact dE _
                | 1, _ => exact one1 _ _⟩, trivial⟩, trivial⟩, wq rfl⟩ ?_
    exact ⟨rtC (a := 10) rfl rfl rfl rfl rfl rfl (zaa _), trivial⟩
  · have e : bntJ j how a id p = ⟨j.F, j.M.set (a % j.M.length) ⟨(j.M.getD (a % j.M.length) default).IDs, if 0 < (j.M.getD (a % j.M.length) default).R.length then (j.M.getD (a % j.M.length) default).R.set (how % (j.M.getD (a % j.M.length) default).R.length) ⟨((j.M.getD (a % j.M.length) default).R.getD (how % (j.M.getD (a % j.M.length) default).R.length) default).At, id⟩ else (j.M.getD (a % j.M.length) default).R⟩⟩ := by unfold bntJ; rw [kG (nfc hv (by decide)), kG (nfc hv (by decide)), kG (nfc hv (by decide)), kG (nfc hv (by decide)), kG (nfc hv (by decide)), kI ⟨hv, hL⟩]
    rw [e]
    clear e
    repeat first | apply sT | apply sF | refine sNo (tmn hv (by decide)) ?_ | refine sYe (tmy hv (by decide)) ?_ | refine sYe (ln1 hL) ?_ | refine ⟨by decide, ?_⟩
    refine ⟨bd hL, ?_⟩
    generalize hK : a % j.M.length = k at *
    refine kAt (bnK how a id 19 k) (bnO j p) ⟨rfl, ⟨obD [I p.X, I p.Y] rfl, zan rfl rfl, obX rfl, obR rfl (dE _), obR rfl (dE _), trivial⟩, avQ rfl, avQ rfl, avQ rfl, avQ rfl, avQ rfl, avQ rfl, avI rfl ((wrA ha).trans (jI Nat.cast hK)), trivial⟩ ?_
    refine ⟨⟨by omega, by omega⟩, ?_⟩
    refine ⟨by omega, ?_⟩
    refine ⟨⟨.inr rfl, by unfold maxLen; show 0 + (j.M.getD k default).R.length <= _; omega, by show (0 + (j.M.getD k default).R.length) * 24 <= 140737488355328; omega⟩, ?_⟩
    by_cases hR : 0 < (j.M.getD k default).R.length
    · refine sYe (jG (show (0 : Int) < ((0 + (j.M.getD k default).R.length : Nat) : Int) by omega)) ?_
      rw [kI hR]
      have hr : how % (j.M.getD k default).R.length < (j.M.getD k default).R.length := jae _ hR
      have wr : (IntKind.wrap .i64 ((how : Nat) : Int)).tmod ((0 + (j.M.getD k default).R.length : Nat) : Int) = ((how % (j.M.getD k default).R.length : Nat) : Int) := by rw [wrA hh, qF]
      generalize how % (j.M.getD k default).R.length = r at hr wr
      refine ⟨show ((0 + (j.M.getD k default).R.length : Nat) : Int) ≠ 0 by omega, ?_⟩
      refine ⟨⟨(show (0 : Int) <= (IntKind.wrap .i64 ((how : Nat) : Int)).tmod ((0 + (j.M.getD k default).R.length : Nat) : Int) by rw [wr]; omega), (show (IntKind.wrap .i64 ((how : Nat) : Int)).tmod ((0 + (j.M.getD k default).R.length : Nat) : Int) < ((0 + (j.M.getD k default).R.length : Nat) : Int) by rw [wr]; omega)⟩, ?_⟩
      refine ⟨(show ((IntKind.wrap .i64 ((how : Nat) : Int)).tmod ((0 + (j.M.getD k default).R.length : Nat) : Int)).toNat < 0 + (j.M.getD k default).R.length by rw [wr]; omega), ?_⟩
      refine kAt (bn6 id k ((j.M.getD k default).R.set r ⟨((j.M.getD k default).R.getD r default).At, id⟩)) (bnO6 j) ⟨rfl, ⟨zan rfl rfl, obX rfl, obR rfl (dE _), obR rfl (dE _), trivial⟩, avQ rfl, avQ rfl, avQ rfl, avOw rfl rfl rfl ?_, trivial⟩ ?_
      · exact set6' wr hr
      refine ⟨⟨by omega, by omega⟩, ?_⟩
      refine ⟨by omega, ?_⟩
      refine kAt [(10, .box 10 0), (11, .box 11 0)] [(10, .box (List.replicate 2 .any)), (11, .box ([lFt (j.F), lMs (j.M.set k ⟨(j.M.getD k default).IDs, (j.M.getD k default).R.set r ⟨((j.M.getD k default).R.getD r default).At, id⟩⟩)].map AV.d))] ⟨rfl, ⟨zan rfl rfl, ⟨⟨rfl, _, _, _, _, rfl, dE _⟩, ⟨rfl, _, _, _, _, rfl, by
                  refine zcL Mis.at hk rfl fun q hq => ?_
                  match q, hq with
                  | 0, _ => exact dE _
                  | 1, _ => exact dE _⟩, trivial⟩, trivial⟩, wq rfl⟩ ?_
      exact ⟨rtC (a := 10) rfl rfl rfl rfl rfl rfl (zaa _), trivial⟩
    refine sNo (jH (show ¬ (0 : Int) < ((0 + (j.M.getD k default).R.length : Nat) : Int) by omega)) ?_
    rw [kG hR]
    refine kAt (bn6 id k (j.M.getD k default).R) (bnO6 j) ⟨rfl, ⟨zan rfl rfl, obX rfl, obR rfl (dE _), obR rfl (dE _), trivial⟩, avQ rfl, avQ rfl, avQ rfl, avOw rfl rfl rfl app0, trivial⟩ ?_
    refine ⟨⟨by omega, by omega⟩, ?_⟩
    refine ⟨by omega, ?_⟩
    refine kAt [(10, .box 10 0), (11, .box 11 0)] [(10, .box (List.replicate 2 .any)), (11, .box ([lFt (j.F), lMs (j.M.set k ⟨(j.M.getD k default).IDs, (j.M.getD k default).R⟩)].map AV.d))] ⟨rfl, ⟨zan rfl rfl, ⟨⟨rfl, _, _, _, _, rfl, dE _⟩, ⟨rfl, _, _, _, _, rfl, by
                refine zcL Mis.at hk rfl fun q hq => ?_
                match q, hq with
                | 0, _ => exact dE _
                | 1, _ => exact dE _⟩, trivial⟩, trivial⟩, wq rfl⟩ ?_
    exact ⟨rtC (a := 10) rfl rfl rfl rfl rfl rfl (zaa _), trivial⟩
  have e : bntJ j how a id p = ⟨j.F, j.M ++ [j.M.getD (a % j.M.length) default]⟩ := by unfold bntJ; rw [kG (nfc hv (by decide)), kG (nfc hv (by decide)), kG (nfc hv (by decide)), kG (nfc hv (by decide)), kG (nfc hv (by decide)), kG (nfc hv (by decide)), kI ⟨hv, hL⟩]
  rw [e]
  clear e
  repeat first | apply sT | apply sF | refine sNo (tmn hv (by decide)) ?_ | refine sYe (tmy hv (by decide)) ?_ | refine sYe (ln1 hL) ?_ | refine ⟨by decide, ?_⟩
  generalize hK : a % j.M.length = k at *
  have wk := (wrA (n := j.M.length) ha).trans (jI Nat.cast hK)
  refine oN 14 ?_
  refine ⟨bd hL, ?_⟩
  refine ⟨⟨by rw [wk]; omega, by rw [wk]; omega⟩, ?_⟩
  refine ⟨by rw [wk]; omega, ?_⟩
  refine ⟨⟨.inr rfl, by unfold maxLen; omega, by dsimp only; omega⟩, ?_⟩
  refine kAt [(10, .box 10 0), (11, .box 11 0)] [(10, .box (List.replicate 2 .any)), (11, .box ([lFt (j.F), lMs (j.M ++ [j.M.getD k default])].map AV.d))] ⟨rfl, ⟨zan rfl rfl, ⟨⟨rfl, _, _, _, _, rfl, dE _⟩, ⟨rfl, _, _, _, _, rfl, by
            refine znn Mis.at rfl fun q hq => ?_
            rw [wk]
            match q, hq with
            | 0, _ => exact dE _
            | 1, _ => exact dE _⟩, trivial⟩, trivial⟩, wq rfl⟩ ?_
  exact ⟨rtC (a := 10) rfl rfl rfl rfl rfl rfl (zaa _), trivial⟩
def tabS (j:Jns):Prop:=(∀ i,i<j.F.length->(j.F.getD i default).IDs.length<=20)/\(∀ i,i<j.M.length->(j.M.getD i default).IDs.length<=20/\(j.M.getD i default).R.length<=200)/\j.F.length<=140/\j.M.length<=140
noncomputable instance (j:Jns):Decidable (tabS j):=Classical.propDecidable _
theorem zpO {j:Jns} (h:tabS j):JnOk j:=by
 obtain⟨a,b,c,e⟩:=h
 refine⟨by omega,by omega,fun f hf=>?_,fun m hm=>?_⟩
 ·obtain⟨i,hi,rfl⟩:=kQ hf
  have:=a i hi
  rw[hZ,kH hi] at this
  exact jM this (by decide)
 obtain⟨i,hi,rfl⟩:=kQ hm
 have:=b i hi
 rw[hZ,kH hi] at this
 exact⟨jM this.1 (by decide),jM this.2 (by decide)⟩
theorem zmG (j:Jns) (hj:j.F.length<=maxLen/\j.M.length<=maxLen):Spec PP 15 [j.v] [B (decide (tabS j))]:=by
 obtain⟨hF,hM⟩:=hj
 unfold maxLen at hF hM
 refine sA Tryz.func15 ?_
 refine lOf (σ:=Nat) (fun i=>([(1,.box 1 0),(3,.d (I i))],[(1,.box ([lFt j.F,lMs j.M].map AV.d))])) (fun i=>i<=j.F.length /\ ∀ q,q<i->(j.F.getD q default).IDs.length<=20) (fun i=>j.F.length - i) 0
  ⟨rfl,⟨obD [lFt j.F,lMs j.M] rfl,trivial⟩,wq rfl⟩ ⟨jF _,fun q hq=>by omega⟩ fun i hi=>?_
 obtain⟨hi,ha⟩:=hi
 apply bY <;> intro h1
 ·have h1:i<j.F.length:=by have:=dT h1; omega
  refine⟨⟨rfl,by omega,by omega⟩,?_⟩
  apply bY <;> intro h2
  ·have h2:20<(j.F.getD i default).IDs.length:=by have h2:(20:Int)<(((j.F.getD i default).IDs.length:Nat):Int):=dT h2; omega
   refine r1B rfl (jH fun h=>?_).symm
   have:=h.1 i h1
   omega
  have h2:(j.F.getD i default).IDs.length<=20:=by have h2:¬ (20:Int)<(((j.F.getD i default).IDs.length:Nat):Int):=dF h2; omega
  refine⟨i6,?_⟩
  refine⟨i+1,⟨rfl,⟨obD [lFt j.F,lMs j.M] rfl,trivial⟩,wq rfl⟩,⟨h1,fun q hq=>?_⟩,msr h1⟩
  by_cases e:q=i
  ·subst e; exact h2
  exact ha q (by omega)
 have h1:i=j.F.length:=by have:=dF h1; omega
 subst h1
 refine lOf (σ:=Nat) (fun i=>([(1,.box 1 0),(4,.d (I i))],[(1,.box ([lFt j.F,lMs j.M].map AV.d))])) (fun i=>i<=j.M.length /\ ∀ q,q<i->(j.M.getD q default).IDs.length<=20/\(j.M.getD q default).R.length<=200) (fun i=>j.M.length - i) 0
  ⟨rfl,⟨obD [lFt j.F,lMs j.M] rfl,trivial⟩,wq rfl⟩ ⟨jF _,fun q hq=>by omega⟩ fun i hi=>?_
 obtain⟨hi,hb⟩:=hi
 apply bY <;> intro h1
 ·have h1:i<j.M.length:=by have:=dT h1; omega
  refine⟨⟨rfl,by omega,by omega⟩,?_⟩
  apply bY <;> intro h2
  ·have h2:20<(j.M.getD i default).IDs.length:=by have h2:(20:Int)<(((j.M.getD i default).IDs.length:Nat):Int):=dT h2; omega
   repeat first | apply sT | apply sF
   refine r1B rfl (jH fun h=>?_).symm
   have:=(h.2.1 i h1).1
   omega
  have h2:(j.M.getD i default).IDs.length<=20:=by have h2:¬ (20:Int)<(((j.M.getD i default).IDs.length:Nat):Int):=dF h2; omega
  repeat first | apply sT | apply sF
  refine⟨⟨rfl,by omega,by omega⟩,?_⟩
  repeat first | apply sT | apply sF
  apply bY <;> intro h3
  ·have h3:200<(j.M.getD i default).R.length:=by have h3:(200:Int)<(((j.M.getD i default).R.length:Nat):Int):=dT h3; omega
   refine r1B rfl (jH fun h=>?_).symm
   have:=(h.2.1 i h1).2
   omega
  have h3:(j.M.getD i default).R.length<=200:=by have h3:¬ (200:Int)<(((j.M.getD i default).R.length:Nat):Int):=dF h3; omega
  refine⟨i6,?_⟩
  refine⟨i+1,⟨rfl,⟨obD [lFt j.F,lMs j.M] rfl,trivial⟩,wq rfl⟩,⟨h1,fun q hq=>?_⟩,msr h1⟩
  by_cases e:q=i
  ·subst e; exact⟨h2,h3⟩
  exact hb q (by omega)
 have h1:i=j.M.length:=by have:=dF h1; omega
 subst h1
 apply bY <;> intro h2
 ·have h2:j.F.length<=140:=by have:=dT h2; omega
  repeat first | apply sT | apply sF
  refine r1B rfl (k9.2 ⟨fun h=>⟨ha,hb,h2,by omega⟩,fun h=>?_⟩)
  have:=h.2.2.2
  omega
 have h2:¬ j.F.length<=140:=by have:=dF h2; omega
 repeat first | apply sT | apply sF
 exact r1B rfl (jH fun h=>h2 h.2.2.1).symm
theorem zkR (d:Day) (hn:d.R.length<=1000000):Spec PP 20 [d.v] [.agg [lFt (tabR d).1,lMs (tabR d).2.1,I (tabR d).2.2]]:=by
 have:=znf d hn
 rwa [zrJ] at this
theorem zrX {s:Svc} {b:Brn} {l:List Rpt}:(rsnR s b l).1.length<=10000:=by
 unfold rsnR
 split
 ·simp
 rename_i h0
 have h0:givE s b l=0:=jL h0
 obtain⟨bw,bh,-,-⟩:=zaf (zda h0).s.c.m
 have hn:s.n<=49 * 49:=jbb (by show s.c.M.W.toNat<=49; omega) (by show s.c.M.H.toNat<=49; omega)
 have:=ziv s l (l.map (alwP s b)) s.n
 show (rsnK s l (l.map (alwP s b)) s.n).length<=10000
 omega
theorem zrI (d:Day):JnLt 10000 ⟨(tabR d).1,(tabR d).2.1⟩:=by
 unfold tabR
 split
 ·exact⟨jF _,jF _,fun f hf=>(by cases hf),fun m hm=>(by cases hm)⟩
 rename_i h0
 have h7:=sig7 (zaZ (jL h0))
 have hp:2 ^ (sigL d.R).length<=2 ^ 7:=qT (by decide) h7
 refine⟨?_,?_,fun f hf=>?_,fun m hm=>?_⟩
 ·show (srtF _).length<=_
  unfold srtF
  rw[qG]
  exact jM (zbD _ _ _) (by omega)
 ·show (srtM _).length<=_
  unfold srtM
  rw[qG]
  exact jM (zbD _ _ _) (by omega)
 ·have h:=(jap _ _).mem_iff.1 hf
  obtain⟨m,_,_,_,rfl⟩:=za6 h
  exact jM (zaG _ _ _) (by omega)
 have h:=(jap _ _).mem_iff.1 hm
 obtain⟨m,_,_,_,rfl⟩:=za6 h
 refine⟨jM (zaG _ _ _) (by omega),?_⟩
 show (misR d _).length<=_
 unfold misR
 split
 ·exact zrX
 exact jF _
theorem zpz (d:Day) (how a:Nat) (id:Int) (p:Place) (hh:how<=255) (ha:a<=255):∃ x:Jns,JnOk x/\Spec PP 27 [.agg [lFt (tabR d).1,lMs (tabR d).2.1],.d (.int .u8 (how:Int)),.d (.int .u8 (a:Int)),N id,p.v] [x.v]:=by
 have h:=zrI d
 refine⟨bntJ ⟨(tabR d).1,(tabR d).2.1⟩ how a id p,(ztf h how a id p).ok (by omega),?_⟩
 have hF:(tabR d).1.length<=10000:=h.F
 have hM:(tabR d).2.1.length<=10000:=h.M
 exact zrw ⟨(tabR d).1,(tabR d).2.1⟩ how a id p hh ha (jM hF (by decide)) (jM hM (by decide)) (fun i hi=>jM (h.f _ (getF hi)) (by decide)) (fun i hi=>jM (h.m _ (zlZ hi)).2 (by decide))
theorem s_JoinCheckTables (d:Day) (j:Jns) (how:Int) (hh:0<=how/\how<=255) (a:Int) (ha:0<=a/\a<=255) (id:Int) (p:Place) (hj:j.F.length<=maxLen/\j.M.length<=maxLen) :
  Spec PP 7 [d.v,j.v,.d (.int .u8 how),.d (.int .u8 a),N id,p.v] [B true]:=by
 obtain⟨how,rfl⟩:=Int.eq_ofNat_of_zero_le hh.1
 obtain⟨a,rfl⟩:=Int.eq_ofNat_of_zero_le ha.1
 refine sA Tryz.func7 ?_
 refine cP zpA rfl rfl ?_
 refine cP (zrx d) rfl rfl ?_
 apply bY <;> intro h0
 ·repeat first | apply sT | apply sF
  exact r1B rfl rfl
 have hf:few7 d:=by simpa using h0
 have hn:=zs1 hf
 repeat first | apply sT | apply sF
 refine cP (zmG j hj) rfl rfl ?_
 repeat first | apply sT | apply sF
 apply bY <;> intro h1
 ·exact r1B rfl rfl
 have h1:tabS j:=by simpa using h1
 have ok:=zpO h1
 have g5:=zkR d (by omega)
 obtain⟨x,hx,hB⟩:=zpz d how a id p (by omega) (by omega)
 have g1:=zc6 d ok (by omega)
 have g2:=zcr d ok (by omega)
 have g3:=zc6 d hx (by omega)
 have g4:=zcr d hx (by omega)
 generalize ctbE d j=x1 at g1 g2
 generalize ctbE d x=x2 at g3 g4
 refine oN 10 ?_
 refine oRo g5 rfl rfl ?_
 refine oRo hB rfl rfl ?_
 refine oN 20 ?_
 repeat first | apply sT | apply sF
 refine oP g1 rfl rfl ?_
 refine oP g2 rfl rfl ?_
 repeat first | apply sT | apply sF
 refine sYe (by simp) ?_
 repeat first | apply sT | apply sF
 refine oP g3 rfl rfl ?_
 refine oP g4 rfl rfl ?_
 repeat first | apply sT | apply sF
 exact r1B rfl (by simp)
end Go.Pg
