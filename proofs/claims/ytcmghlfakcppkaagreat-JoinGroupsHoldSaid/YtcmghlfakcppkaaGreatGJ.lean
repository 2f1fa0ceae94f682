/- Lemmas, joined by program. -/
import Derived.Test.YtcmghlfakcppkaaGreatGI
set_option maxHeartbeats 4000000
set_option linter.all false
set_option maxRecDepth 100000
namespace Go.Pg
open Go.Proofs Go.RowKit Go.Sort Go.Shelf
theorem zjI:∀ {o:List (List Int)},(∀ g∈o,0<g.length)->o.length<=o.flatten.length
 | [],_=>jE _
 | g :: r,h=>by
  have h1:=h g (wG ..)
  have h2:=zjI (o:=r) fun s hs=>h s (jaa _ hs)
  rw[List.flatten_cons,jR,jaP]; omega
theorem s_JoinGroupsHold (d:Day) (a:Int) (ha:0<=a/\a<=255) (b:Int) (hb:0<=b/\b<=255):Spec PP 3 [d.v,.d (.int .u8 a),.d (.int .u8 b)] [B true]:=by
 obtain⟨a,rfl⟩:=Int.eq_ofNat_of_zero_le ha.1
 obtain⟨b,rfl⟩:=Int.eq_ofNat_of_zero_le hb.1
 refine zc0 [9,21,36] Tryz.func3 rfl (by kernel_rfl) rfl ?_
 refine cP zmy rfl rfl ?_
 refine cP (zn6 d) rfl rfl ?_
 apply bY <;> intro h0
 ·exact r1B rfl rfl
 have hf:few7 d:=by simpa using h0
 have hn:=zph hf
 have hSg:=zgp d (by omega)
 have hG:=zln d (by omega) fun hd=>by rw[zbd]; exact zjK hf hd
 have hP:=zlm d (by omega)
 by_cases hd:dayE d=0
 case neg=>
  have e1:sigR d=([],dayE d):=by unfold sigR; rw[kG hd]
  have e2:grpR d=([],dayE d):=by unfold grpR; rw[kG hd]
  have e3:prvR d=([],dayE d):=by unfold prvR; rw[kG hd]
  rw[e1] at hSg
  rw[e2] at hG
  rw[e3] at hP
  refine cR hSg rfl rfl ?_
  refine cR hG rfl rfl ?_
  refine cR hP rfl rfl ?_
  refine sYe (by simpa using hd) ?_
  repeat first | apply sT | apply sF
  refine sNo (by simpa using hd) ?_
  repeat first | apply sT | apply sF
  refine sYe (by simp) ?_
  repeat first | apply sT | apply sF
  exact r1B rfl (by simp)
 have ok:=zcS hd
 have h7:=zjK hf hd
 rw[<- zbd] at h7
 have e1:sigR d=(sigL d.R,0):=by unfold sigR; rw[kF (fun hh=>hh hd)]
 rw[e1] at hSg
 by_cases hl0:(bsts d).length=0
 ·have e2:grpR d=([],9):=by unfold grpR; rw[kF (fun hh=>hh hd),kG hl0]
  have e3:prvR d=([],9):=by unfold prvR; rw[kF (fun hh=>hh hd),kG hl0]
  rw[e2] at hG
  rw[e3] at hP
  refine cR hSg rfl rfl ?_
  refine cR hG rfl rfl ?_
  refine cR hP rfl rfl ?_
  repeat first | apply sT | apply sF
  exact r1B rfl rfl
 have e2:grpR d=(grpK (bsts d) (sigL d.R) (sigL d.R).length,0):=by unfold grpR; rw[kF (fun hh=>hh hd),kF hl0]
 have e3:prvR d=(prvK (bsts d) ((bsts d).getD 0 []).length,0):=by unfold prvR; rw[kF (fun hh=>hh hd),kF hl0]
 rw[e2] at hG
 rw[e3] at hP
 have l0:bsts d ≠ []:=fun e=>hl0 (by rw[e]; rfl)
 have ld:∀ p∈bsts d,divB (sigL d.R) p=true:=fun p hp=>((zm1 ok.lt _ p).1 (zcs hp)).1
 have he:=zmr l0 ok.lt ld
 have hg:=zjC he ok.lt (sigL d.R).length (jE _)
 rw[jZ] at hg
 have inG:∀ s∈prvK (bsts d) ((bsts d).getD 0 []).length,s∈grpK (bsts d) (sigL d.R) (sigL d.R).length:=fun s hs=>by
  refine ziP l0 ok.lt ld hg fun p hp=>?_
  unfold prvK at hs
  have h1:=(jap.1 hs).2
  unfold alwS at h1
  rw[jY,jan] at h1
  have h2:hasS s p=true:=by simpa using h1 p hp
  unfold hasS at h2
  obtain⟨x,hx,e⟩:=kS.1 h2
  rw[<- kO e]; exact hx
 refine cR hSg rfl rfl ?_
 refine cR hG rfl rfl ?_
 refine cR hP rfl rfl ?_
 repeat first | apply sT | apply sF
 have pL:(prvK (bsts d) ((bsts d).getD 0 []).length).length<=1000000:=by
  have h1:=zg2 (bsts d) ((bsts d).getD 0 []).length
  have h2:=(zcd ok (zcs (gd1 (show 0<(bsts d).length by omega) []))).1
  omega
 have pS:∀ s∈prvK (bsts d) ((bsts d).getD 0 []).length,s.length<=1000000:=fun s hs=>by
  have h1:=(List.sublist_flatten_of_mem (inG s hs)).length_le
  rw[hg.len (zaQ ok.lt)] at h1; omega
 have yS:∀ x∈sigL d.R,∀ y∈sigL d.R,x≠y->(samR d x y).2=0/\((samR d x y).1.Ans==2)=yesB (bsts d) x y:=fun x hx y hy hxy=>by
  have pe:parE d x y=0:=by
   unfold parE
   rw[kF (fun hh=>hh hd),kF,kF hxy]
   rw[jaN]
   refine jC.2 fun z hz=>kD.2 ?_
   rcases kX.1 hz with rfl | hz
   ·exact hx
   rw[kH.1 hz]; exact hy
  have es:samR d x y=(vdtR (bsts d) x y,0):=by unfold samR; rw[kF (fun hh=>hh pe),kF hl0]
  rw[es]; exact⟨rfl,rfl⟩
 generalize bsts d=l at *
 generalize prvK l (l.getD 0 []).length=m at *
 obtain⟨o,hO⟩:∃ o,o=grpK l (sigL d.R) (sigL d.R).length:=⟨_,rfl⟩
 rw[<- hO] at inG hg
 obtain⟨ids,hI⟩:∃ ids,ids=sigL d.R:=⟨_,rfl⟩
 rw[<- hI] at hg yS h7
 refine kAt [(1,.d (.int .u8 (a:Int))),(2,.d (.int .u8 (b:Int))),(3,.box 3 0),(7,.d (.bool true)),(8,.d (lI ids)),(10,.d (lII o)),(12,.d (lII m)),(13,.d (I 0))] [(3,.box (d.ds.map AV.d))]
  ⟨rfl,⟨obD d.ds rfl,trivial⟩,avQ rfl,avQ rfl,avQ rfl,avQ rfl,avE rfl (show D.eqv (lI (sigL d.R)) (lI ids) by rw[hI]; exact dE _),avE rfl (show D.eqv (lII (grpK l (sigL d.R) (sigL d.R).length)) (lII o) by rw[hO]; exact dE _),avQ rfl,avQ rfl,trivial⟩ ?_
 have nod:=hg.nod
 have fl:o.flatten.length=ids.length:=hg.len (by rw[hI]; exact zaQ ok.lt)
 have oL:o.length<=5:=by have:=zjI hg.pos; omega
 have sO:∀ s∈o,s.length<=5:=fun s hs=>by have:=(List.sublist_flatten_of_mem hs).length_le; omega
 have tk:∀ i,(o.take i).flatten.length<=o.flatten.length:=fun i=>by
  have e:o.flatten=(o.take i).flatten++(o.drop i).flatten:=by rw[<- List.flatten_append,List.take_append_drop]
  rw[e,jR]; omega
 refine lOf (σ:=Nat) (fun i=>([(1,.d (.int .u8 (a:Int))),(2,.d (.int .u8 (b:Int))),(3,.box 3 0),(7,.d (.bool true)),(8,.d (lI ids)),(10,.d (lII o)),(12,.d (lII m)),(13,.d (I 0)),(14,.own 69),(15,.d (I (o.take i).flatten.length)),(16,.d (I i))],[(3,.box (d.ds.map AV.d)),(69,wmO (whoO o) (o.take i).flatten)])) (fun i=>i<=o.length) (fun i=>o.length - i) 0
  ⟨rfl,⟨obD d.ds rfl,obMp rfl ⟨rfl,rfl,fun j hj=>absurd hj (qD _)⟩,trivial⟩,wq rfl⟩ (jF _) fun i hi=>?_
 have hi:i<=o.length:=hi
 apply bY <;> intro g0
 ·have gi:i<o.length:=by have:=dT g0; omega
  have hsi:=sO _ (gd1 gi [])
  have ti:=tk i
  have e3:(o.take (i+1)).flatten=(o.take i).flatten++o.getD i []:=by
   rw[zaM gi [],List.flatten_append]; simp
  have hnd:((o.take i).flatten++o.getD i []).Nodup:=by
   rw[<- e3]
   have e2:o.flatten=(o.take (i+1)).flatten++(o.drop (i+1)).flatten:=by rw[<- List.flatten_append,List.take_append_drop]
   rw[e2] at nod
   exact (jaM.1 nod).1
  refine lOf (σ:=Nat) (fun k=>([(1,.d (.int .u8 (a:Int))),(2,.d (.int .u8 (b:Int))),(3,.box 3 0),(7,.d (.bool true)),(8,.d (lI ids)),(10,.d (lII o)),(12,.d (lII m)),(13,.d (I 0)),(14,.own 69),(15,.d (I (((o.take i).flatten.length+k:Nat)))),(16,.d (I i)),(17,.d (I k))],[(3,.box (d.ds.map AV.d)),(69,wmO (whoO o) ((o.take i).flatten++(o.getD i []).take k))])) (fun k=>k<=(o.getD i []).length) (fun k=>(o.getD i []).length - k) 0
   ⟨rfl,⟨obD d.ds rfl,obMp rfl (by rw[List.take_zero,jaJ]; exact dE _),trivial⟩,wq rfl⟩ (jF _) fun k hk=>?_
  have hk:k<=(o.getD i []).length:=hk
  refine⟨⟨rfl,by omega,(show ((i:Nat):Int)<((o.length:Nat):Int) by omega)⟩,?_⟩
  apply bY <;> intro g4
  ·have g4:k<(o.getD i []).length:=by have:((k:Nat):Int)<(((o.getD i []).length:Nat):Int):=dT g4; omega
   refine⟨⟨rfl,by omega,(show ((i:Nat):Int)<((o.length:Nat):Int) by omega)⟩,?_⟩
   refine⟨⟨rfl,by omega,(show ((k:Nat):Int)<(((o.getD i []).length:Nat):Int) by omega)⟩,?_⟩
   refine⟨⟨kInt,rfl⟩,?_⟩
   refine⟨i6,?_⟩
   refine⟨i6,?_⟩
   refine⟨k+1,⟨rfl,⟨obD d.ds rfl,obMp rfl ?_,trivial⟩,wq rfl⟩,g4,msr g4⟩
   rw[zaM g4 0,<- List.append_assoc]
   refine put_w (fun hm=>?_) (ze7 nod gi (gd1 g4 0)).symm
   have:=jaM.1 hnd
   have hx:(o.getD i []).getD k 0∈o.getD i []:=gd1 g4 0
   rcases kQ.1 hm with hm | hm
   ·exact this.2.2 _ hm _ hx rfl
   obtain⟨j,hj,e⟩:=kM hm
   rw[jQ] at hj
   rw[jbh] at e
   have e2:(o.getD i []).getD k 0=(o.getD i [])[k]:=by rw[hX,hZ g4]; rfl
   have e:_=(o.getD i []).getD k 0:=e
   rw[e2] at e
   exact kI.1 this.2.1 j k (by omega) g4 (by omega) e
  have g4:k=(o.getD i []).length:=by have:¬ ((k:Nat):Int)<(((o.getD i []).length:Nat):Int):=dF g4; omega
  subst g4
  rw[jZ]
  refine⟨i6,?_⟩
  refine⟨i+1,⟨rfl,⟨obD d.ds rfl,obMp rfl (by rw[e3]; exact dE _),trivial⟩,avQ rfl,avQ rfl,avQ rfl,avQ rfl,avQ rfl,avQ rfl,avQ rfl,avQ rfl,avQ rfl,avI rfl (by rw[e3,jR]),avQ rfl,trivial⟩,gi,msr gi⟩
 have gi:i=o.length:=by have:=dF g0; omega
 subst gi
 rw[jZ]
 refine sNo (show (((o.flatten.length:Nat):Int) != ((ids.length:Nat):Int))=false by rw[fl]; simp) ?_
 repeat first | apply sT | apply sF
 refine sNo (show (((((keyZ o.flatten).length:Nat)):Int) != ((o.flatten.length:Nat):Int))=false by rw[kN]; simp) ?_
 repeat first | apply sT | apply sF
 refine kAt [(1,.d (.int .u8 (a:Int))),(2,.d (.int .u8 (b:Int))),(3,.box 3 0),(7,.d (.bool true)),(8,.d (lI ids)),(10,.d (lII o)),(12,.d (lII m)),(14,.d (wmD (whoO o) o.flatten))] [(3,.box (d.ds.map AV.d))]
  ⟨rfl,⟨obD d.ds rfl,trivial⟩,avQ rfl,avQ rfl,avQ rfl,avQ rfl,avQ rfl,avQ rfl,avQ rfl,(show AVle _ _ (.own 69) (.d (wmD (whoO o) o.flatten)) from⟨rfl,_,_,_,rfl,dE _⟩),trivial⟩ ?_
 refine lOf (σ:=Nat) (fun i=>([(1,.d (.int .u8 (a:Int))),(2,.d (.int .u8 (b:Int))),(3,.box 3 0),(7,.d (.bool true)),(8,.d (lI ids)),(10,.d (lII o)),(12,.d (lII m)),(14,.d (wmD (whoO o) o.flatten)),(18,.d (I i))],[(3,.box (d.ds.map AV.d))])) (fun i=>i<=m.length) (fun i=>m.length - i) 0
  ⟨rfl,⟨obD d.ds rfl,trivial⟩,wq rfl⟩ (jF _) fun i hi=>?_
 have hi:i<=m.length:=hi
 apply bY <;> intro g0
 ·have gi:i<m.length:=by have:=dT g0; omega
  have hm:=gd1 gi ([]:List Int)
  have hSm:=pS _ hm
  refine lOf (σ:=Nat) (fun k=>([(1,.d (.int .u8 (a:Int))),(2,.d (.int .u8 (b:Int))),(3,.box 3 0),(7,.d (.bool true)),(8,.d (lI ids)),(10,.d (lII o)),(12,.d (lII m)),(14,.d (wmD (whoO o) o.flatten)),(18,.d (I i)),(19,.d (.bool ((o.take k).any fun g=>decide (m.getD i []=g)))),(20,.d (I k))],[(3,.box (d.ds.map AV.d))])) (fun k=>k<=o.length) (fun k=>o.length - k) 0
   ⟨rfl,⟨obD d.ds rfl,trivial⟩,wq rfl⟩ (jF _) fun k hk=>?_
  have hk:k<=o.length:=hk
  apply bY <;> intro g1
  ·have g1:k<o.length:=by have:=dT g1; omega
   have es:((o.take (k+1)).any fun g=>decide (m.getD i []=g))=(((o.take k).any fun g=>decide (m.getD i []=g)) || decide (m.getD i []=o.getD k [])):=by
    rw[zaM g1 [],List.any_append]; simp
   refine oN 10 ?_
   refine⟨⟨rfl,by omega,(show ((i:Nat):Int)<((m.length:Nat):Int) by omega)⟩,?_⟩
   refine⟨⟨rfl,by omega,(show ((k:Nat):Int)<((o.length:Nat):Int) by omega)⟩,?_⟩
   refine oP (zmx (m.getD i []) (o.getD k []) hSm) rfl rfl ?_
   cases h3:(o.take k).any fun g=>decide (m.getD i []=g) with
   | true=>
    repeat first | apply sT | apply sF
    refine⟨i6,?_⟩
    refine⟨k+1,⟨rfl,⟨obD d.ds rfl,trivial⟩,avQ rfl,avQ rfl,avQ rfl,avQ rfl,avQ rfl,avQ rfl,avQ rfl,avQ rfl,avQ rfl,avBl rfl (by rw[es,h3]; rfl),avQ rfl,trivial⟩,g1,msr g1⟩
   | false=>
   repeat first | apply sT | apply sF
   refine⟨i6,?_⟩
   refine⟨k+1,⟨rfl,⟨obD d.ds rfl,trivial⟩,avQ rfl,avQ rfl,avQ rfl,avQ rfl,avQ rfl,avQ rfl,avQ rfl,avQ rfl,avQ rfl,avBl rfl (by rw[es,h3]; rfl),avQ rfl,trivial⟩,g1,msr g1⟩
  have g1:k=o.length:=by have:=dF g1; omega
  subst g1
  have ea:((o.take o.length).any fun g=>decide (m.getD i []=g))=true:=by
   rw[jZ]
   exact kS.2 ⟨_,inG _ hm,jG rfl⟩
  rw[ea]
  repeat first | apply sT | apply sF
  refine⟨i6,?_⟩
  exact⟨i+1,⟨rfl,⟨obD d.ds rfl,trivial⟩,wq rfl⟩,gi,msr gi⟩
 clear g0
 apply bY <;> intro h12
 ·exact r1B rfl rfl
 have h12:2<=ids.length:=by have:¬ (ids.length:Int)<2:=dF h12; omega
 have wa:=wr8 (a:=a) (n:=ids.length) (by omega)
 have wb:=wr8 (a:=b) (n:=ids.length) (by omega)
 have ka:a % ids.length<ids.length:=jaf _ (by omega)
 have kb:b % ids.length<ids.length:=jaf _ (by omega)
 have nz:((ids.length:Nat):Int)≠0:=by omega
 refine⟨nz,?_⟩
 refine⟨⟨rfl,(by rw[wa]; omega),(by rw[wa]; omega)⟩,?_⟩
 refine⟨nz,?_⟩
 refine⟨⟨rfl,(by rw[wb]; omega),(by rw[wb]; omega)⟩,?_⟩
 obtain⟨A,hA⟩:∃ A,A=ids.getD ((IntKind.wrap .i64 ((a:Nat):Int)).tmod ((ids.length:Nat):Int)).toNat 0:=⟨_,rfl⟩
 obtain⟨B',hB'⟩:∃ A,A=ids.getD ((IntKind.wrap .i64 ((b:Nat):Int)).tmod ((ids.length:Nat):Int)).toNat 0:=⟨_,rfl⟩
 refine kAt [(3,.box 3 0),(7,.d (.bool true)),(14,.d (wmD (whoO o) o.flatten)),(22,.d (I A)),(23,.d (I B'))] [(3,.box (d.ds.map AV.d))]
  ⟨rfl,⟨obD d.ds rfl,trivial⟩,avQ rfl,avQ rfl,avQ rfl,avI rfl hA.symm,avI rfl hB'.symm,trivial⟩ ?_
 have mA:A∈ids:=by
  rw[hA,wa,wD]
  exact gd1 ka 0
 have mB:B'∈ids:=by
  rw[hB',wb,wD]
  exact gd1 kb 0
 clear hA hB' wa wb ka kb nz
 have fA:A∈o.flatten:=hg.mem A mA
 have fB:B'∈o.flatten:=hg.mem B' mB
 apply bY <;> intro h13
 ·exact r1B rfl rfl
 have h13:A≠B':=by simpa using h13
 obtain⟨s0,sy⟩:=yS A mA B' mB h13
 have cM:=zhh d A B' (by omega)
 rw[s0] at cM
 generalize (samR d A B').1=V at *
 refine cR cM rfl rfl ?_
 refine⟨⟨kInt,rfl⟩,.int .i64 (whoO o A),D.eqv_of_eq (lk_w (whoO o) fA),?_⟩
 repeat first | apply sT | apply sF
 refine sYe (jG (by rw[idxZ,kN]; exact jaD.2 fA)) ?_
 repeat first | apply sT | apply sF
 refine⟨⟨kInt,rfl⟩,.int .i64 (whoO o A),D.eqv_of_eq (lk_w (whoO o) fA),?_⟩
 refine⟨⟨kInt,rfl⟩,.int .i64 (whoO o B'),D.eqv_of_eq (lk_w (whoO o) fB),?_⟩
 repeat first | apply sT | apply sF
 refine r1B rfl ?_
 have hw:=hg.who mA mB
 show ((V.Ans==2)==(whoO o A==whoO o B'))=true
 rw[sy,jae,kY,jae]
 exact hw
end Go.Pg
