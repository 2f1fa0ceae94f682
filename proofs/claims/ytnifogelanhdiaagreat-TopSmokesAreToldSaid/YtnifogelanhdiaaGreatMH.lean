/- Lemmas, joined by program. -/
import Derived.Test.YtnifogelanhdiaaGreatMG
set_option maxHeartbeats 4000000
set_option linter.all false
set_option maxRecDepth 100000
namespace Go.Pg
open Go.Proofs Go.RowKit Go.Sort
theorem zqG {s:Svc} {b b':Brn} {r:Rpt} {p:Place} (hr:b.Rise=b'.Rise) (h1:b.From<=b'.From) (h2:b'.To<=b.To) (ht:r.Kind=1->b'.From<=r.Tick/\r.Tick<=b'.To) (h:allB s b r p=true):allB s b' r p=true:=by
 unfold allB at *
 by_cases hk:r.Kind=1
 ·rw[kH hk] at *
  refine zdq hr (fun _=>?_) h
  have:=ht hk
  unfold within
  simpa using this
 rw[kG hk] at *
 rw[jY] at *
 rw[qF] at *
 intro hh
 refine h (zdq hr.symm (fun hw=>?_) hh)
 unfold within at *
 simp only[jP,kA] at *
 omega
abbrev Fst (p:List (List Int)):Prop:=p.Pairwise fun a b=>a.getD 0 0<b.getD 0 0
theorem putS_mem {p:List (List Int)} {l s:List Int}:s∈putS p l ↔ s=l \/ s∈p:=by
 unfold putS
 rw[kR,kR,kM]
 constructor
 ·rintro ((h | h) | h)
  ·exact .inr (jav h)
  ·exact .inl h
  exact .inr (ja4 h)
 rintro (h | h)
 ·exact .inl (.inr h)
 rw[<- List.take_append_drop (plcS p l) p,kR] at h
 rcases h with h | h
 ·exact .inl (.inl h)
 exact .inr h
theorem zkk (x:List Int) (r:List (List Int)) (l:List Int):putS (x :: r) l=if x.getD 0 0<l.getD 0 0 then x :: putS r l else l :: x :: r:=by
 unfold putS plcS
 by_cases h:x.getD 0 0<l.getD 0 0
 ·rw[kH h,List.takeWhile_cons_of_pos (by simpa using h)]; simp
 rw[kG h,List.takeWhile_cons_of_neg (by simpa using h)]; simp
theorem zih:∀ {p:List (List Int)} {l:List Int},Fst p->(∀ s∈p,s.getD 0 0≠l.getD 0 0)->Fst (putS p l)
 | [],l,_,_=>by
  show Fst ([] ++ [l] ++ [])
  simp
 | x :: r,l,hp,hn=>by
  obtain⟨p1,p2⟩:=List.pairwise_cons.1 hp
  rw[zkk]
  split
  ·rename_i h
   refine List.pairwise_cons.2 ⟨fun s hs=>?_,zih p2 fun s hs=>hn s (qS _ hs)⟩
   rcases putS_mem.1 hs with rfl | hs
   ·exact h
   exact p1 s hs
  rename_i h
  have hx:=hn x (wB ..)
  refine List.pairwise_cons.2 ⟨fun s hs=>?_,hp⟩
  rcases k9.1 hs with rfl | hs
  ·omega
  have:=p1 s hs; omega
theorem zkj (p:List (List Int)) (l:List Int):(putS p l).flatten.Perm (p.flatten++l):=by
 unfold putS
 rw[List.flatten_append,List.flatten_append]
 have e:p.flatten=(p.take (plcS p l)).flatten++(p.drop (plcS p l)).flatten:=by rw[<- List.flatten_append,List.take_append_drop]
 rw[e,List.append_assoc,List.append_assoc]
 refine List.Perm.append_left _ ?_
 simpa using List.perm_append_comm
theorem zfq:∀ (of p:List (List Int)),Fst p->(∀ s∈p,0<s.length)->(p.flatten++of.flatten).Nodup->Fst (of.foldl prt1 p)/\(of.foldl prt1 p).flatten.Perm (p.flatten++of.flatten) /\ ∀ s,s∈of.foldl prt1 p ↔ s∈p \/ (s∈of/\0<s.length)
 | [],p,h1,_,_=>⟨h1,by simp,fun s=>by simp⟩
 | l :: r,p,h1,h2,h3=>by
  rw[jaS]
  by_cases h0:l.length=0
  ·have el:l=[]:=jag.1 h0
   subst el
   have e1:prt1 p []=p:=rfl
   rw[e1]
   obtain⟨a,b,c⟩:=zfq r p h1 h2 (by simpa using h3)
   refine⟨a,by simpa using b,fun s=>?_⟩
   rw[c s]
   refine or_congr_right ⟨fun⟨x,y⟩=>⟨qS _ x,y⟩,fun⟨x,y⟩=>?_⟩
   rcases k9.1 x with rfl | x
   ·exact absurd y (Nat.lt_irrefl _)
   exact⟨x,y⟩
  have e1:prt1 p l=putS p l:=by unfold prt1; rw[kG h0]
  rw[e1]
  rw[List.flatten_cons,<- List.append_assoc] at h3
  have hn:=(jaz.1 h3).1
  have hd:=(jaz.1 hn).2.2
  have hf:∀ s∈p,s.getD 0 0≠l.getD 0 0:=fun s hs e=>by
   have a1:s.getD 0 0∈p.flatten:=List.mem_flatten.2 ⟨s,hs,gd1 (h2 s hs) 0⟩
   have a2:l.getD 0 0∈l:=gd1 (by omega) 0
   exact hd _ a1 _ a2 e
  have hp:=zkj p l
  obtain⟨a,b,c⟩:=zfq r (putS p l) (zih h1 hf) (fun s hs=>by
   rcases putS_mem.1 hs with rfl | hs
   ·omega
   exact h2 s hs) ((hp.append_right r.flatten).nodup_iff.2 h3)
  refine⟨a,?_,fun s=>?_⟩
  ·rw[List.flatten_cons,<- List.append_assoc]
   exact b.trans (hp.append_right _)
  rw[c s,putS_mem]
  constructor
  ·rintro ((rfl | h) | ⟨h,h'⟩)
   ·exact .inr ⟨wB ..,by omega⟩
   ·exact .inl h
   exact .inr ⟨qS _ h,h'⟩
  rintro (h | ⟨h,h'⟩)
  ·exact .inl (.inr h)
  rcases k9.1 h with rfl | h
  ·exact .inl (.inl rfl)
  exact .inr ⟨h,h'⟩
theorem zb1 {of:List (List Int)} (hn:of.flatten.Nodup):Fst (prtO of)/\(prtO of).flatten.Perm of.flatten /\ ∀ s,s∈prtO of ↔ s∈of/\0<s.length:=by
 obtain⟨a,b,c⟩:=zfq of [] .nil (fun s hs=>by cases hs) (by simpa using hn)
 exact⟨a,b.trans (by simp),fun s=>by rw[show prtO of=of.foldl prt1 [] from rfl,c s]; simp⟩
theorem zoj {s:List Int} (h:s.Pairwise (· < ·)) (h0:0<s.length):setB s=true:=by
 unfold setB risB
 rw[jP]
 refine⟨jC.2 fun j hj=>?_,jG h0⟩
 rw[kI] at hj
 refine jG ?_
 rw[hU,hU,kF (show j<s.length by omega),kF (show j+1<s.length by omega)]
 exact kV.1 h j (j+1) _ _ (by omega)
theorem znJ {d:Day} (h:DayOk d) {of:List (List Int)} (hs:∀ s∈of,s.Pairwise (· < ·)) (hp:of.flatten.Perm (sigK d.R)):of.flatten.Nodup/\divB (sigL d.R) (prtO of)=true:=by
 have hl:(sigL d.R).Perm (sigK d.R):=qW _ _
 have hn:of.flatten.Nodup:=(hp.trans hl.symm).nodup_iff.2 (zaA h.lt)
 obtain⟨a,b,c⟩:=zb1 hn
 refine⟨hn,?_⟩
 unfold divB
 rw[jP,jC]
 refine⟨fun i hi=>?_,jG ?_⟩
 ·rw[kI] at hi
  have hm:=(c _).1 (gd1 hi [])
  rw[zoj (hs _ hm.1) hm.2,kN]
  unfold fstB
  by_cases h0:i=0
  ·rw[jG h0]; rfl
  rw[jH h0,wL]
  refine jG ?_
  have:=kV.1 a (i - 1) i (by omega) hi (by omega)
  rw[hU (l:=prtO of),hU (l:=prtO of),kF (show i - 1<_ by omega),kF hi]
  exact this
 have hs':Srt ((prtO of).flatten.mergeSort fun x y=>decide (x<=y)):=List.pairwise_mergeSort (fun a b c=>by simp only[kA]; omega) (fun a b=>by simp only[jX,kA]; omega) _
 exact zdJ hs' (zix h.lt) (((qW _ _).trans (b.trans hp)).trans hl.symm)
theorem zmu {of:List (List Int)} (hn:of.flatten.Nodup) {x y:Int} (hx:x∈of.flatten) (hy:y∈of.flatten):togB x y (prtO of)=true ↔ whoO of x=whoO of y:=by
 obtain⟨a,b,c⟩:=zb1 hn
 obtain⟨m,hm,mx⟩:=zbz.1 hx
 obtain⟨k,hk,ky⟩:=zbz.1 hy
 rw[zcl hn hm mx,zcl hn hk ky]
 unfold togB
 rw[kL]
 constructor
 ·rintro⟨s,hs,hb⟩
  unfold bthB at hb
  rw[jP] at hb
  have h1:=kD.1 hb.1
  have h2:=kD.1 hb.2
  obtain⟨j,hj,rfl⟩:=kP ((c s).1 hs).1
  have e:of.getD j []=of[j]:=by rw[hU,kF hj]; rfl
  rw[<- e] at h1 h2
  rw[<- zcl hn hm mx,<- zcl hn hk ky,zcl hn hj h1,zcl hn hj h2]
 intro e
 have e:m=k:=by omega
 subst e
 refine⟨of.getD m [],(c _).2 ⟨gd1 hm [],List.length_pos_of_mem mx⟩,?_⟩
 unfold bthB
 rw[jP]
 exact⟨kD.2 mx,kD.2 ky⟩
theorem zjd {d:Day} (h:dayE d=0) {id:Int} (hid:(sigL d.R).contains id=true) {p:List (List Int)} (hp:p∈bsts d) {s:List Int} (hs:s∈p) (hi:id∈s) {q:Place} (hq:q∈plsD d s):(staR d id).2=0/\q∈(staR d id).1:=by
 have hl:(bsts d).length≠0:=fun e=>by rw[jag.1 e] at hp; cases hp
 have e:staR d id=(plsL d.s.c.M (staB d id),0):=by
  unfold staR
  rw[kG (fun hh=>hh h),kG (by rw[hid]; decide),kG hl]
 rw[e]
 refine⟨rfl,?_⟩
 have hB:(d.R.any fun r=>s.contains r.ID)=true:=by
  have hm:id∈sigK d.R:=(qW _ _).mem_iff.1 (kD.1 hid)
  unfold sigK at hm
  obtain⟨r,hr,e⟩:=kK.1 hm
  exact kL.2 ⟨r,(kW.1 hr).1,kD.2 (e ▸ hi)⟩
 have hq':=hq
 rw[zdT (zap h) hB] at hq'
 split at hq'
 ·obtain⟨n,h1,_,h3⟩:=zb2.1 hq'
  refine zb2.2 ⟨n,h1,?_,h3⟩
  unfold staB
  refine kL.2 ⟨p,hp,?_⟩
  rw[h3]
  exact zpc.2 ⟨s,hs,kD.2 hi,hq⟩
 cases hq'
theorem zd5 (l:List Int) (n:Int):(ins2 l n).Perm (l ++ [n]):=by
 unfold ins2
 have e:l=l.take (inpK l n)++l.drop (inpK l n):=(List.take_append_drop _ _).symm
 conv=>rhs; rw[e]
 rw[List.append_assoc,List.append_assoc]
 exact List.Perm.append_left _ List.perm_append_comm
theorem zlh (x:Int) (r:List Int) (n:Int):ins2 (x :: r) n=if x<n then x :: ins2 r n else n :: x :: r:=by
 unfold ins2 inpK
 by_cases h:x<n
 ·rw[kH h,List.takeWhile_cons_of_pos (by simpa using h)]; simp
 rw[kG h,List.takeWhile_cons_of_neg (by simpa using h)]; simp
theorem zlg:∀ {l:List Int} {n:Int},l.Pairwise (· < ·)->n∉l->(ins2 l n).Pairwise (· < ·)
 | [],n,_,_=>by
  show List.Pairwise _ ([] ++ [n] ++ [])
  simp
 | x :: r,n,hp,hn=>by
  obtain⟨p1,p2⟩:=List.pairwise_cons.1 hp
  rw[zlh]
  split
  ·rename_i h
   refine List.pairwise_cons.2 ⟨fun s hs=>?_,zlg p2 fun hh=>hn (qS _ hh)⟩
   rcases kR.1 ((zd5 r n).mem_iff.1 hs) with hs | hs
   ·exact p1 s hs
   rw[kM.1 hs]; exact h
  rename_i h
  have hx:x≠n:=fun e=>hn (e ▸ wB ..)
  refine List.pairwise_cons.2 ⟨fun s hs=>?_,hp⟩
  rcases k9.1 hs with rfl | hs
  ·omega
  have:=p1 s hs; omega
theorem zh4:∀ {O:List (List Int)} {k:Nat} {n:Int},k<O.length->(O.set k (ins2 (O.getD k []) n)).flatten.Perm (O.flatten ++ [n])
 | [],k,n,h=>by cases h
 | a :: r,0,n,_=>by
  show (ins2 a n++r.flatten).Perm (a++r.flatten ++ [n])
  refine ((zd5 a n).append_right _).trans ?_
  rw[List.append_assoc,List.append_assoc]
  exact List.Perm.append_left _ List.perm_append_comm
 | a :: r,k+1,n,h=>by
  show (a++(r.set k (ins2 (r.getD k []) n)).flatten).Perm (a++r.flatten ++ [n])
  rw[List.append_assoc]
  exact List.Perm.append_left _ (zh4 (by simpa using h))
abbrev burF (rise:Int) (f:Fir):Brn:=⟨f.From,f.To,rise⟩
structure WitOk (s:Svc) (zs:List Zs) (rise:Int) (fs:List Fir) (x:List Rpt × List (List Int)):Prop where
  crp:∀ r∈x.1,crpE s r=0
  nod:(x.1.map Rpt.ID).Nodup
  len:x.2.length=fs.length
  blk:∀ r∈x.1,r.Kind≠1 -> ∀ n,n<fs.length->honB s (burF rise (fs.getD n default)) zs (fs.getD n default).At r=true
  set:∀ l∈x.2,l.Pairwise (· < ·)
  prm:x.2.flatten.Perm (sigK x.1)
  own:∀ n,n<fs.length -> ∀ id∈x.2.getD n [],∃ r∈x.1,r.ID=id/\r.Kind=1/\honB s (burF rise (fs.getD n default)) zs (fs.getD n default).At r=true
theorem zh2 (l:List Rpt) (r:Rpt):sigK (l ++ [r])=if r.Kind=1 then sigK l ++ [r.ID] else sigK l:=by
 unfold sigK
 rw[qA,jT]
 by_cases h:r.Kind=1
 ·rw[kH h,qN (by unfold isSg; simpa using h)]; rfl
 rw[kG h,qO (by unfold isSg; simpa using h)]; simp
theorem zmH {l:List Rpt} {x:Int} (h:x∈sigK l):∃ r∈l,r.ID=x/\r.Kind=1:=by
 unfold sigK at h
 obtain⟨r,hr,e⟩:=kK.1 h
 obtain⟨h1,h2⟩:=kW.1 hr
 exact⟨r,h1,e,by unfold isSg at h2; simpa using h2⟩
theorem zrA {bs:List Int} {n i:Nat} (h:0<n):kOf bs n i<n:=by
 unfold kOf
 split
 ·exact jay _ h
 exact h
theorem zmi {s:Svc} {zs:List Zs} {rise:Int} {fs:List Fir} {l:List Rpt} {bs:List Int} {x:List Rpt × List (List Int)} {i:Nat} (hf:0<fs.length) (h:WitOk s zs rise fs x):WitOk s zs rise fs (wit1 s zs rise fs l bs x i):=by
 unfold wit1
 by_cases c1:crpE s (l.getD i default)≠0 \/ (x.1.map Rpt.ID).contains (l.getD i default).ID=true
 ·rw[kH c1]; exact h
 rw[kG c1]
 by_cases c2:accB s zs rise fs (l.getD i default) (kOf bs fs.length i)=false
 ·rw[kH c2]; exact h
 rw[kG c2]
 have kl:=zrA (bs:=bs) (i:=i) hf
 generalize kOf bs fs.length i=k at *
 generalize l.getD i default=r at *
 have g1:crpE s r=0:=jL fun hh=>c1 (.inl hh)
 have g2:r.ID∉x.1.map Rpt.ID:=fun hh=>c1 (.inr (kD.2 hh))
 have g3:∀ n,n<fs.length->(r.Kind=1/\n≠k) \/ honB s (burF rise (fs.getD n default)) zs (fs.getD n default).At r=true:=fun n hn=>by
  have c2:accB s zs rise fs r k=true:=by simpa using c2
  unfold accB at c2
  have:=(jC.1 c2) n (kI.2 hn)
  unfold finB at this
  rw[jX,jP,jaf,kA] at this
  exact this
 have idO:∀ l'∈x.2,r.ID∉l':=fun l' hl hm=>by
  have:r.ID∈sigK x.1:=h.prm.mem_iff.1 (List.mem_flatten.2 ⟨l',hl,hm⟩)
  obtain⟨q,hq,e,_⟩:=zmH this
  exact g2 (kK.2 ⟨q,hq,e⟩)
 have crp':∀ q∈x.1 ++ [r],crpE s q=0:=fun q hq=>by
  rcases kR.1 hq with hq | hq
  ·exact h.crp q hq
  rw[kM.1 hq]; exact g1
 have nod':((x.1 ++ [r]).map Rpt.ID).Nodup:=by
  rw[jT]
  refine jaz.2 ⟨h.nod,by simp,fun a ha b hb e=>?_⟩
  have hb:b=r.ID:=by simpa using hb
  exact g2 (by rw[<- hb,<- e]; exact ha)
 have blk':∀ q∈x.1 ++ [r],q.Kind≠1 -> ∀ n,n<fs.length->honB s (burF rise (fs.getD n default)) zs (fs.getD n default).At q=true:=fun q hq hk n hn=>by
  rcases kR.1 hq with hq | hq
  ·exact h.blk q hq hk n hn
  rw[kM.1 hq] at hk ⊢
  exact (g3 n hn).resolve_left fun hh=>hk hh.1
 by_cases hk:r.Kind=1
 ·rw[kH hk]
  have hkO:k<x.2.length:=by rw[h.len]; exact kl
  refine⟨crp',nod',by rw[jaQ]; exact h.len,blk',fun l' hl=>?_,?_,fun n hn id hid=>?_⟩
  ·rcases jaL hl with hl | rfl
   ·exact h.set l' hl
   exact zlg (h.set _ (gd1 hkO [])) (idO _ (gd1 hkO []))
  ·show (x.2.set k _).flatten.Perm (sigK (x.1 ++ [r]))
   rw[zh2,kH hk]
   exact (zh4 hkO).trans (h.prm.append_right _)
  have hid:id∈(x.2.set k (ins2 (x.2.getD k []) r.ID)).getD n []:=hid
  by_cases e:n=k
  ·subst e
   rw[hU,List.getElem?_set_self hkO] at hid
   rcases kR.1 ((zd5 _ _).mem_iff.1 hid) with hid | hid
   ·obtain⟨q,hq,t⟩:=h.own n hn id hid
    exact⟨q,qE _ hq,t⟩
   refine⟨r,by simp,(kM.1 hid).symm,hk,?_⟩
   exact (g3 n hn).resolve_left fun hh=>hh.2 rfl
  rw[hU,List.getElem?_set_ne (fun hh=>e hh.symm),<- hU] at hid
  obtain⟨q,hq,t⟩:=h.own n hn id hid
  exact⟨q,qE _ hq,t⟩
 rw[kG hk]
 refine⟨crp',nod',h.len,blk',h.set,?_,fun n hn id hid=>?_⟩
 ·show x.2.flatten.Perm (sigK (x.1 ++ [r]))
  rw[zh2,kG hk]; exact h.prm
 obtain⟨q,hq,t⟩:=h.own n hn id hid
 exact⟨q,qE _ hq,t⟩
theorem zoc (s:Svc) (zs:List Zs) (rise:Int) {fs:List Fir} (l:List Rpt) (bs:List Int) (hf:0<fs.length):∀ i,WitOk s zs rise fs (witK s zs rise fs l bs i)/\(witK s zs rise fs l bs i).1.length<=i
 | 0=>⟨⟨fun r hr=>(by cases hr),.nil,List.length_replicate,fun r hr=>(by cases hr),fun a ha=>by rw[List.eq_of_mem_replicate ha]; exact .nil,by
   show (List.replicate fs.length ([]:List Int)).flatten.Perm (sigK [])
   rw[List.flatten_replicate_nil]; exact .nil,fun n hn id hid=>by
   have hid:id∈(List.replicate fs.length ([]:List Int)).getD n []:=hid
   rw[hU,List.getElem?_replicate] at hid
   split at hid <;> cases hid⟩,jE _⟩
 | i+1=>by
  obtain⟨a,b⟩:=zoc s zs rise l bs hf i
  rw[zf1]
  refine⟨zmi hf a,?_⟩
  unfold wit1
  split
  ·omega
  split
  ·omega
  show List.length (_ ++ [_])<=_
  rw[jR,wD]; omega
theorem zoX {s:Svc} {zs:List Zs} {rise long:Int} {fs:List Fir} {x:List Rpt × List (List Int)} (h:WitOk s zs rise fs x) (h0:svcE s=0) (h1:0<=rise/\rise<=200) (h2:0<=long/\long<=1440) (hl:x.1.length<=9):dayE (wtD s rise long x.1)=0 \/ dayE (wtD s rise long x.1)=2:=by
 unfold dayE
 rw[kG (fun hh=>hh h0)]
 have e1:within (wtD s rise long x.1).Rise 0 200=true:=by unfold within; simpa using h1
 have e2:within (wtD s rise long x.1).Long 0 1440=true:=by unfold within; simpa using h2
 rw[e1,e2,kG (by decide)]
 split
 ·exact .inr rfl
 left
 refine za7 fun i hi=>?_
 have hi:i<x.1.length:=hi
 unfold day1E
 have hm:x.1.getD i default∈x.1:=gd1 hi default
 rw[kG (fun hh=>hh (h.crp _ hm)),kG]
 intro hh
 obtain⟨q,hq,e⟩:=kL.1 hh
 have e:q.ID=(x.1.getD i default).ID:=by simpa using e
 have hq:q∈x.1.take i:=hq
 obtain⟨j,hj,rfl⟩:=kP hq
 rw[jQ] at hj
 rw[jbt] at e
 have:=kV.1 h.nod j i (by rw[kU]; omega) (by rw[kU]; exact hi) (by omega)
 simp only[List.getElem_map] at this
 refine this (e.trans ?_)
 rw[hU,kF hi]; rfl
theorem zjM {s:Svc} {zs:List Zs} {rise long:Int} {fs:List Fir} {x:List Rpt × List (List Int)} (h:WitOk s zs rise fs x) (hd:dayE (wtD s rise long x.1)=0) (hz:drfB s zs=true) (hb:blzB s fs long=true) {n:Nat} (hn:n<fs.length) (h0:0<(x.2.getD n []).length) :
  (fs.getD n default).At∈plsD (wtD s rise long x.1) (x.2.getD n []):=by
 have ok:=zap hd
 unfold blzB at hb
 rw[jP,jC] at hb
 have hb:=hb.1 _ (gd1 hn default)
 unfold blz1 at hb
 simp only[jP,kA] at hb
 obtain⟨b1,b2,b3,b4,b5⟩:=hb
 generalize hf:fs.getD n default=f at *
 have own:=h.own n hn
 have blk:=fun r hr hk=>h.blk r hr hk n hn
 rw[hf] at own
 simp only[hf] at blk
 generalize x.2.getD n []=ids at *
 have mine:∀ r∈x.1,ids.contains r.ID=true->r.Kind=1/\honB s (burF rise f) zs f.At r=true:=fun r hr hc=>by
  obtain⟨q,hq,e,k1,k2⟩:=own _ (kD.1 hc)
  have:q=r:=by
   obtain⟨i,hi,rfl⟩:=kP hq
   obtain⟨j,hj,rfl⟩:=kP hr
   have:=(List.getElem_inj (i:=i) (j:=j) (xs:=x.1.map Rpt.ID) (h₀:=by simpa using hi) (h₁:=by simpa using hj) h.nod).1 (by simpa using e)
   subst this; rfl
  subst this
  exact⟨k1,k2⟩
 have hB:((wtD s rise long x.1).R.any fun r=>ids.contains r.ID)=true:=by
  obtain⟨q,hq,e,_⟩:=own _ (gd1 h0 0)
  exact kL.2 ⟨q,hq,kD.2 (by rw[e]; exact gd1 h0 0)⟩
 have tick:∀ r∈x.1,ids.contains r.ID=true->f.From<=r.Tick/\r.Tick<=f.To:=fun r hr hc=>by
  obtain⟨k1,k2⟩:=mine r hr hc
  unfold honB at k2
  rw[jP] at k2
  have k3:=k2.2
  unfold tolB at k3
  rw[kH k1] at k3
  simp only[jP] at k3
  have k4:=k3.1.1
  unfold lookB at k4
  simp only[jP] at k4
  exact zeE k4.2
 obtain⟨e1,⟨p,hp,pc,pe⟩,⟨q,hq,qc,qe⟩⟩:=zcL hB
 have t1:=tick p hp pc
 have t2:=tick q hq qc
 refine zpD ok hB (by show _<=long; omega) b1 fun r hr=>?_
 obtain⟨hr1,hr2⟩:=kW.1 hr
 have hr1:r∈x.1:=hr1
 have hh:honB s (burF rise f) zs f.At r=true:=by
  by_cases hk:r.Kind=1
  ·unfold offB at hr2
   have:ids.contains r.ID=true:=by simpa [hk] using hr2
   exact (mine r hr1 this).2
  exact blk r hr1 hk
 unfold honB at hh
 rw[jP] at hh
 have ha:=zfJ hz (zlB (h.crp r hr1)).2.1 hh.1 hh.2
 refine zqG (b:=burF rise f) (b':=brnD (wtD s rise long x.1) ids) rfl (by show f.From<=_; omega) (by show _<=f.To; omega) (fun hk=>?_) ha
 unfold offB at hr2
 have:ids.contains r.ID=true:=by simpa [hk] using hr2
 exact e1 r hr1 this
end Go.Pg
namespace Go.Pg
open Go.Proofs Go.RowKit Go.Sort Go.Shelf
theorem zq3 (a b:List Int) (hn:a.length<=1000000):Spec PP 85 [.d (lI a),.d (lI b)] [B (decide (a=b))]:=by
 refine sA Tryz.func85 ?_
 apply bY <;> intro h1
 ·have h1:a.length≠b.length:=by
   have:¬ (a.length:Int)=b.length:=by simpa using h1
   omega
  refine r1B rfl ?_
  exact (jH fun e=>h1 (by rw[e])).symm
 have h1:a.length=b.length:=by
  have:(a.length:Int)=b.length:=by simpa using h1
  omega
 refine lOf (σ:=Nat) (fun i=>([(0,.d (lI a)),(1,.d (lI b)),(12,.d (I a.length)),(13,.d (I i))],[])) (fun i=>i<=a.length/\a.take i=b.take i) (fun i=>a.length - i) 0 ⟨rfl,trivial,wq rfl⟩ ⟨jF _,rfl⟩ fun i hi=>?_
 obtain⟨i1,i2⟩:=hi
 apply bY <;> intro h2
 ·have h2:i<a.length:=by have:=dT h2; omega
  refine oN 9 ?_
  refine⟨⟨rfl,by omega,by omega⟩,?_⟩
  refine⟨⟨rfl,by omega,by omega⟩,?_⟩
  apply bY <;> intro h3
  ·have h3:¬ a.getD i 0=b.getD i 0:=by simpa using h3
   refine r1B rfl ?_
   refine (jH fun e=>?_).symm
   subst e
   exact h3 rfl
  have h3:a.getD i 0=b.getD i 0:=by simpa using h3
  refine⟨i6,?_⟩
  refine⟨i+1,⟨rfl,trivial,wq rfl⟩,⟨h2,?_⟩,msr h2⟩
  rw[zay h2 0,zay (by omega) 0,i2,h3]
 have h2:i=a.length:=by have:=dF h2; omega
 subst h2
 refine r1B rfl ?_
 rw[jZ,h1,jZ] at i2
 exact (jG i2).symm
theorem zj9 (l:List (List Int)) (g:FuncId) (c0:D) (p:List Int->Bool) (hn:l.length<=1000000) (hp:∀ i,i<l.length->Spec PP g [.d (lI (l.getD i [])),.d c0] [B (p (l.getD i []))]):Spec PP 100 [.d (lII l),.d (cloB g [c0])] [N (idxL p l)]:=by
 refine sA Tryz.func100 ?_
 refine lOf (σ:=Nat) (fun i=>([(0,.d (lII l)),(1,.d (cloB g [c0])),(6,.d (lII l)),(7,.d (I l.length)),(8,.d (I i))],[])) (fun i=>i<=l.length /\ ∀ j,j<i->p (l.getD j [])=false) (fun i=>l.length - i) 0
  ⟨rfl,trivial,wq rfl⟩ z0L fun i hi=>?_
 obtain⟨hi,ha⟩:=hi
 apply bY <;> intro h1
 ·have h1:i<l.length:=by have:=dT h1; omega
  refine⟨⟨rfl,by omega,by omega⟩,?_⟩
  refine cP (hp i h1) rfl rfl ?_
  apply bY <;> intro h2
  ·exact r1I rfl (zaj [] h1 h2 ha).symm
  refine⟨i6,?_⟩
  refine⟨i+1,⟨rfl,trivial,wq rfl⟩,⟨h1,fun j hj=>?_⟩,(msr (by omega))⟩
  by_cases e:j=i
  ·subst e; exact h2
  exact ha j (by omega)
 have h1:i=l.length:=by have:=dF h1; omega
 subst h1
 exact r1I rfl (zam [] ha).symm
theorem zdL (l:List (List Int)) (g:FuncId) (c0:D) (p:List Int->Bool) (hn:l.length<=1000000) (hp:∀ i,i<l.length->Spec PP g [.d (lI (l.getD i [])),.d c0] [B (p (l.getD i []))]):Spec PP 36 [.d (lII l),.d (cloB g [c0])] [B (l.any p)]:=by
 refine sA Tryz.func36 ?_
 refine cP (zj9 l g c0 p hn hp) rfl rfl ?_
 refine r1B rfl ?_
 rw[kO,kJ]
 exact za0 p l []
theorem zka (l:List Fit) (g:FuncId) (c0:D) (p:Fit->Bool) (hn:l.length<=1000000) (hp:∀ i,i<l.length->Spec PP g [(l.getD i default).v,.d c0] [B (p (l.getD i default))]):Spec PP 54 [.d (lFt l),.d (cloB g [c0])] [B (l.any p)]:=by
 have hx:Spec PP 112 [.d (lFt l),.d (cloB g [c0])] [N (idxL p l)]:=by
  refine sA Tryz.func112 ?_
  refine lOf (σ:=Nat) (fun i=>([(0,.d (lFt l)),(1,.d (cloB g [c0])),(6,.d (lFt l)),(7,.d (I l.length)),(8,.d (I i))],[])) (fun i=>i<=l.length /\ ∀ j,j<i->p (l.getD j default)=false) (fun i=>l.length - i) 0
   ⟨rfl,trivial,wq rfl⟩ z0L fun i hi=>?_
  obtain⟨hi,ha⟩:=hi
  apply bY <;> intro h1
  ·have h1:i<l.length:=by have:=dT h1; omega
   refine⟨⟨rfl,by omega,by omega⟩,?_⟩
   refine cP (hp i h1) rfl rfl ?_
   apply bY <;> intro h2
   ·exact r1I rfl (zaj default h1 h2 ha).symm
   refine⟨i6,?_⟩
   refine⟨i+1,⟨rfl,trivial,wq rfl⟩,⟨h1,fun j hj=>?_⟩,(msr (by omega))⟩
   by_cases e:j=i
   ·subst e; exact h2
   exact ha j (by omega)
  have h1:i=l.length:=by have:=dF h1; omega
  subst h1
  exact r1I rfl (zam default ha).symm
 refine sA Tryz.func54 ?_
 refine cP hx rfl rfl ?_
 refine r1B rfl ?_
 rw[kO,kJ]
 exact za0 p l default
theorem zoV {a b:List Int} {n:Nat} {g:Nat->Nat->D} (hn:n=a.length) (hg:∀ i,i<b.length->g i 0=I (b.getD i 0)):D.eqv (.slc 1 (n+b.length) (appRow n (rowI a) g)) (.slc 1 (a++b).length (rowI (a++b))):=by
 subst hn
 refine⟨by simp,.inr ⟨rfl,fun i hi j hj=>?_⟩⟩
 obtain rfl:j=0:=by omega
 show D.eqv (appRow a.length (rowI a) g i 0) (I ((a++b).getD i 0))
 unfold appRow
 by_cases h:i<a.length
 ·rw[kH h,hU,jJ h,<- hU]
  exact dE _
 rw[kG h,hg _ (by have hi:i<a.length+b.length:=hi; omega),hU (l:=a++b),jK (by omega),<- hU]
 exact dE _
theorem zbp {p:List (List Int)} {i:Nat} (h:i<p.length):(p.take (i+1)).flatten=(p.take i).flatten++p.getD i []:=by
 rw[zay h [],List.flatten_append]; simp
theorem zeg (p:List (List Int)) (i:Nat):(p.take i).flatten.length<=p.flatten.length:=by
 have:p.flatten.length=(p.take i).flatten.length+(p.drop i).flatten.length:=by rw[<- jR,<- List.flatten_append,List.take_append_drop]
 omega
theorem zgr (ids:List Int) (p:List (List Int)) (hp:p.length<=1000000) (hf:p.flatten.length<=1000000):Spec PP 35 [.d (lI ids),.d (lII p)] [B (divB ids p)]:=by
 refine sA Tryz.func35 ?_
 refine lOf (σ:=Nat) (fun i=>([(0,.d (lI ids)),(1,.d (lII p)),(5,.own 5),(8,.d (lII p)),(9,.d (I p.length)),(10,.d (I i))],[(5,.row 3 1 (p.take i).flatten.length (rowI (p.take i).flatten))])) (fun i=>i<=p.length /\ ∀ j,j<i->setB (p.getD j [])=true/\fstB p j=true) (fun i=>p.length - i) 0
  ⟨rfl,⟨obR rfl ⟨rfl,.inl rfl⟩,trivial⟩,wq rfl⟩ z0L fun i hi=>?_
 obtain⟨hi,ha⟩:=hi
 have hl:=zeg p i
 apply bY <;> intro h1
 ·have h1:i<p.length:=by have:=dT h1; omega
  have hs1:(p.getD i []).length<=1000000:=by
   have:=zeg p (i+1)
   rw[zbp h1,jR] at this
   omega
  have no:¬ (setB (p.getD i [])=true/\fstB p i=true)->divB ids p=false:=fun h=>by
   unfold divB
   rw[Bool.and_eq_false_iff]; left
   rw[qF]
   intro hh
   have:=jC.1 hh i (kI.2 h1)
   rw[jP] at this
   exact h this
  refine⟨⟨rfl,by omega,by omega⟩,?_⟩
  refine oN 20 ?_
  refine oP (zfG (p.getD i []) hs1) rfl rfl ?_
  apply bY <;> intro h2
  ·have h2:setB (p.getD i [])=false:=by simpa using h2
   repeat first | apply sT | apply sF
   exact r1B rfl (no fun h=>by rw[h2] at h; cases h.1).symm
  have h2:setB (p.getD i [])=true:=by simpa using h2
  have l2:=(zc6 h2).2
  have l2':0<(p.getD ((i:Nat):Int).toNat []).length:=l2
  repeat first | apply sT | apply sF
  have cont:fstB p i=true->(∀ j,j<i+1->setB (p.getD j [])=true/\fstB p j=true):=fun h j hj=>by
   by_cases e:j=i
   ·subst e; exact⟨h2,h⟩
   exact ha j (by omega)
  have mx:(p.take i).flatten.length+(p.getD i []).length<=1000000:=by
   have:=zeg p (i+1)
   rw[zbp h1,jR] at this
   omega
  have mx':(p.take i).flatten.length+(p.getD ((i:Nat):Int).toNat []).length<=1000000:=mx
  apply bY <;> intro h3
  ·have h3:0<i:=by have:=dT h3; omega
   have ei:((i:Int) - 1).toNat=i - 1:=by omega
   have l3:=(zc6 (ha (i - 1) (by omega)).1).2
   repeat first | apply sT | apply sF
   refine⟨⟨rfl,by omega,by omega⟩,?_⟩
   refine⟨i6,?_⟩
   refine⟨⟨rfl,by omega,by omega⟩,?_⟩
   refine⟨⟨rfl,by omega,by rw[ei]; show (0:Int)<((p.getD (i - 1) []).length:Int); omega⟩,?_⟩
   repeat first | apply sT | apply sF
   apply bY <;> intro h4
   ·have h4:(p.getD i []).getD 0 0<=(p.getD (i - 1) []).getD 0 0:=by have h4:=dT h4; rw[ei] at h4; exact h4
    repeat first | apply sT | apply sF
    refine r1B rfl (no fun h=>?_).symm
    have:=h.2
    unfold fstB at this
    rw[jH (by omega:¬ i=0),wL] at this
    have:=kQ this
    omega
   have h4:(p.getD (i - 1) []).getD 0 0<(p.getD i []).getD 0 0:=by have h4:=dF h4; rw[ei] at h4; have:¬ (p.getD i []).getD 0 0<=(p.getD (i - 1) []).getD 0 0:=h4; omega
   repeat first | apply sT | apply sF
   refine⟨⟨.inr rfl,by unfold maxLen; omega,by show ((p.take i).flatten.length+(p.getD ((i:Nat):Int).toNat []).length) * 8<=140737488355328; omega⟩,?_⟩
   refine⟨i6,?_⟩
   refine⟨i+1,⟨rfl,⟨obR rfl ?_,trivial⟩,wq rfl⟩,⟨h1,cont (by unfold fstB; rw[jG h4,qJ])⟩,msr h1⟩
   rw[zbp h1]
   exact zoV rfl fun _ _=>rfl
  have h3:i=0:=by have:=dF h3; omega
  repeat first | apply sT | apply sF
  refine⟨⟨.inr rfl,by unfold maxLen; omega,by show ((p.take i).flatten.length+(p.getD ((i:Nat):Int).toNat []).length) * 8<=140737488355328; omega⟩,?_⟩
  refine⟨i6,?_⟩
  refine⟨i+1,⟨rfl,⟨obR rfl ?_,trivial⟩,wq rfl⟩,⟨h1,cont (by unfold fstB; rw[jG h3]; rfl)⟩,msr h1⟩
  rw[zbp h1]
  exact zoV rfl fun _ _=>rfl
 have h1:i=p.length:=by have:=dF h1; omega
 subst h1
 rw[jZ]
 have hs:(p.flatten.mergeSort fun x y=>decide (x<=y)).length=p.flatten.length:=kY _
 refine CallSt.rw' rfl (zid p.flatten hf) ⟨⟨[],.tmp 39,[],[],rfl,rfl,rfl,rfl,rfl,rfl,rfl⟩⟩ rfl ?_
 refine pEq (zq3 (p.flatten.mergeSort fun x y=>decide (x<=y)) ids (by omega)) rfl ⟨⟨hs.symm,.inr ⟨rfl,fun i _ j _=>dE _⟩⟩,dE _,trivial⟩ rfl ?_
 refine r1B rfl ?_
 have:(List.range p.length).all (fun i=>setB (p.getD i []) && fstB p i)=true:=jC.2 fun j hj=>by
  obtain⟨a1,a2⟩:=ha j (kI.1 hj)
  rw[a1,a2]; rfl
 unfold divB
 rw[this,kN]
theorem zj8 (l:List (List (List Int))) (g:FuncId) (c0:D) (p:List (List Int)->Bool) (hn:l.length<=1000000) (hp:∀ i,i<l.length->Spec PP g [.d (lII (l.getD i [])),.d c0] [B (p (l.getD i []))]):Spec PP 134 [.d (lPP l),.d (cloB g [c0])] [N (idxL p l)]:=by
 refine sA Tryz.func134 ?_
 refine lOf (σ:=Nat) (fun i=>([(0,.d (lPP l)),(1,.d (cloB g [c0])),(6,.d (lPP l)),(7,.d (I l.length)),(8,.d (I i))],[])) (fun i=>i<=l.length /\ ∀ j,j<i->p (l.getD j [])=false) (fun i=>l.length - i) 0
  ⟨rfl,trivial,wq rfl⟩ z0L fun i hi=>?_
 obtain⟨hi,ha⟩:=hi
 apply bY <;> intro h1
 ·have h1:i<l.length:=by have:=dT h1; omega
  refine⟨⟨rfl,by omega,by omega⟩,?_⟩
  refine cP (hp i h1) rfl rfl ?_
  apply bY <;> intro h2
  ·exact r1I rfl (zaj [] h1 h2 ha).symm
  refine⟨i6,?_⟩
  refine⟨i+1,⟨rfl,trivial,wq rfl⟩,⟨h1,fun j hj=>?_⟩,(msr (by omega))⟩
  by_cases e:j=i
  ·subst e; exact h2
  exact ha j (by omega)
 have h1:i=l.length:=by have:=dF h1; omega
 subst h1
 exact r1I rfl (zam [] ha).symm
theorem zkb (l:List (List (List Int))) (g:FuncId) (c0:D) (p:List (List Int)->Bool) (hn:l.length<=1000000) (hp:∀ i,i<l.length->Spec PP g [.d (lII (l.getD i [])),.d c0] [B (p (l.getD i []))]):Spec PP 86 [.d (lPP l),.d (cloB g [c0])] [B (l.any p)]:=by
 refine sA Tryz.func86 ?_
 refine cP (zj8 l g c0 p hn hp) rfl rfl ?_
 refine r1B rfl ?_
 rw[kO,kJ]
 exact za0 p l []
def hasS (s:List Int) (p:List (List Int)):Bool:=p.any fun x=>decide (x=s)
theorem zpV (x s:List Int) (hx:x.length<=1000000):Spec PP 84 [.d (lI x),.d (capB [lI s])] [B (decide (x=s))]:=by
 refine sA Tryz.func84 ?_
 refine cP (zq3 x s hx) rfl rfl ?_
 exact r1B rfl rfl
theorem zrC (p:List (List Int)) (s:List Int) (hp:p.length<=1000000) (hs:∀ i,i<p.length->(p.getD i []).length<=1000000):Spec PP 83 [.d (lII p),.d (capB [lI s])] [B (hasS s p)]:=by
 refine sA Tryz.func83 ?_
 refine cP (zdL p 84 (capB [lI s]) (fun x=>decide (x=s)) hp fun i hi=>zpV _ s (hs i hi)) rfl rfl ?_
 exact r1B rfl rfl
theorem zrB (p:List (List Int)) (s:List Int) (hp:p.length<=1000000) (hs:∀ i,i<p.length->(p.getD i []).length<=1000000):Spec PP 87 [.d (lII p),.d (capB [cloB 83 [capB [lI s]]])] [B (!hasS s p)]:=by
 refine sA Tryz.func87 ?_
 refine cP (zrC p s hp hs) rfl rfl ?_
 exact r1B rfl rfl
def alwS (l:List (List (List Int))) (s:List Int):Bool:=!(l.any fun p=>!hasS s p)
def prvK (l:List (List (List Int))) (i:Nat):List (List Int):=((l.getD 0 []).take i).filter (alwS l)
theorem zmY {l:List (List (List Int))} {i:Nat} (h:i<(l.getD 0 []).length) (h1:alwS l ((l.getD 0 []).getD i [])=true):prvK l (i+1)=prvK l i ++ [(l.getD 0 []).getD i []]:=by
 unfold prvK
 rw[zay h [],qA,qN h1]; rfl
theorem zpA {l:List (List (List Int))} {i:Nat} (h:i<(l.getD 0 []).length) (h1:alwS l ((l.getD 0 []).getD i [])=false):prvK l (i+1)=prvK l i:=by
 unfold prvK
 rw[zay h [],qA,qO (by rw[h1]; decide)]; simp
theorem zmZ (l:List (List (List Int))) (i:Nat):(prvK l i).length<=i:=by
 unfold prvK
 have:=jaq (alwS l) ((l.getD 0 []).take i)
 rw[jQ] at this
 omega
def prvR (d:Day):List (List Int) × Int:=if dayE d≠0 then ([],dayE d) else if (bsts d).length=0 then ([],9) else (prvK (bsts d) ((bsts d).getD 0 []).length,0)
theorem znr (d:Day) (hn:d.R.length<=1000000):Spec PP 28 [d.v] [.d (lII (prvR d).1),.d (.int .i64 (prvR d).2)]:=by
 refine sA Tryz.func28 ?_
 refine cP (zbD d hn) rfl rfl ?_
 unfold prvR
 apply bY <;> intro h0
 ·rw[kH (by simpa using h0)]
  exact⟨⟨_,_,_,_,rfl,rfl,.inl rfl⟩,rtI rfl rfl,trivial⟩
 have h0:dayE d=0:=by simpa using h0
 have h:=zap h0
 rw[kG (fun hh=>hh h0)]
 refine cR (zfH h) rfl rfl ?_
 by_cases h2:(bsts d).length=0
 ·have e:bsR d=([],9):=by unfold bsR; rw[kH h2]
  rw[e,kH h2]
  refine sT ?_
  exact⟨⟨_,_,_,_,rfl,rfl,.inl rfl⟩,rtI rfl rfl,trivial⟩
 have e:bsR d=(bsts d,0):=by unfold bsR; rw[kG h2]
 rw[e,kG h2]
 refine sF ?_
 have hl:(bsts d).length<=1000000:=by have:(bsts d).length<=(parts d).length:=zcJ (parts d); have:=zcu h; omega
 have hp:∀ p∈bsts d,p.length<=1000000 /\ ∀ s∈p,s.length<=1000000:=fun p hp=>by
  have:=zct h (zca hp)
  exact⟨by omega,fun s hs=>by have:=this.2 s hs; omega⟩
 generalize bsts d=l at *
 have h0l:0<l.length:=by omega
 have hq:=hp _ (gd1 h0l [])
 refine⟨⟨rfl,by omega,(show (0:Int)<(l.length:Int) by omega)⟩,?_⟩
 refine lOf (σ:=Nat) (fun i=>([(5,.d (lPP l)),(7,.own 7),(26,.d (lII (l.getD 0 []))),(27,.d (I (l.getD 0 []).length)),(28,.d (I i))],[(7,.row 22 1 (prvK l i).length (rowII (prvK l i)))])) (fun i=>i<=(l.getD 0 []).length) (fun i=>(l.getD 0 []).length - i) 0
  ⟨rfl,⟨obR rfl ⟨rfl,.inl rfl⟩,trivial⟩,wq rfl⟩ (jF _) fun i hi=>?_
 apply bY <;> intro k1
 ·have k1:i<(l.getD 0 []).length:=by have:=dT k1; omega
  have hsi:=hq.2 _ (gd1 k1 [])
  have hlen:=zmZ l i
  refine⟨⟨rfl,by omega,by omega⟩,?_⟩
  refine fEq [9,10] (zkb l 87 (capB [cloB 83 [capB [lI ((l.getD 0 []).getD i [])]]]) (fun p=>!hasS ((l.getD 0 []).getD i []) p) hl fun m hm=>zrB _ ((l.getD 0 []).getD i []) (hp _ (gd1 hm [])).1 fun a ha=>(hp _ (gd1 hm [])).2 _ (gd1 ha [])) rfl ⟨dE _,⟨rfl,rfl,fun j hj=>?_⟩,trivial⟩ rfl ?_
  ·obtain rfl:j=0:=jab.1 hj
   exact dE _
  apply bY <;> intro k2
  ·have k2:alwS l ((l.getD 0 []).getD i [])=true:=k2
   refine cR (zkC ((l.getD 0 []).getD i []) hsi) rfl rfl ?_
   refine⟨⟨.inr rfl,by unfold maxLen; omega,by show ((prvK l i).length+1) * 24<=140737488355328; omega⟩,?_⟩
   refine⟨i6,?_⟩
   refine⟨i+1,⟨rfl,⟨obR rfl ?_,trivial⟩,wq rfl⟩,k1,msr k1⟩
   rw[zmY k1 k2]
   exact zkm rfl (dE _)
  have k2:alwS l ((l.getD 0 []).getD i [])=false:=k2
  refine⟨i6,?_⟩
  refine⟨i+1,⟨rfl,⟨obR rfl ?_,trivial⟩,wq rfl⟩,k1,msr k1⟩
  rw[zpA k1 k2]; exact dE _
 have k1:i=(l.getD 0 []).length:=by have:=dF k1; omega
 subst k1
 exact⟨⟨_,_,_,_,rfl,dE _⟩,rtI rfl rfl,trivial⟩
theorem zrH {d:Day} (h:DayOk d) (s:List Int) (hs:s.length<=1000000):Spec PP 37 [.d (lI s),.d (capB d.ds)] [B (!posB d s)]:=by
 refine sA Tryz.func37 ?_
 refine cR (zdC h s hs) rfl rfl ?_
 refine r1B rfl ?_
 unfold posB
 cases hl:(plsD d s).length with
 | zero=>rfl
 | succ n=>simp; omega
theorem zdk (d:Day) (p:List (List Int)) (hn:d.R.length<=1000000) (hp:p.length<=1000000) (hf:p.flatten.length<=1000000):Spec PP 13 [d.v,.d (lII p)] [.d (.int .i64 (cprR d p))]:=by
 refine sA Tryz.func13 ?_
 refine cP (zbD d hn) rfl rfl ?_
 unfold cprR
 apply bY <;> intro h0
 ·rw[kH (by simpa using h0)]
  exact r1I rfl rfl
 have h0:dayE d=0:=by simpa using h0
 have ok:=zap h0
 rw[kG (fun hh=>hh h0)]
 refine cR (zar d hn) rfl rfl ?_
 refine cP (zgr (sigL d.R) p hp hf) rfl rfl ?_
 have hm:∀ i,i<p.length->(p.getD i []).length<=1000000:=fun i hi=>by
  have:=zeg p (i+1)
  rw[zbp hi,jR] at this
  omega
 apply bY <;> intro h1
 ·have h1:divB (sigL d.R) p=false:=by simpa using h1
  rw[h1,kZ,kG (by decide)]
  repeat first | apply sT | apply sF
  exact r1I rfl rfl
 have h1:divB (sigL d.R) p=true:=by simpa using h1
 rw[h1,kN]
 refine fEq [2] (zdL p 37 (capB d.ds) (fun s=>!posB d s) hp fun i hi=>zrH ok _ (hm i hi)) rfl ⟨dE _,⟨rfl,rfl,fun j hj=>by obtain rfl:j=0:=jab.1 hj; exact dE _⟩,trivial⟩ rfl ?_
 repeat first | apply sT | apply sF
 apply bY <;> intro h2
 ·have h2:(p.any fun s=>!posB d s)=true:=h2
  have:¬ p.all (posB d)=true:=fun h=>by
   obtain⟨s,hs1,hs2⟩:=kL.1 h2
   rw[jC.1 h s hs1] at hs2; cases hs2
  rw[kG this]
  exact r1I rfl rfl
 have h2:(p.any fun s=>!posB d s)=false:=h2
 have:p.all (posB d)=true:=jC.2 fun s hs=>by
  have:=wI.1 h2 s hs
  simpa using this
 rw[kH this]
 exact r1I rfl rfl
theorem zrE (l:List Int) (f:Fit) (hl:l.length<=1000000) (hf:f.IDs.length<=1000000):Spec PP 117 [f.v,.d (capB [lI l])] [B (partB l f.IDs)]:=by
 refine sA Tryz.func117 ?_
 refine cP (zeW l f.IDs hl hf) rfl rfl ?_
 exact r1B rfl rfl
structure JnOk (j:Jns):Prop where
  F:j.F.length<=1000000
  M:j.M.length<=1000000
  f:∀ f∈j.F,f.IDs.length<=1000000
  m:∀ m∈j.M,m.IDs.length<=1000000/\m.R.length<=1000000
theorem JnOk.get {j:Jns} (h:JnOk j) {i:Nat} (hi:i<j.F.length):(j.F.getD i default).IDs.length<=1000000:=by
 refine h.f _ ?_
 rw[hU,kF hi]; exact kT hi
theorem zpY {j:Jns} (h:JnOk j) (l:List Int) (hl:l.length<=1000000):Spec PP 60 [j.v,.d (lI l)] [B (hasB j.F l)]:=by
 refine sA Tryz.func60 ?_
 refine fEq [3] (zka j.F 117 (capB [lI l]) (fun f=>partB l f.IDs) h.F fun i hi=>zrE l _ hl (h.get hi)) rfl ⟨dE _,⟨rfl,rfl,fun j hj=>by obtain rfl:j=0:=jab.1 hj; exact dE _⟩,trivial⟩ rfl ?_
 exact r1B rfl rfl
abbrev hasD (j:Jns):D:=.bnd 60 2 (getD' [lFt j.F,lMs j.M])
theorem zrD {j:Jns} (h:JnOk j):PosC (hasD j) (hasB j.F):=.bnd _ _ _ rfl fun s hs=>zpY h s (by omega)
theorem zim (F:List Fit) (ids:List Int) (hi:ids.length<=7):(prtF F ids).length<=877:=zkp _ _ hi
theorem zp0 {j:Jns} (h:JnOk j) (ids:List Int) (hi:ids.length<=7):Spec PP 65 [.d (cloB 121 [capB [lI ids],posD (hasD j)])] [.d (lPP (bstL (prtF j.F ids)))]:=
 zou _ _ _ _ (by have:=zim j.F ids hi; omega) (zcw ids (hasD j) (hasB j.F) hi (zrD h))
abbrev jnD (j:Jns):D:=capB [lFt j.F,lMs j.M]
theorem zrG {j:Jns} (h:JnOk j) (s:List Int) (hs:s.length<=1000000):Spec PP 69 [.d (lI s),.d (jnD j)] [B (!hasB j.F s)]:=by
 refine sA Tryz.func69 ?_
 refine cR (zpY h s hs) rfl rfl ?_
 exact r1B rfl rfl
theorem zc4 {α:Type} {q:α->Bool} (l:List α):(!l.any fun s=>!q s)=l.all q:=by
 rw[kO,jY,wI,jC]
 refine forall_congr' fun x=>forall_congr' fun _=>?_
 simp
theorem zoF {j:Jns} (h:JnOk j) (ids:List Int) (l:List (List (List Int))) (hl:0<l.length) (a b:Int) (p:List (List Int)) (nd one:Bool) (hp:p.length<=1000000) (hf:p.flatten.length<=1000000) :
  Spec PP 67 [.d (lII p),B nd,B one,.d (capB [lI ids]),.d (capB [lPP l]),.d (capB [I a]),.d (capB [I b]),.d (jnD j)] [B (shoW ids j.F (l.getD 0 []).length a b p nd one)]:=by
 refine sA Tryz.func67 ?_
 have hm:∀ i,i<p.length->(p.getD i []).length<=1000000:=fun i hi=>by
  have:=zeg p (i+1)
  rw[zbp hi,jR] at this
  omega
 have hm':∀ s∈p,s.length<=1000000:=fun s hs=>by
  obtain⟨i,hi,rfl⟩:=kP hs
  have:=hm i hi
  rwa [hU,kF hi] at this
 unfold shoW
 cases nd with
 | false=>
  refine sYe rfl ?_
  refine r1B rfl ?_
  rw[kH rfl]
  rw[kO,jaf,kJ]; omega
 | true=>
 refine sNo rfl ?_
 rw[kG (by decide)]
 refine cP (zgr ids p hp hf) rfl rfl ?_
 cases hd:divB ids p with
 | false=>
  repeat first | apply sT | apply sF
  exact r1B rfl rfl
 | true=>
 repeat first | apply sT | apply sF
 refine⟨⟨rfl,by omega,by omega⟩,?_⟩
 repeat first | apply sT | apply sF
 by_cases h1:p.length=(l.getD 0 []).length
 ·refine sYe (show (((p.length:Nat):Int)==(((l.getD 0 []).length:Nat):Int))=true from jaf.2 (by omega)) ?_
  repeat first | apply sT | apply sF
  refine cP (zeV p a b hp hm') rfl rfl ?_
  rw[jG h1,kN,kN]
  cases ht:togB a b p==one with
  | false=>
   repeat first | apply sT | apply sF
   refine sNo ht ?_
   repeat first | apply sT | apply sF
   exact r1B rfl rfl
  | true=>
  repeat first | apply sT | apply sF
  refine sYe ht ?_
  repeat first | apply sT | apply sF
  refine cP (zdL p 69 (jnD j) (fun s=>!hasB j.F s) hp fun i hi=>zrG h _ (hm i hi)) rfl rfl ?_
  repeat first | apply sT | apply sF
  refine r1B rfl ?_
  rw[zc4,kN]
 refine sNo (show (((p.length:Nat):Int)==(((l.getD 0 []).length:Nat):Int))=false from jax.2 (by omega)) ?_
 repeat first | apply sT | apply sF
 refine r1B rfl ?_
 rw[jH h1]; rfl
theorem zb7 {s:St} {ob:Nat->Option Ob}:∀ {caps:List Cap} {xs:List D},capsle s ob caps (xs.map Cap.dat)->caps.length=xs.length /\ ∀ j,j<xs.length -> ∃ c,caps[j]?=some c/\caple s ob c (.dat (getD' xs j))
 | [],[],_=>⟨rfl,fun j h=>absurd h (qQ _)⟩
 | c :: cs,x :: xs,h=>⟨jI Nat.succ (zb7 (xs:=xs) h.2).1,fun j hj=>by
  cases j with
  | zero=>exact⟨c,rfl,h.1⟩
  | succ j=>exact (zb7 (xs:=xs) h.2).2 j (Nat.lt_of_succ_lt_succ hj)⟩
 | [],_ :: _,h=>h.elim
 | _ :: _,[],h=>h.elim
theorem avClo {s:St} {ob:Nat->Option Ob} {v:AV} {f:FuncId} {caps:List Cap} (xs:List D) (h:v = .clo f caps) (hc:capsle s ob caps (xs.map Cap.dat)):AVle s ob v (.d (cloB f xs)):=by
 subst h
 exact⟨rfl,(zb7 hc).1,(zb7 hc).2⟩
theorem zlJ {s:St} {ob:Nat->Option Ob} {i:Nat} {cs:List AV} (xs:List D) (h1:s.ob i=some (.box cs)) (h2:allD cs=some xs) (h3:ob i=none):caple s ob (.own i) (.dat (capB xs)):=⟨h3,cs,xs,h1,h2,dE _⟩
abbrev csV (ids:List Int) (L:List (List (List Int))) (a b:Int) (j:Jns):List D:=[capB [lI ids],capB [lPP L],capB [I a],capB [I b],jnD j]
theorem zhr (d:Day) {j:Jns} (h:JnOk j) (a b:Int) (v:Vdt) (hn:d.R.length<=1000000) (hT:v.T.length<=1000000/\v.T.flatten.length<=1000000) (hA:v.A.length<=1000000/\v.A.flatten.length<=1000000):Spec PP 20 [d.v,j.v,N a,N b,v.v] [.d (.int .i64 (csmE d j a b v))]:=by
 refine za3 [11] Tryz.func20 rfl (by kernel_rfl) rfl ?_
 have hF:=h.F
 refine cP (zoD d a b hn) rfl rfl ?_
 unfold csmE
 apply bY <;> intro h0
 ·rw[kH (by simpa using h0)]
  exact r1I rfl rfl
 have h0:parE d a b=0:=by simpa using h0
 rw[kG (fun hh=>hh h0)]
 have ok:=zkA h0
 have h7:=sig7 ok
 by_cases c1:127<j.F.length
 ·rw[kH c1]
  refine sYe (jG (show (127:Int)<(j.F.length:Int) by omega)) ?_
  exact r1I rfl rfl
 rw[kG c1]
 refine sNo (jH (show ¬ (127:Int)<(j.F.length:Int) by omega)) ?_
 refine cR (zar d hn) rfl rfl ?_
 refine cR (zc9 (sigL d.R) (hasD j) (.inr ⟨_,_,_,rfl⟩)) rfl rfl ?_
 have hB:=zp0 h (sigL d.R) h7
 have hLl:(bstL (prtF j.F (sigL d.R))).length<=1000000:=by
  have h1:(bstL (prtF j.F (sigL d.R))).length<=(prtF j.F (sigL d.R)).length:=zcJ _
  have:=zim j.F (sigL d.R) h7
  omega
 have hLm:∀ p∈bstL (prtF j.F (sigL d.R)),p.length<=1000000 /\ ∀ s∈p,s.length<=1000000:=fun p hp=>by
  obtain⟨h1,h2⟩:=zfp (B:=0) (zca hp) (fun s hs=>by cases hs)
  simp at h1
  exact⟨by omega,fun s hs=>by have:=h2 s hs; omega⟩
 generalize bstL (prtF j.F (sigL d.R))=L at hB hLl hLm ⊢
 refine cR hB rfl rfl ?_
 apply bY <;> intro h1
 ·have h1:L.length=0:=by
   have:((L.length:Nat):Int)=0:=by simpa using h1
   omega
  rw[kH h1]
  exact r1I rfl rfl
 have h1:¬ L.length=0:=fun e=>by
  have:¬ ((L.length:Nat):Int)=0:=by simpa using h1
  exact this (by rw[e]; rfl)
 rw[kG h1]
 have hT':=zoF h (sigL d.R) L (by omega) a b v.T (v.Ans != 1) true hT.1 hT.2
 have hA':=zoF h (sigL d.R) L (by omega) a b v.A (v.Ans != 2) false hA.1 hA.2
 have e1:(v.Ans != 1)=decide (v.Ans≠1):=by rw[kO,bne_iff_ne,kJ]
 have e2:(v.Ans != 2)=decide (v.Ans≠2):=by rw[kO,bne_iff_ne,kJ]
 rw[<- e1,<- e2]
 generalize shoW (sigL d.R) j.F (L.getD 0 []).length a b v.T (v.Ans != 1) true=uT at hT'
 generalize shoW (sigL d.R) j.F (L.getD 0 []).length a b v.A (v.Ans != 2) false=uA at hA'
 refine kAt [(7,.roe 1 (getD' [I a])),(8,.roe 1 (getD' [I b])),(9,.box 9 0),(13,.roe 1 (getD' [lPP L])),(14,.d (cloB 67 (csV (sigL d.R) L a b j)))] [(9,.box ([I v.Ans,lII v.T,lII v.A].map AV.d))]
  ⟨rfl,⟨obD [I v.Ans,lII v.T,lII v.A] rfl,trivial⟩,zn6 [I a] rfl rfl rfl rfl,zn6 [I b] rfl rfl rfl rfl,avQ rfl,zn6 [lPP L] rfl rfl rfl rfl,avClo (csV (sigL d.R) L a b j) rfl ⟨zlJ _ rfl rfl rfl,zlJ _ rfl rfl rfl,zlJ _ rfl rfl rfl,zlJ _ rfl rfl rfl,zlJ _ rfl rfl rfl,trivial⟩,trivial⟩ ?_
 refine oN 28 ?_
 refine oRo (zgq L a b hLl hLm) rfl rfl ?_
 by_cases c2:v.Ans=(vdtR L a b).Ans
 ·refine sNo (show (v.Ans != (vdtR L a b).Ans)=false by rw[c2]; simp) ?_
  repeat first | apply sT | apply sF
  refine oP hT' rfl rfl ?_
  cases uT with
  | false=>
   repeat first | apply sT | apply sF
   rw[kH (.inr (.inl rfl))]
   exact r1I rfl rfl
  | true=>
  repeat first | apply sT | apply sF
  refine oP hA' rfl rfl ?_
  cases uA with
  | false=>
   repeat first | apply sT | apply sF
   rw[kH (.inr (.inr rfl))]
   exact r1I rfl rfl
  | true=>
  repeat first | apply sT | apply sF
  rw[kG (by rintro (hh | hh | hh); exact hh c2; cases hh; cases hh)]
  exact r1I rfl rfl
 refine sYe (show (v.Ans != (vdtR L a b).Ans)=true from bne_iff_ne.2 c2) ?_
 repeat first | apply sT | apply sF
 rw[kH (.inl c2)]
 exact r1I rfl rfl
theorem zpo (l:List Rpt) (g:FuncId) (c0 c1 c2:D) (p:Rpt->Bool) (hn:l.length<=1000000) (hp:∀ i,i<l.length->Spec PP g [(l.getD i default).v,.d c0,.d c1,.d c2] [B (p (l.getD i default))]):Spec PP 95 [.d (lR l),.d (cloB g [c0,c1,c2])] [B (l.any p)]:=by
 have hx:Spec PP 146 [.d (lR l),.d (cloB g [c0,c1,c2])] [N (idxL p l)]:=by
  refine sA Tryz.func146 ?_
  refine lOf (σ:=Nat) (fun i=>([(0,.d (lR l)),(1,.d (cloB g [c0,c1,c2])),(6,.d (lR l)),(7,.d (I l.length)),(8,.d (I i))],[])) (fun i=>i<=l.length /\ ∀ j,j<i->p (l.getD j default)=false) (fun i=>l.length - i) 0
   ⟨rfl,trivial,wq rfl⟩ z0L fun i hi=>?_
  obtain⟨hi,ha⟩:=hi
  apply bY <;> intro h1
  ·have h1:i<l.length:=by have:=dT h1; omega
   refine⟨⟨rfl,by omega,by omega⟩,?_⟩
   refine cP (hp i h1) rfl rfl ?_
   apply bY <;> intro h2
   ·exact r1I rfl (zaj default h1 h2 ha).symm
   refine⟨i6,?_⟩
   refine⟨i+1,⟨rfl,trivial,wq rfl⟩,⟨h1,fun j hj=>?_⟩,(msr (by omega))⟩
   by_cases e:j=i
   ·subst e; exact h2
   exact ha j (by omega)
  have h1:i=l.length:=by have:=dF h1; omega
  subst h1
  exact r1I rfl (zam default ha).symm
 refine sA Tryz.func95 ?_
 refine cP hx rfl rfl ?_
 refine r1B rfl ?_
 rw[kO,kJ]
 exact za0 p l default
theorem zpp (l:List Mis) (g:FuncId) (c0:D) (p:Mis->Bool) (hn:l.length<=1000000) (hp:∀ i,i<l.length->Spec PP g [(l.getD i default).v,.d c0] [B (p (l.getD i default))]):Spec PP 57 [.d (lMs l),.d (cloB g [c0])] [B (l.any p)]:=by
 have hx:Spec PP 115 [.d (lMs l),.d (cloB g [c0])] [N (idxL p l)]:=by
  refine sA Tryz.func115 ?_
  refine lOf (σ:=Nat) (fun i=>([(0,.d (lMs l)),(1,.d (cloB g [c0])),(6,.d (lMs l)),(7,.d (I l.length)),(8,.d (I i))],[])) (fun i=>i<=l.length /\ ∀ j,j<i->p (l.getD j default)=false) (fun i=>l.length - i) 0
   ⟨rfl,trivial,wq rfl⟩ z0L fun i hi=>?_
  obtain⟨hi,ha⟩:=hi
  apply bY <;> intro h1
  ·have h1:i<l.length:=by have:=dT h1; omega
   refine⟨⟨rfl,by omega,by omega⟩,?_⟩
   refine cP (hp i h1) rfl rfl ?_
   apply bY <;> intro h2
   ·exact r1I rfl (zaj default h1 h2 ha).symm
   refine⟨i6,?_⟩
   refine⟨i+1,⟨rfl,trivial,wq rfl⟩,⟨h1,fun j hj=>?_⟩,(msr (by omega))⟩
   by_cases e:j=i
   ·subst e; exact h2
   exact ha j (by omega)
  have h1:i=l.length:=by have:=dF h1; omega
  subst h1
  exact r1I rfl (zam default ha).symm
 refine sA Tryz.func57 ?_
 refine cP hx rfl rfl ?_
 refine r1B rfl ?_
 rw[kO,kJ]
 exact za0 p l default
abbrev Fit.ds (f:Fit):List D:=[lI f.IDs,I f.At.X,I f.At.Y]
theorem zrF (d:Day) (b:Brn) (f:Fit) (r:Rpt):Spec PP 113 [r.v,.d (capB d.ds),.d (capB b.ds),.d (capB f.ds)] [B (!(decide ((alwR d.s b r f.At).2=0) && (alwR d.s b r f.At).1))]:=by
 refine sA Tryz.func113 ?_
 have h:=znk d.s b r f.At
 generalize alwR d.s b r f.At=x at h ⊢
 refine cP h rfl rfl ?_
 apply bY <;> intro h1
 ·have h1:¬ x.2=0:=by simpa using h1
  repeat first | apply sT | apply sF
  refine r1B rfl ?_
  rw[jH h1]; rfl
 have h1:x.2=0:=by simpa using h1
 repeat first | apply sT | apply sF
 refine r1B rfl ?_
 rw[jG h1,kN]
theorem j_fit {d:Day} (h:DayOk d) (f:Fit) (hf:f.IDs.length<=1000000):Spec PP 56 [d.v,f.v] [B (ckFt d f)]:=by
 have hn:=h.n
 have h7:=sig7 h
 refine sA Tryz.func56 ?_
 refine oN 12 ?_
 refine oP (zfG f.IDs hf) rfl rfl ?_
 unfold ckFt
 cases h1:setB f.IDs with
 | false=>
  repeat first | apply sT | apply sF
  exact r1B rfl rfl
 | true=>
 repeat first | apply sT | apply sF
 refine oRo (zar d (by omega)) rfl rfl ?_
 refine oP (zeW f.IDs (sigL d.R) hf (by omega)) rfl rfl ?_
 cases h2:partB f.IDs (sigL d.R) with
 | false=>
  repeat first | apply sT | apply sF
  exact r1B rfl rfl
 | true=>
 repeat first | apply sT | apply sF
 refine cP (ziG d f.IDs (by omega) hf) rfl rfl ?_
 refine cP (zfF d (brnD d f.IDs) (zfT h f.IDs)) rfl rfl ?_
 cases h3:shoB d f.IDs with
 | false=>
  have h3:decide ((brnD d f.IDs).To - (brnD d f.IDs).From<=d.Long)=false:=h3
  refine sNo h3 ?_
  repeat first | apply sT | apply sF
  exact r1B rfl rfl
 | true=>
 have h3:decide ((brnD d f.IDs).To - (brnD d f.IDs).From<=d.Long)=true:=h3
 refine sYe h3 ?_
 repeat first | apply sT | apply sF
 refine cR (ziF d f.IDs (by omega) hf) rfl rfl ?_
 refine fEq [2,5,3] (zpo (lstD d f.IDs) 113 (capB d.ds) (capB (brnD d f.IDs).ds) (capB f.ds) (fun r=>!alwQ d f r) (by have:=ziy d f.IDs; omega) fun i hi=>zrF d (brnD d f.IDs) f _) rfl ⟨dE _,⟨rfl,rfl,fun j hj=>by
  match j,hj with
  | 0,_=>exact dE _
  | 1,_=>exact dE _
  | 2,_=>exact dE _⟩,trivial⟩ rfl ?_
 repeat first | apply sT | apply sF
 refine r1B rfl ?_
 rw[zc4]; rfl
theorem j_ct1 {d:Day} (h:DayOk d) (f:Fit) (hf:f.IDs.length<=1000000):Spec PP 55 [f.v,.d (capB d.ds)] [B (!ckFt d f)]:=by
 refine sA Tryz.func55 ?_
 refine cR (j_fit h f hf) rfl rfl ?_
 exact r1B rfl rfl
theorem znn {d:Day} (h:DayOk d) (m:Mis) (hf:m.IDs.length<=1000000) (hr:m.R.length<=1000000):Spec PP 59 [d.v,m.v] [B (ckMs d m)]:=by
 have hn:=h.n
 have h7:=sig7 h
 refine sA Tryz.func59 ?_
 refine oN 12 ?_
 refine oP (zfG m.IDs hf) rfl rfl ?_
 unfold ckMs
 cases h1:setB m.IDs with
 | false=>
  repeat first | apply sT | apply sF
  exact r1B rfl rfl
 | true=>
 repeat first | apply sT | apply sF
 refine oRo (zar d (by omega)) rfl rfl ?_
 refine oP (zeW m.IDs (sigL d.R) hf (by omega)) rfl rfl ?_
 cases h2:partB m.IDs (sigL d.R) with
 | false=>
  repeat first | apply sT | apply sF
  exact r1B rfl rfl
 | true=>
 repeat first | apply sT | apply sF
 refine cP (ziG d m.IDs (by omega) hf) rfl rfl ?_
 refine cP (zfF d (brnD d m.IDs) (zfT h m.IDs)) rfl rfl ?_
 cases h3:shoB d m.IDs with
 | false=>
  have h3:decide ((brnD d m.IDs).To - (brnD d m.IDs).From<=d.Long)=false:=h3
  refine sYe (show (!decide ((brnD d m.IDs).To - (brnD d m.IDs).From<=d.Long))=true by rw[h3]; rfl) ?_
  refine r1B rfl ?_
  rw[kG (by decide)]
  simp only[kN]
  rw[kO,jaf,kJ]
  omega
 | true=>
 have h3:decide ((brnD d m.IDs).To - (brnD d m.IDs).From<=d.Long)=true:=h3
 refine sNo (show (!decide ((brnD d m.IDs).To - (brnD d m.IDs).From<=d.Long))=false by rw[h3]; rfl) ?_
 refine oN 12 ?_
 refine oRo (ziF d m.IDs (by omega) hf) rfl rfl ?_
 refine CallOb.pureE (zhn d.s (brnD d m.IDs) (lstD d m.IDs) [] m.R (jF _) hr) rfl ⟨zab _,zab _,dE _,rfl,dE _,trivial⟩ rfl ?_
 refine r1B rfl ?_
 rw[kH rfl]
 simp only[kN]
 rw[kO,jaf,kJ]
theorem j_ct2 {d:Day} (h:DayOk d) (m:Mis) (hf:m.IDs.length<=1000000) (hr:m.R.length<=1000000):Spec PP 58 [m.v,.d (capB d.ds)] [B (!ckMs d m)]:=by
 refine sA Tryz.func58 ?_
 refine cR (znn h m hf hr) rfl rfl ?_
 exact r1B rfl rfl
theorem JnOk.getM {j:Jns} (h:JnOk j) {i:Nat} (hi:i<j.M.length):(j.M.getD i default).IDs.length<=1000000/\(j.M.getD i default).R.length<=1000000:=by
 refine h.m _ ?_
 rw[hU,kF hi]; exact kT hi
abbrev Jns.ds (j:Jns):List D:=[lFt j.F,lMs j.M]
theorem znE {M:List Mis} {l:List Int} {i:Nat} (h:i<M.length):fndM (M.take (i+1)) l=(fndM (M.take i) l || partB (M.getD i default).IDs l):=by
 unfold fndM
 rw[zay h default,List.any_append]; simp
theorem zdb (d:Day) {j:Jns} (hj:JnOk j) (hn:d.R.length<=1000000):Spec PP 17 [d.v,j.v] [.d (.int .i64 (ctbE d j))]:=by
 have hF:=hj.F
 have hM:=hj.M
 refine sA Tryz.func17 ?_
 refine cP (zbD d hn) rfl rfl ?_
 unfold ctbE
 apply bY <;> intro h0
 ·rw[kH (by simpa using h0)]
  exact r1I rfl rfl
 have h0:dayE d=0:=by simpa using h0
 have ok:=zap h0
 have h7:=sig7 ok
 rw[kG (fun hh=>hh h0)]
 by_cases c1:127<j.F.length \/ 127<j.M.length
 ·rw[kH c1]
  apply bY <;> intro h1
  ·repeat first | apply sT | apply sF
   exact r1I rfl rfl
  have h1:¬ 127<j.F.length:=by have:=dF h1; omega
  repeat first | apply sT | apply sF
  refine sYe (jG (show (127:Int)<(j.M.length:Int) by omega)) ?_
  exact r1I rfl rfl
 rw[kG c1]
 refine sNo (jH (show ¬ (127:Int)<(j.F.length:Int) by omega)) ?_
 repeat first | apply sT | apply sF
 refine sNo (jH (show ¬ (127:Int)<(j.M.length:Int) by omega)) ?_
 refine fEq [2] (zka j.F 55 (capB d.ds) (fun f=>!ckFt d f) hF fun i hi=>j_ct1 ok _ (hj.get hi)) rfl ⟨dE _,⟨rfl,rfl,fun j hj=>by obtain rfl:j=0:=jab.1 hj; exact dE _⟩,trivial⟩ rfl ?_
 cases c2:j.F.all (ckFt d) with
 | false=>
  have e2:(j.F.any fun f=>!ckFt d f)=true:=by have:=zc4 (q:=ckFt d) j.F; rw[c2] at this; simpa using this
  refine sYe e2 ?_
  repeat first | apply sT | apply sF
  rw[kZ,kH rfl]
  exact r1I rfl rfl
 | true=>
 have e2:(j.F.any fun f=>!ckFt d f)=false:=by have:=zc4 (q:=ckFt d) j.F; rw[c2] at this; simpa using this
 refine sNo e2 ?_
 repeat first | apply sT | apply sF
 refine pEq (zpp j.M 58 (capB d.ds) (fun m=>!ckMs d m) hM fun i hi=>j_ct2 ok _ (hj.getM hi).1 (hj.getM hi).2) rfl ⟨dE _,⟨rfl,rfl,fun j hj=>by
  obtain rfl:j=0:=jab.1 hj
  refine⟨rfl,fun q hq=>?_⟩
  show D.eqv (getD' d.ds (0+q)) (getD' d.ds q)
  rw[qH]; exact dE _⟩,trivial⟩ rfl ?_
 repeat first | apply sT | apply sF
 cases c3:j.M.all (ckMs d) with
 | false=>
  have e3:(j.M.any fun m=>!ckMs d m)=true:=by have:=zc4 (q:=ckMs d) j.M; rw[c3] at this; simpa using this
  refine sYe e3 ?_
  rw[kH (show (true && false)=false from rfl)]
  exact r1I rfl rfl
 | true=>
 have e3:(j.M.any fun m=>!ckMs d m)=false:=by have:=zc4 (q:=ckMs d) j.M; rw[c3] at this; simpa using this
 refine sNo e3 ?_
 rw[kG (by decide)]
 have es:IntKind.wrap .i64 (1 * 2 ^ (min (((sigL d.R).length:Nat):Int).toNat (IntKind.bits .i64)))=((2 ^ (sigL d.R).length:Nat):Int):=bShl h7
 have hp:2 ^ (sigL d.R).length<=128:=jM (jau (j:=7) (by decide) (by omega)) (by decide)
 have h1p:1<=2 ^ (sigL d.R).length:=Nat.one_le_two_pow
 refine cR (zar d hn) rfl rfl ?_
 refine lOf (σ:=Nat) (fun m=>([(3,.box 3 0),(6,.d (lI (sigL d.R))),(7,.d (I m))],[(3,.box (j.ds.map AV.d))])) (fun m=>1<=m/\m<=2 ^ (sigL d.R).length /\ ∀ k,0<k->k<m->stT (sigL d.R) j k=true) (fun m=>2 ^ (sigL d.R).length - m) 1
  ⟨rfl,⟨obD j.ds rfl,trivial⟩,wq rfl⟩ ⟨jE _,h1p,fun k a b=>by omega⟩ fun m hm=>?_
 obtain⟨hm,hm2,ha⟩:=hm
 refine⟨by omega,?_⟩
 apply bY <;> intro h1
 ·have h1:m<2 ^ (sigL d.R).length:=by have h1:=dT h1; rw[es] at h1; omega
  have next:stT (sigL d.R) j m=true -> ∀ k,0<k->k<m+1->stT (sigL d.R) j k=true:=fun h k k1 k2=>by
   by_cases e:k=m
   ·subst e; exact h
   exact ha k k1 (by omega)
  have hml:(memb (sigL d.R) m).length<=7:=jM (zbd _ _ _) h7
  have hms:2 ^ (sigL d.R).length - (m+1)<2 ^ (sigL d.R).length - m:=by omega
  refine cR (zd3 (sigL d.R) m h7 (by omega)) rfl rfl ?_
  refine cP (zpY hj (memb (sigL d.R) m) (by omega)) rfl rfl ?_
  apply bY <;> intro h2
  ·refine⟨i6,?_⟩
   exact⟨m+1,⟨rfl,⟨obD j.ds rfl,trivial⟩,wq rfl⟩,⟨by omega,h1,next (by unfold stT; rw[h2]; rfl)⟩,hms⟩
  refine lOf (σ:=Nat) (fun i=>([(3,.box 3 0),(6,.d (lI (sigL d.R))),(7,.d (I m)),(8,.d (lI (memb (sigL d.R) m))),(52,.d (lMs j.M)),(53,.d (I j.M.length)),(54,.d (I i))],[(3,.box (j.ds.map AV.d))])) (fun i=>i<=j.M.length/\fndM (j.M.take i) (memb (sigL d.R) m)=false) (fun i=>j.M.length - i) 0
   ⟨rfl,⟨obD j.ds rfl,trivial⟩,wq rfl⟩ ⟨jF _,rfl⟩ fun i hi=>?_
  obtain⟨hi,hf⟩:=hi
  apply bY <;> intro h3
  ·have h3:i<j.M.length:=by have:=dT h3; omega
   have hs:=znE (l:=memb (sigL d.R) m) h3
   rw[hf,wL] at hs
   refine⟨⟨rfl,by omega,by omega⟩,?_⟩
   refine cP (zeW (j.M.getD i default).IDs (memb (sigL d.R) m) (hj.getM h3).1 (by omega)) rfl rfl ?_
   apply bY <;> intro h4
   ·refine⟨i6,?_⟩
    refine⟨m+1,⟨rfl,⟨obD j.ds rfl,trivial⟩,wq rfl⟩,⟨by omega,h1,next ?_⟩,hms⟩
    unfold stT
    rw[jX]; right
    refine kL.2 ⟨j.M.getD i default,?_,h4⟩
    rw[hU,kF h3]; exact kT h3
   refine⟨i6,?_⟩
   exact⟨i+1,⟨rfl,⟨obD j.ds rfl,trivial⟩,wq rfl⟩,⟨h3,by rw[hs]; exact h4⟩,msr h3⟩
  have h3:i=j.M.length:=by have:=dF h3; omega
  subst h3
  rw[jZ] at hf
  have e:allT (sigL d.R) j=false:=by
   rw[qF]
   intro hh
   have:=jC.1 hh m (kI.2 h1)
   rw[jH (by omega),wL] at this
   unfold stT at this
   rw[h2,hf] at this
   cases this
  rw[kH e]
  exact r1I rfl rfl
 have h1:m=2 ^ (sigL d.R).length:=by have h1:=dF h1; rw[es] at h1; omega
 subst h1
 have e:allT (sigL d.R) j=true:=jC.2 fun k hk=>by
  by_cases k0:k=0
  ·subst k0; rfl
  rw[ha k (by omega) (kI.1 hk),qJ]
 rw[kG (by rw[e]; decide)]
 exact r1I rfl rfl
theorem zog (d:Day):JnOk ⟨(tabR d).1,(tabR d).2.1⟩:=⟨(zoh d).1,(zoh d).2,fun f hf=>zjZ hf,fun m hm=>zjY hm⟩
theorem bst3:bsts exD=[[[1,2],[3]]]:=by
 show bstL (parts exD)=_
 rw[p3]; decide +kernel
theorem prv3:prvR exD=([[1,2],[3]],0):=by
 unfold prvR
 rw[kG (fun h=>h dE3),bst3]
 decide +kernel
theorem zax:Spec PP 8 [] [B true]:=by
 have hPq:=znr exD (by decide)
 rw[prv3] at hPq
 have cT:=zld exD (by decide)
 have cC:=zdb exD (j:=⟨(tabR exD).1,(tabR exD).2.1⟩) (zog exD) (by decide)
 rw[zjX dE3] at cC
 rw[zqN.2.2] at cT
 generalize (tabR exD).1=F at *
 generalize (tabR exD).2.1=M at *
 refine sA Tryz.func8 ?_
 refine cR zja rfl rfl ?_
 refine cR hPq rfl rfl ?_
 refine cR cT rfl rfl ?_
 repeat first | apply sT | apply sF | refine sYe rfl ?_
 refine⟨⟨rfl,by decide,by decide⟩,?_⟩
 repeat first | apply sT | apply sF | refine sYe rfl ?_
 refine cP cC rfl rfl ?_
 repeat first | apply sT | apply sF | refine sYe rfl ?_
 exact r1B rfl rfl
theorem zqb {s:Svc} {zs:List Zs} (h:drfB s zs=true) (ok:CirsOk s.k):(∀ z∈zs,0<=z.T/\z.T<=1048576)/\zs.length<=1000000:=by
 unfold drfB at h
 simp only[jP,kA,jC] at h
 obtain⟨h0,h1⟩:=h
 have:=ok.n
 refine⟨fun z hz=>?_,by omega⟩
 obtain⟨i,hi,rfl⟩:=zbL default hz
 have d:=h1 i (kI.2 (by omega))
 unfold drfC at d
 simp only[jP,jaf] at d
 have:=(ok.cs i (by omega)).t
 have:=d.1.1.2
 omega
theorem zr0 {d:Day} {x:Jns} (h:ctbE d x=0):¬ 127<x.F.length:=fun hh=>by
 unfold ctbE at h
 split at h
 ·rename_i h1; exact h1 h
 rw[kH (.inl hh)] at h; cases h
theorem zkB {d:Day} (hd:dayE d=0) {p:List (List Int)} (hp:p∈parts d):p.flatten.length<=7:=by
 have ok:=zap hd
 have h:=(zhj ok.lt _ p).1 hp
 have h1:=h.1
 unfold divB at h1
 rw[jP,kJ] at h1
 have h2:=jI List.length h1.2
 rw[kY] at h2
 have:=sig7 ok
 omega
theorem zj6 {d:Day} {a b:Int}:(samR d a b).1.T.flatten.length<=1000000/\(samR d a b).1.A.flatten.length<=1000000:=by
 unfold samR
 split
 ·exact⟨jF _,jF _⟩
 rename_i h0
 have h0:parE d a b=0:=jL h0
 split
 ·exact⟨jF _,jF _⟩
 have key:∀ q:List (List Int)->Bool,(fstP q (bsts d)).flatten.length<=1000000:=fun q=>by
  unfold fstP
  cases hf:(bsts d).find? q with
  | none=>exact jF _
  | some x=>exact jM (zkB (zkz h0).1 (zca (List.mem_of_find?_eq_some hf))) (by decide)
 exact⟨key _,key _⟩
theorem wr7 {a n:Nat} (ha:a<=255):(IntKind.wrap .i64 ((a:Nat):Int)).tmod ((n:Nat):Int)=((a % n:Nat):Int):=by
 rw[zbr (by exact i6)]; rfl
theorem zmx (d:Day) (id:Int):(staR d id).1.length<=1000000:=by
 unfold staR
 split
 ·exact jF _
 split
 ·exact jF _
 split
 ·exact jF _
 rename_i h0 _ _
 have ok:=zbI (zap (jL h0)).s
 exact jM (zds _ _ _) (jM (zbv ok.c.m) (by decide))
structure Told (d:Day) (fs:List Fir) (O:List (List Int)):Prop where
  n:d.R.length<=9
  len:O.length=fs.length
  nod:O.flatten.Nodup
  mem:∀ x,x∈O.flatten ↔ x∈sigL d.R
  sz:∀ s∈O,s.length<=1000000
  cp:cprR d (prtO O)=0
  few:(fewR d).2=0/\(fewR d).1<=(prtO O).length
  set:∀ s∈prtO O,∃ n,n<fs.length/\s=O.getD n []/\0<s.length/\askE d s=0/\(fs.getD n default).At∈plsD d s
  std:(fewR d).1=(prtO O).length -> ∀ x∈sigL d.R,∃ n,n<fs.length/\whoO O x=(n:Int)/\(staR d x).2=0/\(fs.getD n default).At∈(staR d x).1
  sam:(fewR d).1=(prtO O).length -> ∀ x∈sigL d.R,∀ y∈sigL d.R,x≠y->parE d x y=0/\(samR d x y).2=0/\(samR d x y).1=vdtR (bsts d) x y/\(bsts d).length≠0/\((samR d x y).1.Ans=2->whoO O x=whoO O y)/\((samR d x y).1.Ans=1->whoO O x≠whoO O y)
theorem zo7 {s:Svc} {zs:List Zs} {rise long:Int} {fs:List Fir} {R:List Rpt} {O:List (List Int)} (h:WitOk s zs rise fs (R,O)) (hd:dayE (wtD s rise long R)=0) (hz:drfB s zs=true) (hb:blzB s fs long=true) (hn:R.length<=9):Told (wtD s rise long R) fs O:=by
 have ok:=zap hd
 obtain⟨nod,dv⟩:=znJ ok (of:=O) h.set h.prm
 obtain⟨pa,pb,pc⟩:=zb1 nod
 have hl:(sigL R).Perm (sigK R):=qW _ _
 have mem:∀ x,x∈O.flatten ↔ x∈sigL R:=fun x=>(h.prm.trans hl.symm).mem_iff
 have s7:=sig7 ok
 have fl:O.flatten.length<=9:=by
  rw[h.prm.length_eq]
  exact jM (zdp _) hn
 have place:∀ n,n<fs.length->0<(O.getD n []).length->(fs.getD n default).At∈plsD (wtD s rise long R) (O.getD n []):=fun n hn h0=>zjM h hd hz hb hn h0
 have idx:∀ t∈O,∃ n,n<fs.length/\t=O.getD n []:=fun t ht=>by
  obtain⟨n,hn,rfl⟩:=kP ht
  exact⟨n,by rw[<- h.len]; exact hn,by rw[hU,kF hn]; rfl⟩
 have setF:∀ t∈prtO O,∃ n,n<fs.length/\t=O.getD n []/\0<t.length/\askE (wtD s rise long R) t=0/\(fs.getD n default).At∈plsD (wtD s rise long R) t:=fun t ht=>by
  obtain⟨h1,h2⟩:=(pc t).1 ht
  obtain⟨n,hn,e⟩:=idx t h1
  refine⟨n,hn,e,h2,?_,by rw[e]; exact place n hn (e ▸ h2)⟩
  unfold askE
  rw[kG (fun hh=>hh hd),kG (by rw[zoj (h.set t h1) h2]; decide),kG]
  rw[wA]
  exact jC.2 fun x hx=>kD.2 ((mem x).1 (List.mem_flatten.2 ⟨t,h1,hx⟩))
 obtain⟨cp,inp⟩:=zmr hd dv fun t ht=>by
  obtain⟨n,_,_,_,_,hp⟩:=setF t ht
  exact⟨_,hp⟩
 obtain⟨f1,f2,f3,f4⟩:=zqy hd inp
 have ofx:∀ x∈sigL R,∃ n,n<O.length/\x∈O.getD n []:=fun x hx=>zbz.1 ((mem x).2 hx)
 refine⟨hn,h.len,nod,mem,fun t ht=>?_,cp,⟨f1,f2⟩,setF,fun he x hx=>?_,fun he x hx y hy hxy=>?_⟩
 ·have:=(List.sublist_flatten_of_mem ht).length_le
  omega
 ·obtain⟨n,hn,hm⟩:=ofx x hx
  have hs:O.getD n []∈prtO O:=(pc _).2 ⟨gd1 hn [],List.length_pos_of_mem hm⟩
  have hp:=place n (by rw[<- h.len]; exact hn) (List.length_pos_of_mem hm)
  exact⟨n,by rw[<- h.len]; exact hn,zcl nod hn hm,zjd hd (kD.2 hx) (f3 he) hs hm hp⟩
 have pe:parE (wtD s rise long R) x y=0:=by
  unfold parE
  rw[kG (fun hh=>hh hd),kG,kG hxy]
  rw[wA]
  refine jC.2 fun z hz=>kD.2 ?_
  rcases k9.1 hz with rfl | hz
  ·exact hx
  rw[kM.1 hz]; exact hy
 have es:samR (wtD s rise long R) x y=(vdtR (bsts (wtD s rise long R)) x y,0):=by unfold samR; rw[kG (fun hh=>hh pe),kG f4]
 have tg:=zmu nod ((mem x).2 hx) ((mem y).2 hy)
 rw[es]
 refine⟨pe,rfl,rfl,f4,fun ha=>tg.1 (zo0 (f3 he) ha),fun ha hw=>?_⟩
 have:=zqL (f3 he) ha
 rw[tg.2 hw] at this; cases this
theorem s_TopSmokesAreTold (s:Svc) (zs:List Zs) (rise long:Int) (fs:List Fir) (l:List Rpt) (bs:List Int) (a:Int) (ha:0<=a/\a<=255) (b:Int) (hb:0<=b/\b<=255) (hfn:fs.length<=maxLen) (hbs:∀ x∈bs,0<=x/\x<=255) :
  Spec PP 3 [s.v,.d (lZs zs),N rise,N long,.d (lFi fs),.d (lR l),.d (lU8 bs),.d (.int .u8 a),.d (.int .u8 b)] [B true]:=by
 obtain⟨a,rfl⟩:=Int.eq_ofNat_of_zero_le ha.1
 obtain⟨b,rfl⟩:=Int.eq_ofNat_of_zero_le hb.1
 refine za3 [7,18,24] Tryz.func3 rfl (by kernel_rfl) rfl ?_
 refine cP (zqJ s) rfl rfl ?_
 apply bY <;> intro h1
 ·repeat first | apply sT | apply sF
  refine cP zax rfl rfl ?_
  exact r1B rfl rfl
 repeat first | apply sT | apply sF
 apply bY <;> intro h2
 ·repeat first | apply sT | apply sF
  refine cP zax rfl rfl ?_
  exact r1B rfl rfl
 have hl:l.length<=9:=by have:¬ (9:Int)<l.length:=dF h2; omega
 repeat first | apply sT | apply sF
 apply bY <;> intro h3
 ·repeat first | apply sT | apply sF
  refine cP zax rfl rfl ?_
  exact r1B rfl rfl
 have h3:¬ rise<0:=dF h3
 repeat first | apply sT | apply sF
 apply bY <;> intro h4
 ·repeat first | apply sT | apply sF
  refine cP zax rfl rfl ?_
  exact r1B rfl rfl
 have h4:¬ 200<rise:=dF h4
 repeat first | apply sT | apply sF
 apply bY <;> intro h5
 ·repeat first | apply sT | apply sF
  refine cP zax rfl rfl ?_
  exact r1B rfl rfl
 have h5:¬ long<0:=dF h5
 repeat first | apply sT | apply sF
 apply bY <;> intro h6
 ·repeat first | apply sT | apply sF
  refine cP zax rfl rfl ?_
  exact r1B rfl rfl
 have h6:¬ 1440<long:=dF h6
 repeat first | apply sT | apply sF
 refine cP (zd1 s) rfl rfl ?_
 repeat first | apply sT | apply sF
 apply bY <;> intro h7
 ·repeat first | apply sT | apply sF
  refine cP zax rfl rfl ?_
  exact r1B rfl rfl
 have h7:svcE s=0:=by simpa using h7
 have sk:=zbI h7
 repeat first | apply sT | apply sF
 refine cP (zi8 s zs h7) rfl rfl ?_
 repeat first | apply sT | apply sF
 apply bY <;> intro h8
 ·repeat first | apply sT | apply sF
  refine cP zax rfl rfl ?_
  exact r1B rfl rfl
 have h8:drfB s zs=true:=by simpa using h8
 obtain⟨z1,z2⟩:=zqb h8 sk.k
 repeat first | apply sT | apply sF
 refine cP (zjO s fs long sk.c.m hfn) rfl rfl ?_
 repeat first | apply sT | apply sF
 apply bY <;> intro h9
 ·repeat first | apply sT | apply sF
  refine cP zax rfl rfl ?_
  exact r1B rfl rfl
 have h9:blzB s fs long=true:=by simpa using h9
 repeat first | apply sT | apply sF
 have hf:0<fs.length/\fs.length<=4:=by
  unfold blzB at h9
  simp only[jP,kA] at h9
  exact h9.2
 have cW:=zgY s zs rise long fs l bs h7 z1 z2 hf hl hbs
 obtain⟨W,W9⟩:=zoc s zs rise l bs hf.1 l.length
 generalize witK s zs rise fs l bs l.length=x at *
 obtain⟨R,O⟩:=x
 have W9:R.length<=9:=jM W9 hl
 have dy:=zoX (long:=long) W h7 ⟨by omega,by omega⟩ ⟨by omega,by omega⟩ W9
 refine cR cW rfl rfl ?_
 have cS:=zhq (wtD s rise long R) (show R.length<=1000000 by omega)
 by_cases hd:dayE (wtD s rise long R)=0
 case neg=>
  have hd2:=dy.resolve_left hd
  have e2:sigR (wtD s rise long R)=([],2):=by unfold sigR; rw[kH hd,hd2]
  rw[e2] at cS
  refine cR cS rfl rfl ?_
  repeat first | apply sT | apply sF
  refine cP zax rfl rfl ?_
  repeat first | apply sT | apply sF
  exact r1B rfl rfl
 have T:=zo7 W hd h8 h9 W9
 have e2:sigR (wtD s rise long R)=(sigL R,0):=by unfold sigR; rw[kG (fun hh=>hh hd)]
 rw[e2] at cS
 refine cR cS rfl rfl ?_
 repeat first | apply sT | apply sF
 apply bY <;> intro h10
 ·repeat first | apply sT | apply sF
  refine cP zax rfl rfl ?_
  repeat first | apply sT | apply sF
  exact r1B rfl rfl
 have h10:(sigL R).length<=5:=by have:¬ (5:Int)<(sigL R).length:=dF h10; omega
 obtain⟨d,hD⟩:∃ d,d=wtD s rise long R:=⟨_,rfl⟩
 obtain⟨ids,hI⟩:∃ ids,ids=sigL d.R:=⟨_,rfl⟩
 have hI':sigL R=ids:=by rw[hI,hD]
 rw[hI'] at h10
 refine kAt [(4,.d (lFi fs)),(7,.d (.int .u8 (a:Int))),(8,.d (.int .u8 (b:Int))),(19,.box 19 0),(20,.d (lII O)),(21,.d (lI ids))] [(19,.box (d.ds.map AV.d))] ⟨rfl,⟨obX (by rw[hD]; rfl),trivial⟩,avQ rfl,avQ rfl,avQ rfl,avQ rfl,avQ rfl,avE rfl (show D.eqv (lI (sigL R)) (lI ids) by rw[hI']; exact dE _),trivial⟩ ?_
 rw[<- hD] at T hd
 clear cS e2 cW W dy W9
 have hn:d.R.length<=1000000:=by have:=T.n; omega
 have fO:O.flatten.length<=1000000:=by
  have h1:=T.nod
  have h2:O.flatten.Perm ids:=by
   rw[hI]
   exact zfw h1 (zaA (zap hd).lt) T.mem
  rw[h2.length_eq]; omega
 have lO:O.length<=4:=by rw[T.len]; exact hf.2
 obtain⟨pa,pb,pc⟩:=zb1 T.nod
 have lP:(prtO O).length<=4:=jM (zik O) lO
 have cF:=zns d hn
 have cC:=zdk d (prtO O) hn (by omega) (by rw[pb.length_eq]; exact fO)
 rw[T.cp] at cC
 obtain⟨f1,f2⟩:=T.few
 rw[f1] at cF
 obtain⟨m,hm⟩:∃ m,m=(fewR d).1:=⟨_,rfl⟩
 have std:=T.std
 have sam:=T.sam
 rw[<- hm] at cF f2 std sam
 refine cR (zmm O T.nod (by omega) T.sz) rfl rfl ?_
 refine cP cF rfl rfl ?_
 refine cP cC rfl rfl ?_
 repeat first | apply sT | apply sF
 refine sNo (jH (show ¬ (((prtO O).length:Nat):Int)<m by omega)) ?_
 refine lOf (σ:=Nat) (fun i=>([(4,.d (lFi fs)),(7,.d (.int .u8 (a:Int))),(8,.d (.int .u8 (b:Int))),(19,.box 19 0),(21,.d (lI ids)),(23,.d (lII (prtO O))),(24,.d (wmD (whoO O) O.flatten)),(25,.d (I m)),(139,.d (lII (prtO O))),(140,.d (I (prtO O).length)),(141,.d (I i))],[(19,.box (d.ds.map AV.d))])) (fun i=>i<=(prtO O).length) (fun i=>(prtO O).length - i) 0
  ⟨rfl,⟨obD d.ds rfl,trivial⟩,wq rfl⟩ (jF _) fun i hi=>?_
 have hi:i<=(prtO O).length:=hi
 apply bY <;> intro g1
 ·have g1:i<(prtO O).length:=by have:=dT g1; omega
  have hs:=gd1 g1 []
  obtain⟨n,n1,n2,n3,n4,n5⟩:=T.set _ hs
  have hz:((prtO O).getD i []).length<=1000000:=T.sz _ ((pc _).1 hs).1
  have cE:=zrK d ((prtO O).getD i []) hn hz
  have ec:celR d ((prtO O).getD i [])=(plsD d ((prtO O).getD i []),0):=by unfold celR; rw[kG (fun hh=>hh n4)]
  rw[ec] at cE
  have hx0:((prtO O).getD i []).getD 0 0∈O.getD n []:=by rw[<- n2]; exact gd1 n3 0
  have hw:whoO O (((prtO O).getD i []).getD 0 0)=(n:Int):=zcl T.nod (by rw[T.len]; exact n1) hx0
  have hfl:((prtO O).getD i []).getD 0 0∈O.flatten:=zbz.2 ⟨n,by rw[T.len]; exact n1,hx0⟩
  have cH:=zjN (plsD d ((prtO O).getD i [])) (fs.getD n default).At (jM (zio d ((prtO O).getD i [])) (by decide))
  rw[kD.2 n5] at cH
  refine⟨⟨rfl,by omega,by omega⟩,?_⟩
  refine cR cE rfl rfl ?_
  repeat first | apply sT | apply sF
  refine⟨⟨rfl,by decide,(show (0:Int)<(((prtO O).getD i []).length:Int) by omega)⟩,?_⟩
  refine⟨⟨kInt,rfl⟩,.int .i64 (n:Int),D.eqv_of_eq ((lk_w (whoO O) hfl).trans (by rw[hw])),?_⟩
  refine⟨⟨rfl,by omega,(show (n:Int)<(fs.length:Int) by omega)⟩,?_⟩
  refine cP cH rfl rfl ?_
  repeat first | apply sT | apply sF
  refine⟨i6,?_⟩
  exact⟨i+1,⟨rfl,⟨obD d.ds rfl,trivial⟩,wq rfl⟩,g1,msr g1⟩
 refine kAt [(4,.d (lFi fs)),(7,.d (.int .u8 (a:Int))),(8,.d (.int .u8 (b:Int))),(19,.box 19 0),(21,.d (lI ids)),(23,.d (lII (prtO O))),(24,.d (wmD (whoO O) O.flatten)),(25,.d (I m))] [(19,.box (d.ds.map AV.d))] ⟨rfl,⟨obD d.ds rfl,trivial⟩,wq rfl⟩ ?_
 have cT:=zld d hn
 have et:(tabR d).2.2=0:=by unfold tabR; rw[kG (fun hh=>hh hd)]
 rw[et] at cT
 have jo:=zog d
 have cK:=zdb d jo hn
 have tw:=zjX hd
 rw[tw] at cK
 have pp:=zjj hd tw
 have F7:=zr0 tw
 have cSm:=fun (x y:Int) (hT:(samR d x y).1.T.length<=1000000/\(samR d x y).1.T.flatten.length<=1000000) (hA:(samR d x y).1.A.length<=1000000/\(samR d x y).1.A.flatten.length<=1000000)=>zhr d jo x y (samR d x y).1 hn hT hA
 have cO:=fun (x y:Int) (hp:parE d x y=0) (hb:(bsts d).length≠0)=>zqf hd hp F7 pp hb
 generalize (tabR d).1=F at *
 generalize (tabR d).2.1=M at *
 refine cR cT rfl rfl ?_
 repeat first | apply sT | apply sF
 refine cP cK rfl rfl ?_
 repeat first | apply sT | apply sF
 apply bY <;> intro h11
 ·repeat first | apply sT | apply sF
  refine cP zax rfl rfl ?_
  exact r1B rfl rfl
 have h11:m=((prtO O).length:Int):=by have:¬ m<((prtO O).length:Int):=dF h11; omega
 repeat first | apply sT | apply sF
 apply bY <;> intro h12
 ·repeat first | apply sT | apply sF
  refine cP zax rfl rfl ?_
  exact r1B rfl rfl
 have h12:2<=ids.length:=by have:¬ (ids.length:Int)<2:=dF h12; omega
 repeat first | apply sT | apply sF
 have wa:=wr7 (a:=a) (n:=ids.length) (by omega)
 have wb:=wr7 (a:=b) (n:=ids.length) (by omega)
 have ka:a % ids.length<ids.length:=jay _ (by omega)
 have kb:b % ids.length<ids.length:=jay _ (by omega)
 have nz:((ids.length:Nat):Int)≠0:=by omega
 refine oN 18 ?_
 refine⟨nz,?_⟩
 refine⟨⟨rfl,(by rw[wa]; omega),(by rw[wa]; omega)⟩,?_⟩
 refine⟨nz,?_⟩
 refine⟨⟨rfl,(by rw[wb]; omega),(by rw[wb]; omega)⟩,?_⟩
 obtain⟨A,hA⟩:∃ A,A=ids.getD ((IntKind.wrap .i64 ((a:Nat):Int)).tmod ((ids.length:Nat):Int)).toNat 0:=⟨_,rfl⟩
 obtain⟨B',hB'⟩:∃ A,A=ids.getD ((IntKind.wrap .i64 ((b:Nat):Int)).tmod ((ids.length:Nat):Int)).toNat 0:=⟨_,rfl⟩
 refine kAt [(4,.d (lFi fs)),(19,.box 19 0),(24,.d (wmD (whoO O) O.flatten)),(31,.box 31 0),(33,.d (I A)),(34,.d (I B'))] [(19,.box (d.ds.map AV.d)),(31,.box ([lFt F,lMs M].map AV.d))]
  ⟨rfl,⟨obD d.ds rfl,obD [lFt F,lMs M] rfl,trivial⟩,avQ rfl,avQ rfl,avQ rfl,avQ rfl,avI rfl hA.symm,avI rfl hB'.symm,trivial⟩ ?_
 have mA:A∈sigL d.R:=by
  rw[hA,wa,<- hI,jar]
  exact gd1 ka 0
 have mB:B'∈sigL d.R:=by
  rw[hB',wb,<- hI,jar]
  exact gd1 kb 0
 clear hA hB' wa wb ka kb nz
 have fA:=(T.mem A).2 mA
 have fB:=(T.mem B').2 mB
 obtain⟨n,n1,n2,n3,n4⟩:=std h11 A mA
 have cSt:=znq d A hn
 rw[n3] at cSt
 have cH:=zjN (staR d A).1 (fs.getD n default).At (zmx d A)
 rw[kD.2 n4] at cH
 refine cR cSt rfl rfl ?_
 repeat first | apply sT | apply sF
 refine⟨⟨kInt,rfl⟩,.int .i64 (n:Int),D.eqv_of_eq ((lk_w (whoO O) fA).trans (by rw[n2])),?_⟩
 refine⟨⟨rfl,by omega,(show (n:Int)<(fs.length:Int) by omega)⟩,?_⟩
 refine cP cH rfl rfl ?_
 repeat first | apply sT | apply sF
 apply bY <;> intro h13
 ·repeat first | apply sT | apply sF
  refine cP zax rfl rfl ?_
  exact r1B rfl rfl
 have h13:A≠B':=by simpa using h13
 obtain⟨pe,s0,sv,bn,sy,sn⟩:=sam h11 A mA B' mB h13
 have cM:=zrJ d A B' hn
 rw[s0] at cM
 have hsi:=zpl (d:=d) (a:=A) (b:=B')
 have hsf:=zj6 (d:=d) (a:=A) (b:=B')
 have cK2:=cSm A B' ⟨hsi.1.1,hsf.1⟩ ⟨hsi.2.1,hsf.2⟩
 have hK0:csmE d ⟨F,M⟩ A B' (samR d A B').1=0:=by rw[sv]; exact cO A B' pe bn
 rw[hK0] at cK2
 generalize (samR d A B').1=V at *
 refine cR cM rfl rfl ?_
 refine⟨⟨kInt,rfl⟩,.int .i64 (whoO O A),D.eqv_of_eq (lk_w (whoO O) fA),?_⟩
 refine⟨⟨kInt,rfl⟩,.int .i64 (whoO O B'),D.eqv_of_eq (lk_w (whoO O) fB),?_⟩
 refine cP zax rfl rfl ?_
 repeat first | apply sT | apply sF
 refine cP cK2 rfl rfl ?_
 repeat first | apply sT | apply sF
 apply bY <;> intro h14
 ·have h14:V.Ans≠2:=by simpa using h14
  repeat first | apply sT | apply sF
  apply bY <;> intro h15
  ·repeat first | apply sT | apply sF
   exact r1B rfl rfl
  have h15:V.Ans=1:=by simpa using h15
  repeat first | apply sT | apply sF
  refine r1B rfl ?_
  have:=sn h15
  simpa using this
 have h14:V.Ans=2:=by simpa using h14
 have e:=sy h14
 repeat first | apply sT | apply sF
 refine sYe (by rw[e]; simp) ?_
 refine sYe (by rw[h14]; decide) ?_
 repeat first | apply sT | apply sF
 exact r1B rfl rfl
theorem fitGz {α:Type} [Inhabited α] {k:Nat} {sh:Nat->Sh} {at_:α->Nat->D} {x:D} (H:∀ g:Nat->D,(∀ j,j<k->Fits (sh j) (g j)) -> ∃ a:α,∀ j,j<k->D.eqv (g j) (at_ a j)) (h:Fits (.sl k sh) x):∃ l:List α,l.length<=maxLen/\D.eqv x (.slc k l.length fun i=>at_ (l.getD i default)):=by
 obtain⟨n,f,rfl,hn,hf⟩:=h
 have q:∀ i,i<n -> ∃ a:α,∀ j,j<k->D.eqv (f i j) (at_ a j):=fun i hi=>H (f i) (hf i hi)
 refine⟨(List.range n).map fun i=>if h:i<n then Classical.choose (q i h) else default,by simpa using hn,by simp,.inr ⟨rfl,fun i hi j hj=>?_⟩⟩
 have e:(((List.range n).map fun i=>if h:i<n then Classical.choose (q i h) else default).getD i default)=Classical.choose (q i hi):=by
  rw[hU,jU,qR hi]
  show (if h:i<n then Classical.choose (q i h) else default)=_
  rw[dif_pos hi]
 dsimp only
 rw[e]
 exact jas (q i hi) j hj
abbrev shZs:Sh:=.sl 3 fun j=>shSl.getD' [.int .i64,.int .i64,shI 1] j
theorem rep_lZs {w:World} {ok:Nat->Prop} {x:D} {v:Value} (hr:Rep1 w ok (.d x) v) (h:All2 Fits [shZs] [x]):∃ l:List Zs,Rep1 w ok (.d (lZs l)) v:=by
 cases h with
 | cons h _=>
 obtain⟨l,_,e⟩:=fitGz (at_:=Zs.at) (fun g hg=>by
  obtain⟨a,-,ha⟩:=hg 0 (by decide)
  obtain⟨b,-,hb⟩:=hg 1 (by decide)
  obtain⟨z,hz⟩:=fitI (α:=Int) (at_:=fun a _=>I a) (fun g=>g 0) (fun g j hj=>by
   match j,hj with
   | 0,_=>rfl) (hg 2 (by decide))
  refine⟨⟨a,b,z⟩,fun j hj=>?_⟩
  match j,hj with
  | 0,_=>rw[ha]; exact⟨rfl,rfl⟩
  | 1,_=>rw[hb]; exact⟨rfl,rfl⟩
  | 2,_=>exact hz) h
 exact⟨l,Rep.eqv hr e⟩
abbrev shU8:Sh:=.sl 1 fun j=>shSl.getD' [.int .u8] j
theorem rep_lU8 {w:World} {ok:Nat->Prop} {x:D} {v:Value} (hr:Rep1 w ok (.d x) v) (h:All2 Fits [shU8] [x]):∃ l:List Int,(∀ b∈l,0<=b/\b<=255)/\Rep1 w ok (.d (lU8 l)) v:=by
 cases h with
 | cons h _=>
 obtain⟨n,f,rfl,hn,hf⟩:=h
 have key:∀ i,i<n -> ∃ z:Int,(0<=z/\z<=255)/\f i 0 = .int .u8 z:=fun i hi=>hf i hi 0 (by decide)
 let g:Nat->Int:=fun i=>if h:i<n then Classical.choose (key i h) else 0
 have hg:∀ i,i<n->(0<=g i/\g i<=255)/\f i 0 = .int .u8 (g i):=fun i hi=>by
  have e:g i=Classical.choose (key i hi):=dif_pos hi
  rw[e]
  exact jas (key i hi)
 refine⟨(List.range n).map g,fun b hb=>?_,Rep.eqv hr ⟨by simp,.inr ⟨rfl,fun i hi j hj=>?_⟩⟩⟩
 ·obtain⟨i,hi,rfl⟩:=kK.1 hb
  exact (hg i (kI.1 hi)).1
 have e:((List.range n).map g).getD i 0=g i:=by
  rw[hU,jU,qR hi]; rfl
 obtain rfl:j=0:=by omega
 show D.eqv (f i 0) (.int .u8 (((List.range n).map g).getD i 0))
 rw[e,(hg i hi).2]
 exact⟨rfl,rfl⟩
theorem rep_lFi {w:World} {ok:Nat->Prop} {x:D} {v:Value} (hr:Rep1 w ok (.d x) v) (h:All2 Fits [shI 4] [x]):∃ l:List Fir,l.length<=maxLen/\Rep1 w ok (.d (lFi l)) v:=by
 cases h with
 | cons h _=>
 obtain⟨l,hn,_,hl⟩:=fitsL (at_:=Fir.at) (fun g=>⟨⟨g 0,g 1⟩,g 2,g 3⟩) (k:=4) (fun j hj=>by
  match j,hj with
  | 0,_=>rfl
  | 1,_=>rfl
  | 2,_=>rfl
  | 3,_=>rfl) (fun g j hj=>by
  match j,hj with
  | 0,_=>rfl
  | 1,_=>rfl
  | 2,_=>rfl
  | 3,_=>rfl) h
 exact⟨l,hn,Rep.eqv hr hl⟩
end Go.Pg
