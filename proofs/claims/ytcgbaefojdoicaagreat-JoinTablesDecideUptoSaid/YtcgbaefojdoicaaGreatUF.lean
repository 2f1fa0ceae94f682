/- Lemmas, joined by program. -/
import Derived.Test.YtcgbaefojdoicaaGreatUE
set_option maxHeartbeats 4000000
set_option linter.all false
namespace Go.Pg
open Go.Proofs Go.RowKit
theorem fitG {α:Type} [Inhabited α] {k:Nat} {sh:Nat->Sh} {at_:α->Nat->D} {x:D} (H:∀ g:Nat->D,(∀ j,j<k->Fits (sh j) (g j)) -> ∃ a:α,∀ j,j<k->D.eqv (g j) (at_ a j)) (h:Fits (.sl k sh) x):∃ l:List α,l.length<=maxLen/\D.eqv x (.slc k l.length fun i=>at_ (l.getD i default)):=by
 obtain⟨n,f,rfl,hn,hf⟩:=h
 have q:∀ i,i<n -> ∃ a:α,∀ j,j<k->D.eqv (f i j) (at_ a j):=fun i hi=>H (f i) (hf i hi)
 refine⟨(List.range n).map fun i=>if h:i<n then Classical.choose (q i h) else default,by simpa using hn,by simp,.inr ⟨rfl,fun i hi j hj=>?_⟩⟩
 have e:(((List.range n).map fun i=>if h:i<n then Classical.choose (q i h) else default).getD i default)=Classical.choose (q i hi):=by
  rw[hX,jU,qZ hi]
  show (if h:i<n then Classical.choose (q i h) else default)=_
  rw[dif_pos hi]
 dsimp only
 rw[e]
 exact jas (q i hi) j hj
theorem zoT {x:D} (h:Fits (shI 1) x):∃ l:List Int,D.eqv x (lI l):=fitI (α:=Int) (at_:=fun a _=>I a) (fun g=>g 0) (fun g j hj=>by
 match j,hj with
 | 0,_=>rfl) h
abbrev shII:Sh:=.sl 1 fun j=>shSl.getD' [shI 1] j
theorem fitII {x:D} (h:Fits shII x):∃ l:List (List Int),l.length<=maxLen/\D.eqv x (lII l):=fitG (α:=List Int) (at_:=fun a _=>lI a) (fun g hg=>by
 obtain⟨l,hl⟩:=zoT (hg 0 (by decide))
 refine⟨l,fun j hj=>?_⟩
 match j,hj with
 | 0,_=>exact hl) h
theorem rep_lII {w:World} {ok:Nat->Prop} {x:D} {v:Value} (hr:Rep1 w ok (.d x) v) (h:All2 Fits [shII] [x]):∃ l:List (List Int),Rep1 w ok (.d (lII l)) v:=by
 cases h with
 | cons h _=>
 obtain⟨l,-,e⟩:=fitII h
 exact⟨l,Rep.eqv hr e⟩
structure Jns where
  F:List Fit
  M:List Mis
abbrev Jns.v (j:Jns):V1:=.agg [lFt j.F,lMs j.M]
abbrev shJns:List Sh:=[.sl 3 fun j=>shSl.getD' [shI 1,.int .i64,.int .i64] j,.sl 2 fun j=>shSl.getD' [shI 1,shI 3] j]
theorem rep_Jns {w:World} {ok:Nat->Prop} {xs:List D} {v:Value} (hr:Rep1 w ok (.agg xs) v) (h:All2 Fits shJns xs):∃ d:Jns,(d.F.length<=maxLen/\d.M.length<=maxLen)/\Rep1 w ok d.v v:=by
 obtain⟨vs,e,hv⟩:=hr
 cases h with | cons h0 h=>
 cases h with | cons h1 h=>
 cases h
 obtain⟨F,bF,eF⟩:=fitG (α:=Fit) (at_:=Fit.at) (fun g hg=>by
  obtain⟨l,hl⟩:=zoT (hg 0 (by decide))
  obtain⟨a,-,ha⟩:=hg 1 (by decide)
  obtain⟨b,-,hb⟩:=hg 2 (by decide)
  refine⟨⟨l,⟨a,b⟩⟩,fun j hj=>?_⟩
  match j,hj with
  | 0,_=>exact hl
  | 1,_=>rw[ha]; exact⟨rfl,rfl⟩
  | 2,_=>rw[hb]; exact⟨rfl,rfl⟩) h0
 obtain⟨M,bM,eM⟩:=fitG (α:=Mis) (at_:=Mis.at) (fun g hg=>by
  obtain⟨l,hl⟩:=zoT (hg 0 (by decide))
  obtain⟨r,hr⟩:=fitI (α:=Rsn) (at_:=Rsn.at) (fun g=>⟨⟨g 0,g 1⟩,g 2⟩) (fun g j hj=>by
   match j,hj with
   | 0,_=>rfl
   | 1,_=>rfl
   | 2,_=>rfl) (hg 1 (by decide))
  refine⟨⟨l,r⟩,fun j hj=>?_⟩
  match j,hj with
  | 0,_=>exact hl
  | 1,_=>exact hr) h1
 exact⟨⟨F,M⟩,⟨bF,bM⟩,vs,e,rep_aggE hv ⟨eF,eM,trivial⟩⟩
abbrev shVdt:List Sh:=[.int .i64,shII,shII]
theorem rep_Vdt {w:World} {ok:Nat->Prop} {xs:List D} {v:Value} (hr:Rep1 w ok (.agg xs) v) (h:All2 Fits shVdt xs):∃ d:Vdt,Rep1 w ok d.v v:=by
 obtain⟨vs,e,hv⟩:=hr
 cases h with | cons h0 h=>
 cases h with | cons h1 h=>
 cases h with | cons h2 h=>
 cases h
 obtain⟨n0,-,rfl⟩:=h0
 obtain⟨T,-,eT⟩:=fitII h1
 obtain⟨A,-,eA⟩:=fitII h2
 exact⟨⟨n0,T,A⟩,vs,e,rep_aggE hv ⟨⟨rfl,rfl⟩,eT,eA,trivial⟩⟩
end Go.Pg
set_option maxRecDepth 100000
namespace Go.Pg
open Go.Proofs Go.RowKit Go.Sort Go.Shelf
theorem zjl {d:Day} {x:Fit} (h:x∈(tabR d).1):x.IDs.length<=1000000:=by
 unfold tabR at h
 split at h
 ·cases h
 rename_i h0
 have h7:=sig7 (zaB (jL h0))
 have h:=(qY _ _).mem_iff.1 h
 obtain⟨m,_,_,_,rfl⟩:=zaN h
 exact jM (zaH _ _ _) (by omega)
theorem zjk {d:Day} {x:Mis} (h:x∈(tabR d).2.1):x.IDs.length<=1000000/\x.R.length<=1000000:=by
 unfold tabR at h
 split at h
 ·cases h
 rename_i h0
 have h7:=sig7 (zaB (jL h0))
 have h:=(qY _ _).mem_iff.1 h
 obtain⟨m,_,_,_,rfl⟩:=zaN h
 refine⟨jM (zaH _ _ _) (by omega),?_⟩
 show (misR d _).length<=_
 unfold misR
 split
 ·exact zog
 exact jF _
theorem zm5 (d:Day):(tabR d).1.length<=1000000/\(tabR d).2.1.length<=1000000:=by
 unfold tabR
 split
 ·exact⟨jF _,jF _⟩
 rename_i h0
 have h7:=sig7 (zaB (jL h0))
 have hp:2 ^ (sigL d.R).length<=2 ^ 7:=wE (by decide) h7
 show (srtF _).length<=_/\(srtM _).length<=_
 unfold srtF srtM
 rw[kU,kU]
 exact⟨jM (zbt _ _ _) (by omega),jM (zbt _ _ _) (by omega)⟩
theorem zgC (ids s:List Int):∀ i j,(bitA ids s i).testBit j=(decide (j<i) && s.contains (ids.getD j 0))
 | 0,j=>by show (0:Nat).testBit j=_; simp
 | i+1,j=>by
  have ih:=zgC ids s i
  rw[zbR]
  by_cases e:s.contains (ids.getD i 0)=true
  ·rw[kH e,zdd,ih]
   by_cases e2:i=j
   ·subst e2; rw[e,jG (rfl:i=i),jG (Nat.lt_succ_self i),qJ]; rfl
   rw[jH e2,jag]
   congr 1
   exact qO.2 (by omega)
  rw[kG e,ih]
  by_cases e2:i=j
  ·subst e2
   rw[Bool.not_eq_true] at e
   rw[e,wD,wD]
  congr 1
  exact qO.2 (by omega)
theorem zd8 (ids s:List Int) (j:Nat):(bitS ids s).testBit j=(decide (j<ids.length) && s.contains (ids.getD j 0)):=zgC ids s ids.length j
theorem zd9 (ids s:List Int):bitS ids s<2 ^ ids.length:=Nat.lt_pow_two_of_testBit _ fun j hj=>by
 rw[zd8,jH (by omega),qF]
theorem zmv {l:List Int} {i:Nat} (h:i<l.length):l.getD i 0∈l:=by rw[hX,hZ h]; exact kQ h
theorem zf6 {ids s:List Int} (hr:ids.Pairwise (· < ·)) (h1:setB s=true) (h2:partB s ids=true):memb ids (bitS ids s)=s/\0<bitS ids s:=by
 have hs:=zc3 h1
 have key:memb ids (bitS ids s)=s:=by
  refine zj8 (hr.sublist (zbv ids _)) hs.1 fun x=>⟨fun hx=>?_,fun hx=>?_⟩
  ·obtain⟨k,hk,rfl⟩:=kR ((zbv ids _).subset hx)
   have e:ids.getD k 0=ids[k]:=by rw[hX,hZ hk]; rfl
   rw[<- e] at hx ⊢
   have:=(zaU (zaJ hr) hk).1 hx
   rw[zd8,jP] at this
   exact kD.1 this.2
  have:=kD.1 (jC.1 h2 x hx)
  obtain⟨k,hk,rfl⟩:=kR this
  have e:ids.getD k 0=ids[k]:=by rw[hX,hZ hk]; rfl
  rw[<- e] at hx ⊢
  refine (zaU (zaJ hr) hk).2 ?_
  rw[zd8,jG hk,kD.2 hx]; rfl
 refine⟨key,Nat.pos_of_ne_zero fun e=>?_⟩
 rw[e,zf5] at key
 rw[<- key] at hs
 exact absurd hs.2 (by simp)
theorem zcn {ids:List Int} (hr:ids.Pairwise (· < ·)) {k b:Nat} (hk:k<2 ^ ids.length) (hb:b<2 ^ ids.length):partB (memb ids k) (memb ids b)=decide (k &&& b=k):=by
 rw[kP,kI,za9]
 unfold partB
 rw[jC]
 constructor
 ·intro h i hi
  have hl:=zd7 hk hi
  exact (zaU (zaJ hr) hl).1 (kD.1 (h _ ((zaU (zaJ hr) hl).2 hi)))
 intro h x hx
 obtain⟨i,hi,rfl⟩:=kR ((zbv ids _).subset hx)
 have e:ids.getD i 0=ids[i]:=by rw[hX,hZ hi]; rfl
 rw[<- e] at hx ⊢
 exact kD.2 ((zaU (zaJ hr) hi).2 (h i ((zaU (zaJ hr) hi).1 hx)))
def alwQ (d:Day) (f:Fit) (r:Rpt):Bool:=decide ((alwR d.s (brnD d f.IDs) r f.At).2=0) && (alwR d.s (brnD d f.IDs) r f.At).1
def shoB (d:Day) (ids:List Int):Bool:=decide ((brnD d ids).To - (brnD d ids).From<=d.Long)
def ckFt (d:Day) (f:Fit):Bool:=setB f.IDs && partB f.IDs (sigL d.R) && (shoB d f.IDs && (lstD d f.IDs).all (alwQ d f))
def ckMs (d:Day) (m:Mis):Bool:=setB m.IDs && partB m.IDs (sigL d.R) && (if shoB d m.IDs=true then decide (chkR d.s (brnD d m.IDs) (lstD d m.IDs) [] m.R=0) else decide (m.R.length=0))
def hasB (F:List Fit) (l:List Int):Bool:=F.any fun f=>partB l f.IDs
def fndM (M:List Mis) (l:List Int):Bool:=M.any fun m=>partB m.IDs l
def stT (ids:List Int) (j:Jns) (k:Nat):Bool:=hasB j.F (memb ids k) || fndM j.M (memb ids k)
def allT (ids:List Int) (j:Jns):Bool:=(List.range (2 ^ ids.length)).all fun k=>decide (k=0) || stT ids j k
def ctbE (d:Day) (j:Jns):Int:=if dayE d≠0 then dayE d else if 127<j.F.length \/ 127<j.M.length then 2 else if (j.F.all (ckFt d) && j.M.all (ckMs d))=false then 8 else if allT (sigL d.R) j=false then 8 else 0
theorem zll {d:Day} {ids:List Int} (h:askE d ids=0):setB ids=true/\partB ids (sigL d.R)=true:=by
 unfold askE at h
 split at h
 ·rename_i h1; exact absurd h h1
 split at h
 ·cases h
 rename_i h2
 split at h
 ·cases h
 rename_i h3
 exact⟨by simpa using h2,by simpa using h3⟩
theorem ziv {d:Day} {f:Fit} {r:Rpt} (h:alwQ d f r=true):onM d.s.c.M f.At=true/\allB d.s (brnD d f.IDs) r f.At=true:=by
 unfold alwQ at h
 rw[jP,kI] at h
 obtain⟨h1,h2⟩:=h
 unfold alwR at h1 h2
 split at h1
 ·rename_i h3; exact absurd h1 h3
 rename_i h3
 rw[kG h3] at h2
 split at h1
 ·cases h1
 rename_i h4
 rw[kG h4] at h2
 split at h1
 ·rename_i h5; exact absurd h1 h5
 rename_i h5
 rw[kG h5] at h2
 split at h1
 ·cases h1
 rename_i h6
 rw[kG h6] at h2
 exact⟨by simpa using h6,h2⟩
theorem zqd {m:Mp} {p:Place} (h:onM m p=true):∃ n,n<m.w * m.h/\plc m n=p:=by
 obtain⟨⟨x0,x1⟩,y0,y1⟩:=zai.1 h
 obtain⟨x,hx⟩:=Int.eq_ofNat_of_zero_le x0
 obtain⟨y,hy⟩:=Int.eq_ofNat_of_zero_le y0
 have hxw:x<m.w:=by unfold Mp.w; omega
 have hyh:y<m.h:=by unfold Mp.h; omega
 refine⟨y * m.w+x,?_,?_⟩
 ·have h1:(y+1) * m.w<=m.h * m.w:=jW _ hyh
  rw[qA,Nat.one_mul] at h1
  rw[qP m.w m.h]; omega
 rw[zp3 hxw,<- hx,<- hy]
theorem zmM {d:Day} (h:dayE d=0) {f:Fit} (hf:ckFt d f=true):fitX d (bitS (sigL d.R) f.IDs)=true/\memb (sigL d.R) (bitS (sigL d.R) f.IDs)=f.IDs:=by
 have ok:=zaB h
 unfold ckFt at hf
 rw[jP,jP,jP] at hf
 obtain⟨⟨h1,h2⟩,h3,h4⟩:=hf
 obtain⟨m1,m2⟩:=zf6 ok.lt h1 h2
 have hb:=zd9 (sigL d.R) f.IDs
 have ha:=zb5 h m2 hb
 rw[m1] at ha
 refine⟨?_,m1⟩
 rw[zbL h m2 hb]
 show decide (0<(plsD d (memb (sigL d.R) (bitS (sigL d.R) f.IDs))).length)=true
 rw[m1]
 have h4:=jC.1 h4
 obtain⟨r,hr,hc⟩:=kL.1 ha
 have hl:r∈lstD d f.IDs:=kX.2 ⟨hr,by unfold offB; rw[hc]; simp⟩
 obtain⟨n,n1,n2⟩:=zqd (ziv (h4 r hl)).1
 refine jG (List.length_pos_of_mem (a:=f.At) ?_)
 rw[zeB ok ha,kH (kN h3)]
 refine zdk.2 ⟨n,n1,?_,n2⟩
 unfold metP
 rw[jC]
 intro P hP
 obtain⟨q,hq,rfl⟩:=kK.1 hP
 unfold alwP alwK
 rw[jG n1,n2,(ziv (h4 q hq)).2]; rfl
theorem zmK {d:Day} (h:dayE d=0) {m:Mis} (hm:ckMs d m=true):fitX d (bitS (sigL d.R) m.IDs)=false/\memb (sigL d.R) (bitS (sigL d.R) m.IDs)=m.IDs/\0<bitS (sigL d.R) m.IDs:=by
 have ok:=zaB h
 unfold ckMs at hm
 rw[jP,jP] at hm
 obtain⟨⟨h1,h2⟩,h3⟩:=hm
 obtain⟨m1,m2⟩:=zf6 ok.lt h1 h2
 have hb:=zd9 (sigL d.R) m.IDs
 have ha:=zb5 h m2 hb
 rw[m1] at ha
 refine⟨?_,m1,m2⟩
 rw[zbL h m2 hb]
 show decide (0<(plsD d (memb (sigL d.R) (bitS (sigL d.R) m.IDs))).length)=false
 rw[m1,zeB ok ha]
 by_cases hs:shoB d m.IDs=true
 ·rw[kH hs] at h3
  rw[kH (kN hs)]
  have h3:=kN h3
  unfold chkR at h3
  split at h3
  ·rename_i h4; exact absurd h3 h4
  split at h3
  ·rename_i h5
   rw[<- zmI h5]; rfl
  cases h3
 rw[kG fun hh=>hs (jG hh)]; rfl
theorem zfO {d:Day} (h:dayE d=0) {j:Jns} (hj:ctbE d j=0) {k:Nat} (h0:0<k) (hk:k<2 ^ (sigL d.R).length):fitX d k=hasB j.F (memb (sigL d.R) k):=by
 have ok:=zaB h
 unfold ctbE at hj
 rw[kG (fun hh=>hh h)] at hj
 split at hj
 ·cases hj
 split at hj
 ·cases hj
 split at hj
 ·cases hj
 rename_i h1 h2
 have h1:(j.F.all (ckFt d) && j.M.all (ckMs d))=true:=by simpa using h1
 have h2:allT (sigL d.R) j=true:=by simpa using h2
 rw[jP,jC,jC] at h1
 rw[kP]
 constructor
 ·intro hf
  have:=jC.1 h2 k (kJ.2 hk)
  rw[jH (by omega),wG] at this
  unfold stT at this
  rw[jX] at this
  refine this.resolve_right fun hm=>?_
  obtain⟨m,hm1,hm2⟩:=kL.1 hm
  obtain⟨g1,g2,g3⟩:=zmK h (h1.2 m hm1)
  rw[<- g2,zcn ok.lt (zd9 _ _) hk,kI] at hm2
  rw[zcz h g3 hm2 hk hf] at g1
  cases g1
 intro hf
 obtain⟨f,hf1,hf2⟩:=kL.1 hf
 obtain⟨g1,g2⟩:=zmM h (h1.1 f hf1)
 rw[<- g2,zcn ok.lt hk (zd9 _ _),kI] at hf2
 exact zcz h h0 hf2 (zd9 _ _) g1
theorem zgL {α:Type} {p:Nat->Bool} {f:Nat->α}:∀ {m k:Nat},0<k->k<m->p k=true->f k∈tabA p f m
 | 0,k,_,h,_=>by omega
 | m+1,k,h0,h,hp=>by
  unfold tabA
  by_cases e:k=m
  ·subst e
   rw[kH ⟨by omega,hp⟩]; simp
  have:=zgL (f:=f) h0 (show k<m by omega) hp
  split
  ·exact jaa _ this
  exact this
theorem zdz {α:Type} (p:Nat->Bool) (f:Nat->α):∀ m,(tabA p f (m+1)).length<=m
 | 0=>by simp[tabA]
 | m+1=>by
  have:=zdz p f m
  rw[tabA]
  split
  ·rw[jR,qE]; omega
  omega
theorem zm3 {p:Nat->Bool} {N:Nat}:∀ (u k:Nat),N - k<=u->0<k->k<N->p k=true -> ∃ m,0<m/\m<N/\k &&& m=k/\greX p N m=true
 | 0,k,h,_,h2,_=>by omega
 | u+1,k,h,h1,h2,hp=>by
  by_cases hl:lonK p k N=true
  ·exact⟨k,h1,h2,Nat.and_self k,by unfold greX; rw[hl,hp]; rfl⟩
  rw[zdq] at hl
  obtain⟨o,hl⟩:=Classical.not_forall.1 hl
  obtain⟨o1,hl⟩:=Classical.not_imp.1 hl
  obtain⟨o2,hl⟩:=Classical.not_imp.1 hl
  obtain⟨o3,hl⟩:=Classical.not_imp.1 hl
  unfold badX at hl
  rw[hp] at hl
  simp only[kT,jaS,qF,jag,wL,jP,kA] at hl
  have hko:k<=o:=by rw[<- hl.2]; exact Nat.and_le_right
  obtain⟨m,m1,m2,m3,m4⟩:=zm3 u o (by omega) o1 o2 hl.1
  refine⟨m,m1,m2,?_,m4⟩
  rw[za9] at *
  exact fun i hi=>m3 i (hl.2 i hi)
theorem zig {p:Nat->Bool} {N:Nat}:∀ (u k:Nat),k<=u->0<k->k<N->p k=false -> ∃ m,0<m/\m<N/\m &&& k=m/\leaX p N m=true
 | 0,k,h,h0,_,_=>by omega
 | u+1,k,h,h1,h2,hp=>by
  by_cases hl:lonK p k N=true
  ·exact⟨k,h1,h2,Nat.and_self k,by unfold leaX; rw[hl,hp]; rfl⟩
  rw[zdq] at hl
  obtain⟨o,hl⟩:=Classical.not_forall.1 hl
  obtain⟨o1,hl⟩:=Classical.not_imp.1 hl
  obtain⟨o2,hl⟩:=Classical.not_imp.1 hl
  obtain⟨o3,hl⟩:=Classical.not_imp.1 hl
  unfold badX at hl
  rw[hp] at hl
  simp only[qF,Bool.not_false,kT,wG,wL,jP,kA,jY] at hl
  have hko:o<=k:=by rw[<- hl.2]; exact Nat.and_le_right
  obtain⟨m,m1,m2,m3,m4⟩:=zig u o (by omega) o1 o2 hl.1
  refine⟨m,m1,m2,?_,m4⟩
  rw[za9] at *
  exact fun i hi=>hl.2 i (m3 i hi)
theorem zmL {d:Day} (h:dayE d=0) {k:Nat} (h0:0<k) (hk:k<2 ^ (sigL d.R).length) (hp:fitX d k=true):ckFt d (fitF d k)=true:=by
 have ok:=zaB h
 have ha:=zb5 h h0 hk
 obtain⟨s1,s2⟩:=zll (zdv h (zdL h0 hk))
 rw[zbL h h0 hk] at hp
 have hl:0<(plsD d (memb (sigL d.R) k)).length:=kN hp
 have hm:(plsD d (memb (sigL d.R) k)).getD 0 default∈plsD d (memb (sigL d.R) k):=by rw[hX,hZ hl]; exact kQ hl
 unfold ckFt
 show (setB (memb (sigL d.R) k) && partB (memb (sigL d.R) k) (sigL d.R) && (shoB d (memb (sigL d.R) k) && (lstD d (memb (sigL d.R) k)).all (alwQ d (fitF d k))))=true
 rw[s1,s2,kT,kT]
 have hpe:=zeB ok ha
 by_cases hs:(brnD d (memb (sigL d.R) k)).To - (brnD d (memb (sigL d.R) k)).From<=d.Long
 ·rw[kH hs] at hpe
  rw[show shoB d (memb (sigL d.R) k)=true from jG hs,kT,jC]
  intro r hr
  rw[hpe] at hm
  obtain⟨n,n1,n2,n3⟩:=zdk.1 hm
  unfold metP at n2
  have:=jC.1 n2 _ (kK.2 ⟨r,hr,rfl⟩)
  unfold alwP alwK at this
  rw[jP] at this
  have hon:=zng (zfP ok.s).c.m n1
  have hrp:=ok.rpt (kX.1 hr).1
  have e:(fitF d k).At=plc d.s.c.M n:=by
   show (plsD d (memb (sigL d.R) k)).getD 0 default=_
   rw[hpe,n3]
  have ea:alwR d.s (brnD d (fitF d k).IDs) r (fitF d k).At=(allB d.s (brnD d (memb (sigL d.R) k)) r (plc d.s.c.M n),0):=by
   rw[e]
   unfold alwR
   rw[kG (fun hh=>hh ok.s),kG (by rw[show brnB (brnD d (fitF d k).IDs)=true from zhk ok ha]; decide),kG (fun hh=>hh hrp.1),kG (by rw[hon]; decide)]
  unfold alwQ
  rw[ea,this.2]; rfl
 rw[kG hs] at hpe
 rw[hpe] at hl
 exact absurd hl (by simp)
theorem zmJ {d:Day} (h:dayE d=0) {k:Nat} (h0:0<k) (hk:k<2 ^ (sigL d.R).length) (hp:fitX d k=false):ckMs d (misF d k)=true:=by
 have ok:=zaB h
 have ha:=zb5 h h0 hk
 obtain⟨s1,s2⟩:=zll (zdv h (zdL h0 hk))
 rw[zbL h h0 hk] at hp
 have hl:(plsD d (memb (sigL d.R) k)).length=0:=by
  have:¬ 0<(plsD d (memb (sigL d.R) k)).length:=jbj hp
  omega
 unfold ckMs
 show (setB (memb (sigL d.R) k) && partB (memb (sigL d.R) k) (sigL d.R) && (if shoB d (memb (sigL d.R) k)=true then decide (chkR d.s (brnD d (memb (sigL d.R) k)) (lstD d (memb (sigL d.R) k)) [] (misR d (memb (sigL d.R) k))=0) else decide ((misR d (memb (sigL d.R) k)).length=0)))=true
 rw[s1,s2,kT,kT]
 have hpe:=zeB ok ha
 by_cases hs:(brnD d (memb (sigL d.R) k)).To - (brnD d (memb (sigL d.R) k)).From<=d.Long
 ·rw[kH hs] at hpe
  have hg:=zkz ok (zhk ok ha) (memb (sigL d.R) k)
  rw[kH (show shoB d (memb (sigL d.R) k)=true from jG hs)]
  refine jG ?_
  have er:misR d (memb (sigL d.R) k)=rsnK d.s (lstD d (memb (sigL d.R) k)) ((lstD d (memb (sigL d.R) k)).map (alwP d.s (brnD d (memb (sigL d.R) k)))) d.s.n:=by
   unfold misR rsnR
   rw[kH hs,kG (fun hh=>hh hg)]
  have hc:=zhf hg
  rw[<- hpe,jaJ.1 hl,<- er] at hc
  unfold chkR
  rw[kG (fun hh=>hh hg),kH hc]
 rw[kG (show ¬ shoB d (memb (sigL d.R) k)=true from fun hh=>hs (kN hh))]
 refine jG ?_
 unfold misR
 rw[kG hs]; rfl
theorem zn2 {d:Day} (h:dayE d=0):ctbE d ⟨(tabR d).1,(tabR d).2.1⟩=0:=by
 have ok:=zaB h
 have h7:=sig7 ok
 have hN:2 ^ (sigL d.R).length<=2 ^ 7:=wE (by decide) h7
 have e:tabR d=(srtF (tabA (greB d (ksD d)) (fitF d) (2 ^ (sigL d.R).length)),srtM (tabA (leaB d (ksD d)) (misF d) (2 ^ (sigL d.R).length)),0):=by unfold tabR; rw[kG (fun hh=>hh h)]
 rw[e]
 have hF:∀ f,f∈srtF (tabA (greB d (ksD d)) (fitF d) (2 ^ (sigL d.R).length)) ↔ f∈tabA (greB d (ksD d)) (fitF d) (2 ^ (sigL d.R).length):=fun f=>(qY _ _).mem_iff
 have hM:∀ f,f∈srtM (tabA (leaB d (ksD d)) (misF d) (2 ^ (sigL d.R).length)) ↔ f∈tabA (leaB d (ksD d)) (misF d) (2 ^ (sigL d.R).length):=fun f=>(qY _ _).mem_iff
 have lF:(srtF (tabA (greB d (ksD d)) (fitF d) (2 ^ (sigL d.R).length))).length<=127:=by
  rw[show (srtF (tabA (greB d (ksD d)) (fitF d) (2 ^ (sigL d.R).length))).length=_ from kU _]
  obtain⟨q,hq⟩:∃ q,2 ^ (sigL d.R).length=q+1:=⟨2 ^ (sigL d.R).length - 1,by have:=Nat.two_pow_pos (sigL d.R).length; omega⟩
  rw[hq]
  have:=zdz (greB d (ksD d)) (fitF d) q
  omega
 have lM:(srtM (tabA (leaB d (ksD d)) (misF d) (2 ^ (sigL d.R).length))).length<=127:=by
  rw[show (srtM (tabA (leaB d (ksD d)) (misF d) (2 ^ (sigL d.R).length))).length=_ from kU _]
  obtain⟨q,hq⟩:∃ q,2 ^ (sigL d.R).length=q+1:=⟨2 ^ (sigL d.R).length - 1,by have:=Nat.two_pow_pos (sigL d.R).length; omega⟩
  rw[hq]
  have:=zdz (leaB d (ksD d)) (misF d) q
  omega
 unfold ctbE
 rw[kG (fun hh=>hh h),kG (by dsimp only; omega),kG,kG]
 ·rw[wL]
  refine jC.2 fun k hk=>?_
  have hk:=kJ.1 hk
  by_cases h0:k=0
  ·rw[jG h0,qU]
  rw[jH h0,wG]
  unfold stT
  rw[jX]
  cases hp:fitX d k with
  | true=>
   left
   obtain⟨m,m1,m2,m3,m4⟩:=zm3 (2 ^ (sigL d.R).length) k (by omega) (by omega) hk hp
   rw[<- zny h m1 m2] at m4
   refine kL.2 ⟨fitF d m,(hF _).2 (zgL m1 m2 m4),?_⟩
   show partB (memb (sigL d.R) k) (memb (sigL d.R) m)=true
   rw[zcn ok.lt hk m2,jG m3]
  | false=>
  right
  obtain⟨m,m1,m2,m3,m4⟩:=zig k k (jE _) (by omega) hk hp
  rw[<- znn h m1 m2] at m4
  refine kL.2 ⟨misF d m,(hM _).2 (zgL m1 m2 m4),?_⟩
  show partB (memb (sigL d.R) m) (memb (sigL d.R) k)=true
  rw[zcn ok.lt m2 hk,jG m3]
 rw[wL,jP,jC,jC]
 refine⟨fun f hf=>?_,fun f hf=>?_⟩
 ·obtain⟨k,k1,k2,k3,rfl⟩:=zaN ((hF f).1 hf)
  rw[zny h k1 k2] at k3
  unfold greX at k3
  rw[jP] at k3
  exact zmL h k1 k2 k3.2
 obtain⟨k,k1,k2,k3,rfl⟩:=zaN ((hM f).1 hf)
 rw[znn h k1 k2] at k3
 unfold leaX at k3
 rw[jP,jY] at k3
 exact zmJ h k1 k2 k3.2
theorem zjP {d:Day} {a b:Int} (h:parE d a b=0):dayE d=0/\(sigL d.R).contains a=true/\(sigL d.R).contains b=true:=by
 unfold parE at h
 split at h
 ·rename_i h1; exact absurd h h1
 rename_i h1
 split at h
 ·cases h
 rename_i h2
 have h2:partB [a,b] (sigL d.R)=true:=by simpa using h2
 rw[zp5,jP] at h2
 exact⟨jL h1,h2⟩
theorem zoa {d:Day} {a b:Int}:((samR d a b).1.T.length<=1000000 /\ ∀ s∈(samR d a b).1.T,s.length<=1000000)/\(samR d a b).1.A.length<=1000000 /\ ∀ s∈(samR d a b).1.A,s.length<=1000000:=by
 unfold samR
 split
 ·exact⟨⟨jF _,fun s hs=>by cases hs⟩,jF _,fun s hs=>by cases hs⟩
 rename_i h0
 have h0:parE d a b=0:=jL h0
 split
 ·exact⟨⟨jF _,fun s hs=>by cases hs⟩,jF _,fun s hs=>by cases hs⟩
 have ok:=zjQ h0
 have key:∀ p:List (List Int)->Bool,(fstP p (bsts d)).length<=1000000 /\ ∀ s∈fstP p (bsts d),s.length<=1000000:=fun p=>by
  unfold fstP
  cases hf:(bsts d).find? p with
  | none=>exact⟨jF _,fun s hs=>by cases hs⟩
  | some x=>
  have hx:=List.mem_of_find?_eq_some hf
  have hx:x∈parts d:=by
   rw[show bsts d=fltP (fwP (parts d)) (parts d) from znJ] at hx
   exact (kX.1 hx).1
  obtain⟨h1,h2⟩:=zf1 ok hx
  exact⟨by show x.length<=_; omega,fun s hs=>by have:=h2 s hs; omega⟩
 exact⟨key _,key _⟩
abbrev prtF (F:List Fit) (ids:List Int):List (List (List Int)):=prt (hasB F) ids []
def fewL (L:List (List (List Int))):Int × Int:=if (bstL L).length=0 then (0,9) else ((((bstL L).getD 0 []).length:Nat),0)
def leaR (ids:List Int) (j:Jns):Int × Int:=if 7<ids.length \/ 127<j.F.length then (0,2) else if risB ids=false then (0,1) else fewL (prtF j.F ids)
def shoW (ids:List Int) (F:List Fit) (n:Nat) (a b:Int) (p:List (List Int)) (nd one:Bool):Bool:=if nd=false then decide (p.length=0) else divB ids p && decide (p.length=n) && (togB a b p==one) && p.all (hasB F)
def csmE (d:Day) (j:Jns) (a b:Int) (v:Vdt):Int:=
 if parE d a b≠0 then parE d a b else if 127<j.F.length then 2 else if (bstL (prtF j.F (sigL d.R))).length=0 then 9
 else if v.Ans≠(vdtR (bstL (prtF j.F (sigL d.R))) a b).Ans \/ shoW (sigL d.R) j.F ((bstL (prtF j.F (sigL d.R))).getD 0 []).length a b v.T (decide (v.Ans≠1)) true=false \/ shoW (sigL d.R) j.F ((bstL (prtF j.F (sigL d.R))).getD 0 []).length a b v.A (decide (v.Ans≠2)) false=false then 8 else 0
theorem zk6 {L:List (List (List Int))} {p:List (List Int)} (h:p∈bstL L):p.length=((bstL L).getD 0 []).length:=by
 have e2:bstL L=fltP (fwP L) L:=znJ
 rw[e2] at h ⊢
 have hne:fltP (fwP L) L ≠ []:=List.ne_nil_of_mem h
 have h1:=zgp hne
 have h2:=(kX.1 h).2
 have h2:(p.length:Int)=fwP L:=by simpa using h2
 omega
theorem zo0 {d:Day} (h:dayE d=0) {j:Jns} {a b:Int} (hp:parE d a b=0) (h1:¬ 127<j.F.length) (he:prtF j.F (sigL d.R)=parts d) (hn:(bsts d).length≠0):csmE d j a b (vdtR (bsts d) a b)=0:=by
 have ok:=zaB h
 have hm:∀ {p},p∈bsts d->divB (sigL d.R) p=true/\p.all (hasB j.F)=true:=fun {p} hq=>by
  have:p∈prtF j.F (sigL d.R):=by rw[he]; exact zdt hq
  exact (zjI ok.lt _ p).1 this
 have fst:∀ (q:List (List Int)->Bool) (one:Bool),(∀ p,q p=true->togB a b p=one)->(bsts d).any q=true->shoW (sigL d.R) j.F ((bsts d).getD 0 []).length a b (fstP q (bsts d)) true one=true:=fun q one hq hany=>by
  unfold fstP
  cases hf:(bsts d).find? q with
  | none=>
   obtain⟨x,hx,hx2⟩:=kL.1 hany
   exact absurd hx2 (List.find?_eq_none.1 hf x hx)
  | some x=>
  have hx:=List.mem_of_find?_eq_some hf
  have hx2:=List.find?_some hf
  obtain⟨g1,g2⟩:=hm hx
  unfold shoW
  rw[kG (by decide)]
  show (divB (sigL d.R) x && decide (x.length=((bsts d).getD 0 []).length) && (togB a b x==one) && x.all (hasB j.F))=true
  rw[g1,g2,jG (zk6 hx),hq x hx2]
  simp
 have no:∀ (q:List (List Int)->Bool) (one:Bool),(bsts d).any q=false->shoW (sigL d.R) j.F ((bsts d).getD 0 []).length a b (fstP q (bsts d)) false one=true:=fun q one hany=>by
  rw[zkE hany]
  rfl
 unfold csmE
 rw[kG (fun hh=>hh hp),kG h1,he,kG hn,kG]
 rintro (hh | hh | hh)
 ·exact hh rfl
 ·refine absurd hh ?_
  rw[wL]
  unfold vdtR
  by_cases c1:(bsts d).any (togB a b)=true
  ·rw[kH c1]
   have:=fst (togB a b) true (fun p hq=>hq) c1
   split
   ·exact this
   exact this
  rw[kG c1]
  exact no _ _ (by simpa using c1)
 refine absurd hh ?_
 rw[wL]
 unfold vdtR
 by_cases c2:((bsts d).any fun p=>!togB a b p)=true
 ·have:=fst (fun p=>!togB a b p) false (fun p hq=>by simpa using hq) c2
  by_cases c1:(bsts d).any (togB a b)=true
  ·rw[kH c1,kH c2]; exact this
  rw[kG c1]; exact this
 have c1:(bsts d).any (togB a b)=true:=by
  have hl:0<(bsts d).length:=by omega
  have hx:(bsts d)[0]∈bsts d:=kQ hl
  refine kL.2 ⟨_,hx,?_⟩
  have c2:((bsts d).any fun p=>!togB a b p)=false:=by simpa using c2
  have:=jai.1 c2 _ hx
  simpa using this
 rw[kH c1,kG c2]
 exact no _ _ (by simpa using c2)
theorem zo1 {d:Day} {j:Jns} {a b:Int} {v:Vdt} (he:prtF j.F (sigL d.R)=parts d) (h:csmE d j a b v=0):parE d a b=0/\v.Ans=(vdtR (bsts d) a b).Ans:=by
 unfold csmE at h
 split at h
 ·rename_i h1; exact absurd h h1
 rename_i h1
 split at h
 ·cases h
 split at h
 ·cases h
 split at h
 ·cases h
 rename_i h2
 refine⟨jL h1,?_⟩
 rw[he] at h2
 exact jL fun hh=>h2 (.inl hh)
theorem zeA {d:Day} (h:dayE d=0) {j:Jns} (hj:ctbE d j=0):prtF j.F (sigL d.R)=parts d:=by
 rw[show prtF j.F (sigL d.R)=_ from zhR (hasB j.F) (sigL d.R),zot h]
 congr 1
 unfold gwD gwX
 refine jbq fun ix hx=>?_
 obtain⟨iy,hy,e⟩:=kK.1 hx
 have e:ix=iy:=e.symm
 subst e
 have hl:=(zfX _ [] zhG ix hy).2
 rw[kP,jC,jC]
 refine forall_congr' fun m=>forall_congr' fun hm=>?_
 have hb:=zbk ix ix.length m hm
 rw[hl] at hb
 unfold tbX
 rw[jG hb.1,kT,zfO h hj hb.1 hb.2]
theorem s_EqI (a b:List Int) (hn:a.length<=1000000):Spec PP 118 [.d (lI a),.d (lI b)] [B (decide (a=b))]:=by
 refine sA Tryz.func118 ?_
 apply bY <;> intro h1
 ·have h1:a.length≠b.length:=by
   have:¬ (a.length:Int)=b.length:=by simpa using h1
   omega
  refine r1B rfl ?_
  exact (jH fun e=>h1 (by rw[e])).symm
 have h1:a.length=b.length:=by
  have:(a.length:Int)=b.length:=by simpa using h1
  omega
 refine lOf (σ:=Nat) (fun i=>([(0,.d (lI a)),(1,.d (lI b)),(12,.d (I a.length)),(13,.d (I i))],[])) (fun i=>i<=a.length/\a.take i=b.take i) (fun i=>a.length - i) 0 ⟨rfl,trivial,wq rfl⟩ ⟨jF _,rfl⟩ fun i hi=>?_
 obtain⟨i1,i2⟩:=hi
 apply bY <;> intro h2
 ·have h2:i<a.length:=by have:=dT h2; omega
  refine oN 9 ?_
  refine⟨⟨rfl,by omega,by omega⟩,?_⟩
  refine⟨⟨rfl,by omega,by omega⟩,?_⟩
  apply bY <;> intro h3
  ·have h3:¬ a.getD i 0=b.getD i 0:=by simpa using h3
   refine r1B rfl ?_
   refine (jH fun e=>?_).symm
   subst e
   exact h3 rfl
  have h3:a.getD i 0=b.getD i 0:=by simpa using h3
  refine⟨i6,?_⟩
  refine⟨i+1,⟨rfl,trivial,wq rfl⟩,⟨h2,?_⟩,msr h2⟩
  rw[zaL h2 0,zaL (by omega) 0,i2,h3]
 have h2:i=a.length:=by have:=dF h2; omega
 subst h2
 refine r1B rfl ?_
 rw[jZ,h1,jZ] at i2
 exact (jG i2).symm
theorem zjv (l:List (List Int)) (g:FuncId) (c0:D) (p:List Int->Bool) (hn:l.length<=1000000) (hp:∀ i,i<l.length->Spec PP g [.d (lI (l.getD i [])),.d c0] [B (p (l.getD i []))]):Spec PP 119 [.d (lII l),.d (cloB g [c0])] [N (idxL p l)]:=by
 refine sA Tryz.func119 ?_
 refine lOf (σ:=Nat) (fun i=>([(0,.d (lII l)),(1,.d (cloB g [c0])),(6,.d (lII l)),(7,.d (I l.length)),(8,.d (I i))],[])) (fun i=>i<=l.length /\ ∀ j,j<i->p (l.getD j [])=false) (fun i=>l.length - i) 0
  ⟨rfl,trivial,wq rfl⟩ z0L fun i hi=>?_
 obtain⟨hi,ha⟩:=hi
 apply bY <;> intro h1
 ·have h1:i<l.length:=by have:=dT h1; omega
  refine⟨⟨rfl,by omega,by omega⟩,?_⟩
  refine cP (hp i h1) rfl rfl ?_
  apply bY <;> intro h2
  ·exact r1I rfl (zao [] h1 h2 ha).symm
  refine⟨i6,?_⟩
  refine⟨i+1,⟨rfl,trivial,wq rfl⟩,⟨h1,fun j hj=>?_⟩,(msr (by omega))⟩
  by_cases e:j=i
  ·subst e; exact h2
  exact ha j (by omega)
 have h1:i=l.length:=by have:=dF h1; omega
 subst h1
 exact r1I rfl (zaq [] ha).symm
theorem zjx (l:List (List Int)) (g:FuncId) (c0:D) (p:List Int->Bool) (hn:l.length<=1000000) (hp:∀ i,i<l.length->Spec PP g [.d (lI (l.getD i [])),.d c0] [B (p (l.getD i []))]):Spec PP 54 [.d (lII l),.d (cloB g [c0])] [B (l.any p)]:=by
 refine sA Tryz.func54 ?_
 refine cP (zjv l g c0 p hn hp) rfl rfl ?_
 refine r1B rfl ?_
 rw[kP,kI]
 exact za5 p l []
theorem zjw (l:List Fit) (g:FuncId) (c0:D) (p:Fit->Bool) (hn:l.length<=1000000) (hp:∀ i,i<l.length->Spec PP g [(l.getD i default).v,.d c0] [B (p (l.getD i default))]):Spec PP 75 [.d (lFt l),.d (cloB g [c0])] [B (l.any p)]:=by
 have hx:Spec PP 133 [.d (lFt l),.d (cloB g [c0])] [N (idxL p l)]:=by
  refine sA Tryz.func133 ?_
  refine lOf (σ:=Nat) (fun i=>([(0,.d (lFt l)),(1,.d (cloB g [c0])),(6,.d (lFt l)),(7,.d (I l.length)),(8,.d (I i))],[])) (fun i=>i<=l.length /\ ∀ j,j<i->p (l.getD j default)=false) (fun i=>l.length - i) 0
   ⟨rfl,trivial,wq rfl⟩ z0L fun i hi=>?_
  obtain⟨hi,ha⟩:=hi
  apply bY <;> intro h1
  ·have h1:i<l.length:=by have:=dT h1; omega
   refine⟨⟨rfl,by omega,by omega⟩,?_⟩
   refine cP (hp i h1) rfl rfl ?_
   apply bY <;> intro h2
   ·exact r1I rfl (zao default h1 h2 ha).symm
   refine⟨i6,?_⟩
   refine⟨i+1,⟨rfl,trivial,wq rfl⟩,⟨h1,fun j hj=>?_⟩,(msr (by omega))⟩
   by_cases e:j=i
   ·subst e; exact h2
   exact ha j (by omega)
  have h1:i=l.length:=by have:=dF h1; omega
  subst h1
  exact r1I rfl (zaq default ha).symm
 refine sA Tryz.func75 ?_
 refine cP hx rfl rfl ?_
 refine r1B rfl ?_
 rw[kP,kI]
 exact za5 p l default
theorem znM {a b:List Int} {n:Nat} {g:Nat->Nat->D} (hn:n=a.length) (hg:∀ i,i<b.length->g i 0=I (b.getD i 0)):D.eqv (.slc 1 (n+b.length) (appRow n (rowI a) g)) (.slc 1 (a++b).length (rowI (a++b))):=by
 subst hn
 refine⟨by simp,.inr ⟨rfl,fun i hi j hj=>?_⟩⟩
 obtain rfl:j=0:=by omega
 show D.eqv (appRow a.length (rowI a) g i 0) (I ((a++b).getD i 0))
 unfold appRow
 by_cases h:i<a.length
 ·rw[kH h,hX,jJ h,<- hX]
  exact dE _
 rw[kG h,hg _ (by have hi:i<a.length+b.length:=hi; omega),hX (l:=a++b),jK (by omega),<- hX]
 exact dE _
theorem zbK {p:List (List Int)} {i:Nat} (h:i<p.length):(p.take (i+1)).flatten=(p.take i).flatten++p.getD i []:=by
 rw[zaL h [],List.flatten_append]; simp
theorem zft (p:List (List Int)) (i:Nat):(p.take i).flatten.length<=p.flatten.length:=by
 have:p.flatten.length=(p.take i).flatten.length+(p.drop i).flatten.length:=by rw[<- jR,<- List.flatten_append,List.take_append_drop]
 omega
theorem zkr (ids:List Int) (p:List (List Int)) (hp:p.length<=1000000) (hf:p.flatten.length<=1000000):Spec PP 52 [.d (lI ids),.d (lII p)] [B (divB ids p)]:=by
 refine sA Tryz.func52 ?_
 refine lOf (σ:=Nat) (fun i=>([(0,.d (lI ids)),(1,.d (lII p)),(5,.own 5),(8,.d (lII p)),(9,.d (I p.length)),(10,.d (I i))],[(5,.row 3 1 (p.take i).flatten.length (rowI (p.take i).flatten))])) (fun i=>i<=p.length /\ ∀ j,j<i->setB (p.getD j [])=true/\fstB p j=true) (fun i=>p.length - i) 0
  ⟨rfl,⟨obR rfl ⟨rfl,.inl rfl⟩,trivial⟩,wq rfl⟩ z0L fun i hi=>?_
 obtain⟨hi,ha⟩:=hi
 have hl:=zft p i
 apply bY <;> intro h1
 ·have h1:i<p.length:=by have:=dT h1; omega
  have hs1:(p.getD i []).length<=1000000:=by
   have:=zft p (i+1)
   rw[zbK h1,jR] at this
   omega
  have no:¬ (setB (p.getD i [])=true/\fstB p i=true)->divB ids p=false:=fun h=>by
   unfold divB
   rw[Bool.and_eq_false_iff]; left
   rw[qN]
   intro hh
   have:=jC.1 hh i (kJ.2 h1)
   rw[jP] at this
   exact h this
  refine⟨⟨rfl,by omega,by omega⟩,?_⟩
  refine oN 20 ?_
  refine oP (zcP (p.getD i []) hs1) rfl rfl ?_
  apply bY <;> intro h2
  ·have h2:setB (p.getD i [])=false:=by simpa using h2
   repeat first | apply sT | apply sF
   exact r1B rfl (no fun h=>by rw[h2] at h; cases h.1).symm
  have h2:setB (p.getD i [])=true:=by simpa using h2
  have l2:=(zc3 h2).2
  have l2':0<(p.getD ((i:Nat):Int).toNat []).length:=l2
  repeat first | apply sT | apply sF
  have cont:fstB p i=true->(∀ j,j<i+1->setB (p.getD j [])=true/\fstB p j=true):=fun h j hj=>by
   by_cases e:j=i
   ·subst e; exact⟨h2,h⟩
   exact ha j (by omega)
  have mx:(p.take i).flatten.length+(p.getD i []).length<=1000000:=by
   have:=zft p (i+1)
   rw[zbK h1,jR] at this
   omega
  have mx':(p.take i).flatten.length+(p.getD ((i:Nat):Int).toNat []).length<=1000000:=mx
  apply bY <;> intro h3
  ·have h3:0<i:=by have:=dT h3; omega
   have ei:((i:Int) - 1).toNat=i - 1:=by omega
   have l3:=(zc3 (ha (i - 1) (by omega)).1).2
   repeat first | apply sT | apply sF
   refine⟨⟨rfl,by omega,by omega⟩,?_⟩
   refine⟨i6,?_⟩
   refine⟨⟨rfl,by omega,by omega⟩,?_⟩
   refine⟨⟨rfl,by omega,by rw[ei]; show (0:Int)<((p.getD (i - 1) []).length:Int); omega⟩,?_⟩
   repeat first | apply sT | apply sF
   apply bY <;> intro h4
   ·have h4:(p.getD i []).getD 0 0<=(p.getD (i - 1) []).getD 0 0:=by have h4:=dT h4; rw[ei] at h4; exact h4
    repeat first | apply sT | apply sF
    refine r1B rfl (no fun h=>?_).symm
    have:=h.2
    unfold fstB at this
    rw[jH (by omega:¬ i=0),wG] at this
    have:=kN this
    omega
   have h4:(p.getD (i - 1) []).getD 0 0<(p.getD i []).getD 0 0:=by have h4:=dF h4; rw[ei] at h4; have:¬ (p.getD i []).getD 0 0<=(p.getD (i - 1) []).getD 0 0:=h4; omega
   repeat first | apply sT | apply sF
   refine⟨⟨.inr rfl,by unfold maxLen; omega,by show ((p.take i).flatten.length+(p.getD ((i:Nat):Int).toNat []).length) * 8<=140737488355328; omega⟩,?_⟩
   refine⟨i6,?_⟩
   refine⟨i+1,⟨rfl,⟨obR rfl ?_,trivial⟩,wq rfl⟩,⟨h1,cont (by unfold fstB; rw[jG h4,qJ])⟩,msr h1⟩
   rw[zbK h1]
   exact znM rfl fun _ _=>rfl
  have h3:i=0:=by have:=dF h3; omega
  repeat first | apply sT | apply sF
  refine⟨⟨.inr rfl,by unfold maxLen; omega,by show ((p.take i).flatten.length+(p.getD ((i:Nat):Int).toNat []).length) * 8<=140737488355328; omega⟩,?_⟩
  refine⟨i6,?_⟩
  refine⟨i+1,⟨rfl,⟨obR rfl ?_,trivial⟩,wq rfl⟩,⟨h1,cont (by unfold fstB; rw[jG h3]; rfl)⟩,msr h1⟩
  rw[zbK h1]
  exact znM rfl fun _ _=>rfl
 have h1:i=p.length:=by have:=dF h1; omega
 subst h1
 rw[jZ]
 have hs:(p.flatten.mergeSort fun x y=>decide (x<=y)).length=p.flatten.length:=kU _
 refine CallSt.rw' rfl (zhJ p.flatten hf) ⟨⟨[],.tmp 39,[],[],rfl,rfl,rfl,rfl,rfl,rfl,rfl⟩⟩ rfl ?_
 refine pEq (s_EqI (p.flatten.mergeSort fun x y=>decide (x<=y)) ids (by omega)) rfl ⟨⟨hs.symm,.inr ⟨rfl,fun i _ j _=>dE _⟩⟩,dE _,trivial⟩ rfl ?_
 refine r1B rfl ?_
 have:(List.range p.length).all (fun i=>setB (p.getD i []) && fstB p i)=true:=jC.2 fun j hj=>by
  obtain⟨a1,a2⟩:=ha j (kJ.1 hj)
  rw[a1,a2]; rfl
 unfold divB
 rw[this,kT]
theorem zqp (l:List Int) (f:Fit) (hl:l.length<=1000000) (hf:f.IDs.length<=1000000):Spec PP 110 [f.v,.d (capB [lI l])] [B (partB l f.IDs)]:=by
 refine sA Tryz.func110 ?_
 refine cP (zeG l f.IDs hl hf) rfl rfl ?_
 exact r1B rfl rfl
structure JnOk (j:Jns):Prop where
  F:j.F.length<=1000000
  M:j.M.length<=1000000
  f:∀ f∈j.F,f.IDs.length<=1000000
  m:∀ m∈j.M,m.IDs.length<=1000000/\m.R.length<=1000000
theorem JnOk.get {j:Jns} (h:JnOk j) {i:Nat} (hi:i<j.F.length):(j.F.getD i default).IDs.length<=1000000:=by
 refine h.f _ ?_
 rw[hX,hZ hi]; exact kQ hi
theorem zoK {j:Jns} (h:JnOk j) (l:List Int) (hl:l.length<=1000000):Spec PP 46 [j.v,.d (lI l)] [B (hasB j.F l)]:=by
 refine sA Tryz.func46 ?_
 refine fEq [3] (zjw j.F 110 (capB [lI l]) (fun f=>partB l f.IDs) h.F fun i hi=>zqp l _ hl (h.get hi)) rfl ⟨dE _,⟨rfl,rfl,fun j hj=>by obtain rfl:j=0:=jac.1 hj; exact dE _⟩,trivial⟩ rfl ?_
 exact r1B rfl rfl
abbrev hasD (j:Jns):D:=.bnd 46 2 (getD' [lFt j.F,lMs j.M])
theorem zqo {j:Jns} (h:JnOk j):PosC (hasD j) (hasB j.F):=.bnd _ _ _ rfl fun s hs=>zoK h s (by omega)
theorem zhO (F:List Fit) (ids:List Int) (hi:ids.length<=7):(prtF F ids).length<=877:=zjH _ _ hi
theorem zkt {j:Jns} (h:JnOk j) (ids:List Int) (hi:ids.length<=7):Spec PP 44 [.d (cloB 107 [capB [lI ids],posD (hasD j)])] [.d (lPP (bstL (prtF j.F ids)))]:=
 zni _ _ _ _ (by have:=zhO j.F ids hi; omega) (zco ids (hasD j) (hasB j.F) hi (zqo h))
theorem zoM (ids : List Int) {j : Jns} (h : JnOk j) (hi : ids.length <= 1000000) : Spec PP 16 [.d (lI ids), j.v] [N (leaR ids j).1, .d (.int .i64 (leaR ids j).2)] := by
  refine sA Tryz.func16 ?_
  have hF := h.F
  unfold leaR
  by_cases c1 : 7 < ids.length \/ 127 < j.F.length
  · rw [kH c1]
    apply bY <;> intro h1
    · repeat first | apply sT | apply sF
      exact ⟨rtI rfl rfl, rtI rfl rfl, trivial⟩
    have h1 : ¬ 7 < ids.length := by have := dF h1; omega
    repeat first | apply sT | apply sF
    refine sYe (jG (show (127 : Int) < (j.F.length : Int) by omega)) ?_
    exact ⟨rtI rfl rfl, rtI rfl rfl, trivial⟩
  rw [kG c1]
  refine sNo (jH (show ¬ (7 : Int) < (ids.length : Int) by omega)) ?_
  repeat first | apply sT | apply sF
  refine sNo (jH (show ¬ (127 : Int) < (j.F.length : Int) by omega)) ?_
  repeat first | apply sT | apply sF
  by_cases c2 : risB ids = false
  · rw [kH c2]
    have hl : 0 < ids.length := Nat.pos_of_ne_zero fun e => by
      rw [jaJ.1 e] at c2; cases c2
    have hs : setB ids = false := by unfold setB; rw [c2]; rfl
    refine sYe (jG (show (0 : Int) < (ids.length : Int) by omega)) ?_
    refine cP (zcP ids hi) rfl rfl ?_
    rw [hs]
    repeat first | apply sT | apply sF
    exact ⟨rtI rfl rfl, rtI rfl rfl, trivial⟩
  rw [kG c2]
  unfold fewL
  by_cases c3 : 0 < ids.length
  all_goals first
    | (refine sYe (jG (show (0 : Int) < (ids.length : Int) by omega)) ?_
       have hs : setB ids = true := by
         unfold setB
         rw [jG c3, jal]
         simpa using c2
       refine cP (zcP ids hi) rfl rfl ?_
       rw [hs])
    | refine sNo (jH (show ¬ (0 : Int) < (ids.length : Int) by omega)) ?_
  all_goals
    repeat first | apply sT | apply sF
    refine cR (zbE ids (hasD j) (.inr ⟨_, _, _, rfl⟩)) rfl rfl ?_
    refine cR (zkt h ids (by omega)) rfl rfl ?_
    apply bY <;> intro h1
    · have h1 : (bstL (prtF j.F ids)).length = 0 := by
        have : ((bstL (prtF j.F ids)).length : Int) = 0 := by simpa using h1
        omega
      rw [kH h1]
      exact ⟨rtI rfl rfl, rtI rfl rfl, trivial⟩
    have h1 : ¬ (bstL (prtF j.F ids)).length = 0 := fun e => by
      have : ¬ ((bstL (prtF j.F ids)).length : Int) = 0 := by simpa using h1
      exact this (by rw [e]; rfl)
    rw [kG h1]
    refine ⟨⟨rfl, by omega, by show (0 : Int) < ((bstL (prtF j.F ids)).length : Int); omega⟩, ?_⟩
    exact ⟨rtI rfl rfl, rtI rfl rfl, trivial⟩
theorem gdI {l:List Int} {i:Nat} (h:i<l.length):l.getD i 0=l[i]:=by rw[hX,hZ h]; rfl
theorem zmq {F:List Fit} {l:List Int} {i:Nat} (h:i<F.length):hasB (F.take (i+1)) l=(hasB (F.take i) l || partB l (F.getD i default).IDs):=by
 unfold hasB
 rw[zaL h default,List.any_append]; simp
abbrev jnD (j:Jns):D:=capB [lFt j.F,lMs j.M]
theorem zqr {j:Jns} (h:JnOk j) (s:List Int) (hs:s.length<=1000000):Spec PP 66 [.d (lI s),.d (jnD j)] [B (!hasB j.F s)]:=by
 refine sA Tryz.func66 ?_
 refine cR (zoK h s hs) rfl rfl ?_
 exact r1B rfl rfl
theorem zc0 {α:Type} {q:α->Bool} (l:List α):(!l.any fun s=>!q s)=l.all q:=by
 rw[kP,jY,jai,jC]
 refine forall_congr' fun x=>forall_congr' fun _=>?_
 simp
theorem znt {j:Jns} (h:JnOk j) (ids:List Int) (l:List (List (List Int))) (hl:0<l.length) (a b:Int) (p:List (List Int)) (nd one:Bool) (hp:p.length<=1000000) (hf:p.flatten.length<=1000000) :
  Spec PP 64 [.d (lII p),B nd,B one,.d (capB [lI ids]),.d (capB [lPP l]),.d (capB [I a]),.d (capB [I b]),.d (jnD j)] [B (shoW ids j.F (l.getD 0 []).length a b p nd one)]:=by
 refine sA Tryz.func64 ?_
 have hm:∀ i,i<p.length->(p.getD i []).length<=1000000:=fun i hi=>by
  have:=zft p (i+1)
  rw[zbK hi,jR] at this
  omega
 have hm':∀ s∈p,s.length<=1000000:=fun s hs=>by
  obtain⟨i,hi,rfl⟩:=kR hs
  have:=hm i hi
  rwa [hX,hZ hi] at this
 unfold shoW
 cases nd with
 | false=>
  refine sYe rfl ?_
  refine r1B rfl ?_
  rw[kH rfl]
  rw[kP,jam,kI]; omega
 | true=>
 refine sNo rfl ?_
 rw[kG (by decide)]
 refine cP (zkr ids p hp hf) rfl rfl ?_
 cases hd:divB ids p with
 | false=>
  repeat first | apply sT | apply sF
  exact r1B rfl rfl
 | true=>
 repeat first | apply sT | apply sF
 refine⟨⟨rfl,by omega,by omega⟩,?_⟩
 repeat first | apply sT | apply sF
 by_cases h1:p.length=(l.getD 0 []).length
 ·refine sYe (show (((p.length:Nat):Int)==(((l.getD 0 []).length:Nat):Int))=true from jam.2 (by omega)) ?_
  repeat first | apply sT | apply sF
  refine cP (zeF p a b hp hm') rfl rfl ?_
  rw[jG h1,kT,kT]
  cases ht:togB a b p==one with
  | false=>
   repeat first | apply sT | apply sF
   refine sNo ht ?_
   repeat first | apply sT | apply sF
   exact r1B rfl rfl
  | true=>
  repeat first | apply sT | apply sF
  refine sYe ht ?_
  repeat first | apply sT | apply sF
  refine cP (zjx p 66 (jnD j) (fun s=>!hasB j.F s) hp fun i hi=>zqr h _ (hm i hi)) rfl rfl ?_
  repeat first | apply sT | apply sF
  refine r1B rfl ?_
  rw[zc0,kT]
 refine sNo (show (((p.length:Nat):Int)==(((l.getD 0 []).length:Nat):Int))=false from jao.2 (by omega)) ?_
 repeat first | apply sT | apply sF
 refine r1B rfl ?_
 rw[jH h1]; rfl
theorem zb2 {s:St} {ob:Nat->Option Ob}:∀ {caps:List Cap} {xs:List D},capsle s ob caps (xs.map Cap.dat)->caps.length=xs.length /\ ∀ j,j<xs.length -> ∃ c,caps[j]?=some c/\caple s ob c (.dat (getD' xs j))
 | [],[],_=>⟨rfl,fun j h=>absurd h (qI _)⟩
 | c :: cs,x :: xs,h=>⟨jI Nat.succ (zb2 (xs:=xs) h.2).1,fun j hj=>by
  cases j with
  | zero=>exact⟨c,rfl,h.1⟩
  | succ j=>exact (zb2 (xs:=xs) h.2).2 j (Nat.lt_of_succ_lt_succ hj)⟩
 | [],_ :: _,h=>h.elim
 | _ :: _,[],h=>h.elim
theorem avClo {s:St} {ob:Nat->Option Ob} {v:AV} {f:FuncId} {caps:List Cap} (xs:List D) (h:v = .clo f caps) (hc:capsle s ob caps (xs.map Cap.dat)):AVle s ob v (.d (cloB f xs)):=by
 subst h
 exact⟨rfl,(zb2 hc).1,(zb2 hc).2⟩
theorem zkT {s:St} {ob:Nat->Option Ob} {i:Nat} {cs:List AV} (xs:List D) (h1:s.ob i=some (.box cs)) (h2:allD cs=some xs) (h3:ob i=none):caple s ob (.own i) (.dat (capB xs)):=⟨h3,cs,xs,h1,h2,dE _⟩
abbrev csV (ids:List Int) (L:List (List (List Int))) (a b:Int) (j:Jns):List D:=[capB [lI ids],capB [lPP L],capB [I a],capB [I b],jnD j]
theorem zdS (d:Day) {j:Jns} (h:JnOk j) (a b:Int) (v:Vdt) (hn:d.R.length<=1000000) (hT:v.T.length<=1000000/\v.T.flatten.length<=1000000) (hA:v.A.length<=1000000/\v.A.flatten.length<=1000000):Spec PP 21 [d.v,j.v,N a,N b,v.v] [.d (.int .i64 (csmE d j a b v))]:=by
 refine zbV [11] Tryz.func21 rfl (by kernel_rfl) rfl ?_
 have hF:=h.F
 refine cP (znr d a b hn) rfl rfl ?_
 unfold csmE
 apply bY <;> intro h0
 ·rw[kH (by simpa using h0)]
  exact r1I rfl rfl
 have h0:parE d a b=0:=by simpa using h0
 rw[kG (fun hh=>hh h0)]
 have ok:=zjQ h0
 have h7:=sig7 ok
 by_cases c1:127<j.F.length
 ·rw[kH c1]
  refine sYe (jG (show (127:Int)<(j.F.length:Int) by omega)) ?_
  exact r1I rfl rfl
 rw[kG c1]
 refine sNo (jH (show ¬ (127:Int)<(j.F.length:Int) by omega)) ?_
 refine cR (zaD d hn) rfl rfl ?_
 refine cR (zbE (sigL d.R) (hasD j) (.inr ⟨_,_,_,rfl⟩)) rfl rfl ?_
 have hB:=zkt h (sigL d.R) h7
 have hLl:(bstL (prtF j.F (sigL d.R))).length<=1000000:=by
  have h1:(bstL (prtF j.F (sigL d.R))).length<=(prtF j.F (sigL d.R)).length:=zfB _
  have:=zhO j.F (sigL d.R) h7
  omega
 have hLm:∀ p∈bstL (prtF j.F (sigL d.R)),p.length<=1000000 /\ ∀ s∈p,s.length<=1000000:=fun p hp=>by
  obtain⟨h1,h2⟩:=zfb (B:=0) (zdt hp) (fun s hs=>by cases hs)
  simp at h1
  exact⟨by omega,fun s hs=>by have:=h2 s hs; omega⟩
 generalize bstL (prtF j.F (sigL d.R))=L at hB hLl hLm ⊢
 refine cR hB rfl rfl ?_
 apply bY <;> intro h1
 ·have h1:L.length=0:=by
   have:((L.length:Nat):Int)=0:=by simpa using h1
   omega
  rw[kH h1]
  exact r1I rfl rfl
 have h1:¬ L.length=0:=fun e=>by
  have:¬ ((L.length:Nat):Int)=0:=by simpa using h1
  exact this (by rw[e]; rfl)
 rw[kG h1]
 have hT':=znt h (sigL d.R) L (by omega) a b v.T (v.Ans != 1) true hT.1 hT.2
 have hA':=znt h (sigL d.R) L (by omega) a b v.A (v.Ans != 2) false hA.1 hA.2
 have e1:(v.Ans != 1)=decide (v.Ans≠1):=by rw[kP,bne_iff_ne,kI]
 have e2:(v.Ans != 2)=decide (v.Ans≠2):=by rw[kP,bne_iff_ne,kI]
 rw[<- e1,<- e2]
 generalize shoW (sigL d.R) j.F (L.getD 0 []).length a b v.T (v.Ans != 1) true=uT at hT'
 generalize shoW (sigL d.R) j.F (L.getD 0 []).length a b v.A (v.Ans != 2) false=uA at hA'
 refine kAt [(7,.roe 1 (getD' [I a])),(8,.roe 1 (getD' [I b])),(9,.box 9 0),(13,.roe 1 (getD' [lPP L])),(14,.d (cloB 64 (csV (sigL d.R) L a b j)))] [(9,.box ([I v.Ans,lII v.T,lII v.A].map AV.d))]
  ⟨rfl,⟨obD [I v.Ans,lII v.T,lII v.A] rfl,trivial⟩,zmX [I a] rfl rfl rfl rfl,zmX [I b] rfl rfl rfl rfl,avQ rfl,zmX [lPP L] rfl rfl rfl rfl,avClo (csV (sigL d.R) L a b j) rfl ⟨zkT _ rfl rfl rfl,zkT _ rfl rfl rfl,zkT _ rfl rfl rfl,zkT _ rfl rfl rfl,zkT _ rfl rfl rfl,trivial⟩,trivial⟩ ?_
 refine oN 28 ?_
 refine oRo (zgd L a b hLl hLm) rfl rfl ?_
 by_cases c2:v.Ans=(vdtR L a b).Ans
 ·refine sNo (show (v.Ans != (vdtR L a b).Ans)=false by rw[c2]; simp) ?_
  repeat first | apply sT | apply sF
  refine oP hT' rfl rfl ?_
  cases uT with
  | false=>
   repeat first | apply sT | apply sF
   rw[kH (.inr (.inl rfl))]
   exact r1I rfl rfl
  | true=>
  repeat first | apply sT | apply sF
  refine oP hA' rfl rfl ?_
  cases uA with
  | false=>
   repeat first | apply sT | apply sF
   rw[kH (.inr (.inr rfl))]
   exact r1I rfl rfl
  | true=>
  repeat first | apply sT | apply sF
  rw[kG (by rintro (hh | hh | hh); exact hh c2; cases hh; cases hh)]
  exact r1I rfl rfl
 refine sYe (show (v.Ans != (vdtR L a b).Ans)=true from bne_iff_ne.2 c2) ?_
 repeat first | apply sT | apply sF
 rw[kH (.inl c2)]
 exact r1I rfl rfl
theorem zod (l:List Rpt) (g:FuncId) (c0 c1 c2:D) (p:Rpt->Bool) (hn:l.length<=1000000) (hp:∀ i,i<l.length->Spec PP g [(l.getD i default).v,.d c0,.d c1,.d c2] [B (p (l.getD i default))]):Spec PP 116 [.d (lR l),.d (cloB g [c0,c1,c2])] [B (l.any p)]:=by
 have hx:Spec PP 154 [.d (lR l),.d (cloB g [c0,c1,c2])] [N (idxL p l)]:=by
  refine sA Tryz.func154 ?_
  refine lOf (σ:=Nat) (fun i=>([(0,.d (lR l)),(1,.d (cloB g [c0,c1,c2])),(6,.d (lR l)),(7,.d (I l.length)),(8,.d (I i))],[])) (fun i=>i<=l.length /\ ∀ j,j<i->p (l.getD j default)=false) (fun i=>l.length - i) 0
   ⟨rfl,trivial,wq rfl⟩ z0L fun i hi=>?_
  obtain⟨hi,ha⟩:=hi
  apply bY <;> intro h1
  ·have h1:i<l.length:=by have:=dT h1; omega
   refine⟨⟨rfl,by omega,by omega⟩,?_⟩
   refine cP (hp i h1) rfl rfl ?_
   apply bY <;> intro h2
   ·exact r1I rfl (zao default h1 h2 ha).symm
   refine⟨i6,?_⟩
   refine⟨i+1,⟨rfl,trivial,wq rfl⟩,⟨h1,fun j hj=>?_⟩,(msr (by omega))⟩
   by_cases e:j=i
   ·subst e; exact h2
   exact ha j (by omega)
  have h1:i=l.length:=by have:=dF h1; omega
  subst h1
  exact r1I rfl (zaq default ha).symm
 refine sA Tryz.func116 ?_
 refine cP hx rfl rfl ?_
 refine r1B rfl ?_
 rw[kP,kI]
 exact za5 p l default
theorem zoe (l:List Mis) (g:FuncId) (c0:D) (p:Mis->Bool) (hn:l.length<=1000000) (hp:∀ i,i<l.length->Spec PP g [(l.getD i default).v,.d c0] [B (p (l.getD i default))]):Spec PP 78 [.d (lMs l),.d (cloB g [c0])] [B (l.any p)]:=by
 have hx:Spec PP 136 [.d (lMs l),.d (cloB g [c0])] [N (idxL p l)]:=by
  refine sA Tryz.func136 ?_
  refine lOf (σ:=Nat) (fun i=>([(0,.d (lMs l)),(1,.d (cloB g [c0])),(6,.d (lMs l)),(7,.d (I l.length)),(8,.d (I i))],[])) (fun i=>i<=l.length /\ ∀ j,j<i->p (l.getD j default)=false) (fun i=>l.length - i) 0
   ⟨rfl,trivial,wq rfl⟩ z0L fun i hi=>?_
  obtain⟨hi,ha⟩:=hi
  apply bY <;> intro h1
  ·have h1:i<l.length:=by have:=dT h1; omega
   refine⟨⟨rfl,by omega,by omega⟩,?_⟩
   refine cP (hp i h1) rfl rfl ?_
   apply bY <;> intro h2
   ·exact r1I rfl (zao default h1 h2 ha).symm
   refine⟨i6,?_⟩
   refine⟨i+1,⟨rfl,trivial,wq rfl⟩,⟨h1,fun j hj=>?_⟩,(msr (by omega))⟩
   by_cases e:j=i
   ·subst e; exact h2
   exact ha j (by omega)
  have h1:i=l.length:=by have:=dF h1; omega
  subst h1
  exact r1I rfl (zaq default ha).symm
 refine sA Tryz.func78 ?_
 refine cP hx rfl rfl ?_
 refine r1B rfl ?_
 rw[kP,kI]
 exact za5 p l default
abbrev Fit.ds (f:Fit):List D:=[lI f.IDs,I f.At.X,I f.At.Y]
theorem zqq (d:Day) (b:Brn) (f:Fit) (r:Rpt):Spec PP 134 [r.v,.d (capB d.ds),.d (capB b.ds),.d (capB f.ds)] [B (!(decide ((alwR d.s b r f.At).2=0) && (alwR d.s b r f.At).1))]:=by
 refine sA Tryz.func134 ?_
 have h:=zmh d.s b r f.At
 generalize alwR d.s b r f.At=x at h ⊢
 refine cP h rfl rfl ?_
 apply bY <;> intro h1
 ·have h1:¬ x.2=0:=by simpa using h1
  repeat first | apply sT | apply sF
  refine r1B rfl ?_
  rw[jH h1]; rfl
 have h1:x.2=0:=by simpa using h1
 repeat first | apply sT | apply sF
 refine r1B rfl ?_
 rw[jG h1,kT]
theorem j_fit {d:Day} (h:DayOk d) (f:Fit) (hf:f.IDs.length<=1000000):Spec PP 77 [d.v,f.v] [B (ckFt d f)]:=by
 have hn:=h.n
 have h7:=sig7 h
 refine sA Tryz.func77 ?_
 refine oN 12 ?_
 refine oP (zcP f.IDs hf) rfl rfl ?_
 unfold ckFt
 cases h1:setB f.IDs with
 | false=>
  repeat first | apply sT | apply sF
  exact r1B rfl rfl
 | true=>
 repeat first | apply sT | apply sF
 refine oRo (zaD d (by omega)) rfl rfl ?_
 refine oP (zeG f.IDs (sigL d.R) hf (by omega)) rfl rfl ?_
 cases h2:partB f.IDs (sigL d.R) with
 | false=>
  repeat first | apply sT | apply sF
  exact r1B rfl rfl
 | true=>
 repeat first | apply sT | apply sF
 refine cP (zgf d f.IDs (by omega) hf) rfl rfl ?_
 refine cP (zdQ d (brnD d f.IDs) (zd6 h f.IDs)) rfl rfl ?_
 cases h3:shoB d f.IDs with
 | false=>
  have h3:decide ((brnD d f.IDs).To - (brnD d f.IDs).From<=d.Long)=false:=h3
  refine sNo h3 ?_
  repeat first | apply sT | apply sF
  exact r1B rfl rfl
 | true=>
 have h3:decide ((brnD d f.IDs).To - (brnD d f.IDs).From<=d.Long)=true:=h3
 refine sYe h3 ?_
 repeat first | apply sT | apply sF
 refine cR (zge d f.IDs (by omega) hf) rfl rfl ?_
 refine fEq [2,5,3] (zod (lstD d f.IDs) 134 (capB d.ds) (capB (brnD d f.IDs).ds) (capB f.ds) (fun r=>!alwQ d f r) (by have:=zhY d f.IDs; omega) fun i hi=>zqq d (brnD d f.IDs) f _) rfl ⟨dE _,⟨rfl,rfl,fun j hj=>by
  match j,hj with
  | 0,_=>exact dE _
  | 1,_=>exact dE _
  | 2,_=>exact dE _⟩,trivial⟩ rfl ?_
 repeat first | apply sT | apply sF
 refine r1B rfl ?_
 rw[zc0]; rfl
theorem j_ct1 {d:Day} (h:DayOk d) (f:Fit) (hf:f.IDs.length<=1000000):Spec PP 76 [f.v,.d (capB d.ds)] [B (!ckFt d f)]:=by
 refine sA Tryz.func76 ?_
 refine cR (j_fit h f hf) rfl rfl ?_
 exact r1B rfl rfl
theorem zmk {d:Day} (h:DayOk d) (m:Mis) (hf:m.IDs.length<=1000000) (hr:m.R.length<=1000000):Spec PP 80 [d.v,m.v] [B (ckMs d m)]:=by
 have hn:=h.n
 have h7:=sig7 h
 refine sA Tryz.func80 ?_
 refine oN 12 ?_
 refine oP (zcP m.IDs hf) rfl rfl ?_
 unfold ckMs
 cases h1:setB m.IDs with
 | false=>
  repeat first | apply sT | apply sF
  exact r1B rfl rfl
 | true=>
 repeat first | apply sT | apply sF
 refine oRo (zaD d (by omega)) rfl rfl ?_
 refine oP (zeG m.IDs (sigL d.R) hf (by omega)) rfl rfl ?_
 cases h2:partB m.IDs (sigL d.R) with
 | false=>
  repeat first | apply sT | apply sF
  exact r1B rfl rfl
 | true=>
 repeat first | apply sT | apply sF
 refine cP (zgf d m.IDs (by omega) hf) rfl rfl ?_
 refine cP (zdQ d (brnD d m.IDs) (zd6 h m.IDs)) rfl rfl ?_
 cases h3:shoB d m.IDs with
 | false=>
  have h3:decide ((brnD d m.IDs).To - (brnD d m.IDs).From<=d.Long)=false:=h3
  refine sYe (show (!decide ((brnD d m.IDs).To - (brnD d m.IDs).From<=d.Long))=true by rw[h3]; rfl) ?_
  refine r1B rfl ?_
  rw[kG (by decide)]
  simp only[kT]
  rw[kP,jam,kI]
  omega
 | true=>
 have h3:decide ((brnD d m.IDs).To - (brnD d m.IDs).From<=d.Long)=true:=h3
 refine sNo (show (!decide ((brnD d m.IDs).To - (brnD d m.IDs).From<=d.Long))=false by rw[h3]; rfl) ?_
 refine oN 12 ?_
 refine oRo (zge d m.IDs (by omega) hf) rfl rfl ?_
 refine CallOb.pureE (zg3 d.s (brnD d m.IDs) (lstD d m.IDs) [] m.R (jF _) hr) rfl ⟨zaa _,zaa _,dE _,rfl,dE _,trivial⟩ rfl ?_
 refine r1B rfl ?_
 rw[kH rfl]
 simp only[kT]
 rw[kP,jam,kI]
theorem j_ct2 {d:Day} (h:DayOk d) (m:Mis) (hf:m.IDs.length<=1000000) (hr:m.R.length<=1000000):Spec PP 79 [m.v,.d (capB d.ds)] [B (!ckMs d m)]:=by
 refine sA Tryz.func79 ?_
 refine cR (zmk h m hf hr) rfl rfl ?_
 exact r1B rfl rfl
theorem JnOk.getM {j:Jns} (h:JnOk j) {i:Nat} (hi:i<j.M.length):(j.M.getD i default).IDs.length<=1000000/\(j.M.getD i default).R.length<=1000000:=by
 refine h.m _ ?_
 rw[hX,hZ hi]; exact kQ hi
abbrev Jns.ds (j:Jns):List D:=[lFt j.F,lMs j.M]
theorem zmA {M:List Mis} {l:List Int} {i:Nat} (h:i<M.length):fndM (M.take (i+1)) l=(fndM (M.take i) l || partB (M.getD i default).IDs l):=by
 unfold fndM
 rw[zaL h default,List.any_append]; simp
theorem zc7 (d:Day) {j:Jns} (hj:JnOk j) (hn:d.R.length<=1000000):Spec PP 28 [d.v,j.v] [.d (.int .i64 (ctbE d j))]:=by
 have hF:=hj.F
 have hM:=hj.M
 refine sA Tryz.func28 ?_
 refine cP (zcQ d hn) rfl rfl ?_
 unfold ctbE
 apply bY <;> intro h0
 ·rw[kH (by simpa using h0)]
  exact r1I rfl rfl
 have h0:dayE d=0:=by simpa using h0
 have ok:=zaB h0
 have h7:=sig7 ok
 rw[kG (fun hh=>hh h0)]
 by_cases c1:127<j.F.length \/ 127<j.M.length
 ·rw[kH c1]
  apply bY <;> intro h1
  ·repeat first | apply sT | apply sF
   exact r1I rfl rfl
  have h1:¬ 127<j.F.length:=by have:=dF h1; omega
  repeat first | apply sT | apply sF
  refine sYe (jG (show (127:Int)<(j.M.length:Int) by omega)) ?_
  exact r1I rfl rfl
 rw[kG c1]
 refine sNo (jH (show ¬ (127:Int)<(j.F.length:Int) by omega)) ?_
 repeat first | apply sT | apply sF
 refine sNo (jH (show ¬ (127:Int)<(j.M.length:Int) by omega)) ?_
 refine fEq [2] (zjw j.F 76 (capB d.ds) (fun f=>!ckFt d f) hF fun i hi=>j_ct1 ok _ (hj.get hi)) rfl ⟨dE _,⟨rfl,rfl,fun j hj=>by obtain rfl:j=0:=jac.1 hj; exact dE _⟩,trivial⟩ rfl ?_
 cases c2:j.F.all (ckFt d) with
 | false=>
  have e2:(j.F.any fun f=>!ckFt d f)=true:=by have:=zc0 (q:=ckFt d) j.F; rw[c2] at this; simpa using this
  refine sYe e2 ?_
  repeat first | apply sT | apply sF
  rw[qF,kH rfl]
  exact r1I rfl rfl
 | true=>
 have e2:(j.F.any fun f=>!ckFt d f)=false:=by have:=zc0 (q:=ckFt d) j.F; rw[c2] at this; simpa using this
 refine sNo e2 ?_
 repeat first | apply sT | apply sF
 refine pEq (zoe j.M 79 (capB d.ds) (fun m=>!ckMs d m) hM fun i hi=>j_ct2 ok _ (hj.getM hi).1 (hj.getM hi).2) rfl ⟨dE _,⟨rfl,rfl,fun j hj=>by
  obtain rfl:j=0:=jac.1 hj
  refine⟨rfl,fun q hq=>?_⟩
  show D.eqv (getD' d.ds (0+q)) (getD' d.ds q)
  rw[qD]; exact dE _⟩,trivial⟩ rfl ?_
 repeat first | apply sT | apply sF
 cases c3:j.M.all (ckMs d) with
 | false=>
  have e3:(j.M.any fun m=>!ckMs d m)=true:=by have:=zc0 (q:=ckMs d) j.M; rw[c3] at this; simpa using this
  refine sYe e3 ?_
  rw[kH (show (true && false)=false from rfl)]
  exact r1I rfl rfl
 | true=>
 have e3:(j.M.any fun m=>!ckMs d m)=false:=by have:=zc0 (q:=ckMs d) j.M; rw[c3] at this; simpa using this
 refine sNo e3 ?_
 rw[kG (by decide)]
 have es:IntKind.wrap .i64 (1 * 2 ^ (min (((sigL d.R).length:Nat):Int).toNat (IntKind.bits .i64)))=((2 ^ (sigL d.R).length:Nat):Int):=bShl h7
 have hp:2 ^ (sigL d.R).length<=128:=jM (wE (j:=7) (by decide) (by omega)) (by decide)
 have h1p:1<=2 ^ (sigL d.R).length:=Nat.one_le_two_pow
 refine cR (zaD d hn) rfl rfl ?_
 refine lOf (σ:=Nat) (fun m=>([(3,.box 3 0),(6,.d (lI (sigL d.R))),(7,.d (I m))],[(3,.box (j.ds.map AV.d))])) (fun m=>1<=m/\m<=2 ^ (sigL d.R).length /\ ∀ k,0<k->k<m->stT (sigL d.R) j k=true) (fun m=>2 ^ (sigL d.R).length - m) 1
  ⟨rfl,⟨obD j.ds rfl,trivial⟩,wq rfl⟩ ⟨jE _,h1p,fun k a b=>by omega⟩ fun m hm=>?_
 obtain⟨hm,hm2,ha⟩:=hm
 refine⟨by omega,?_⟩
 apply bY <;> intro h1
 ·have h1:m<2 ^ (sigL d.R).length:=by have h1:=dT h1; rw[es] at h1; omega
  have next:stT (sigL d.R) j m=true -> ∀ k,0<k->k<m+1->stT (sigL d.R) j k=true:=fun h k k1 k2=>by
   by_cases e:k=m
   ·subst e; exact h
   exact ha k k1 (by omega)
  have hml:(memb (sigL d.R) m).length<=7:=jM (zaH _ _ _) h7
  have hms:2 ^ (sigL d.R).length - (m+1)<2 ^ (sigL d.R).length - m:=by omega
  refine cR (zdR (sigL d.R) m h7 (by omega)) rfl rfl ?_
  refine cP (zoK hj (memb (sigL d.R) m) (by omega)) rfl rfl ?_
  apply bY <;> intro h2
  ·refine⟨i6,?_⟩
   exact⟨m+1,⟨rfl,⟨obD j.ds rfl,trivial⟩,wq rfl⟩,⟨by omega,h1,next (by unfold stT; rw[h2]; rfl)⟩,hms⟩
  refine lOf (σ:=Nat) (fun i=>([(3,.box 3 0),(6,.d (lI (sigL d.R))),(7,.d (I m)),(8,.d (lI (memb (sigL d.R) m))),(52,.d (lMs j.M)),(53,.d (I j.M.length)),(54,.d (I i))],[(3,.box (j.ds.map AV.d))])) (fun i=>i<=j.M.length/\fndM (j.M.take i) (memb (sigL d.R) m)=false) (fun i=>j.M.length - i) 0
   ⟨rfl,⟨obD j.ds rfl,trivial⟩,wq rfl⟩ ⟨jF _,rfl⟩ fun i hi=>?_
  obtain⟨hi,hf⟩:=hi
  apply bY <;> intro h3
  ·have h3:i<j.M.length:=by have:=dT h3; omega
   have hs:=zmA (l:=memb (sigL d.R) m) h3
   rw[hf,wG] at hs
   refine⟨⟨rfl,by omega,by omega⟩,?_⟩
   refine cP (zeG (j.M.getD i default).IDs (memb (sigL d.R) m) (hj.getM h3).1 (by omega)) rfl rfl ?_
   apply bY <;> intro h4
   ·refine⟨i6,?_⟩
    refine⟨m+1,⟨rfl,⟨obD j.ds rfl,trivial⟩,wq rfl⟩,⟨by omega,h1,next ?_⟩,hms⟩
    unfold stT
    rw[jX]; right
    refine kL.2 ⟨j.M.getD i default,?_,h4⟩
    rw[hX,hZ h3]; exact kQ h3
   refine⟨i6,?_⟩
   exact⟨i+1,⟨rfl,⟨obD j.ds rfl,trivial⟩,wq rfl⟩,⟨h3,by rw[hs]; exact h4⟩,msr h3⟩
  have h3:i=j.M.length:=by have:=dF h3; omega
  subst h3
  rw[jZ] at hf
  have e:allT (sigL d.R) j=false:=by
   rw[qN]
   intro hh
   have:=jC.1 hh m (kJ.2 h1)
   rw[jH (by omega),wG] at this
   unfold stT at this
   rw[h2,hf] at this
   cases this
  rw[kH e]
  exact r1I rfl rfl
 have h1:m=2 ^ (sigL d.R).length:=by have h1:=dF h1; rw[es] at h1; omega
 subst h1
 have e:allT (sigL d.R) j=true:=jC.2 fun k hk=>by
  by_cases k0:k=0
  ·subst k0; rfl
  rw[ha k (by omega) (kJ.1 hk),qJ]
 rw[kG (by rw[e]; decide)]
 exact r1I rfl rfl
end Go.Pg
