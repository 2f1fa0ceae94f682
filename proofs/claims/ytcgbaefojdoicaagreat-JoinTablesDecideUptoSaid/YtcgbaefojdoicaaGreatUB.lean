/- Lemmas, joined by program. -/
import Derived.Test.YtcgbaefojdoicaaGreatUA
set_option maxHeartbeats 4000000
set_option linter.all false
set_option maxRecDepth 100000
namespace Go.Pg
open Go.Proofs Go.RowKit Go.Sort Go.Shelf
def misR (d:Day) (ids:List Int):List Rsn:=if (brnD d ids).To - (brnD d ids).From<=d.Long then (rsnR d.s (brnD d ids) (lstD d ids)).1 else []
def greB (d:Day) (ks:List Nat) (m:Nat):Bool:=fitK d ks m && !growK d ks m
def leaB (d:Day) (ks:List Nat) (m:Nat):Bool:=!fitK d ks m && partK d ks m
abbrev fitF (d:Day) (m:Nat):Fit:=⟨memb (sigL d.R) m,(celD d m).getD 0 default⟩
abbrev misF (d:Day) (m:Nat):Mis:=⟨memb (sigL d.R) m,misR d (memb (sigL d.R) m)⟩
def tabA {α:Type} (p:Nat->Bool) (f:Nat->α):Nat->List α
 | 0=>[]
 | m+1=>if m≠0/\p m=true then tabA p f m ++ [f m] else tabA p f m
theorem zeY {α:Type} {p:Nat->Bool} {f:Nat->α} {m:Nat} (h0:1<=m) (h:p m=true):tabA p f (m+1)=tabA p f m ++ [f m]:=by rw[tabA,kH ⟨by omega,h⟩]
theorem zb7 {α:Type} {p:Nat->Bool} {f:Nat->α} {m:Nat} (h:p m=false):tabA p f (m+1)=tabA p f m:=by rw[tabA,kG fun hh=>by rw[h] at hh; cases hh.2]
theorem zbt {α:Type} (p:Nat->Bool) (f:Nat->α):∀ m,(tabA p f m).length<=m
 | 0=>jE _
 | m+1=>by
  have:=zbt p f m
  unfold tabA
  split
  ·rw[jR]; simp; omega
  omega
theorem zaN {α:Type} {p:Nat->Bool} {f:Nat->α}:∀ {m:Nat} {x:α},x∈tabA p f m -> ∃ k,0<k/\k<m/\p k=true/\x=f k
 | 0,x,h=>by cases h
 | m+1,x,h=>by
  unfold tabA at h
  split at h
  ·rename_i hm
   rcases k9.1 h with h | h
   ·obtain⟨k,h1,h2,h3⟩:=zaN h; exact⟨k,h1,by omega,h3⟩
   exact⟨m,by omega,by omega,hm.2,kO.1 h⟩
  obtain⟨k,h1,h2,h3⟩:=zaN h; exact⟨k,h1,by omega,h3⟩
theorem zci {α:Type} (p:Nat->Bool) (f:Nat->α):∀ m,tabA p f m=(tabA p id m).map f
 | 0=>rfl
 | m+1=>by
  unfold tabA
  split
  ·rw[zci p f m,jT]; rfl
  exact zci p f m
theorem zcI {p:Nat->Bool}:∀ m,(tabA p id m).Nodup
 | 0=>wK
 | m+1=>by
  unfold tabA
  split
  ·refine jbo.2 ⟨zcI m,by simp,fun a ha b hb=>?_⟩
   obtain⟨k,_,h2,_,h3⟩:=zaN ha
   simp at hb; subst hb; simp at h3; omega
  exact zcI m
theorem pushF {l:List Fit} {x:Fit} {g:Nat->Nat->D} (hg:∀ j,j<3->D.eqv (g 0 j) (x.at j)):D.eqv (.slc 3 (l.length+1) (appRow l.length (FtD.row l) g)) (.slc 3 (l ++ [x]).length (FtD.row (l ++ [x]))):=by
 refine⟨by simp,.inr ⟨rfl,fun i hi j hj=>?_⟩⟩
 show D.eqv (appRow l.length (FtD.row l) g i j) (((l ++ [x]).getD i default).at j)
 unfold appRow
 by_cases h:i<l.length
 ·rw[kH h,hX,jJ h,<- hX]
  exact dE _
 have e:i=l.length:=by omega
 subst e
 rw[kG h,kE,hX,jK (jE _),kE]
 exact hg j hj
theorem zpW {l:List Mis} {x:Mis} {g:Nat->Nat->D} (hg:∀ j,j<2->D.eqv (g 0 j) (x.at j)):D.eqv (.slc 2 (l.length+1) (appRow l.length (MsD.row l) g)) (.slc 2 (l ++ [x]).length (MsD.row (l ++ [x]))):=by
 refine⟨by simp,.inr ⟨rfl,fun i hi j hj=>?_⟩⟩
 show D.eqv (appRow l.length (MsD.row l) g i j) (((l ++ [x]).getD i default).at j)
 unfold appRow
 by_cases h:i<l.length
 ·rw[kH h,hX,jJ h,<- hX]
  exact dE _
 have e:i=l.length:=by omega
 subst e
 rw[kG h,kE,hX,jK (jE _),kE]
 exact hg j hj
theorem zj3 {α:Type} {l:List α} (h:l.Nodup) {i j:Nat} (hi:i<l.length) (hj:j<l.length) (e:l[i]=l[j]):i=j:=by
 have h:=kW.1 h
 rcases Nat.lt_trichotomy i j with g | g | g
 ·exact absurd e (h i j hi hj g)
 ·exact g
 exact absurd e.symm (h j i hj hi g)
theorem zaU {ids:List Int} (hd:ids.Nodup) {m i:Nat} (hi:i<ids.length):ids.getD i 0∈memb ids m ↔ m.testBit i=true:=by
 unfold memb membA
 rw[kK]
 constructor
 ·rintro⟨j,hj,e⟩
  rw[kX,kJ] at hj
  rw[hX,hX,hZ hj.1,hZ hi] at e
  have:j=i:=zj3 hd hj.1 hi e
  subst this; exact hj.2
 intro h
 exact⟨i,kX.2 ⟨kJ.2 hi,h⟩,rfl⟩
theorem zl4 {ids:List Int} (hd:ids.Nodup) {m k:Nat} (hm:m<2 ^ ids.length) (hk:k<2 ^ ids.length) (h:memb ids m=memb ids k):m=k:=by
 apply jaD
 intro i
 by_cases hi:i<ids.length
 ·rw[kP,<- zaU hd hi,<- zaU hd hi,h]
 have h2:2 ^ ids.length<=2 ^ i:=wE (by decide) (by omega)
 rw[jaK (by omega),jaK (by omega)]
theorem DayOk.nodR {d:Day} (h:DayOk d):(d.R.map Rpt.ID).Nodup:=by
 have:∀ i,i<=d.R.length->((d.R.take i).map Rpt.ID).Nodup:=by
  intro i
  induction i with
  | zero=>intro _; simp
  | succ i ih=>
  intro hi
  rw[zaL (by omega) default,jT]
  refine jbo.2 ⟨ih (by omega),by simp,fun a ha b hb=>?_⟩
  have:=h.tw i (by omega)
  rw[jai] at this
  obtain⟨x,hx,rfl⟩:=kK.1 ha
  have h1:=this x hx
  simp at hb h1
  rw[hb]; exact h1
 have:=this d.R.length (jE _)
 rwa [jZ] at this
theorem DayOk.nod {d:Day} (h:DayOk d):(sigL d.R).Nodup:=by
 unfold sigL
 refine (qY _ _).nodup_iff.2 ?_
 unfold sigK
 exact List.Nodup.sublist (List.Sublist.map _ (List.filter_sublist ..)) h.nodR
theorem zhy {α:Type} [Inhabited α] {d:Day} (h:DayOk d) (key:α->List Int) (p:Nat->Bool) (f:Nat->α) (hk:∀ m,key (f m)=memb (sigL d.R) m) {n:Nat} (hn:n<=2 ^ (sigL d.R).length) :
  ∀ i j,i<(tabA p f n).length->j<(tabA p f n).length->key ((tabA p f n).getD i default)=key ((tabA p f n).getD j default)->i=j:=by
 intro i j hi hj e
 have hl:(tabA p f n).length=(tabA p id n).length:=by rw[zci p f,kV]
 have g:∀ i,i<(tabA p f n).length -> ∃ hi:i<(tabA p id n).length,(tabA p f n).getD i default=f (tabA p id n)[i]:=fun i hi=>by
  have hi':i<(tabA p id n).length:=by rw[<- hl]; exact hi
  refine⟨hi',?_⟩
  rw[hX,zci p f,jU,hZ hi']; rfl
 obtain⟨hi',e1⟩:=g i hi
 obtain⟨hj',e2⟩:=g j hj
 rw[e1,e2,hk,hk] at e
 have lt:∀ i,∀ hi:i<(tabA p id n).length,(tabA p id n)[i]<2 ^ (sigL d.R).length:=fun i hi=>by
  obtain⟨k,_,h2,_,h3⟩:=zaN (kQ hi)
  rw[h3]; simp; omega
 have:=zl4 h.nod (lt i hi') (lt j hj') e
 exact zj3 (zcI n) hi' hj' this
def tabR (d:Day):List Fit × List Mis × Int:=
 if dayE d≠0 then ([],[],dayE d) else (srtF (tabA (greB d (ksD d)) (fitF d) (2 ^ (sigL d.R).length)),srtM (tabA (leaB d (ksD d)) (misF d) (2 ^ (sigL d.R).length)),0)
theorem zkv (d:Day) (hn:d.R.length<=1000000):Spec PP 30 [d.v] [.agg [lFt (tabR d).1,lMs (tabR d).2.1],.d (.int .i64 (tabR d).2.2)]:=by
 refine zbV [20] Tryz.func30 rfl (by kernel_rfl) rfl ?_
 refine cP (zcQ d hn) rfl rfl ?_
 apply bY <;> intro h0
 ·have e:tabR d=([],[],dayE d):=by unfold tabR; rw[kH (by simpa using h0)]
  rw[e]
  exact⟨rtC (a:=2) rfl rfl rfl rfl rfl rfl ⟨rfl,rfl,trivial⟩,rtI rfl rfl,trivial⟩
 have h0:dayE d=0:=by simpa using h0
 have h:=zaB h0
 have hn:=h.n
 have h7:=sig7 h
 have e:tabR d=(srtF (tabA (greB d (ksD d)) (fitF d) (2 ^ (sigL d.R).length)),srtM (tabA (leaB d (ksD d)) (misF d) (2 ^ (sigL d.R).length)),0):=by unfold tabR; rw[kG (fun hh=>hh h0)]
 rw[e]
 refine cR (zns h) rfl rfl ?_
 have hp:2 ^ (sigL d.R).length<=2 ^ 7:=wE (by decide) h7
 refine lOf (σ:=Nat) (fun m=>([(1,.box 1 0),(2,.box 2 0),(5,.box 5 0),(6,.box 6 0),(7,.d (I m))],[(1,.box (d.ds.map AV.d)),(2,.box (List.replicate 2 .any)),(5,.box ((d.ds ++ [lI (sigL d.R),cmap d (ksD d)]).map AV.d)),(6,.box [.own 52,.own 87]),
   (52,.row 101 3 (tabA (greB d (ksD d)) (fitF d) m).length (FtD.row (tabA (greB d (ksD d)) (fitF d) m))),(87,.row 104 2 (tabA (leaB d (ksD d)) (misF d) m).length (MsD.row (tabA (leaB d (ksD d)) (misF d) m)))]))
  (fun m=>1<=m/\m<=2 ^ (sigL d.R).length) (fun m=>2 ^ (sigL d.R).length - m) 1
  ⟨rfl,⟨obD d.ds rfl,zav rfl rfl,obD (d.ds ++ [lI (sigL d.R),cmap d (ksD d)]) rfl,⟨⟨rfl,_,_,_,rfl⟩,⟨rfl,_,_,_,rfl⟩,trivial⟩,rfl,rfl,trivial⟩,wq rfl⟩ ⟨jE _,Nat.one_le_two_pow⟩ fun m hm=>?_
 obtain⟨hm,hm2⟩:=hm
 have es:=bShl h7
 have l1:=zbt (greB d (ksD d)) (fitF d) m
 have l2:=zbt (leaB d (ksD d)) (misF d) m
 have hi:(memb (sigL d.R) m).length<=1000000:=jM (zaH _ _ _) (by omega)
 refine⟨by omega,?_⟩
 apply bY <;> intro h1
 ·have h1:m<2 ^ (sigL d.R).length:=by
   have h1:(m:Int)<((2 ^ (sigL d.R).length:Nat):Int):=by rw[<- es]; exact dT h1
   omega
  have hms:2 ^ (sigL d.R).length - (m+1)<2 ^ (sigL d.R).length - m:=by omega
  refine cR (zdR (sigL d.R) m h7 (by omega)) rfl rfl ?_
  refine cP (zeH d (ksD d) m) rfl rfl ?_
  apply bY <;> intro h2
  ·have h2:fitK d (ksD d) m=true:=h2
   have e2:leaB d (ksD d) m=false:=by unfold leaB; rw[h2]; rfl
   refine cP (zoL d (ksD d) m h7 (by omega)) rfl rfl ?_
   repeat first | apply sT | apply sF
   apply bY <;> intro h3
   ·have h3:growK d (ksD d) m=false:=by simpa using h3
    have e1:greB d (ksD d) m=true:=by unfold greB; rw[h2,h3]; rfl
    have hf:(ksD d).contains m=true/\0<(celD d m).length:=by unfold fitK at h2; simpa using h2
    refine oN 14 ?_
    refine⟨⟨kInt,rfl⟩,lP (celD d m),?_,?_⟩
    ·have:=znm d (ksD d) m
     rw[kH hf.1] at this
     exact this
    refine⟨⟨rfl,by omega,by omega⟩,?_⟩
    refine⟨⟨.inr rfl,by unfold maxLen; omega,by show ((tabA (greB d (ksD d)) (fitF d) m).length+1) * 40<=140737488355328; omega⟩,?_⟩
    refine⟨i6,?_⟩
    refine⟨m+1,⟨rfl,⟨obD d.ds rfl,zav rfl rfl,obD (d.ds ++ [lI (sigL d.R),cmap d (ksD d)]) rfl,obX rfl,obR rfl ?_,obR rfl ?_,trivial⟩,wq rfl⟩,⟨by omega,h1⟩,hms⟩
    ·rw[zeY hm e1]
     refine pushF fun j hj=>?_
     match j,hj with
     | 0,_=>exact dE _
     | 1,_=>exact dE _
     | 2,_=>exact dE _
    rw[zb7 e2]; exact dE _
   have h3:growK d (ksD d) m=true:=by simpa using h3
   have e1:greB d (ksD d) m=false:=by unfold greB; rw[h2,h3]; rfl
   refine cP (zeH d (ksD d) m) rfl rfl ?_
   refine sNo (by rw[h2]; rfl) ?_
   repeat first | apply sT | apply sF
   refine⟨i6,?_⟩
   refine⟨m+1,⟨rfl,⟨obD d.ds rfl,zav rfl rfl,obD (d.ds ++ [lI (sigL d.R),cmap d (ksD d)]) rfl,obX rfl,obR rfl ?_,obR rfl ?_,trivial⟩,wq rfl⟩,⟨by omega,h1⟩,hms⟩
   ·rw[zb7 e1]; exact dE _
   rw[zb7 e2]; exact dE _
  have h2:fitK d (ksD d) m=false:=h2
  have e1:greB d (ksD d) m=false:=by unfold greB; rw[h2]; rfl
  repeat first | apply sT | apply sF
  refine cP (zeH d (ksD d) m) rfl rfl ?_
  refine sYe (by rw[h2]; rfl) ?_
  refine cP (zkq d (ksD d) m h7 (by omega)) rfl rfl ?_
  repeat first | apply sT | apply sF
  apply bY <;> intro h3
  ·have h3:partK d (ksD d) m=true:=h3
   have e2:leaB d (ksD d) m=true:=by unfold leaB; rw[h2,h3]; rfl
   refine cP (zgf d (memb (sigL d.R) m) (by omega) hi) rfl rfl ?_
   refine cP (zdQ d (brnD d (memb (sigL d.R) m)) (zd6 h _)) rfl rfl ?_
   apply bY <;> intro h4
   ·have h4:(brnD d (memb (sigL d.R) m)).To - (brnD d (memb (sigL d.R) m)).From<=d.Long:=by simpa using h4
    have er:misR d (memb (sigL d.R) m)=(rsnR d.s (brnD d (memb (sigL d.R) m)) (lstD d (memb (sigL d.R) m))).1:=by unfold misR; rw[kH h4]
    refine oN 12 ?_
    refine oRo (zge d (memb (sigL d.R) m) (by omega) hi) rfl rfl ?_
    refine oRo (zkl d.s (brnD d (memb (sigL d.R) m)) (lstD d (memb (sigL d.R) m))) rfl rfl ?_
    refine⟨⟨.inr rfl,by unfold maxLen; omega,by show ((tabA (leaB d (ksD d)) (misF d) m).length+1) * 48<=140737488355328; omega⟩,?_⟩
    refine⟨i6,?_⟩
    refine⟨m+1,⟨rfl,⟨obD d.ds rfl,zav rfl rfl,obD (d.ds ++ [lI (sigL d.R),cmap d (ksD d)]) rfl,obX rfl,obR rfl ?_,obR rfl ?_,trivial⟩,wq rfl⟩,⟨by omega,h1⟩,hms⟩
    ·rw[zb7 e1]; exact dE _
    rw[zeY hm e2]
    refine zpW fun j hj=>?_
    match j,hj with
    | 0,_=>exact dE _
    | 1,_=>show D.eqv _ (lRs (misR d (memb (sigL d.R) m))); rw[er]; exact dE _
   have h4:¬ (brnD d (memb (sigL d.R) m)).To - (brnD d (memb (sigL d.R) m)).From<=d.Long:=by simpa using h4
   have er:misR d (memb (sigL d.R) m)=[]:=by unfold misR; rw[kG h4]
   refine⟨⟨.inr rfl,by unfold maxLen; omega,by show ((tabA (leaB d (ksD d)) (misF d) m).length+1) * 48<=140737488355328; omega⟩,?_⟩
   refine⟨i6,?_⟩
   refine⟨m+1,⟨rfl,⟨obD d.ds rfl,zav rfl rfl,obD (d.ds ++ [lI (sigL d.R),cmap d (ksD d)]) rfl,obX rfl,obR rfl ?_,obR rfl ?_,trivial⟩,wq rfl⟩,⟨by omega,h1⟩,hms⟩
   ·rw[zb7 e1]; exact dE _
   rw[zeY hm e2]
   refine zpW fun j hj=>?_
   match j,hj with
   | 0,_=>exact dE _
   | 1,_=>show D.eqv _ (lRs (misR d (memb (sigL d.R) m))); rw[er]; rfl
  have h3:partK d (ksD d) m=false:=h3
  have e2:leaB d (ksD d) m=false:=by unfold leaB; rw[h3,wD]
  refine⟨i6,?_⟩
  refine⟨m+1,⟨rfl,⟨obD d.ds rfl,zav rfl rfl,obD (d.ds ++ [lI (sigL d.R),cmap d (ksD d)]) rfl,obX rfl,obR rfl ?_,obR rfl ?_,trivial⟩,wq rfl⟩,⟨by omega,h1⟩,hms⟩
  ·rw[zb7 e1]; exact dE _
  rw[zb7 e2]; exact dE _
 have h1:m=2 ^ (sigL d.R).length:=by
  have h1:¬ (m:Int)<((2 ^ (sigL d.R).length:Nat):Int):=by rw[<- es]; exact dF h1
  omega
 subst h1
 have hl:∀ m,(memb (sigL d.R) m).length<=1000000:=fun m=>jM (zaH _ _ _) (by omega)
 refine CallSt.rwW rfl rfl (zlS (tabA (greB d (ksD d)) (fitF d) (2 ^ (sigL d.R).length)) (by omega) (zhy h Fit.IDs _ _ (fun _=>rfl) (jE _)) (fun x hx=>by
  obtain⟨k,_,_,_,rfl⟩:=zaN hx; exact hl k)) ⟨⟨[],.tmp 90,[.func 94],[],rfl,rfl,rfl,rfl,rfl,rfl,rfl⟩⟩ rfl ?_
 refine CallSt.rwW rfl rfl (zlR (tabA (leaB d (ksD d)) (misF d) (2 ^ (sigL d.R).length)) (by omega) (zhy h Mis.IDs _ _ (fun _=>rfl) (jE _)) (fun x hx=>by
  obtain⟨k,_,_,_,rfl⟩:=zaN hx; exact hl k)) ⟨⟨[],.tmp 93,[.func 97],[],rfl,rfl,rfl,rfl,rfl,rfl,rfl⟩⟩ rfl ?_
 refine kAt [(2,.box 2 0),(6,.box 6 0)] [(2,.box (List.replicate 2 .any)),(6,.box ([lFt (srtF (tabA (greB d (ksD d)) (fitF d) (2 ^ (sigL d.R).length))),lMs (srtM (tabA (leaB d (ksD d)) (misF d) (2 ^ (sigL d.R).length)))].map AV.d))]
  ⟨rfl,⟨zav rfl rfl,⟨⟨rfl,_,_,_,_,rfl,⟨(kU _).symm,.inr ⟨rfl,fun i _ j _=>dE _⟩⟩⟩,⟨rfl,_,_,_,_,rfl,⟨(kU _).symm,.inr ⟨rfl,fun i _ j _=>dE _⟩⟩⟩,trivial⟩,trivial⟩,wq rfl⟩ ?_
 exact⟨rtC (a:=2) rfl rfl rfl rfl rfl rfl (zaa _),rtI rfl rfl,trivial⟩
structure Lim where
  lo:Int
  hi:Int
  no:Bool
  deriving DecidableEq,Inhabited
abbrev Lim.ds (x:Lim):List D:=[I x.lo,I x.hi,.bool x.no]
structure Tg where
  N:Int
  T:Int
  lo:Int
  hi:Int
  no:Bool
  deriving DecidableEq,Inhabited
abbrev Tg.ds (x:Tg):List D:=[I x.N,I x.T,I x.lo,I x.hi,.bool x.no]
abbrev Tg.v (x:Tg):V1:=.agg x.ds
def Tg.at (x:Tg):Nat->D
 | 0=>I x.N
 | 1=>I x.T
 | 2=>I x.lo
 | 3=>I x.hi
 | _=>.bool x.no
structure Prf where
  ax:Int
  k:Int
  an:Int
  ad:Int
  gn:Int
  gd:Int
  deriving DecidableEq,Inhabited
abbrev Prf.ds (x:Prf):List D:=[I x.ax,I x.k,I x.an,I x.ad,I x.gn,I x.gd]
abbrev Prf.v (x:Prf):V1:=.agg x.ds
def Prf.at (x:Prf):Nat->D
 | 0=>I x.ax
 | 1=>I x.k
 | 2=>I x.an
 | 3=>I x.ad
 | 4=>I x.gn
 | _=>I x.gd
end Go.Pg
