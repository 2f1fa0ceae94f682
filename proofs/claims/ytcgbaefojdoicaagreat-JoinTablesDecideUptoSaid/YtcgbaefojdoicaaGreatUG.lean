/- Lemmas, joined by program. -/
import Derived.Test.YtcgbaefojdoicaaGreatUF
set_option maxHeartbeats 4000000
set_option linter.all false
set_option maxRecDepth 100000
namespace Go.Pg
open Go.Proofs Go.RowKit Go.Sort Go.Shelf
theorem getF {F:List Fit} {i:Nat} (h:i<F.length):F.getD i default∈F:=by rw[hX,hZ h]; exact kQ h
theorem zms {F:List Mis} {i:Nat} (h:i<F.length):F.getD i default∈F:=by rw[hX,hZ h]; exact kQ h
section
variable {α:Type} [Inhabited α] {w:Nat} (at_:α->Nat->D)
theorem zbX {l:List α} {n:Nat} {f:Nat->Nat->D} (hn:n=l.length) (hf:∀ i,i<l.length -> ∀ j,j<w->D.eqv (f i j) (at_ (l.getD i default) j)):D.eqv (.slc w n f) (.slc w l.length fun i=>at_ (l.getD i default)):=by
 subst hn
 exact⟨rfl,.inr ⟨rfl,hf⟩⟩
theorem zkN {l:List α} {k n' lo:Nat} (hk:k<l.length) (hlo:lo=k+1) (hn:n'=l.length - (k+1)):D.eqv (.slc w (k+n') (cutRow (fun i=>at_ (l.getD i default)) k lo)) (.slc w (l.take k++l.drop (k+1)).length fun i=>at_ ((l.take k++l.drop (k+1)).getD i default)):=by
 subst hlo
 refine zbX at_ (by rw[jR,jQ,wC]; omega) fun i hi j hj=>?_
 rw[jR,jQ,wC] at hi
 unfold cutRow appRow
 by_cases h:i<k
 ·rw[kH h,hX (l:=l.take k++_),jJ (by rw[jQ]; omega),List.getElem?_take_of_lt h,<- hX]
  exact dE _
 rw[kG h,hX (l:=l.take k++_),jK (by rw[jQ]; omega),qX,jQ,<- hX,show min k l.length=k by omega]
 exact dE _
theorem zcJ {l:List α} {k c n:Nat} {ys:List D} {y:α} (hk:k<l.length) (hn:n=l.length) (hy:∀ j,j<w->D.eqv (if c<=j/\j<c+ys.length then getD' ys (j - c) else at_ (l.getD k default) j) (at_ y j)):D.eqv (.slc w n (storeRow (fun i=>at_ (l.getD i default)) k c ys)) (.slc w (l.set k y).length fun i=>at_ ((l.set k y).getD i default)):=by
 refine zbX at_ (by rw[qW]; exact hn) fun i hi j hj=>?_
 rw[qW] at hi
 unfold storeRow
 by_cases e:i=k
 ·subst e
  have:=hy j hj
  rw[hX (l:=l.set i y),List.getElem?_set_self hi]
  by_cases hc:c<=j/\j<c+ys.length
  ·rw[kH hc] at this
   rw[kH ⟨rfl,hc⟩]; exact this
  rw[kG hc] at this
  rw[kG fun hh=>hc hh.2]; exact this
 rw[kG fun hh=>e hh.1,hX (l:=l.set k y),List.getElem?_set_ne (jaj e),<- hX]
 exact dE _
theorem zlT {l:List α} {n:Nat} {g:Nat->Nat->D} {y:α} (hn:n=l.length) (hg:∀ j,j<w->D.eqv (g 0 j) (at_ y j)):D.eqv (.slc w (n+1) (appRow n (fun i=>at_ (l.getD i default)) g)) (.slc w (l ++ [y]).length fun i=>at_ ((l ++ [y]).getD i default)):=by
 subst hn
 refine zbX at_ (by simp) fun i hi j hj=>?_
 rw[jR,qE] at hi
 unfold appRow
 by_cases h:i<l.length
 ·rw[kH h,hX (l:=l ++ [y]),jJ h,<- hX]
  exact dE _
 have e:i=l.length:=by omega
 subst e
 rw[kG h,kE,hX (l:=l ++ [y]),jK (jE _),kE]
 exact hg j hj
end
def bntJ (j:Jns) (how a:Nat) (id:Int) (p:Place):Jns:=
 if how % 8=1/\0<j.F.length then ⟨j.F.take (a % j.F.length)++j.F.drop (a % j.F.length+1),j.M⟩
 else if how % 8=2/\0<j.M.length then ⟨j.F,j.M.take (a % j.M.length)++j.M.drop (a % j.M.length+1)⟩
 else if how % 8=3/\0<j.F.length then ⟨j.F.set (a % j.F.length) ⟨(j.F.getD (a % j.F.length) default).IDs,p⟩,j.M⟩
 else if how % 8=4/\0<j.F.length then ⟨j.F.set (a % j.F.length) ⟨(j.F.getD (a % j.F.length) default).IDs ++ [id],(j.F.getD (a % j.F.length) default).At⟩,j.M⟩
 else if how % 8=5/\0<j.M.length then ⟨j.F,j.M.set (a % j.M.length) ⟨(j.M.getD (a % j.M.length) default).IDs,if 0<(j.M.getD (a % j.M.length) default).R.length then (j.M.getD (a % j.M.length) default).R.drop 1 else [⟨p,id⟩]⟩⟩
 else if how % 8=6/\0<j.M.length then ⟨j.F,j.M.set (a % j.M.length) ⟨(j.M.getD (a % j.M.length) default).IDs,if 0<(j.M.getD (a % j.M.length) default).R.length then (j.M.getD (a % j.M.length) default).R.set (how % (j.M.getD (a % j.M.length) default).R.length) ⟨((j.M.getD (a % j.M.length) default).R.getD (how % (j.M.getD (a % j.M.length) default).R.length) default).At,id⟩ else (j.M.getD (a % j.M.length) default).R⟩⟩
 else if how % 8=7/\0<j.M.length then ⟨j.F,j.M ++ [j.M.getD (a % j.M.length) default]⟩
 else j
theorem mem_setL {α:Type} {l:List α} {k:Nat} {y x:α} (h:x∈l.set k y):x∈l \/ x=y:=jaU h
structure JnLt (n:Nat) (j:Jns):Prop where
  F:j.F.length<=n
  M:j.M.length<=n
  f:∀ f∈j.F,f.IDs.length<=n
  m:∀ m∈j.M,m.IDs.length<=n/\m.R.length<=n
theorem zqW {j:Jns} {n:Nat} (h:JnLt n j) (how a:Nat) (id:Int) (p:Place):JnLt (n+1) (bntJ j how a id p):=by
 obtain⟨hF,hM,hf,hm⟩:=h
 have up:JnLt (n+1) j:=⟨by omega,by omega,fun f h=>by have:=hf f h; omega,fun m h=>by have:=hm m h; omega⟩
 have kF:0<j.F.length->a % j.F.length<j.F.length:=fun h=>wI _ h
 have kM:0<j.M.length->a % j.M.length<j.M.length:=fun h=>wI _ h
 unfold bntJ
 split
 ·rename_i h1
  refine⟨?_,up.M,fun f h=>up.f f ?_,up.m⟩
  ·show (_++_:List Fit).length<=_
   rw[jR,jQ,wC]; omega
  rcases k9.1 h with h | h
  ·exact jan h
  exact jaT h
 split
 ·rename_i h1
  refine⟨up.F,?_,up.f,fun f h=>up.m f ?_⟩
  ·show (_++_:List Mis).length<=_
   rw[jR,jQ,wC]; omega
  rcases k9.1 h with h | h
  ·exact jan h
  exact jaT h
 split
 ·rename_i h1
  refine⟨by show (List.set _ _ _).length<=_; rw[qW]; omega,up.M,fun f h=>?_,up.m⟩
  rcases mem_setL h with h | h
  ·exact up.f f h
  subst h
  have:=up.f _ (getF (kF h1.2))
  exact this
 split
 ·rename_i h1
  refine⟨by show (List.set _ _ _).length<=_; rw[qW]; omega,up.M,fun f h=>?_,up.m⟩
  rcases mem_setL h with h | h
  ·exact up.f f h
  subst h
  show (_ ++ [id]:List Int).length<=_
  rw[jR,qE]
  have:=hf _ (getF (kF h1.2))
  omega
 split
 ·rename_i h1
  refine⟨up.F,by show (List.set _ _ _).length<=_; rw[qW]; omega,up.f,fun f h=>?_⟩
  rcases mem_setL h with h | h
  ·exact up.m f h
  subst h
  have:=hm _ (zms (kM h1.2))
  refine⟨by show (j.M.getD _ default).IDs.length<=_; omega,?_⟩
  show (if _ then _ else _:List Rsn).length<=_
  split
  ·rw[wC]; omega
  rw[qE]; omega
 split
 ·rename_i h1
  refine⟨up.F,by show (List.set _ _ _).length<=_; rw[qW]; omega,up.f,fun f h=>?_⟩
  rcases mem_setL h with h | h
  ·exact up.m f h
  subst h
  have:=hm _ (zms (kM h1.2))
  refine⟨by show (j.M.getD _ default).IDs.length<=_; omega,?_⟩
  show (if _ then _ else _:List Rsn).length<=_
  split
  ·rw[qW]; omega
  omega
 split
 ·rename_i h1
  refine⟨up.F,by show (_ ++ [_]:List Mis).length<=_; rw[jR,qE]; omega,up.f,fun f h=>?_⟩
  rcases k9.1 h with h | h
  ·exact up.m f h
  rw[kO.1 h]; exact up.m _ (zms (kM h1.2))
 exact up
theorem JnLt.ok {n:Nat} {j:Jns} (h:JnLt n j) (hn:n<=1000000):JnOk j:=⟨jM h.F hn,jM h.M hn,fun f hf=>jM (h.f f hf) hn,fun m hm=>⟨jM (h.m m hm).1 hn,jM (h.m m hm).2 hn⟩⟩
theorem tmy {how v:Nat} {c:Int} (h:how % 8=v) (e:((v:Nat):Int)=c):(((how:Nat):Int).tmod 8==c)=true:=by
 rw[show ((how:Nat):Int).tmod 8=((how % 8:Nat):Int) from rfl,h,e,jaV]
theorem tmn {how v:Nat} {c:Int} (h:how % 8=v) (e:((v:Nat):Int)≠c):(((how:Nat):Int).tmod 8==c)=false:=by
 rw[show ((how:Nat):Int).tmod 8=((how % 8:Nat):Int) from rfl,h]
 exact jao.2 e
theorem nfc {how v c:Nat} {X:Prop} (hv:how % 8=v) (e:v≠c):¬ (how % 8=c/\X):=fun h=>e (hv.symm.trans h.1)
theorem ln0 {n:Nat} (h:n=0):decide ((0:Int)<(n:Int))=false:=jH (by omega)
theorem ln1 {n:Nat} (h:0<n):decide ((0:Int)<(n:Int))=true:=jG (by omega)
theorem wrA {a n:Nat} (ha:a<=255):(IntKind.wrap .i64 ((a:Nat):Int)).tmod ((n:Nat):Int)=((a % n:Nat):Int):=by
 rw[zbq (by exact i6)]; rfl
theorem app0 {w:Nat} {n:Nat} {f g:Nat->Nat->D}:D.eqv (.slc w (0+n) (appRow 0 f g)) (.slc w n g):=⟨qD _,.inr ⟨rfl,fun i hi j hj=>by
 unfold appRow
 rw[kG (qI _),Nat.sub_zero]; exact dE _⟩⟩
abbrev rwF (F:List Fit):Nat->Nat->D:=fun i=>(F.getD i default).at
abbrev rwM (M:List Mis):Nat->Nat->D:=fun i=>(M.getD i default).at
abbrev bnS (how a:Nat) (id:Int):List (Nat × AV):=[(1,.d (.int .u8 (how:Int))),(2,.d (.int .u8 (a:Int))),(3,.d (I id)),(9,.box 9 0),(10,.box 10 0),(11,.box 11 0)]
abbrev bnK (how a:Nat) (id:Int) (q k:Nat):List (Nat × AV):=[(1,.d (.int .u8 (how:Int))),(2,.d (.int .u8 (a:Int))),(3,.d (I id)),(9,.box 9 0),(10,.box 10 0),(11,.box 11 0),(q,.d (I (k:Nat)))]
abbrev bnO (j:Jns) (p:Place):List (Nat × Ob):=[(9,.box ([I p.X,I p.Y].map AV.d)),(10,.box (List.replicate 2 .any)),(11,.box [.own 21,.own 25]),(21,.row 101 3 j.F.length (rwF j.F)),(25,.row 104 2 j.M.length (rwM j.M))]
theorem app1 {l:List Int} {x:Int} {f g:Nat->Nat->D} (hg:g 0 0=I x):D.eqv (.slc 1 (0+l.length+1) (appRow (0+l.length) (appRow 0 f (rowI l)) g)) (lI (l ++ [x])):=by
 rw[qD]
 refine⟨by simp,.inr ⟨rfl,fun i hi q hq=>?_⟩⟩
 obtain rfl:q=0:=by omega
 have hi:i<l.length+1:=hi
 show D.eqv (appRow l.length (appRow 0 f (rowI l)) g i 0) (I ((l ++ [x]).getD i 0))
 unfold appRow
 by_cases h:i<l.length
 ·rw[kH h,kG (qI _),Nat.sub_zero,hX,jJ h,<- hX]
  exact dE _
 obtain rfl:i=l.length:=by omega
 rw[kG h,kE,hg,hX,jK (jE _),kE]
 exact dE _
theorem drp1 (R:List Rsn):D.eqv (.slc 3 (R.length - 1) fun i=>(R.getD (1+i) default).at) (lRs (R.drop 1)):=by
 refine zbX Rsn.at (by rw[wC]) fun i hi q hq=>?_
 rw[hX (l:=R.drop 1),qX,<- hX]
 exact dE _
theorem one1 (p:Place) (id:Int):D.eqv (.slc 3 1 (rowOf 3 [I p.X,I p.Y,I id])) (lRs [⟨p,id⟩]):=by
 refine zbX Rsn.at rfl fun i hi q hq=>?_
 obtain rfl:i=0:=jac.1 hi
 match q,hq with
 | 0,_=>exact dE _
 | 1,_=>exact dE _
 | 2,_=>exact dE _
theorem set6 {R:List Rsn} {r:Nat} {id:Int} {f:Nat->Nat->D} (hr:r<R.length):D.eqv (.slc 3 (0+R.length) (storeRow (appRow 0 f fun i=>(R.getD i default).at) ((r:Nat):Int).toNat 2 [I id])) (lRs (R.set r ⟨(R.getD r default).At,id⟩)):=by
 refine zbX Rsn.at (by rw[qW,qD]) fun i hi q hq=>?_
 rw[qW] at hi
 show D.eqv (storeRow (appRow 0 f fun i=>(R.getD i default).at) r 2 [I id] i q) _
 unfold storeRow appRow
 by_cases e:i=r
 ·subst e
  rw[hX (l:=R.set i _),List.getElem?_set_self hi,kG (qI _)]
  match q,hq with
  | 0,_=>rw[kG fun hh=>absurd hh.2.1 (by decide)]; exact dE _
  | 1,_=>rw[kG fun hh=>absurd hh.2.1 (by decide)]; exact dE _
  | 2,_=>rw[kH ⟨rfl,jE _,by simp⟩]; exact dE _
 rw[kG fun hh=>e hh.1,kG (qI _),Nat.sub_zero,hX (l:=R.set r _),List.getElem?_set_ne (jaj e),<- hX]
 exact dE _
theorem set6' {R:List Rsn} {r:Nat} {e id:Int} {f:Nat->Nat->D} (he:e=((r:Nat):Int)) (hr:r<R.length):D.eqv (.slc 3 (0+R.length) (storeRow (appRow 0 f fun i=>(R.getD i default).at) e.toNat 2 [I id])) (lRs (R.set r ⟨(R.getD r default).At,id⟩)):=by
 subst he; exact set6 hr
abbrev bn6 (id:Int) (k:Nat) (R:List Rsn):List (Nat × AV):=[(10,.box 10 0),(11,.box 11 0),(19,.d (I (k:Nat))),(20,.d (lRs R))]
abbrev bnO6 (j:Jns):List (Nat × Ob):=[(10,.box (List.replicate 2 .any)),(11,.box [.own 21,.own 25]),(21,.row 101 3 j.F.length (rwF j.F)),(25,.row 104 2 j.M.length (rwM j.M))]
theorem zpu (j : Jns) (how a : Nat) (id : Int) (p : Place) (hh : how <= 255) (ha : a <= 255) (hF : j.F.length <= 1000000) (hM : j.M.length <= 1000000) (hf : ∀ i, i < j.F.length -> (j.F.getD i default).IDs.length <= 1000000) (hm : ∀ i, i < j.M.length -> (j.M.getD i default).R.length <= 1000000) :
    Spec PP 27 [j.v, .d (.int .u8 (how : Int)), .d (.int .u8 (a : Int)), N id, p.v] [(bntJ j how a id p).v] := by
  refine zbV [2, 6, 9, 11, 14, 17, 23, 26, 29, 2000000124, 2000000161] Tryz.func27 rfl (by kernel_rfl) rfl ?_
  refine oL [1, 2, 1005, 1006, 2000, 2004, 2003, 2007, 8, 9, 10] (fNo ?_)
  refine ⟨rfl, rfl, ?_⟩
  refine ⟨rfl, rfl, ?_⟩
  refine ⟨rfl, ?_⟩
  refine ⟨rfl, ?_⟩
  refine ⟨rfl, ⟨.inr rfl, by unfold maxLen; show 0 + j.F.length <= _; omega, by show (0 + j.F.length) * 40 <= 140737488355328; omega⟩, ?_⟩
  refine ⟨rfl, ⟨.inr rfl, by unfold maxLen; show 0 + j.M.length <= _; omega, by show (0 + j.M.length) * 48 <= 140737488355328; omega⟩, ?_⟩
  refine kAt (bnS how a id) (bnO j p) ⟨rfl, ⟨obD [I p.X, I p.Y] rfl, zav rfl rfl, obX rfl, obR rfl app0, obR rfl app0, trivial⟩, wq rfl⟩ ?_
  have bd : ∀ {n : Nat}, 0 < n -> ((n : Nat) : Int) ≠ 0 := fun h => by omega
  have h8 : how % 8 < 8 := wI _ (by decide)
  by_cases hn : (∀ c, c ≠ 0 -> how % 8 = c -> (c = 1 \/ c = 3 \/ c = 4 -> j.F.length = 0) /\ (c = 2 \/ c = 5 \/ c = 6 \/ c = 7 -> j.M.length = 0))
  · have hv0 := hn (how % 8)
    clear hn
    generalize hv : how % 8 = v at h8 hv0
    have e : bntJ j how a id p = j := by
      unfold bntJ
      rw [hv]
      have k : ∀ c n, v = c /\ 0 < n -> (v ≠ 0 -> n = 0) -> c ≠ 0 -> False := fun c n h1 h2 h3 => by have := h2 (by omega); omega
      rw [kG fun h => k _ _ h (fun h0 => (hv0 h0 rfl).1 (by omega)) (by decide), kG fun h => k _ _ h (fun h0 => (hv0 h0 rfl).2 (by omega)) (by decide), kG fun h => k _ _ h (fun h0 => (hv0 h0 rfl).1 (by omega)) (by decide), kG fun h => k _ _ h (fun h0 => (hv0 h0 rfl).1 (by omega)) (by decide), kG fun h => k _ _ h (fun h0 => (hv0 h0 rfl).2 (by omega)) (by decide), kG fun h => k _ _ h (fun h0 => (hv0 h0 rfl).2 (by omega)) (by decide), kG fun h => k _ _ h (fun h0 => (hv0 h0 rfl).2 (by omega)) (by decide)]
    rw [e]
    match v, hv, h8, hv0 with
    | 0, hv, _, hv0 =>
      have hL : j.F.length = j.F.length := rfl
      repeat first | apply sT | apply sF | refine sNo (tmn hv (by decide)) ?_ | refine sYe (tmy hv (by decide)) ?_ | refine sNo (ln0 hL) ?_ | refine sYe (ln1 hL) ?_ | refine ⟨by decide, ?_⟩
      refine kAt [(10, .box 10 0), (11, .box 11 0)] [(10, .box (List.replicate 2 .any)), (11, .box ([lFt (j.F), lMs (j.M)].map AV.d))] ⟨rfl, ⟨zav rfl rfl, ⟨⟨rfl, _, _, _, _, rfl, dE _⟩, ⟨rfl, _, _, _, _, rfl, dE _⟩, trivial⟩, trivial⟩, wq rfl⟩ ?_
      exact ⟨rtC (a := 10) rfl rfl rfl rfl rfl rfl (zaa _), trivial⟩
    | 1, hv, _, hv0 =>
      have hL := (hv0 (by decide) rfl).1 (by decide)
      repeat first | apply sT | apply sF | refine sNo (tmn hv (by decide)) ?_ | refine sYe (tmy hv (by decide)) ?_ | refine sNo (ln0 hL) ?_ | refine sYe (ln1 hL) ?_ | refine ⟨by decide, ?_⟩
      refine kAt [(10, .box 10 0), (11, .box 11 0)] [(10, .box (List.replicate 2 .any)), (11, .box ([lFt (j.F), lMs (j.M)].map AV.d))] ⟨rfl, ⟨zav rfl rfl, ⟨⟨rfl, _, _, _, _, rfl, dE _⟩, ⟨rfl, _, _, _, _, rfl, dE _⟩, trivial⟩, trivial⟩, wq rfl⟩ ?_
      exact ⟨rtC (a := 10) rfl rfl rfl rfl rfl rfl (zaa _), trivial⟩
    | 2, hv, _, hv0 =>
      have hL := (hv0 (by decide) rfl).2 (by decide)
      repeat first | apply sT | apply sF | refine sNo (tmn hv (by decide)) ?_ | refine sYe (tmy hv (by decide)) ?_ | refine sNo (ln0 hL) ?_ | refine sYe (ln1 hL) ?_ | refine ⟨by decide, ?_⟩
      refine kAt [(10, .box 10 0), (11, .box 11 0)] [(10, .box (List.replicate 2 .any)), (11, .box ([lFt (j.F), lMs (j.M)].map AV.d))] ⟨rfl, ⟨zav rfl rfl, ⟨⟨rfl, _, _, _, _, rfl, dE _⟩, ⟨rfl, _, _, _, _, rfl, dE _⟩, trivial⟩, trivial⟩, wq rfl⟩ ?_
      exact ⟨rtC (a := 10) rfl rfl rfl rfl rfl rfl (zaa _), trivial⟩
    | 3, hv, _, hv0 =>
      have hL := (hv0 (by decide) rfl).1 (by decide)
      repeat first | apply sT | apply sF | refine sNo (tmn hv (by decide)) ?_ | refine sYe (tmy hv (by decide)) ?_ | refine sNo (ln0 hL) ?_ | refine sYe (ln1 hL) ?_ | refine ⟨by decide, ?_⟩
      refine kAt [(10, .box 10 0), (11, .box 11 0)] [(10, .box (List.replicate 2 .any)), (11, .box ([lFt (j.F), lMs (j.M)].map AV.d))] ⟨rfl, ⟨zav rfl rfl, ⟨⟨rfl, _, _, _, _, rfl, dE _⟩, ⟨rfl, _, _, _, _, rfl, dE _⟩, trivial⟩, trivial⟩, wq rfl⟩ ?_
      exact ⟨rtC (a := 10) rfl rfl rfl rfl rfl rfl (zaa _), trivial⟩
    | 4, hv, _, hv0 =>
      have hL := (hv0 (by decide) rfl).1 (by decide)
      repeat first | apply sT | apply sF | refine sNo (tmn hv (by decide)) ?_ | refine sYe (tmy hv (by decide)) ?_ | refine sNo (ln0 hL) ?_ | refine sYe (ln1 hL) ?_ | refine ⟨by decide, ?_⟩
      refine kAt [(10, .box 10 0), (11, .box 11 0)] [(10, .box (List.replicate 2 .any)), (11, .box ([lFt (j.F), lMs (j.M)].map AV.d))] ⟨rfl, ⟨zav rfl rfl, ⟨⟨rfl, _, _, _, _, rfl, dE _⟩, ⟨rfl, _, _, _, _, rfl, dE _⟩, trivial⟩, trivial⟩, wq rfl⟩ ?_
      exact ⟨rtC (a := 10) rfl rfl rfl rfl rfl rfl (zaa _), trivial⟩
    | 5, hv, _, hv0 =>
      have hL := (hv0 (by decide) rfl).2 (by decide)
      repeat first | apply sT | apply sF | refine sNo (tmn hv (by decide)) ?_ | refine sYe (tmy hv (by decide)) ?_ | refine sNo (ln0 hL) ?_ | refine sYe (ln1 hL) ?_ | refine ⟨by decide, ?_⟩
      refine kAt [(10, .box 10 0), (11, .box 11 0)] [(10, .box (List.replicate 2 .any)), (11, .box ([lFt (j.F), lMs (j.M)].map AV.d))] ⟨rfl, ⟨zav rfl rfl, ⟨⟨rfl, _, _, _, _, rfl, dE _⟩, ⟨rfl, _, _, _, _, rfl, dE _⟩, trivial⟩, trivial⟩, wq rfl⟩ ?_
      exact ⟨rtC (a := 10) rfl rfl rfl rfl rfl rfl (zaa _), trivial⟩
    | 6, hv, _, hv0 =>
      have hL := (hv0 (by decide) rfl).2 (by decide)
      repeat first | apply sT | apply sF | refine sNo (tmn hv (by decide)) ?_ | refine sYe (tmy hv (by decide)) ?_ | refine sNo (ln0 hL) ?_ | refine sYe (ln1 hL) ?_ | refine ⟨by decide, ?_⟩
      refine kAt [(10, .box 10 0), (11, .box 11 0)] [(10, .box (List.replicate 2 .any)), (11, .box ([lFt (j.F), lMs (j.M)].map AV.d))] ⟨rfl, ⟨zav rfl rfl, ⟨⟨rfl, _, _, _, _, rfl, dE _⟩, ⟨rfl, _, _, _, _, rfl, dE _⟩, trivial⟩, trivial⟩, wq rfl⟩ ?_
      exact ⟨rtC (a := 10) rfl rfl rfl rfl rfl rfl (zaa _), trivial⟩
    | 7, hv, _, hv0 =>
      have hL := (hv0 (by decide) rfl).2 (by decide)
      repeat first | apply sT | apply sF | refine sNo (tmn hv (by decide)) ?_ | refine sYe (tmy hv (by decide)) ?_ | refine sNo (ln0 hL) ?_ | refine sYe (ln1 hL) ?_ | refine ⟨by decide, ?_⟩
      refine kAt [(10, .box 10 0), (11, .box 11 0)] [(10, .box (List.replicate 2 .any)), (11, .box ([lFt (j.F), lMs (j.M)].map AV.d))] ⟨rfl, ⟨zav rfl rfl, ⟨⟨rfl, _, _, _, _, rfl, dE _⟩, ⟨rfl, _, _, _, _, rfl, dE _⟩, trivial⟩, trivial⟩, wq rfl⟩ ?_
      exact ⟨rtC (a := 10) rfl rfl rfl rfl rfl rfl (zaa _), trivial⟩
    | v + 8, _, h8, _ => omega
  have hn : (∃ c, how % 8 = c /\ (c = 1 \/ c = 3 \/ c = 4) /\ 0 < j.F.length) \/ ∃ c, how % 8 = c /\ (c = 2 \/ c = 5 \/ c = 6 \/ c = 7) /\ 0 < j.M.length := by
    refine jL fun hh => hn fun c c0 hc => ⟨fun h => ?_, fun h => ?_⟩
    · exact Nat.eq_zero_of_not_pos fun h0 => hh (.inl ⟨c, hc, h, h0⟩)
    exact Nat.eq_zero_of_not_pos fun h0 => hh (.inr ⟨c, hc, h, h0⟩)
  rcases hn with ⟨c, hv, h, hL⟩ | ⟨c, hv, h, hL⟩
  · have hk : a % j.F.length < j.F.length := wI _ hL
    have hfk := hf _ hk
    rcases h with rfl | rfl | rfl
    · have e : bntJ j how a id p = ⟨j.F.take (a % j.F.length) ++ j.F.drop (a % j.F.length + 1), j.M⟩ := by unfold bntJ; rw [kH ⟨hv, hL⟩]
      rw [e]
      clear e
      repeat first | apply sT | apply sF | refine sNo (tmn hv (by decide)) ?_ | refine sYe (tmy hv (by decide)) ?_ | refine sYe (ln1 hL) ?_ | refine ⟨by decide, ?_⟩
      refine ⟨bd hL, ?_⟩
      generalize hK : a % j.F.length = k at *
      refine kAt (bnK how a id 14 k) (bnO j p) ⟨rfl, ⟨obD [I p.X, I p.Y] rfl, zav rfl rfl, obX rfl, obR rfl (dE _), obR rfl (dE _), trivial⟩, avQ rfl, avQ rfl, avQ rfl, avQ rfl, avQ rfl, avQ rfl, avI rfl ((wrA ha).trans (jI Nat.cast hK)), trivial⟩ ?_
      refine oN 12 ?_
      refine ⟨⟨rfl, by omega, by omega⟩, ?_⟩
      refine ⟨i6, ?_⟩
      refine ⟨⟨rfl, by omega, by omega⟩, ?_⟩
      refine ⟨⟨⟨by omega, by omega⟩, by unfold maxLen; omega, by dsimp only; omega⟩, ?_⟩
      refine kAt [(10, .box 10 0), (11, .box 11 0)] [(10, .box (List.replicate 2 .any)), (11, .box ([lFt (j.F.take k ++ j.F.drop (k + 1)), lMs (j.M)].map AV.d))] ⟨rfl, ⟨zav rfl rfl, ⟨⟨rfl, _, _, _, _, rfl, zkN Fit.at hk (by omega) (by omega)⟩, ⟨rfl, _, _, _, _, rfl, dE _⟩, trivial⟩, trivial⟩, wq rfl⟩ ?_
      exact ⟨rtC (a := 10) rfl rfl rfl rfl rfl rfl (zaa _), trivial⟩
    · have e : bntJ j how a id p = ⟨j.F.set (a % j.F.length) ⟨(j.F.getD (a % j.F.length) default).IDs, p⟩, j.M⟩ := by unfold bntJ; rw [kG (nfc hv (by decide)), kG (nfc hv (by decide)), kH ⟨hv, hL⟩]
      rw [e]
      clear e
      repeat first | apply sT | apply sF | refine sNo (tmn hv (by decide)) ?_ | refine sYe (tmy hv (by decide)) ?_ | refine sYe (ln1 hL) ?_ | refine ⟨by decide, ?_⟩
      generalize hK : a % j.F.length = k at *
      have wk := (wrA (n := j.F.length) ha).trans (jI Nat.cast hK)
      refine kAt (bnS how a id ++ [(12, .d (I j.F.length))]) (bnO j p) ⟨rfl, ⟨obD [I p.X, I p.Y] rfl, zav rfl rfl, obX rfl, obR rfl (dE _), obR rfl (dE _), trivial⟩, wq rfl⟩ ?_
      refine oN 10 ?_
      refine ⟨bd hL, ?_⟩
      refine ⟨⟨by rw [wk]; omega, by rw [wk]; omega⟩, ?_⟩
      refine ⟨by rw [wk]; omega, ?_⟩
      refine kAt [(10, .box 10 0), (11, .box 11 0)] [(10, .box (List.replicate 2 .any)), (11, .box ([lFt (j.F.set k ⟨(j.F.getD k default).IDs, p⟩), lMs (j.M)].map AV.d))] ⟨rfl, ⟨zav rfl rfl, ⟨⟨rfl, _, _, _, _, rfl, by
                rw [wk]
                refine zcJ Fit.at hk rfl fun q hq => ?_
                match q, hq with
                | 0, _ => exact dE _
                | 1, _ => exact dE _
                | 2, _ => exact dE _⟩, ⟨rfl, _, _, _, _, rfl, dE _⟩, trivial⟩, trivial⟩, wq rfl⟩ ?_
      exact ⟨rtC (a := 10) rfl rfl rfl rfl rfl rfl (zaa _), trivial⟩
    have e : bntJ j how a id p = ⟨j.F.set (a % j.F.length) ⟨(j.F.getD (a % j.F.length) default).IDs ++ [id], (j.F.getD (a % j.F.length) default).At⟩, j.M⟩ := by unfold bntJ; rw [kG (nfc hv (by decide)), kG (nfc hv (by decide)), kG (nfc hv (by decide)), kH ⟨hv, hL⟩]
    rw [e]
    clear e
    repeat first | apply sT | apply sF | refine sNo (tmn hv (by decide)) ?_ | refine sYe (tmy hv (by decide)) ?_ | refine sYe (ln1 hL) ?_ | refine ⟨by decide, ?_⟩
    refine ⟨bd hL, ?_⟩
    generalize hK : a % j.F.length = k at *
    refine kAt (bnK how a id 16 k) (bnO j p) ⟨rfl, ⟨obD [I p.X, I p.Y] rfl, zav rfl rfl, obX rfl, obR rfl (dE _), obR rfl (dE _), trivial⟩, avQ rfl, avQ rfl, avQ rfl, avQ rfl, avQ rfl, avQ rfl, avI rfl ((wrA ha).trans (jI Nat.cast hK)), trivial⟩ ?_
    refine oL [4, 5, 6, 7, 8, 9, 1000, 1001, 1002, 1011, 1012, 3, 10, 13, 14, 15, 16] (fNo ?_)
    refine ⟨⟨by omega, by omega⟩, ?_⟩
    refine ⟨by omega, ?_⟩
    refine ⟨rfl, rfl, ?_⟩
    refine ⟨rfl, rfl, ?_⟩
    refine ⟨rfl, rfl, ?_⟩
    refine ⟨rfl, rfl, ?_⟩
    refine ⟨rfl, rfl, ?_⟩
    refine ⟨⟨.inr rfl, by unfold maxLen; show 0 + (j.F.getD k default).IDs.length <= _; omega, by show (0 + (j.F.getD k default).IDs.length) * 8 <= 140737488355328; omega⟩, ?_⟩
    refine ⟨⟨.inr rfl, by unfold maxLen; show 0 + (j.F.getD k default).IDs.length + 1 <= _; omega, by show (0 + (j.F.getD k default).IDs.length + 1) * 8 <= 140737488355328; omega⟩, ?_⟩
    refine ⟨⟨by omega, by omega⟩, ?_⟩
    refine ⟨by omega, ?_⟩
    refine kAt [(10, .box 10 0), (11, .box 11 0)] [(10, .box (List.replicate 2 .any)), (11, .box ([lFt (j.F.set k ⟨(j.F.getD k default).IDs ++ [id], (j.F.getD k default).At⟩), lMs (j.M)].map AV.d))] ⟨rfl, ⟨zav rfl rfl, ⟨⟨rfl, _, _, _, _, rfl, by
              refine zcJ Fit.at hk rfl fun q hq => ?_
              match q, hq with
              | 0, _ => exact app1 rfl
              | 1, _ => exact dE _
              | 2, _ => exact dE _⟩, ⟨rfl, _, _, _, _, rfl, dE _⟩, trivial⟩, trivial⟩, wq rfl⟩ ?_
    exact ⟨rtC (a := 10) rfl rfl rfl rfl rfl rfl (zaa _), trivial⟩
  have hk : a % j.M.length < j.M.length := wI _ hL
  have hmk := hm _ hk
  rcases h with rfl | rfl | rfl | rfl
  · have e : bntJ j how a id p = ⟨j.F, j.M.take (a % j.M.length) ++ j.M.drop (a % j.M.length + 1)⟩ := by unfold bntJ; rw [kG (nfc hv (by decide)), kH ⟨hv, hL⟩]
    rw [e]
    clear e
    repeat first | apply sT | apply sF | refine sNo (tmn hv (by decide)) ?_ | refine sYe (tmy hv (by decide)) ?_ | refine sYe (ln1 hL) ?_ | refine ⟨by decide, ?_⟩
    refine ⟨bd hL, ?_⟩
    generalize hK : a % j.M.length = k at *
    refine kAt (bnK how a id 15 k) (bnO j p) ⟨rfl, ⟨obD [I p.X, I p.Y] rfl, zav rfl rfl, obX rfl, obR rfl (dE _), obR rfl (dE _), trivial⟩, avQ rfl, avQ rfl, avQ rfl, avQ rfl, avQ rfl, avQ rfl, avI rfl ((wrA ha).trans (jI Nat.cast hK)), trivial⟩ ?_
    refine oN 12 ?_
    refine ⟨⟨rfl, by omega, by omega⟩, ?_⟩
    refine ⟨i6, ?_⟩
    refine ⟨⟨rfl, by omega, by omega⟩, ?_⟩
    refine ⟨⟨⟨by omega, by omega⟩, by unfold maxLen; omega, by dsimp only; omega⟩, ?_⟩
    refine kAt [(10, .box 10 0), (11, .box 11 0)] [(10, .box (List.replicate 2 .any)), (11, .box ([lFt (j.F), lMs (j.M.take k ++ j.M.drop (k + 1))].map AV.d))] ⟨rfl, ⟨zav rfl rfl, ⟨⟨rfl, _, _, _, _, rfl, dE _⟩, ⟨rfl, _, _, _, _, rfl, zkN Mis.at hk (by omega) (by omega)⟩, trivial⟩, trivial⟩, wq rfl⟩ ?_
    exact ⟨rtC (a := 10) rfl rfl rfl rfl rfl rfl (zaa _), trivial⟩
  · have e : bntJ j how a id p = ⟨j.F, j.M.set (a % j.M.length) ⟨(j.M.getD (a % j.M.length) default).IDs, if 0 < (j.M.getD (a % j.M.length) default).R.length then (j.M.getD (a % j.M.length) default).R.drop 1 else [⟨p, id⟩]⟩⟩ := by unfold bntJ; rw [kG (nfc hv (by decide)), kG (nfc hv (by decide)), kG (nfc hv (by decide)), kG (nfc hv (by decide)), kH ⟨hv, hL⟩]
    rw [e]
    clear e
    repeat first | apply sT | apply sF | refine sNo (tmn hv (by decide)) ?_ | refine sYe (tmy hv (by decide)) ?_ | refine sYe (ln1 hL) ?_ | refine ⟨by decide, ?_⟩
    refine ⟨bd hL, ?_⟩
    generalize hK : a % j.M.length = k at *
    refine kAt (bnK how a id 17 k) (bnO j p) ⟨rfl, ⟨obD [I p.X, I p.Y] rfl, zav rfl rfl, obX rfl, obR rfl (dE _), obR rfl (dE _), trivial⟩, avQ rfl, avQ rfl, avQ rfl, avQ rfl, avQ rfl, avQ rfl, avI rfl ((wrA ha).trans (jI Nat.cast hK)), trivial⟩ ?_
    refine ⟨⟨by omega, by omega⟩, ?_⟩
    refine ⟨by omega, ?_⟩
    by_cases hR : 0 < (j.M.getD k default).R.length
    · refine sYe (ln1 hR) ?_
      rw [kH hR]
      refine oN 8 ?_
      refine ⟨⟨.inr rfl, by omega, by show (1 : Int) <= (((j.M.getD k default).R.length : Nat) : Int); omega⟩, ?_⟩
      refine ⟨⟨by omega, by omega⟩, ?_⟩
      refine ⟨by omega, ?_⟩
      refine kAt [(10, .box 10 0), (11, .box 11 0)] [(10, .box (List.replicate 2 .any)), (11, .box ([lFt (j.F), lMs (j.M.set k ⟨(j.M.getD k default).IDs, (j.M.getD k default).R.drop 1⟩)].map AV.d))] ⟨rfl, ⟨zav rfl rfl, ⟨⟨rfl, _, _, _, _, rfl, dE _⟩, ⟨rfl, _, _, _, _, rfl, by
                  refine zcJ Mis.at hk rfl fun q hq => ?_
                  match q, hq with
                  | 0, _ => exact dE _
                  | 1, _ => exact drp1 _⟩, trivial⟩, trivial⟩, wq rfl⟩ ?_
      exact ⟨rtC (a := 10) rfl rfl rfl rfl rfl rfl (zaa _), trivial⟩
    refine sNo (jH (show ¬ (0 : Int) < (((j.M.getD k default).R.length : Nat) : Int) by omega)) ?_
    rw [kG hR]
    refine ⟨⟨by omega, by omega⟩, ?_⟩
    refine ⟨by omega, ?_⟩
    refine kAt [(10, .box 10 0), (11, .box 11 0)] [(10, .box (List.replicate 2 .any)), (11, .box ([lFt (j.F), lMs (j.M.set k ⟨(j.M.getD k default).IDs, [⟨p, id⟩]⟩)].map AV.d))] ⟨rfl, ⟨zav rfl rfl, ⟨⟨rfl, _, _, _, _, rfl, dE _⟩, ⟨rfl, _, _, _, _, rfl, by
                refine zcJ Mis.at hk rfl fun q hq => ?_
                match q, hq with
                | 0, _ => exact dE _
                | 1, _ => exact one1 _ _⟩, trivial⟩, trivial⟩, wq rfl⟩ ?_
    exact ⟨rtC (a := 10) rfl rfl rfl rfl rfl rfl (zaa _), trivial⟩
  · have e : bntJ j how a id p = ⟨j.F, j.M.set (a % j.M.length) ⟨(j.M.getD (a % j.M.length) default).IDs, if 0 < (j.M.getD (a % j.M.length) default).R.length then (j.M.getD (a % j.M.length) default).R.set (how % (j.M.getD (a % j.M.length) default).R.length) ⟨((j.M.getD (a % j.M.length) default).R.getD (how % (j.M.getD (a % j.M.length) default).R.length) default).At, id⟩ else (j.M.getD (a % j.M.length) default).R⟩⟩ := by unfold bntJ; rw [kG (nfc hv (by decide)), kG (nfc hv (by decide)), kG (nfc hv (by decide)), kG (nfc hv (by decide)), kG (nfc hv (by decide)), kH ⟨hv, hL⟩]
    rw [e]
    clear e
    repeat first | apply sT | apply sF | refine sNo (tmn hv (by decide)) ?_ | refine sYe (tmy hv (by decide)) ?_ | refine sYe (ln1 hL) ?_ | refine ⟨by decide, ?_⟩
    refine ⟨bd hL, ?_⟩
    generalize hK : a % j.M.length = k at *
    refine kAt (bnK how a id 19 k) (bnO j p) ⟨rfl, ⟨obD [I p.X, I p.Y] rfl, zav rfl rfl, obX rfl, obR rfl (dE _), obR rfl (dE _), trivial⟩, avQ rfl, avQ rfl, avQ rfl, avQ rfl, avQ rfl, avQ rfl, avI rfl ((wrA ha).trans (jI Nat.cast hK)), trivial⟩ ?_
    refine ⟨⟨by omega, by omega⟩, ?_⟩
    refine ⟨by omega, ?_⟩
    refine ⟨⟨.inr rfl, by unfold maxLen; show 0 + (j.M.getD k default).R.length <= _; omega, by show (0 + (j.M.getD k default).R.length) * 24 <= 140737488355328; omega⟩, ?_⟩
    by_cases hR : 0 < (j.M.getD k default).R.length
    · refine sYe (jG (show (0 : Int) < ((0 + (j.M.getD k default).R.length : Nat) : Int) by omega)) ?_
      rw [kH hR]
      have hr : how % (j.M.getD k default).R.length < (j.M.getD k default).R.length := wI _ hR
      have wr : (IntKind.wrap .i64 ((how : Nat) : Int)).tmod ((0 + (j.M.getD k default).R.length : Nat) : Int) = ((how % (j.M.getD k default).R.length : Nat) : Int) := by rw [wrA hh, qD]
      generalize how % (j.M.getD k default).R.length = r at hr wr
      refine ⟨show ((0 + (j.M.getD k default).R.length : Nat) : Int) ≠ 0 by omega, ?_⟩
      refine ⟨⟨(show (0 : Int) <= (IntKind.wrap .i64 ((how : Nat) : Int)).tmod ((0 + (j.M.getD k default).R.length : Nat) : Int) by rw [wr]; omega), (show (IntKind.wrap .i64 ((how : Nat) : Int)).tmod ((0 + (j.M.getD k default).R.length : Nat) : Int) < ((0 + (j.M.getD k default).R.length : Nat) : Int) by rw [wr]; omega)⟩, ?_⟩
      refine ⟨(show ((IntKind.wrap .i64 ((how : Nat) : Int)).tmod ((0 + (j.M.getD k default).R.length : Nat) : Int)).toNat < 0 + (j.M.getD k default).R.length by rw [wr]; omega), ?_⟩
      refine kAt (bn6 id k ((j.M.getD k default).R.set r ⟨((j.M.getD k default).R.getD r default).At, id⟩)) (bnO6 j) ⟨rfl, ⟨zav rfl rfl, obX rfl, obR rfl (dE _), obR rfl (dE _), trivial⟩, avQ rfl, avQ rfl, avQ rfl, avOw rfl rfl rfl ?_, trivial⟩ ?_
      · exact set6' wr hr
      refine ⟨⟨by omega, by omega⟩, ?_⟩
      refine ⟨by omega, ?_⟩
      refine kAt [(10, .box 10 0), (11, .box 11 0)] [(10, .box (List.replicate 2 .any)), (11, .box ([lFt (j.F), lMs (j.M.set k ⟨(j.M.getD k default).IDs, (j.M.getD k default).R.set r ⟨((j.M.getD k default).R.getD r default).At, id⟩⟩)].map AV.d))] ⟨rfl, ⟨zav rfl rfl, ⟨⟨rfl, _, _, _, _, rfl, dE _⟩, ⟨rfl, _, _, _, _, rfl, by
                  refine zcJ Mis.at hk rfl fun q hq => ?_
                  match q, hq with
                  | 0, _ => exact dE _
                  | 1, _ => exact dE _⟩, trivial⟩, trivial⟩, wq rfl⟩ ?_
      exact ⟨rtC (a := 10) rfl rfl rfl rfl rfl rfl (zaa _), trivial⟩
    refine sNo (jH (show ¬ (0 : Int) < ((0 + (j.M.getD k default).R.length : Nat) : Int) by omega)) ?_
    rw [kG hR]
    refine kAt (bn6 id k (j.M.getD k default).R) (bnO6 j) ⟨rfl, ⟨zav rfl rfl, obX rfl, obR rfl (dE _), obR rfl (dE _), trivial⟩, avQ rfl, avQ rfl, avQ rfl, avOw rfl rfl rfl app0, trivial⟩ ?_
    refine ⟨⟨by omega, by omega⟩, ?_⟩
    refine ⟨by omega, ?_⟩
    refine kAt [(10, .box 10 0), (11, .box 11 0)] [(10, .box (List.replicate 2 .any)), (11, .box ([lFt (j.F), lMs (j.M.set k ⟨(j.M.getD k default).IDs, (j.M.getD k default).R⟩)].map AV.d))] ⟨rfl, ⟨zav rfl rfl, ⟨⟨rfl, _, _, _, _, rfl, dE _⟩, ⟨rfl, _, _, _, _, rfl, by
                refine zcJ Mis.at hk rfl fun q hq => ?_
                match q, hq with
                | 0, _ => exact dE _
                | 1, _ => exact dE _⟩, trivial⟩, trivial⟩, wq rfl⟩ ?_
    exact ⟨rtC (a := 10) rfl rfl rfl rfl rfl rfl (zaa _), trivial⟩
  have e : bntJ j how a id p = ⟨j.F, j.M ++ [j.M.getD (a % j.M.length) default]⟩ := by unfold bntJ; rw [kG (nfc hv (by decide)), kG (nfc hv (by decide)), kG (nfc hv (by decide)), kG (nfc hv (by decide)), kG (nfc hv (by decide)), kG (nfc hv (by decide)), kH ⟨hv, hL⟩]
  rw [e]
  clear e
  repeat first | apply sT | apply sF | refine sNo (tmn hv (by decide)) ?_ | refine sYe (tmy hv (by decide)) ?_ | refine sYe (ln1 hL) ?_ | refine ⟨by decide, ?_⟩
  generalize hK : a % j.M.length = k at *
  have wk := (wrA (n := j.M.length) ha).trans (jI Nat.cast hK)
  refine oN 14 ?_
  refine ⟨bd hL, ?_⟩
  refine ⟨⟨by rw [wk]; omega, by rw [wk]; omega⟩, ?_⟩
  refine ⟨by rw [wk]; omega, ?_⟩
  refine ⟨⟨.inr rfl, by unfold maxLen; omega, by dsimp only; omega⟩, ?_⟩
  refine kAt [(10, .box 10 0), (11, .box 11 0)] [(10, .box (List.replicate 2 .any)), (11, .box ([lFt (j.F), lMs (j.M ++ [j.M.getD k default])].map AV.d))] ⟨rfl, ⟨zav rfl rfl, ⟨⟨rfl, _, _, _, _, rfl, dE _⟩, ⟨rfl, _, _, _, _, rfl, by
            refine zlT Mis.at rfl fun q hq => ?_
            rw [wk]
            match q, hq with
            | 0, _ => exact dE _
            | 1, _ => exact dE _⟩, trivial⟩, trivial⟩, wq rfl⟩ ?_
  exact ⟨rtC (a := 10) rfl rfl rfl rfl rfl rfl (zaa _), trivial⟩
def ptot (p:List (List Int)):Nat:=(p.map fun s=>s.length+1).sum
theorem zfZ {p:List (List Int)} {i:Nat} (h:i<p.length):ptot (p.take (i+1))=ptot (p.take i)+((p.getD i []).length+1):=by
 unfold ptot
 rw[zaL h [],jT,List.sum_append]; simp
theorem zjG (p:List (List Int)) (i:Nat):ptot (p.take i)<=ptot p:=by
 have:ptot p=ptot (p.take i)+ptot (p.drop i):=by
  unfold ptot
  rw[<- List.sum_append,<- jT,List.take_append_drop]
 omega
theorem zdj:∀ (p:List (List Int)),p.length<=ptot p/\p.flatten.length<=ptot p
 | []=>⟨jE _,jE _⟩
 | s :: p=>by
  have:=zdj p
  have e:ptot (s :: p)=s.length+1+ptot p:=by unfold ptot; simp
  rw[e,List.flatten_cons,jR,jaW]
  omega
theorem zlU {p:List (List Int)} {i:Nat} (h:i<p.length):(p.getD i []).length<=ptot p:=by
 have h1:=zjG p (i+1)
 rw[zfZ h] at h1
 omega
theorem zc2 (p:List (List Int)) (hp:ptot p<=4000000):Spec PP 14 [.d (lII p)] [B (decide (ptot p<=60))]:=by
 have hl:=(zdj p).1
 refine sA Tryz.func14 ?_
 refine lOf (σ:=Nat) (fun i=>([(0,.d (lII p)),(3,.d (I (ptot (p.take i):Nat))),(4,.d (I i))],[])) (fun i=>i<=p.length) (fun i=>p.length - i) 0
  ⟨rfl,trivial,wq rfl⟩ (jF _) fun i hi=>?_
 have hi:i<=p.length:=hi
 have ht:=zjG p i
 apply bY <;> intro h1
 ·have h1:i<p.length:=by have:=dT h1; omega
  have hm:=zlU h1
  have hm':(p.getD ((i:Nat):Int).toNat []).length<=ptot p:=hm
  refine⟨⟨rfl,by omega,by omega⟩,?_⟩
  refine⟨i6,?_⟩
  refine⟨i6,?_⟩
  refine⟨i6,?_⟩
  refine⟨i+1,⟨rfl,trivial,avQ rfl,avI rfl ?_,avQ rfl,trivial⟩,h1,msr h1⟩
  rw[zfZ h1]
  show ((ptot (p.take i):Nat):Int)+(((p.getD i []).length:Nat):Int)+1=_
  omega
 have h1:i=p.length:=by have:=dF h1; omega
 subst h1
 refine r1B rfl ?_
 rw[jZ]
 exact qO.2 (by omega)
theorem zpD (d:Day):JnOk ⟨(tabR d).1,(tabR d).2.1⟩:=⟨(zm5 d).1,(zm5 d).2,fun f hf=>zjl hf,fun m hm=>zjk hm⟩
theorem zpS {s:Svc} {b:Brn} {l:List Rpt}:(rsnR s b l).1.length<=10000:=by
 unfold rsnR
 split
 ·simp
 rename_i h0
 have h0:givE s b l=0:=jL h0
 obtain⟨bw,bh,-,-⟩:=zag (zcu h0).s.c.m
 have hn:s.n<=49 * 49:=Nat.mul_le_mul (by show s.c.M.W.toNat<=49; omega) (by show s.c.M.H.toNat<=49; omega)
 have:=ze7 s l (l.map (alwP s b)) s.n
 show (rsnK s l (l.map (alwP s b)) s.n).length<=10000
 omega
theorem zpE (d:Day):JnLt 10000 ⟨(tabR d).1,(tabR d).2.1⟩:=by
 unfold tabR
 split
 ·exact⟨jF _,jF _,fun f hf=>(by cases hf),fun m hm=>(by cases hm)⟩
 rename_i h0
 have h7:=sig7 (zaB (jL h0))
 have hp:2 ^ (sigL d.R).length<=2 ^ 7:=wE (by decide) h7
 refine⟨?_,?_,fun f hf=>?_,fun m hm=>?_⟩
 ·show (srtF _).length<=_
  unfold srtF
  rw[kU]
  exact jM (zbt _ _ _) (by omega)
 ·show (srtM _).length<=_
  unfold srtM
  rw[kU]
  exact jM (zbt _ _ _) (by omega)
 ·have h:=(qY _ _).mem_iff.1 hf
  obtain⟨m,_,_,_,rfl⟩:=zaN h
  exact jM (zaH _ _ _) (by omega)
 have h:=(qY _ _).mem_iff.1 hm
 obtain⟨m,_,_,_,rfl⟩:=zaN h
 refine⟨jM (zaH _ _ _) (by omega),?_⟩
 show (misR d _).length<=_
 unfold misR
 split
 ·exact zpS
 exact jF _
theorem znS (d:Day) (how a:Nat) (id:Int) (p:Place) (hh:how<=255) (ha:a<=255):∃ x:Jns,JnOk x/\Spec PP 27 [.agg [lFt (tabR d).1,lMs (tabR d).2.1],.d (.int .u8 (how:Int)),.d (.int .u8 (a:Int)),N id,p.v] [x.v]:=by
 have h:=zpE d
 refine⟨bntJ ⟨(tabR d).1,(tabR d).2.1⟩ how a id p,(zqW h how a id p).ok (by omega),?_⟩
 have hF:(tabR d).1.length<=10000:=h.F
 have hM:(tabR d).2.1.length<=10000:=h.M
 exact zpu ⟨(tabR d).1,(tabR d).2.1⟩ how a id p hh ha (jM hF (by decide)) (jM hM (by decide)) (fun i hi=>jM (h.f _ (getF hi)) (by decide)) (fun i hi=>jM (h.m _ (zms hi)).2 (by decide))
theorem zmF {l:List Int} {i:Nat} {x:Int} (h:i<l.length):(l.take (i+1)).contains x=((l.take i).contains x || (l.getD i 0==x)):=by
 rw[kP,jX,kD,kD,zaL h 0,k9,kO,jam]
 exact or_congr jbm ⟨fun h=>h.symm,fun h=>h.symm⟩
theorem zjc (a b:List Int) (ha:a.length<=1000000) (hb:b.length<=1000000):Spec PP 98 [.d (lI a),.d (lI b)] [B (partB a b)]:=by
 refine sA Tryz.func98 ?_
 refine lOf (σ:=Nat) (fun i=>([(0,.d (lI a)),(1,.d (lI b)),(5,.d (I i))],[])) (fun i=>i<=a.length /\ ∀ q,q<i->b.contains (a.getD q 0)=true) (fun i=>a.length - i) 0
  ⟨rfl,trivial,wq rfl⟩ z0L fun i hi=>?_
 obtain⟨hi,hal⟩:=hi
 apply bY <;> intro h1
 ·have h1:i<a.length:=by have:=dT h1; omega
  refine lOf (σ:=Nat) (fun k=>([(0,.d (lI a)),(1,.d (lI b)),(5,.d (I i)),(6,.d (.bool ((b.take k).contains (a.getD i 0)))),(7,.d (I k))],[])) (fun k=>k<=b.length) (fun k=>b.length - k) 0
   ⟨rfl,trivial,wq rfl⟩ (jF _) fun k hk=>?_
  have hk:k<=b.length:=hk
  apply bY <;> intro h2
  ·have h2:k<b.length:=by have:=dT h2; omega
   have hs:=zmF (x:=a.getD i 0) h2
   refine oN 13 ?_
   cases h3:(b.take k).contains (a.getD i 0) with
   | true=>
    repeat first | apply sT | apply sF
    refine⟨i6,?_⟩
    refine⟨k+1,⟨rfl,trivial,avQ rfl,avQ rfl,avQ rfl,avQ ?_,avQ rfl,trivial⟩,h2,msr h2⟩
    rw[hs,h3]; rfl
   | false=>
   repeat first | apply sT | apply sF
   refine⟨⟨rfl,by omega,by omega⟩,?_⟩
   refine⟨⟨rfl,by omega,by omega⟩,?_⟩
   repeat first | apply sT | apply sF
   refine⟨i6,?_⟩
   refine⟨k+1,⟨rfl,trivial,avQ rfl,avQ rfl,avQ rfl,avQ ?_,avQ rfl,trivial⟩,h2,msr h2⟩
   rw[hs,h3]; rfl
  have h2:k=b.length:=by have:=dF h2; omega
  subst h2
  rw[jZ]
  cases h3:b.contains (a.getD i 0) with
  | true=>
   repeat first | apply sT | apply sF
   refine⟨i6,?_⟩
   refine⟨i+1,⟨rfl,trivial,wq rfl⟩,⟨h1,fun q hq=>?_⟩,msr h1⟩
   by_cases e:q=i
   ·subst e; exact h3
   ·exact hal q (by omega)
  | false=>
  repeat first | apply sT | apply sF
  refine r1B rfl ?_
  symm
  rw[qN]
  intro hh
  have:=jC.1 hh _ (zmv h1)
  rw[h3] at this; cases this
 have h1:i=a.length:=by have:=dF h1; omega
 subst h1
 refine r1B rfl ?_
 symm
 refine jC.2 fun x hx=>?_
 obtain⟨q,hq,rfl⟩:=kR hx
 have:=hal q hq
 rwa [gdI hq] at this
theorem ziA {j:Jns} (h:JnOk j) (l:List Int) (hl:l.length<=1000000):Spec PP 34 [j.v,.d (lI l)] [B (hasB j.F l)]:=by
 have hF:=h.F
 refine sA Tryz.func34 ?_
 refine lOf (σ:=Nat) (fun i=>([(1,.d (lI l)),(2,.box 2 0),(5,.d (I i))],[(2,.box (j.ds.map AV.d))])) (fun i=>i<=j.F.length/\hasB (j.F.take i) l=false) (fun i=>j.F.length - i) 0
  ⟨rfl,⟨obD j.ds rfl,trivial⟩,wq rfl⟩ ⟨jF _,rfl⟩ fun i hi=>?_
 obtain⟨hi,hno⟩:=hi
 apply bY <;> intro h1
 ·have h1:i<j.F.length:=by have:=dT h1; omega
  have hs:=zmq (l:=l) h1
  rw[hno,wG] at hs
  refine⟨⟨rfl,by omega,by omega⟩,?_⟩
  refine cP (zjc l (j.F.getD i default).IDs hl (h.get h1)) rfl rfl ?_
  apply bY <;> intro h2
  ·refine r1B rfl ?_
   symm
   refine kL.2 ⟨j.F.getD i default,?_,h2⟩
   rw[hX,hZ h1]; exact kQ h1
  refine⟨i6,?_⟩
  exact⟨i+1,⟨rfl,⟨obD j.ds rfl,trivial⟩,wq rfl⟩,⟨h1,by rw[hs]; exact h2⟩,msr h1⟩
 have h1:i=j.F.length:=by have:=dF h1; omega
 subst h1
 rw[jZ] at hno
 exact r1B rfl hno.symm
theorem zqM {d:Day} {x:Jns} (h:ctbE d x=0):¬ 127<x.F.length:=fun hh=>by
 unfold ctbE at h
 split at h
 ·rename_i h1; exact h1 h
 rw[kH (.inl hh)] at h; cases h
theorem zlW {d:Day} (hd:dayE d=0) {p:List (List Int)} (hp:p∈parts d):p.flatten.length<=7:=by
 have ok:=zaB hd
 have h:=(zjI ok.lt _ p).1 hp
 have h1:=h.1
 unfold divB at h1
 rw[jP,kI] at h1
 have h2:=jI List.length h1.2
 rw[kU] at h2
 have:=sig7 ok
 omega
theorem zlG {d:Day} {a b:Int}:(samR d a b).1.T.flatten.length<=1000000/\(samR d a b).1.A.flatten.length<=1000000:=by
 unfold samR
 split
 ·exact⟨jF _,jF _⟩
 rename_i h0
 have h0:parE d a b=0:=jL h0
 split
 ·exact⟨jF _,jF _⟩
 have key:∀ q:List (List Int)->Bool,(fstP q (bsts d)).flatten.length<=1000000:=fun q=>by
  unfold fstP
  cases hf:(bsts d).find? q with
  | none=>exact jF _
  | some x=>exact jM (zlW (zjP h0).1 (zdt (List.mem_of_find?_eq_some hf))) (by decide)
 exact⟨key _,key _⟩
theorem zoU {d:Day} (hd:dayE d=0) {x:Jns} (h:ctbE d x=0):leaR (sigL d.R) x=fewR d:=by
 have ok:=zaB hd
 have h7:=sig7 ok
 have hr:risB (sigL d.R)=true:=by
  unfold risB
  refine jC.2 fun j hj=>jG ?_
  have hj:=kJ.1 hj
  have:=kW.1 ok.lt j (j+1) (by omega) (by omega) (by omega)
  rw[gdI (show j<(sigL d.R).length by omega),gdI (show j+1<(sigL d.R).length by omega)]
  exact this
 unfold leaR
 rw[kG (fun hh=>hh.elim (fun q=>by omega) (zqM h)),kG (by rw[hr]; decide),zeA hd h]
 have e:fewR d=fewL (parts d):=by unfold fewR; rw[kG (fun hh=>hh hd)]; rfl
 exact e.symm
theorem s_JoinTablesDecide (d:Day) (how:Int) (hh:0<=how/\how<=255) (a0:Int) (ha0:0<=a0/\a0<=255) (id:Int) (p:Place) (a:Int) (ha:0<=a/\a<=255) (b:Int) (hb:0<=b/\b<=255) (v:Vdt) (hv:ptot v.T<=4000000/\ptot v.A<=4000000) :
  Spec PP 8 [d.v,.d (.int .u8 how),.d (.int .u8 a0),N id,p.v,.d (.int .u8 a),.d (.int .u8 b),v.v] [B true]:=by
 obtain⟨how,rfl⟩:=Int.eq_ofNat_of_zero_le hh.1
 obtain⟨a0,rfl⟩:=Int.eq_ofNat_of_zero_le ha0.1
 obtain⟨a,rfl⟩:=Int.eq_ofNat_of_zero_le ha.1
 obtain⟨b,rfl⟩:=Int.eq_ofNat_of_zero_le hb.1
 refine zbV [29] Tryz.func8 rfl (by kernel_rfl) rfl ?_
 refine cP znT rfl rfl ?_
 refine cP (zpv d) rfl rfl ?_
 apply bY <;> intro h0
 ·repeat first | apply sT | apply sF
  exact r1B rfl rfl
 have hf:few7 d:=by simpa using h0
 have hn:=zqI hf
 repeat first | apply sT | apply sF
 refine cP (zc2 v.T hv.1) rfl rfl ?_
 repeat first | apply sT | apply sF
 apply bY <;> intro h1
 ·repeat first | apply sT | apply sF
  exact r1B rfl rfl
 have h1:ptot v.T<=60:=by simpa using h1
 repeat first | apply sT | apply sF
 refine cP (zc2 v.A hv.2) rfl rfl ?_
 repeat first | apply sT | apply sF
 apply bY <;> intro h2
 ·exact r1B rfl rfl
 have h2:ptot v.A<=60:=by simpa using h2
 have pT:=zdj v.T
 have pA:=zdj v.A
 have hTb:=zkv d (by omega)
 have hSg:=zg5 d (by omega)
 by_cases hd:dayE d=0
 case neg=>
  have e1:tabR d=([],[],dayE d):=by unfold tabR; rw[kH hd]
  have e2:sigR d=([],dayE d):=by unfold sigR; rw[kH hd]
  rw[e1] at hTb
  rw[e2] at hSg
  refine cR hTb rfl rfl ?_
  refine cR hSg rfl rfl ?_
  refine sYe (by simpa using hd) ?_
  repeat first | apply sT | apply sF
  exact r1B rfl (by simp)
 have ok:=zaB hd
 have h7:=sig7 ok
 have e1:(tabR d).2.2=0:=by unfold tabR; rw[kG (fun hh=>hh hd)]
 have e2:sigR d=(sigL d.R,0):=by unfold sigR; rw[kG (fun hh=>hh hd)]
 rw[e1] at hTb
 rw[e2] at hSg
 have hC:=zc7 d (zpD d) (by omega)
 rw[zn2 hd] at hC
 refine cR hTb rfl rfl ?_
 refine cR hSg rfl rfl ?_
 repeat first | apply sT | apply sF
 refine cR hC rfl rfl ?_
 repeat first | apply sT | apply sF
 obtain⟨x,hx,hB⟩:=znS d how a0 id p (by omega) (by omega)
 refine cR hB rfl rfl ?_
 refine cR (zc7 d hx (by omega)) rfl rfl ?_
 apply bY <;> intro h3
 ·exact r1B rfl rfl
 have h3:ctbE d x=0:=by simpa using h3
 have es:IntKind.wrap .i64 (1 * 2 ^ (min (((sigL d.R).length:Nat):Int).toNat (IntKind.bits .i64)))=((2 ^ (sigL d.R).length:Nat):Int):=bShl h7
 have hp:2 ^ (sigL d.R).length<=128:=jM (wE (j:=7) (by decide) (by omega)) (by decide)
 have h1p:1<=2 ^ (sigL d.R).length:=Nat.one_le_two_pow
 refine lOf (σ:=Nat) (fun m=>([(5,.d (.int .u8 (a:Int))),(6,.d (.int .u8 (b:Int))),(8,.box 8 0),(15,.box 15 0),(17,.d (.bool true)),(20,.d (lI (sigL d.R))),(22,.box 22 0),(23,.d (I m))],[(8,.box (d.ds.map AV.d)),(15,.box ([I v.Ans,lII v.T,lII v.A].map AV.d)),(22,.box (x.ds.map AV.d))])) (fun m=>1<=m/\m<=2 ^ (sigL d.R).length) (fun m=>2 ^ (sigL d.R).length - m) 1
  ⟨rfl,⟨obD d.ds rfl,obD [I v.Ans,lII v.T,lII v.A] rfl,obD x.ds rfl,trivial⟩,wq rfl⟩ ⟨jE _,h1p⟩ fun m hm=>?_
 obtain⟨m1,m2⟩:=hm
 refine⟨by omega,?_⟩
 apply bY <;> intro h4
 ·have h4:m<2 ^ (sigL d.R).length:=by have h4:=dT h4; rw[es] at h4; omega
  have ew:IntKind.wrap .u8 ((m:Nat):Int)=((m:Nat):Int):=zbq ⟨(show (0:Int)<=((m:Nat):Int) by omega),(show ((m:Nat):Int)<=255 by omega)⟩
  have hc:=zjd (sigL d.R) m h7 (by omega)
  rw[<- ew] at hc
  have hml:(memb (sigL d.R) m).length<=7:=jM (zaH _ _ _) h7
  have hP:=zeI d (memb (sigL d.R) m) (by omega) (by omega)
  have ec:celR d (memb (sigL d.R) m)=(plsD d (memb (sigL d.R) m),0):=by unfold celR; rw[kG (fun hh=>hh (zdv hd (zdL m1 h4)))]
  rw[ec] at hP
  have eq:decide (0<(plsD d (memb (sigL d.R) m)).length)=hasB x.F (memb (sigL d.R) m):=by rw[<- zfO hd h3 m1 h4,zbL hd m1 h4]
  refine cR hc rfl rfl ?_
  refine cP hP rfl rfl ?_
  refine cP (ziA hx (memb (sigL d.R) m) (by omega)) rfl rfl ?_
  repeat first | apply sT | apply sF
  refine sNo (show (!(decide (0<(plsD d (memb (sigL d.R) m)).length)==hasB x.F (memb (sigL d.R) m)))=false by rw[eq]; simp) ?_
  refine⟨i6,?_⟩
  exact⟨m+1,⟨rfl,⟨obD d.ds rfl,obD [I v.Ans,lII v.T,lII v.A] rfl,obD x.ds rfl,trivial⟩,wq rfl⟩,⟨by omega,h4⟩,(show 2 ^ (sigL d.R).length - (m+1)<2 ^ (sigL d.R).length - m by omega)⟩
 clear h4
 have hFw:=zfo d (by omega)
 have hLe:=zoM (sigL d.R) hx (by omega)
 rw[zoU hd h3] at hLe
 refine cP hFw rfl rfl ?_
 refine cP hLe rfl rfl ?_
 refine sNo (by simp) ?_
 repeat first | apply sT | apply sF
 refine sNo (by simp) ?_
 apply bY <;> intro h5
 ·exact r1B rfl rfl
 have h5:2<=(sigL d.R).length:=by have h5:¬ (((sigL d.R).length:Nat):Int)<2:=dF h5; omega
 have wa:=wrA (a:=a) (n:=(sigL d.R).length) (by omega)
 have wb:=wrA (a:=b) (n:=(sigL d.R).length) (by omega)
 have ka:a % (sigL d.R).length<(sigL d.R).length:=wI _ (by omega)
 have kb:b % (sigL d.R).length<(sigL d.R).length:=wI _ (by omega)
 have nz:(((sigL d.R).length:Nat):Int)≠0:=by omega
 refine⟨nz,?_⟩
 refine⟨⟨rfl,(by rw[wa]; omega),(by rw[wa]; omega)⟩,?_⟩
 refine⟨nz,?_⟩
 refine⟨⟨rfl,(by rw[wb]; omega),(by rw[wb]; omega)⟩,?_⟩
 obtain⟨A,hA⟩:∃ A,A=(sigL d.R).getD ((IntKind.wrap .i64 ((a:Nat):Int)).tmod (((sigL d.R).length:Nat):Int)).toNat 0:=⟨_,rfl⟩
 obtain⟨B',hB'⟩:∃ A,A=(sigL d.R).getD ((IntKind.wrap .i64 ((b:Nat):Int)).tmod (((sigL d.R).length:Nat):Int)).toNat 0:=⟨_,rfl⟩
 refine kAt [(8,.box 8 0),(15,.box 15 0),(17,.d (.bool true)),(22,.box 22 0),(32,.d (I A)),(33,.d (I B'))] [(8,.box (d.ds.map AV.d)),(15,.box ([I v.Ans,lII v.T,lII v.A].map AV.d)),(22,.box (x.ds.map AV.d))]
  ⟨rfl,⟨obD d.ds rfl,obD [I v.Ans,lII v.T,lII v.A] rfl,obD x.ds rfl,trivial⟩,avQ rfl,avQ rfl,avQ rfl,avQ rfl,avI rfl hA.symm,avI rfl hB'.symm,trivial⟩ ?_
 clear hA hB' wa wb ka kb
 refine cR (zh5 d A B' (by omega)) rfl rfl ?_
 apply bY <;> intro h6
 ·exact r1B rfl rfl
 have h6:(samR d A B').2=0:=by simpa using h6
 have hpe:parE d A B'=0:=jL fun hh=>by
  unfold samR at h6; rw[kH hh] at h6; exact hh h6
 have hbn:(bsts d).length≠0:=fun hh=>by
  unfold samR at h6; rw[kG (fun q=>q hpe),kH hh] at h6; cases h6
 have hsv:(samR d A B').1=vdtR (bsts d) A B':=by unfold samR; rw[kG (fun q=>q hpe),kG hbn]
 have hpp:=zeA hd h3
 have hsi:=zoa (d:=d) (a:=A) (b:=B')
 have hsf:=zlG (d:=d) (a:=A) (b:=B')
 have hK:=zdS d hx A B' (samR d A B').1 (by omega) ⟨hsi.1.1,hsf.1⟩ ⟨hsi.2.1,hsf.2⟩
 have hK0:csmE d x A B' (samR d A B').1=0:=by rw[hsv]; exact zo0 hd hpe (zqM h3) hpp hbn
 rw[hK0] at hK
 refine cP hK rfl rfl ?_
 repeat first | apply sT | apply sF
 have hL:=zdS d hx A B' v (by omega) ⟨by omega,by omega⟩ ⟨by omega,by omega⟩
 refine cP hL rfl rfl ?_
 repeat first | apply sT | apply sF
 apply bY <;> intro h8
 ·repeat first | apply sT | apply sF
  exact r1B rfl rfl
 have h8:csmE d x A B' v=0:=by simpa using h8
 have h9:=(zo1 hpp h8).2
 repeat first | apply sT | apply sF
 refine r1B rfl ?_
 rw[hsv,h9,jaV]
end Go.Pg
