/- Lemmas, joined by program. -/
import Derived.Test.YtnifogelanhdiaaGreatMF
import Derived.WideKeyRuns
import Derived.Shelf.SlLaysE0
import Derived.Shelf.RegionOpenPlain
import Derived.WalkKit
import Derived.Deep.LoopGhost
import Derived.Deep.RegionLaw
import Derived.Lib.Walk
import Derived.Sort.WalkB12
import Derived.Lib.SliceRun
import Derived.Lib.SlicesDelete
set_option maxHeartbeats 4000000
set_option linter.all false
set_option maxRecDepth 100000
namespace Go.Pg
open Go.Proofs Go.RowKit Go.Sort Go.Shelf
theorem x4:∀ j,j<8->D.eqv (rowOf 8 xq4.ds 0 j) (xq4.at j):=fun j hj=>by
 match j,hj with
 | 0,_=>exact⟨rfl,rfl⟩
 | 1,_=>exact⟨rfl,rfl⟩
 | 2,_=>exact⟨rfl,rfl⟩
 | 3,_=>exact⟨rfl,rfl⟩
 | 4,_=>exact⟨rfl,rfl⟩
 | 5,_=>exact⟨rfl,rfl⟩
 | 6,_=>exact⟨rfl,rfl⟩
 | 7,_=>exact⟨rfl,rfl⟩
end Go.Pg
namespace Go.Pg
open Go.Proofs Go.RowKit Go.MapKept
abbrev ivs (l:List Int):List Value:=l.map (Value.int .i64)
theorem zk9:∀ {l:List Int},2<=l.length->kv l = .agg (ivs l).toArray
 | [],h=>by simp at h
 | [_],h=>by simp at h
 | _ :: _ :: _,_=>rfl
theorem zhf {w:World} {ok:Nat->Prop}:∀ l:List Int,All2 (Rep w ok) (l.map fun n=>D.int .i64 n) (ivs l)
 | []=>.nil
 | _ :: l=>.cons rfl (zhf l)
theorem zgG:∀ {xs ys:List Int},xs.length=ys.length->eqDs (xs.map fun n=>D.int .i64 n) (ys.map fun n=>D.int .i64 n)=some (decide (xs=ys))
 | [],[],_=>rfl
 | x :: xs,y :: ys,h=>by
  have e:eqDs ((x :: xs).map fun n=>D.int .i64 n) ((y :: ys).map fun n=>D.int .i64 n)=match some (x==y),eqDs (xs.map fun n=>D.int .i64 n) (ys.map fun n=>D.int .i64 n) with
   | some a,some b=>some (a && b)
   | _,_=>none:=rfl
  rw[e,zgG (by simpa using h)]
  show some ((x==y) && decide (xs=ys))=_
  congr 1
  rw[kO]
  simp
 | [],_ :: _,h=>by simp at h
 | _ :: _,[],h=>by simp at h
theorem zeY {P:Program} {t:TypeId} (h:intS P t=true):∃ fs:Array Field,P.underlying t=some (.struct fs)/\intF P 0 fs.toList=true/\P.stoodInHeld t=false:=by
 unfold intS at h
 split at h
 ·rename_i fs hu
  simp only[jP,jY] at h
  exact⟨fs,hu,h.1.1.1,h.1.2⟩
 simp at h
theorem zew {P:Program} {t:TypeId} (h:intS P t=true) {fs:Array Field} (hu:P.underlying t=some (.struct fs)) {xs ys:List Int} (hx:xs.length=fs.size) (hy:xs.length=ys.length) (w:World) :
  (Op.equal t (.agg (ivs xs).toArray) (.agg (ivs ys).toArray)).run P w = .ok (decide (xs=ys)) w:=by
 obtain⟨fs',hu',h1,h3⟩:=zeY h
 rw[hu] at hu'
 cases hu'
 have hfo:P.fieldsOf t=fs:=by simp[Program.fieldsOf,hu]
 have ht:P.underlying t=some (.struct (P.fieldsOf t)):=by rw[hfo]; exact hu
 show (Op.equalIn 10000 t _ _).run P w=_
 rw[run_equalIn_struct w 9999 t _ _ ht h3,hfo]
 exact zlw fs.toList 0 _ _ _ _ (fun _=>True) _ h1 (by simp[hx]) (by simpa using zgG hy) (zhf xs) (zhf ys)
theorem zeL {P : Program} {w : World} {em : Bool} {n : Nat} {l : List Int} : ∀ (L : List Field) (i : Nat), intF P i L = true -> l.length = i + L.length ->
  (forIn L PUnit.unit fun (f : Field) (_ : PUnit) => (if f.name ≠ "_" then (do
   let x <- part f.type (ivs l).toArray f.offset
   Instr.checkKey em (n + 1) f.type x
   pure (ForInStep.yield PUnit.unit)) else pure (ForInStep.yield PUnit.unit) : Sem (ForInStep PUnit)) : Sem PUnit).run P w = .ok PUnit.unit w
 | [], i, _, _ => by simp
 | f :: L, i, h, hl => by
  simp only [intF, jP, jY] at h
  obtain ⟨⟨⟨hn, ho⟩, ht⟩, hr⟩ := h
  have ho := jA ho
  have hn' : f.name ≠ "_" := by simpa using hn
  have hi : i < l.length := by rw [hl]; simp
  have hv : (ivs l).toArray[i]? = some (.int .i64 l[i]) := by
   show (ivs l).toArray[i]? = _
   rw [List.getElem?_toArray, jU, kF hi]; rfl
  cases hund : P.underlying f.type with
  | none => rw [hund] at ht; simp at ht
  | some td =>
  cases td with
  | int k0 =>
   have hag : (isAgg f.type).run P w = .ok false w := by simp [isAgg, run_underlying hund]
   have hp1 : (part f.type (ivs l).toArray f.offset).run P w = .ok (.int .i64 l[i]) w := by simp only [part, ho, hv]; simp [hag]
   have hc : (Instr.checkKey em (n + 1) f.type (.int .i64 l[i])).run P w = .ok () w := by simp [Instr.checkKey, run_underlying hund]
   have ih := zeL (w := w) (em := em) (n := n) L (i + 1) hr (by rw [hl]; simp; omega)
   simp only [List.forIn_cons, Sem.run_bind, hn', ne_eq, not_false_eq_true, jbd, Result.andThen_ok, hp1, hc, Sem.run_pure]
   exact ih
  | _ => rw [hund] at ht; simp at ht
theorem zdg {P:Program} {t:TypeId} (h:intS P t=true) {fs:Array Field} (hu:P.underlying t=some (.struct fs)) (h2:2<=fs.size) {key:List Int} (hk:key.length=fs.size) (w:World):∀ (es:List MapEntry) (ks:List (List Int)) (i:Nat),(es.map fun e=>e.key)=ks.map kv->(∀ k∈ks,k.length=fs.size) ->
  (Instr.findAsking t (kv key) es i).run P w = .ok ((es[ks.idxOf key]?).map fun e=>(i+ks.idxOf key,e.val)) w
 | [],[],i,_,_=>by simp[Instr.findAsking]
 | e :: es,m :: ks,i,he,hl=>by
  simp only[kX,jan] at he
  have hm:=hl m (wB ..)
  have hq:=zew h hu (xs:=key) (ys:=m) hk (by omega) w
  rw[<- zk9 (by omega),<- zk9 (by omega)] at hq
  by_cases e1:key=m
  ·subst e1
   have:List.idxOf key (key :: ks)=0:=by simp[List.idxOf_cons]
   rw[this]
   rw[jG rfl] at hq
   simp[Instr.findAsking,he.1,hq]
  ·have e2:List.idxOf key (m :: ks)=List.idxOf key ks+1:=by
    rw[List.idxOf_cons]
    have:(m==key)=false:=by simp; exact fun e=>e1 e.symm
    rw[this]; rfl
   rw[e2]
   rw[jH e1] at hq
   have ih:=zdg h hu h2 hk w es ks (i+1) he.2 fun k hk=>hl k (qS _ hk)
   simp only[Instr.findAsking,he.1,Sem.run_bind,hq,Result.andThen_ok,wC,jaE]
   rw[ih]
   simp only[jah]
   congr 2
   funext e'
   rw[show i+1+List.idxOf key ks=i+(List.idxOf key ks+1) by omega]
 | [],_ :: _,i,h,_=>by simp at h
 | _ :: _,[],i,h,_=>by simp at h
theorem zla {P:Program} {t:TypeId} {fs:Array Field} (h:intS P t=true) (hu:P.underlying t=some (.struct fs)) (h2:2<=fs.size):KeyF P t fs.size:=fun key hk=>by
 obtain⟨fs',hu',h1,h3⟩:=zeY h
 rw[hu] at hu'
 cases hu'
 have ek:kv key = .agg (ivs key).toArray:=zk9 (by omega)
 refine⟨fun b w=>?_,fun w=>?_,fun w es ks he hl=>?_⟩
 ·rw[ek,show (10000:Nat)=9999+1 from rfl,Instr.checkKey]
  simp only[Sem.run_bind,run_underlying hu,Result.andThen_ok]
  rw[<- Array.forIn_toList]
  refine jbw (jI (Result.andThen · fun a w'=>Sem.run P (pure ()) w') (zeL (l:=key) (em:=b) (n:=9998) (w:=w) fs.toList 0 h1 (by simp[hk]))) ?_
  simp
 ·have hs:Instr.sameBits 10000 (kv key) (kv key)=true:=by
   rw[ek]
   show ((ivs key).toArray.size==(ivs key).toArray.size && ((ivs key).toArray.toList.zip (ivs key).toArray.toList).all fun (x,y)=>Instr.sameBits 9999 x y)=true
   simp only[jbe,kN]
   rw[jC]
   intro p hp
   obtain⟨a,b⟩:=p
   have hz:∀ {l:List Int} {a b:Value},(a,b)∈(ivs l).zip (ivs l) -> ∃ n,a = .int .i64 n/\b = .int .i64 n:=fun {l}=>by
    induction l with
    | nil=>intro a b h; simp at h
    | cons x l ih=>
    intro a b h
    simp only[ivs,kX,List.zip_cons_cons,k9] at h
    rcases h with h | h
    ·cases h; exact⟨x,rfl,rfl⟩
    exact ih h
   obtain⟨n,rfl,rfl⟩:=hz (by simpa using hp)
   simp[Instr.sameBits]
  simp[Instr.keyThatStays,hs]
 rw[run_findKey_eq w (by rw[hu]) (kv key) es]
 have:=zdg h hu h2 hk w es ks 0 he hl
 simp only[qH] at this
 exact this
theorem zdD {α:Type} (e:α->List Int) (hi:∀ x y,e x=e y->x=y) (l:List α) (k:α):(l.map e).idxOf (e k)<(l.map e).length ↔ k∈l:=by
 rw[jaR,kK]
 constructor
 ·rintro⟨x,hx,h⟩; rw[<- hi _ _ h]; exact hx
 intro h; exact⟨k,h,rfl⟩
end Go.Pg
namespace Go.Pg
open Go.Proofs Go.RowKit Go.Sort Go.Shelf
abbrev plK (p:Place):List Int:=[p.X,p.Y]
theorem zfs (p q:Place) (h:plK p=plK q):p=q:=by
 obtain⟨a,b⟩:=p
 obtain⟨c,d⟩:=q
 simp only[plK,jan,and_true] at h
 rw[h.1,h.2]
theorem kPl:KeyF PP 63 2:=by
 have h2:(PP.fieldsOf 63).size=2:=by kernel_rfl
 have:=zla (P:=PP) (t:=63) (fs:=PP.fieldsOf 63) (by kernel_rfl) (by kernel_rfl) (by omega)
 rwa [h2] at this
theorem lk_pl (l:List Place) (p:Place):lkD (l.map plK) (fun _=>.bool true) (plK p) (.bool false) = .bool (decide (p∈l)):=by
 unfold lkD
 by_cases h:p∈l
 ·rw[kH ((zdD plK zfs l p).2 h),jG h]
 rw[kG fun e=>h ((zdD plK zfs l p).1 e),jH h]
def putPl (l:List Place) (p:Place):List Place:=if p∈l then l else l ++ [p]
theorem zq6 (l:List Place) (p:Place):D.eqv (.mp 2 (putK (l.map plK) (plK p)) (putF (l.map plK) (fun _=>.bool true) (plK p) (.bool true))) (.mp 2 ((putPl l p).map plK) fun _=>.bool true):=by
 refine⟨rfl,?_,fun j _=>?_⟩
 ·unfold putK putPl
  by_cases h:p∈l
  ·rw[kH ((zdD plK zfs l p).2 h),kH h]
  rw[kG fun e=>h ((zdD plK zfs l p).1 e),kG h,jT]; rfl
 unfold putF; split <;> exact dE _
theorem zby (ids:List Int) (m:Nat):(memb ids m).Sublist ids:=by
 have e:(List.range ids.length).map (ids.getD · 0)=ids:=by
  apply List.ext_getElem (by simp)
  intro i h1 h2
  rw[List.getElem_map,List.getElem_range,hU,kF h2]; rfl
 have:(memb ids m).Sublist ((List.range ids.length).map (ids.getD · 0)):=List.Sublist.map _ (List.filter_sublist ..)
 rwa [e] at this
theorem DayOk.lt {d:Day} (h:DayOk d):(sigL d.R).Pairwise (· < ·):=by
 refine List.Pairwise.imp₂ (fun a b h1 h2=>?_) (zmE d.R) h.nod
 have h1:=kQ h1
 have h2:a≠b:=h2
 omega
theorem zfX {d:Day} (h:dayE d=0) {m:Nat} (hne:memb (sigL d.R) m ≠ []):askE d (memb (sigL d.R) m)=0:=by
 have ok:=zap h
 have hsub:=zby (sigL d.R) m
 have hp:=ok.lt.sublist hsub
 have hr:setB (memb (sigL d.R) m)=true:=by
  unfold setB risB
  rw[jP]
  refine⟨jC.2 fun j hj=>jG ?_,jG (ja6.2 hne)⟩
  have hj:=kI.1 hj
  have h1:j<(memb (sigL d.R) m).length:=by omega
  have h2:j+1<(memb (sigL d.R) m).length:=by omega
  rw[hU,hU,kF h1,kF h2]
  exact kV.1 hp j (j+1) h1 h2 (by omega)
 have hq:partB (memb (sigL d.R) m) (sigL d.R)=true:=jC.2 fun x hx=>kD.2 (hsub.subset hx)
 unfold askE
 rw[kG (fun hh=>hh h),kG (by rw[hr]; decide),kG (by rw[hq]; decide)]
theorem zna (ids:List Int) (a b:Nat) {x:Int} (h:(memb ids (a &&& b)).contains x=true):(memb ids a).contains x=true:=by
 have h:=kD.1 h
 unfold memb membA at h
 obtain⟨i,hi,e⟩:=kK.1 h
 rw[kW,jbl,jP] at hi
 exact kD.2 (kK.2 ⟨i,kW.2 ⟨hi.1,hi.2.1⟩,e⟩)
theorem zba {k m:Nat}:k &&& m=k ↔ ∀ i,k.testBit i=true->m.testBit i=true:=by
 constructor
 ·intro h i hi
  rw[<- h,jbl,jP] at hi
  exact hi.2
 intro h
 apply jaM
 intro i
 rw[jbl]
 cases e:k.testBit i with
 | false=>rfl
 | true=>rw[h i e]; rfl
theorem zen {n m i:Nat} (hm:m<2 ^ n) (h:m.testBit i=true):i<n:=by
 rcases jaA i n with h1 | h1
 ·exact h1
 rw[jaW (jN hm (jau (by decide) h1))] at h; cases h
theorem zfV {n m i j:Nat} (hn:n<=7) (hm:m<2 ^ n) (hi:i<n):(offS m i).testBit j=(m.testBit j && decide (j≠i)):=by
 unfold offS
 rw[jbl]
 cases e:m.testBit j with
 | false=>rfl
 | true=>
 have hj:=zen hm e
 have:=al7L (n:=7) (m:=7) (P:=fun i j=>(127 - 2 ^ i).testBit j==decide (j≠i)) (by decide +kernel) (show i<7 by omega) (show j<7 by omega)
 rw[eq_of_beq this]
theorem zdj (m i j:Nat):(onS m i).testBit j=(m.testBit j || decide (i=j)):=by
 unfold onS
 rw[Nat.testBit_or,Nat.testBit_two_pow]
theorem zkM (m i:Nat):offS m i<=m:=Nat.and_le_left
theorem zrq {n m i:Nat} (hm:m<2 ^ n) (hi:i<n):onS m i<2 ^ n:=Nat.or_lt_two_pow hm (Nat.pow_lt_pow_right (by decide) hi)
theorem zox {k m:Nat} (hs:k &&& m=k) (hne:k≠m):∃ i,m.testBit i=true/\k.testBit i=false:=by
 refine jL fun hc=>hne ?_
 apply jaM
 intro i
 cases e:m.testBit i with
 | true=>
  cases e':k.testBit i with
  | true=>rfl
  | false=>exact absurd ⟨i,e,e'⟩ hc
 | false=>
 cases e':k.testBit i with
 | false=>rfl
 | true=>rw[zba.1 hs i e'] at e; cases e
theorem zpC {m:Nat} (h:0<m):∃ i,m.testBit i=true:=by
 refine jL fun hc=>?_
 have:m=0:=by
  apply jaM
  intro i
  rw[Nat.zero_testBit]
  cases e:m.testBit i with
  | false=>rfl
  | true=>exact absurd ⟨i,e⟩ hc
 omega
theorem zfz {ids:List Int} {m:Nat} (h0:0<m) (hm:m<2 ^ ids.length):memb ids m ≠ []:=by
 obtain⟨i,hi⟩:=zpC h0
 have hl:=zen hm hi
 intro e
 have:ids.getD i 0∈memb ids m:=kK.2 ⟨i,kW.2 ⟨kI.2 hl,hi⟩,rfl⟩
 rw[e] at this
 cases this
theorem zcb {d:Day} (h:dayE d=0) {m:Nat} (h0:0<m) (hm:m<2 ^ (sigL d.R).length):(d.R.any fun r=>(memb (sigL d.R) m).contains r.ID)=true:=zqA (zfX h (zfz h0 hm))
theorem zbO {d:Day} (h:dayE d=0) {m:Nat} (h0:0<m) (hm:m<2 ^ (sigL d.R).length):fitX d m=decide (0<(celD d m).length):=by
 unfold fitX
 rw[jG h0,kN,zo8 (zap h) (zcb h h0 hm)]
theorem zcF {d:Day} (h:dayE d=0) {k m:Nat} (h0:0<k) (hs:k &&& m=k) (hm:m<2 ^ (sigL d.R).length) (hp:fitX d m=true):fitX d k=true:=by
 have hk:k<=m:=by rw[<- hs]; exact Nat.and_le_right
 rw[zbO h (by omega) hm] at hp
 rw[zbO h h0 (by omega)]
 obtain⟨q,hq⟩:=List.exists_mem_of_length_pos (kQ hp)
 refine jG (List.length_pos_of_mem (a:=q) ?_)
 refine zkq (zap h) (A:=memb (sigL d.R) m) (B:=memb (sigL d.R) k) (fun x hx=>?_) (zcb h h0 (by omega)) hq
 rw[<- hs,Nat.and_comm] at hx
 exact zna _ m k hx
theorem ziN {d:Day} (h:dayE d=0):∀ M,M<=2 ^ (sigL d.R).length -> ∀ m,0<m->m<M->fitK d (keysD d M) m=fitX d m
 | 0,_,m,_,hm=>by omega
 | M+1,hM,m,h0,hm=>by
  have ih:=ziN h M (by omega)
  have h7:=sig7 (zap h)
  by_cases e:m=M
  ·subst e
   have hpart:fitX d m=true->partK d (keysD d m) m=true:=fun hp=>by
    unfold partK
    rw[jC]
    intro i hi
    have hi:=kI.1 hi
    unfold parK
    by_cases e1:offS m i=m
    ·simp[e1]
    by_cases e2:offS m i=0
    ·simp[e2]
    have hlt:offS m i<m:=by have:=zkM m i; omega
    have:=ih (offS m i) (by omega) hlt
    rw[this,zcF h (by omega) (k:=offS m i) (m:=m) (by
     rw[zba]; intro j hj
     rw[zfV h7 (show m<_ by omega) hi,jP] at hj; exact hj.1) (by omega) hp]
    simp
   have hnot:(keysD d m).contains m=false:=by
    rw[qF]; intro hc
    have:=zdB d m m (kD.1 hc); omega
   rw[zbO h h0 (by omega)] at *
   unfold keysD
   split
   ·rename_i hk
    unfold fitK
    rw[show (keysD d m ++ [m]).contains m=true from kD.2 (by simp),kN]
   rename_i hk
   unfold fitK
   rw[hnot,kZ]
   cases e3:decide (0<(celD d m).length) with
   | false=>rfl
   | true=>exact absurd ⟨by omega,hpart e3⟩ hk
  have hm':m<M:=by omega
  rw[<- ih m h0 hm']
  unfold fitK
  congr 1
  conv=>lhs; unfold keysD
  split
  ·rw[kO,kD,kD,kR,kM]
   exact⟨fun hh=>hh.elim id fun e'=>absurd e' e,.inl⟩
  rfl
theorem zbP {d:Day} (h:dayE d=0) {m:Nat} (h0:0<m) (hm:m<2 ^ (sigL d.R).length):fitK d (ksD d) m=fitX d m:=ziN h _ (jE _) m h0 hm
theorem zdy {p:Nat->Bool} {m n:Nat}:lonK p m n=true ↔ ∀ o,0<o->o<n->o≠m->badX p m o=false:=by
 unfold lonK
 rw[jC]
 constructor
 ·intro h o h0 h1 h2
  have:=h o (kI.2 h1)
  rw[jH (by omega),jH h2,wL,wL] at this
  simpa using this
 intro h o h1
 have h1:=kI.1 h1
 by_cases h0:o=0
 ·simp[h0]
 by_cases h2:o=m
 ·simp[h2]
 rw[h o (by omega) h1 h2]; simp
theorem zoK {d:Day} (h:dayE d=0) {m:Nat} (h0:0<m) (hm:m<2 ^ (sigL d.R).length):greB d (ksD d) m=greX (fitX d) (2 ^ (sigL d.R).length) m:=by
 have h7:=sig7 (zap h)
 unfold greB greX
 rw[zbP h h0 hm]
 cases hp:fitX d m with
 | false=>rw[kZ,qP]
 | true=>
 rw[kN,jak,kO,zdy,jY]
 unfold growK
 rw[wI]
 constructor
 ·intro hg o h1 h2 h3
  unfold badX
  rw[hp,ja2,kZ,kZ,jaj,kN]
  rw[qF]
  intro hb
  rw[jP,kA] at hb
  obtain⟨i,hi1,hi2⟩:=zox hb.2 (fun e=>h3 e.symm)
  have hil:=zen h2 hi1
  refine hg i (kI.2 hil) ?_
  have hon:onS m i≠m:=fun e=>by
   have:=zdj m i i
   rw[e,hi2] at this
   simp at this
  unfold groK
  rw[jP,bne_iff_ne]
  refine⟨hon,?_⟩
  have ho:=zrq hm hil
  have hpos:0<onS m i:=by
   have:m<=onS m i:=Nat.left_le_or
   omega
  rw[zbP h hpos ho]
  refine zcF h hpos ?_ h2 hb.1
  rw[zba]
  intro j hj
  rw[zdj,jX,kA] at hj
  rcases hj with hj | rfl
  ·exact zba.1 hb.2 j hj
  exact hi1
 intro hl i hi hg
 have hi:=kI.1 hi
 unfold groK at hg
 rw[jP,bne_iff_ne] at hg
 have ho:=zrq hm hi
 have hpos:0<onS m i:=by
  have:m<=onS m i:=Nat.left_le_or
  omega
 rw[zbP h hpos ho] at hg
 have:=hl (onS m i) hpos ho hg.1
 unfold badX at this
 rw[hp,hg.2,jG (zba.2 fun j hj=>by rw[zdj,hj]; rfl)] at this
 cases this
theorem zoA {d:Day} (h:dayE d=0) {m:Nat} (h0:0<m) (hm:m<2 ^ (sigL d.R).length):leaB d (ksD d) m=leaX (fitX d) (2 ^ (sigL d.R).length) m:=by
 have h7:=sig7 (zap h)
 unfold leaB leaX
 rw[zbP h h0 hm]
 cases hp:fitX d m with
 | true=>rw[ja2,kZ,qP]
 | false=>
 rw[Bool.not_false,kN,jak,kO,zdy]
 unfold partK
 rw[jC]
 constructor
 ·intro hg o h1 h2 h3
  unfold badX
  rw[hp,kZ,kZ,wL,Bool.not_false,kN]
  rw[qF]
  intro hb
  rw[jP,kA] at hb
  obtain⟨i,hi1,hi2⟩:=zox hb.2 h3
  have hil:=zen hm hi1
  have hg:=hg i (kI.2 hil)
  have hsub:o &&& offS m i=o:=zba.2 fun j hj=>by
   rw[zfV h7 hm hil,zba.1 hb.2 j hj,kN]
   refine jG fun e=>?_
   subst e
   rw[hi2] at hj; cases hj
  have hle:=zkM m i
  have hpos:0<offS m i:=by
   have:o<=offS m i:=by rw[<- hsub]; exact Nat.and_le_right
   omega
  have hne:offS m i≠m:=fun e=>by
   have:=zfV (j:=i) h7 hm hil
   rw[e,hi1] at this
   simp at this
  unfold parK at hg
  rw[zbP h hpos (by omega)] at hg
  have hfo:fitX d (offS m i)=true:=by
   simp only[jX,jaf] at hg
   rcases hg with (hg | hg) | hg
   ·exact absurd hg hne
   ·omega
   exact hg
  have:=zcF h h1 hsub (by omega) hfo
  rw[this] at hb
  cases hb.1
 intro hl i hi
 have hi:=kI.1 hi
 unfold parK
 by_cases e1:offS m i=m
 ·simp[e1]
 by_cases e2:offS m i=0
 ·simp[e2]
 have hle:=zkM m i
 have:=hl (offS m i) (by omega) (by omega) e1
 unfold badX at this
 have hsb:offS m i &&& m=offS m i:=zba.2 fun j hj=>by rw[zfV h7 hm hi,jP] at hj; exact hj.1
 rw[hp,jG hsb] at this
 rw[zbP h (by omega) (by omega)]
 have hf:fitX d (offS m i)=true:=by simpa using this
 simp[hf]
theorem zdY {ids:List Int} {m j:Nat} (hm:m<2 ^ j):∀ n,j<=n->membA ids m n=membA ids m j
 | 0,h=>by obtain rfl:j=0:=Nat.le_zero.1 h; rfl
 | n+1,h=>by
  by_cases e:j=n+1
  ·rw[e]
  have:m.testBit n=false:=by
   cases q:m.testBit n with
   | false=>rfl
   | true=>have:=zen hm q; omega
  rw[zdv this]
  exact zdY hm n (by omega)
theorem zov {x i:Nat} (h:x<2 ^ i):x+2 ^ i=onS x i:=by
 have:=Nat.two_pow_add_eq_or_of_lt h 1
 unfold onS
 rw[Nat.mul_one] at this
 rw[Nat.add_comm,this,Nat.or_comm]
theorem zeU {ids:List Int} {a b:Nat}:∀ {n:Nat},(∀ j,j<n->a.testBit j=b.testBit j)->membA ids a n=membA ids b n
 | 0,_=>rfl
 | n+1,h=>by
  have ih:=zeU (ids:=ids) (n:=n) fun j hj=>h j (by omega)
  have hn:=h n (by omega)
  cases e:a.testBit n with
  | true=>rw[zcy e,zcy (by rw[<- hn]; exact e),ih]
  | false=>rw[zdv e,zdv (by rw[<- hn]; exact e),ih]
theorem ziw {ids:List Int} {x i:Nat} (hx:x<2 ^ i) (hi:i<ids.length):memb ids (x+2 ^ i)=memb ids x ++ [ids.getD i 0]:=by
 have h1:x+2 ^ i<2 ^ (i+1):=by rw[Nat.pow_succ]; omega
 unfold memb
 rw[zdY h1 ids.length hi,zdY hx ids.length (by omega),zov hx,zcy (by rw[zdj]; simp)]
 congr 1
 refine zeU fun j hj=>?_
 rw[zdj,jH (by omega),jaj]
theorem zgh (ids:List Int):memb ids 0=[]:=by
 unfold memb membA
 rw[List.filter_eq_nil_iff.2 (fun i _=>by simp)]
 rfl
theorem zfK {l:List Nat} {f:Nat->List Int} {q:Nat} (h:q<l.length):(l.map f).getD q []=f (l.getD q 0):=by
 rw[hU,jU,hU,kF h]; rfl
theorem snocInd {α:Type} {motive:List α->Prop} (h0:motive []) (h1:∀ l x,motive l->motive (l ++ [x])) (l:List α):motive l:=by
 rw[<- List.reverse_reverse l]
 induction l.reverse with
 | nil=>exact h0
 | cons x r ih=>rw[List.reverse_cons]; exact h1 _ _ ih
theorem zhK {ids:List Int} {ix:List Nat} (hr:Rg ix) (hl:ix.length=ids.length):∀ k i,i+k=ids.length->bld (ids.drop i) ((bitK ix i).map (memb ids)) (ix.drop i)=setX ids ix
 | 0,i,h=>by
  have e:i=ids.length:=by omega
  subst e
  rw[jbh,<- hl,jbh]
  rfl
 | k+1,i,h=>by
  have hi:i<ids.length:=by omega
  have hi2:i<ix.length:=by omega
  have d1:ids.drop i=ids.getD i 0 :: ids.drop (i+1):=by rw[qB hi,hU,kF hi]; rfl
  have d2:ix.drop i=ix.getD i 0 :: ix.drop (i+1):=by rw[qB hi2,hU,kF hi2]; rfl
  have hk:=hr i hi2
  have hlen:=zcN hr i (by omega)
  rw[d1,d2,<- zhK hr hl k (i+1) (by omega),zcM]
  show bld (ids.drop (i+1)) (if _ then _ else _) (ix.drop (i+1))=_
  congr 1
  rw[kU]
  unfold bit1
  by_cases h1:ix.getD i 0<(bitK ix i).length
  ·rw[kH h1,kH h1,List.map_set]
   have hx:(bitK ix i).getD (ix.getD i 0) 0<2 ^ i:=(zbj ix i _ (by rw[hU,kF h1]; exact kT h1)).2
   rw[ziw hx hi]
   congr 2
   exact zfK h1
  rw[kG h1,kG h1,jT]
  have:=ziw (ids:=ids) (x:=0) (Nat.two_pow_pos i) hi
  rw[qH,zgh] at this
  show _=_ ++ [memb ids (2 ^ i)]
  rw[this]; rfl
theorem zgR {ids:List Int} (hd:ids.Nodup) (h7:ids.length<=7) {m:Nat}:∀ i,i<=ids.length -> ∀ j,(bitA ids (memb ids m) i).testBit j=(decide (j<i) && m.testBit j)
 | 0,_,j=>by show (0:Nat).testBit j=_; simp
 | i+1,hi,j=>by
  have ih:=zgR hd h7 (m:=m) i (by omega)
  have hb:=zaU hd (m:=m) (show i<ids.length by omega)
  rw[zbW]
  by_cases e:m.testBit i=true
  ·rw[kH (kD.2 (hb.2 e)),zdj,ih]
   by_cases e2:i=j
   ·subst e2; simp[e]
   rw[jH e2,jaj]
   congr 1
   exact wF.2 (by omega)
  rw[kG (fun hh=>e (hb.1 (kD.1 hh))),ih]
  by_cases e2:i=j
  ·subst e2
   rw[Bool.not_eq_true] at e
   rw[e,qP,qP]
  congr 1
  exact wF.2 (by omega)
theorem zgP {ids:List Int} (hd:ids.Nodup) (h7:ids.length<=7) {m:Nat} (hm:m<2 ^ ids.length):bitS ids (memb ids m)=m:=by
 unfold bitS
 apply jaM
 intro j
 rw[zgR hd h7 _ (jE _)]
 cases e:m.testBit j with
 | false=>rw[qP]
 | true=>rw[jG (zen hm e)]; rfl
abbrev gwD (d:Day):List (List Nat):=gwX (fitX d) (sigL d.R).length []
theorem zpG {d:Day} (h:dayE d=0):parts d=(gwD d).map (setX (sigL d.R)):=by
 have ok:=zap h
 have h7:=sig7 ok
 unfold parts gwD gwX
 rw[zdQ]
 have e1:(rgs (sigL d.R).length (mst [])).map (([]:List Nat) ++ ·)=rgs (sigL d.R).length 0:=by
  show (rgs (sigL d.R).length 0).map (fun x=>[]++x)=_
  simp
 rw[e1]
 have hm:∀ ix∈rgs (sigL d.R).length 0,Rg ix/\ix.length=(sigL d.R).length:=fun ix hx=>zgc _ [] zh9 ix hx
 show List.filter _ ((rgs (sigL d.R).length 0).map (bld (sigL d.R) []))=_
 generalize rgs (sigL d.R).length 0=L at hm
 have hb:∀ ix∈L,bld (sigL d.R) [] ix=setX (sigL d.R) ix:=fun ix hx=>by
  have:=zhK (hm ix hx).1 (hm ix hx).2 (sigL d.R).length 0 (qH _)
  exact this
 rw[qL hb,List.filter_map]
 congr 1
 refine jbu fun ix hx=>?_
 show (setX (sigL d.R) ix).all _=(bitX ix).all (fitX d)
 unfold setX
 rw[List.all_map,kO,jC,jC]
 refine forall_congr' fun m=>forall_congr' fun hmm=>?_
 have hml:=zbj ix ix.length m hmm
 rw[(hm ix hx).2] at hml
 show fitK d (ksD d) (bitS (sigL d.R) (memb (sigL d.R) m))=true ↔ _
 rw[zgP ok.nod h7 hml.2,zbP h hml.1 hml.2]
def fwP1 (o:Int) (p:List (List Int)):Int:=if o<0 \/ (p.length:Int)<o then (p.length:Int) else o
def fwP (l:List (List (List Int))):Int:=l.foldl fwP1 (-1)
theorem ziK (l:List (List (List Int))) (p:List (List Int)):fwP (l ++ [p])=fwP1 (fwP l) p:=by unfold fwP; rw[jai]; rfl
theorem zlo:∀ {l:List (List (List Int))},(fwP l<0->l=[])/\(∀ p∈l,fwP l<=(p.length:Int))/\(l ≠ [] -> ∃ p∈l,(p.length:Int)=fwP l):=by
 intro l
 induction l using snocInd with
 | h0=>exact⟨fun _=>rfl,⟨fun p hp=>(by cases hp),fun h=>absurd rfl h⟩⟩
 | h1 l p ih=>
 obtain⟨a,b,c⟩:=ih
 rw[ziK]
 unfold fwP1
 by_cases h:fwP l<0 \/ (p.length:Int)<fwP l
 ·rw[kH h]
  refine⟨fun h'=>by omega,fun q hq=>?_,fun _=>⟨p,by simp,rfl⟩⟩
  rcases kR.1 hq with hq | hq
  ·have:=b q hq
   rcases h with h | h
   ·rw[a h] at hq; cases hq
   omega
  rw[kM.1 hq]; exact Int.le_refl _
 rw[kG h]
 refine⟨fun h'=>absurd (.inl h') h,fun q hq=>?_,fun _=>?_⟩
 ·rcases kR.1 hq with hq | hq
  ·exact b q hq
  rw[kM.1 hq]; omega
 by_cases hl:l=[]
 ·subst hl
  exact absurd (.inl (by show (-1:Int)<0; decide)) h
 obtain⟨q,hq,e⟩:=c hl
 exact⟨q,qE _ hq,e⟩
theorem zef {l:List (List (List Int))} (h:fltP (fwP l) l ≠ []):((((fltP (fwP l) l).getD 0 []).length:Nat):Int)=fwP l:=by
 have h0:0<(fltP (fwP l) l).length:=ja6.2 h
 have:(fltP (fwP l) l).getD 0 []∈fltP (fwP l) l:=by rw[hU,kF h0]; exact kT h0
 have:=(kW.1 this).2
 simpa using this
theorem ziM {l:List (List (List Int))} (h:fltP (fwP l) l=[]):l=[]:=by
 refine jL fun hl=>?_
 obtain⟨p,hp,e⟩:=(zlo (l:=l)).2.2 hl
 have:p∈fltP (fwP l) l:=kW.2 ⟨hp,by simpa using e⟩
 rw[h] at this; cases this
theorem znY (p:List (List Int)):bst1 [] p=[p]:=rfl
theorem zqv {o:List (List (List Int))} {p:List (List Int)} (h0:0<o.length) (h:p.length<(o.getD 0 []).length):bst1 o p=[p]:=by
 have e:bst0 o p=[]:=by unfold bst0; rw[jG h0,jG h]; rfl
 unfold bst1; rw[e]; rfl
theorem zl0 {o:List (List (List Int))} {p:List (List Int)} (h:¬ p.length<(o.getD 0 []).length):bst0 o p=o:=by unfold bst0; rw[jH h,qP]; rfl
theorem zlZ {o:List (List (List Int))} {p:List (List Int)} (h:p.length=(o.getD 0 []).length):bst1 o p=o ++ [p]:=by
 unfold bst1; rw[zl0 (by omega),jG h,qJ]; rfl
theorem zqw {o:List (List (List Int))} {p:List (List Int)} (h0:0<o.length) (h:(o.getD 0 []).length<p.length):bst1 o p=o:=by
 unfold bst1; rw[zl0 (by omega),jH (by omega:¬ o.length=0),jH (by omega:¬ p.length=(o.getD 0 []).length)]; rfl
theorem zlX:∀ {l:List (List (List Int))},bstL l=fltP (fwP l) l:=by
 intro l
 induction l using snocInd with
 | h0=>rfl
 | h1 l p ih=>
 rw[zbV,ih,ziK,zlr]
 obtain⟨a,b,_⟩:=zlo (l:=l)
 by_cases hn:fltP (fwP l) l=[]
 ·have hl:=ziM hn
  subst hl
  have e:fwP1 (fwP []) p=(p.length:Int):=kH (Or.inl (show (-1:Int)<0 by decide))
  rw[hn,znY,e,kH (jbe _)]
  rfl
 have hh:=zef hn
 have h0:0<(fltP (fwP l) l).length:=ja6.2 hn
 have hf:¬ fwP l<0:=by omega
 by_cases h1:(p.length:Int)<fwP l
 ·have e:fwP1 (fwP l) p=(p.length:Int):=kH (Or.inr h1)
  rw[zqv h0 (by omega),e,kH (jbe _)]
  have:fltP (p.length:Int) l=[]:=List.filter_eq_nil_iff.2 fun q hq=>by
   have:=b q hq
   simp; omega
  rw[this]; rfl
 have e:fwP1 (fwP l) p=fwP l:=kG (fun hh=>hh.elim hf h1)
 rw[e]
 by_cases h2:(p.length:Int)=fwP l
 ·rw[zlZ (by omega),kH (by simpa using h2)]
 rw[zqw h0 (by omega),kG (by simpa using h2)]
theorem zrg (a b:Int) (l:List Int):partB [a,b] l=(l.contains a && l.contains b):=by
 unfold partB
 simp
theorem zcx {ix:List Nat} {i:Nat}:∀ {k:Nat},i<k->k<=ix.length->ix.getD i 0<mst (ix.take k)
 | 0,h,_=>by omega
 | k+1,h,hk=>by
  rw[zfx (by omega)]
  by_cases e:i=k
  ·subst e; omega
  have:=zcx (ix:=ix) (i:=i) (k:=k) (by omega) (by omega); omega
theorem zl5 {ix:List Nat} (hr:Rg ix):∀ k,k<=ix.length -> ∀ q,q<(bitK ix k).length -> ∀ i,((bitK ix k).getD q 0).testBit i=(decide (i<k) && (ix.getD i 0==q))
 | 0,_,q,hq,i=>by cases hq
 | k+1,hk,q,hq,i=>by
  have ih:=zl5 hr k (by omega)
  have hlen:=zcN hr k (by omega)
  have hc:=hr k (by omega)
  rw[zcM] at hq ⊢
  unfold bit1 at hq ⊢
  have sp:(decide (i<k+1) && (ix.getD i 0==q))=((decide (i<k) && (ix.getD i 0==q)) || (decide (i=k) && (ix.getD k 0==q))):=by
   by_cases e:i=k
   ·subst e; simp
   rw[jH e,show decide (i<k+1)=decide (i<k) from wF.2 (by omega)]; simp
  rw[sp]
  by_cases h1:ix.getD k 0<(bitK ix k).length
  ·rw[kH h1] at hq ⊢
   rw[jaQ] at hq
   rw[znx h1]
   by_cases e:q=ix.getD k 0
   ·rw[kH e]
    have hx:(bitK ix k).getD (ix.getD k 0) 0<2 ^ k:=(zbj ix k _ (by rw[hU,kF h1]; exact kT h1)).2
    rw[zov hx,zdj,ih _ h1 i,<- e,jbe,jak]
    congr 1
    exact wF.2 ⟨fun h=>h.symm,fun h=>h.symm⟩
   rw[kG e,ih q hq i,show (ix.getD k 0==q)=false from jax.2 (fun h=>e h.symm),qP,jaj]
  rw[kG h1] at hq ⊢
  rw[jR,wD] at hq
  by_cases e:q<(bitK ix k).length
  ·rw[hU,jJ e,<- hU,ih q e i,show (ix.getD k 0==q)=false from jax.2 (fun h=>by omega),qP,jaj]
  have eq:q=(bitK ix k).length:=by omega
  rw[hU,jK (by omega),eq,kE]
  show (2 ^ k).testBit i=_
  rw[Nat.testBit_two_pow,show (ix.getD k 0==(bitK ix k).length)=true from jaf.2 (by omega),jak]
  have:(decide (i<k) && (ix.getD i 0==(bitK ix k).length))=false:=by
   by_cases h:i<k
   ·have:=zcx (ix:=ix) h (by omega)
    rw[show (ix.getD i 0==(bitK ix k).length)=false from jax.2 (by omega),qP]
   rw[jH h,kZ]
  rw[this,wL]
  exact wF.2 ⟨fun h=>h.symm,fun h=>h.symm⟩
def FI (p:List Nat->Bool) (l:List (List Nat)) (k:Nat) (v:Int):Prop:=(v = -1/\(l.drop k).find? p=none) \/ ∃ q:Nat,v=(q:Int)/\q<l.length/\(l.drop k).find? p=some (l.getD q [])
theorem FI.no {p:List Nat->Bool} {l:List (List Nat)} {m:Nat} {v:Int} (hm:m<l.length) (h:p (l.getD m [])=false) (hf:FI p l (m+1) v):FI p l m v:=by
 have d1:l.drop m=l.getD m [] :: l.drop (m+1):=by rw[qB hm,hU,kF hm]; rfl
 rcases hf with⟨e,h2⟩ | ⟨q,e,hq,h2⟩
 ·exact .inl ⟨e,by rw[d1,List.find?_cons,h]; exact h2⟩
 exact .inr ⟨q,e,hq,by rw[d1,List.find?_cons,h]; exact h2⟩
def whr (p:List (List Int)) (x:Int):Nat->Int
 | 0=>-1
 | n+1=>if x∈p.getD n [] then (n:Int) else whr p x n
theorem zbs {p:List (List Int)} {x:Int}:∀ {n:Nat},whr p x n<0 ↔ ∀ m,m<n->x∉p.getD m []
 | 0=>⟨fun _ m h=>by omega,fun _=>by show (-1:Int)<0; decide⟩
 | n+1=>by
  have ih:=zbs (p:=p) (x:=x) (n:=n)
  unfold whr
  by_cases h:x∈p.getD n []
  ·rw[kH h]
   exact⟨fun hh=>by omega,fun hh=>absurd h (hh n (Nat.lt_succ_self _))⟩
  rw[kG h,ih]
  refine⟨fun hh m hm=>?_,fun hh m hm=>hh m (by omega)⟩
  by_cases e:m=n
  ·rw[e]; exact h
  exact hh m (by omega)
theorem zfc {p:List (List Int)} {x:Int}:∀ {n m:Nat},whr p x n=(m:Int)->m<n/\x∈p.getD m []
 | 0,m,h=>by
  have h:(-1:Int)=(m:Int):=h
  omega
 | n+1,m,h=>by
  unfold whr at h
  split at h
  ·rename_i h1
   have:n=m:=by omega
   subst this
   exact⟨Nat.lt_succ_self _,h1⟩
  have:=zfc h
  exact⟨by omega,this.2⟩
def fstB (p:List (List Int)) (i:Nat):Bool:=decide (i=0) || decide ((p.getD (i - 1) []).getD 0 0<(p.getD i []).getD 0 0)
def plc1 (ids:List Int) (p:List (List Int)) (i:Nat):Bool:=setB (p.getD i []) && partB (p.getD i []) ids && fstB p i && (p.getD i []).all fun x=>decide (whr p x i<0)
def plcB (ids:List Int) (p:List (List Int)):Bool:=(List.range p.length).all (plc1 ids p)
def fndB (ids:List Int) (p:List (List Int)):Bool:=ids.all fun x=>decide (0<=whr p x p.length)
def divB (ids:List Int) (p:List (List Int)):Bool:=((List.range p.length).all fun i=>setB (p.getD i []) && fstB p i) && decide ((p.flatten.mergeSort fun x y=>decide (x<=y))=ids)
theorem zc6 {s:List Int} (h:setB s=true):s.Pairwise (· < ·)/\0<s.length:=by
 unfold setB at h
 rw[jP] at h
 refine⟨?_,kQ h.2⟩
 have hr:=h.1
 unfold risB at hr
 rw[jC] at hr
 have step:∀ j,j+1<s.length->s.getD j 0<s.getD (j+1) 0:=fun j hj=>kQ (hr j (kI.2 (by omega)))
 have far:∀ k j,j+k+1<s.length->s.getD j 0<s.getD (j+k+1) 0:=by
  intro k
  induction k with
  | zero=>intro j hj; exact step j hj
  | succ k ih=>
  intro j hj
  have h1:=ih j (by omega)
  have h2:=step (j+k+1) (by omega)
  show s.getD j 0<s.getD (j+k+1+1) 0
  omega
 refine kV.2 fun i j hi hj hij=>?_
 have:=far (j - i - 1) i (by omega)
 rw[show i+(j - i - 1)+1=j by omega] at this
 rw[hU,hU,kF hi,kF hj] at this
 exact this
theorem zaA {s:List Int} (h:s.Pairwise (· < ·)):s.Nodup:=h.imp fun {a b} hab=>by
 show a≠b
 omega
theorem zix {s:List Int} (h:s.Pairwise (· < ·)):Srt s:=h.imp fun {a b} hab=>jG (wE hab)
theorem zfw {a b:List Int} (ha:a.Nodup) (hb:b.Nodup) (h:∀ x,x∈a ↔ x∈b):a.Perm b:=by
 rw[List.perm_iff_count]
 intro x
 rw[List.Nodup.count ha,List.Nodup.count hb]
 by_cases e:x∈a
 ·rw[kH e,kH ((h x).1 e)]
 rw[kG e,kG fun hh=>e ((h x).2 hh)]
theorem zkU {a b:List Int} (ha:a.Pairwise (· < ·)) (hb:b.Pairwise (· < ·)) (h:∀ x,x∈a ↔ x∈b):a=b:=
 zdJ (zix ha) (zix hb) (zfw (zaA ha) (zaA hb) h)
theorem zbz {p:List (List Int)} {x:Int}:x∈p.flatten ↔ ∃ m,m<p.length/\x∈p.getD m []:=by
 rw[List.mem_flatten]
 constructor
 ·rintro⟨s,hs,hx⟩
  obtain⟨m,hm,rfl⟩:=kP hs
  exact⟨m,hm,by rw[hU,kF hm]; exact hx⟩
 rintro⟨m,hm,hx⟩
 rw[hU,kF hm] at hx
 exact⟨_,kT hm,hx⟩
theorem zlz {ids:List Int} (hr:ids.Pairwise (· < ·)) (p:List (List Int)):divB ids p=(plcB ids p && fndB ids p):=by
 rw[kO]
 unfold divB plcB fndB
 rw[jP,jP,jC,jC,jC,kJ]
 have gm:∀ i,i<p.length -> ∃ hi:i<p.length,p.getD i []=p[i]:=fun i hi=>⟨hi,by rw[hU,kF hi]; rfl⟩
 constructor
 ·rintro⟨h1,h2⟩
  have hp:p.flatten.Perm ids:=by rw[<- h2]; exact (qW _ _).symm
  have hn:p.flatten.Nodup:=hp.nodup_iff.2 (zaA hr)
  have hd:=(List.pairwise_flatten.1 hn).2
  refine⟨fun i hi=>?_,fun x hx=>jG ?_⟩
  ·have h3:=h1 i hi
   rw[kI] at hi
   rw[jP] at h3
   unfold plc1
   rw[jP,jP,jP]
   refine⟨⟨⟨h3.1,jC.2 fun x hx=>kD.2 (hp.mem_iff.1 (zbz.2 ⟨i,hi,hx⟩))⟩,h3.2⟩,jC.2 fun x hx=>jG (zbs.2 fun m hm hxm=>?_)⟩
   obtain⟨_,e1⟩:=gm i hi
   obtain⟨hm',e2⟩:=gm m (by omega)
   rw[e1] at hx
   rw[e2] at hxm
   exact kV.1 hd m i hm' hi hm x hxm x hx rfl
  obtain⟨m,hm,hxm⟩:=zbz.1 (hp.mem_iff.2 hx)
  refine Int.not_lt.1 fun h=>zbs.1 h m hm hxm
 rintro⟨h1,h2⟩
 have h3:∀ i,i<p.length->setB (p.getD i [])=true/\partB (p.getD i []) ids=true/\fstB p i=true /\ ∀ x∈p.getD i [],whr p x i<0:=fun i hi=>by
  have:=h1 i (kI.2 hi)
  unfold plc1 at this
  rw[jP,jP,jP,jC] at this
  exact⟨this.1.1.1,this.1.1.2,this.1.2,fun x hx=>kQ (this.2 x hx)⟩
 refine⟨fun i hi=>?_,?_⟩
 ·have:=h3 i (kI.1 hi)
  rw[jP]; exact⟨this.1,this.2.2.1⟩
 have hn:p.flatten.Nodup:=by
  refine List.pairwise_flatten.2 ⟨fun s hs=>?_,kV.2 fun i j hi hj hij x hx y hy e=>?_⟩
  ·obtain⟨m,hm,rfl⟩:=kP hs
   obtain⟨_,e⟩:=gm m hm
   rw[<- e]
   exact zaA (zc6 (h3 m hm).1).1
  subst e
  obtain⟨_,e1⟩:=gm i hi
  obtain⟨_,e2⟩:=gm j hj
  rw[<- e1] at hx
  rw[<- e2] at hy
  exact zbs.1 ((h3 j hj).2.2.2 x hy) i hij hx
 have hp:p.flatten.Perm ids:=zfw hn (zaA hr) fun x=>by
  rw[zbz]
  constructor
  ·rintro⟨m,hm,hx⟩
   have:=(h3 m hm).2.1
   exact kD.1 (jC.1 this x hx)
  intro hx
  have:=kQ (h2 x hx)
  obtain⟨m,hm⟩:=Int.eq_ofNat_of_zero_le this
  exact⟨m,zfc hm⟩
 refine zdJ ?_ (zix hr) ((qW _ _).trans hp)
 exact List.pairwise_mergeSort (le:=fun x y=>decide (x<=y)) (fun a b c h1 h2=>by
  have h1:=kQ h1
  have h2:=kQ h2
  exact jG (by omega)) (fun a b=>by
  rw[jX,kJ,kJ]
  omega) _
def ixP (ids:List Int) (p:List (List Int)):List Nat:=ids.map fun x=>(whr p x p.length).toNat
theorem zd4 (ids:List Int) (p:List (List Int)):(ixP ids p).length=ids.length:=kU _
theorem zp2 {ids:List Int} {p:List (List Int)} {k:Nat} (h:k<ids.length):(ixP ids p).getD k 0=(whr p (ids.getD k 0) p.length).toNat:=by
 unfold ixP
 rw[hU,jU,kF h,hU,kF h]; rfl
theorem zrv {n:Nat}:∀ {ix:List Nat},(∀ x∈ix,x<n)->mst ix<=n:=by
 intro ix
 induction ix using snocInd with
 | h0=>intro _; exact jF _
 | h1 l x ih=>
 intro h
 have h1:=ih fun y hy=>h y (qE _ hy)
 have h2:=h x (by simp)
 rw[zdt]; omega
section
variable {ids:List Int} {p:List (List Int)} (hr:ids.Pairwise (· < ·)) (h1:plcB ids p=true) (h2:fndB ids p=true)
include h1
theorem zcf {i:Nat} (hi:i<p.length):setB (p.getD i [])=true/\partB (p.getD i []) ids=true/\fstB p i=true /\ ∀ x∈p.getD i [],whr p x i<0:=by
 unfold plcB at h1
 have:=jC.1 h1 i (kI.2 hi)
 unfold plc1 at this
 rw[jP,jP,jP,jC] at this
 exact⟨this.1.1.1,this.1.1.2,this.1.2,fun x hx=>kQ (this.2 x hx)⟩
theorem zpE {x:Int} {m:Nat} (hm:m<p.length) (hx:x∈p.getD m []):whr p x p.length=(m:Int):=by
 have h3:¬ whr p x p.length<0:=fun h=>zbs.1 h m hm hx
 obtain⟨k,hk⟩:=Int.eq_ofNat_of_zero_le (Int.not_lt.1 h3)
 obtain⟨k1,k2⟩:=zfc hk
 rw[hk]
 by_cases e:k=m
 ·rw[e]
 rcases Nat.lt_or_gt_of_ne e with e | e
 ·exact absurd k2 (zbs.1 ((zcf h1 hm).2.2.2 x hx) k e)
 exact absurd hx (zbs.1 ((zcf h1 k1).2.2.2 x k2) m e)
theorem zks {x:Int} {m:Nat} (hm:m<p.length) (hx:x∈p.getD m []):∃ k,k<ids.length/\ids.getD k 0=x:=by
 have:=kD.1 (jC.1 (zcf h1 hm).2.1 x hx)
 obtain⟨k,hk,rfl⟩:=kP this
 exact⟨k,hk,by rw[hU,kF hk]; rfl⟩
include h2
theorem zge {k m:Nat} (hk:k<ids.length):(m<p.length/\ids.getD k 0∈p.getD m []) ↔ (ixP ids p).getD k 0=m:=by
 rw[zp2 hk]
 constructor
 ·rintro⟨hm,hx⟩
  rw[zpE h1 hm hx]; rfl
 intro e
 have hx:ids.getD k 0∈ids:=by rw[hU,kF hk]; exact kT hk
 have:=kQ (jC.1 h2 _ hx)
 have e2:whr p (ids.getD k 0) p.length=(m:Int):=by omega
 exact zfc e2
include hr
theorem zrM {i k:Nat} (hi:i<ids.length) (hk:k<ids.length) (h:ids.getD k 0<ids.getD i 0):k<i:=by
 refine Nat.lt_of_not_le fun hh=>?_
 by_cases e:i=k
 ·subst e; omega
 have:=kV.1 hr i k hi hk (by omega)
 rw[hU,hU,kF hi,kF hk] at h
 simp at h
 omega
theorem zoG:Rg (ixP ids p):=fun i hi=>by
 rw[zd4] at hi
 obtain⟨hm,hx⟩:=(zge h1 h2 hi).2 (rfl:(ixP ids p).getD i 0=_)
 generalize (ixP ids p).getD i 0=m at hm hx
 rcases jat m with e | e
 ·omega
 have s1:=zcf h1 hm
 have s2:=zcf h1 (show m - 1<p.length by omega)
 have f1:(p.getD (m - 1) []).getD 0 0<(p.getD m []).getD 0 0:=by
  have:=s1.2.2.1
  unfold fstB at this
  rw[jH (by omega:¬ m=0),wL] at this
  exact kQ this
 have l1:=zc6 s1.1
 have l2:=zc6 s2.1
 have f2:(p.getD m []).getD 0 0<=ids.getD i 0:=by
  obtain⟨j,hj,ej⟩:=kP hx
  rw[<- ej,hU,kF l1.2]
  show (p.getD m [])[0]<=(p.getD m [])[j]
  by_cases e0:j=0
  ·subst e0; exact Int.le_refl _
  exact wE (kV.1 l1.1 0 j l1.2 hj (by omega))
 have hf:(p.getD (m - 1) []).getD 0 0∈p.getD (m - 1) []:=by rw[hU (i:=0),kF l2.2]; exact kT l2.2
 obtain⟨k,hk,ek⟩:=zks h1 (show m - 1<p.length by omega) hf
 have hki:=zrM hr h1 h2 hi hk (by rw[ek]; omega)
 have hix:=(zge h1 h2 (m:=m - 1) hk).1 ⟨by omega,by rw[ek]; exact hf⟩
 have:=zcx (ix:=ixP ids p) hki (by rw[zd4]; omega)
 omega
theorem zfn:setX ids (ixP ids p)=p:=by
 have hR:=zoG hr h1 h2
 have hl:=zd4 ids p
 have hlen:(bitX (ixP ids p)).length=p.length:=by
  unfold bitX
  rw[zcN hR _ (jE _),jZ]
  refine Nat.le_antisymm (zrv fun x hx=>?_) ?_
  ·obtain⟨k,hk,rfl⟩:=kP hx
   rw[hl] at hk
   refine ((zge h1 h2 hk).2 ?_).1
   rw[hU,kF (by omega)]; rfl
  rcases jat p.length with e | e
  ·omega
  have l2:=zc6 (zcf h1 (show p.length - 1<p.length by omega)).1
  have hf:(p.getD (p.length - 1) []).getD 0 0∈p.getD (p.length - 1) []:=by rw[hU (i:=0),kF l2.2]; exact kT l2.2
  obtain⟨k,hk,ek⟩:=zks h1 (show p.length - 1<p.length by omega) hf
  have hix:=(zge h1 h2 (m:=p.length - 1) hk).1 ⟨by omega,by rw[ek]; exact hf⟩
  have:=zcx (ix:=ixP ids p) (k:=(ixP ids p).length) (show k<_ by omega) (jE _)
  rw[jZ] at this
  omega
 unfold setX
 refine List.ext_getElem (by rw[kU,hlen]) fun m g1 g2=>?_
 rw[List.getElem_map]
 rw[kU] at g1
 have hb:=zl5 hR (ixP ids p).length (jE _) m g1
 have e1:(bitX (ixP ids p))[m]=(bitX (ixP ids p)).getD m 0:=by rw[hU,kF g1]; rfl
 have e2:p[m]=p.getD m []:=by rw[hU,kF g2]; rfl
 rw[e1,e2]
 have key:∀ k,k<ids.length->(ids.getD k 0∈memb ids ((bitX (ixP ids p)).getD m 0) ↔ ids.getD k 0∈p.getD m []):=fun k hk=>by
  rw[zaU (zaA hr) hk]
  unfold bitX
  rw[hb k,jP,kJ,jaf,<- zge h1 h2 hk]
  exact⟨fun h=>h.2.2,fun h=>⟨by omega,g2,h⟩⟩
 refine zkU (hr.sublist (zby ids _)) (zc6 (zcf h1 g2).1).1 fun x=>⟨fun hx=>?_,fun hx=>?_⟩
 ·obtain⟨k,hk,rfl⟩:=kP ((zby ids _).subset hx)
  have:=(key k hk).1
  rw[hU (l:=ids),kF hk] at this
  exact this hx
 obtain⟨k,hk,rfl⟩:=zks h1 g2 hx
 exact (key k hk).2 hx
end
def tbX (q:List Int->Bool) (ids:List Int) (m:Nat):Bool:=decide (0<m) && q (memb ids m)
theorem zir (q:List Int->Bool) (ids:List Int):prt q ids []=(gwX (tbX q ids) ids.length []).map (setX ids):=by
 unfold gwX
 rw[zdQ]
 have e1:(rgs ids.length (mst [])).map (([]:List Nat) ++ ·)=rgs ids.length 0:=by
  show (rgs ids.length 0).map (fun x=>[]++x)=_
  simp
 rw[e1]
 have hm:∀ ix∈rgs ids.length 0,Rg ix/\ix.length=ids.length:=fun ix hx=>zgc _ [] zh9 ix hx
 show List.filter _ ((rgs ids.length 0).map (bld ids []))=_
 generalize rgs ids.length 0=L at hm
 have hb:∀ ix∈L,bld ids [] ix=setX ids ix:=fun ix hx=>zhK (hm ix hx).1 (hm ix hx).2 ids.length 0 (qH _)
 rw[qL hb,List.filter_map]
 congr 1
 refine jbu fun ix hx=>?_
 show (setX ids ix).all _=(bitX ix).all (tbX q ids)
 unfold setX
 rw[List.all_map,kO,jC,jC]
 refine forall_congr' fun m=>forall_congr' fun hmm=>?_
 unfold tbX
 rw[jG (zbj ix ix.length m hmm).1,kN]
 exact jbq
theorem zoo:∀ (iy ix:List Nat),Rg (ix++iy)->iy∈rgs iy.length (mst ix)
 | [],ix,_=>kM.2 rfl
 | k :: iy,ix,h=>by
  have hk:=h ix.length (by simp)
  rw[hU,jK (jE _),kE,List.take_append_of_le_length (jE _),jZ] at hk
  have hk:k<=mst ix:=hk
  have:=zoo iy (ix ++ [k]) (by rw[List.append_assoc]; exact h)
  rw[zdt] at this
  show k :: iy∈rgs (iy.length+1) (mst ix)
  rw[zh8]
  exact List.mem_flatMap.2 ⟨k,kI.2 (by omega),kK.2 ⟨iy,this,rfl⟩⟩
theorem zoJ {p:Nat->Bool} {n:Nat} {ix:List Nat}:ix∈gwX p n [] ↔ Rg ix/\ix.length=n/\(bitX ix).all p=true:=by
 constructor
 ·intro h
  exact⟨(zoI h).1,(zoI h).2,(kW.1 h).2⟩
 rintro⟨h1,rfl,h3⟩
 refine kW.2 ⟨kK.2 ⟨ix,?_,rfl⟩,h3⟩
 exact zoo ix [] h1
section
variable {ids:List Int} (hr:ids.Pairwise (· < ·)) {ix:List Nat} (hR:Rg ix) (hl:ix.length=ids.length)
include hR
theorem zn2:(bitX ix).length=mst ix:=by
 have:=zcN hR ix.length (jE _)
 rwa [jZ] at this
theorem zop:∀ k,k<=ix.length -> ∀ v,v<mst (ix.take k) -> ∃ j,j<k/\ix.getD j 0=v
 | 0,_,v,h=>by have h:v<0:=h; omega
 | k+1,hk,v,h=>by
  rw[zfx (by omega)] at h
  have hc:=hR k (by omega)
  by_cases e:v<mst (ix.take k)
  ·obtain⟨j,h1,h2⟩:=zop k (by omega) v e
   exact⟨j,by omega,h2⟩
  exact⟨k,by omega,by omega⟩
include hr hl
theorem zgb {k m:Nat} (hk:k<ids.length):(m<(setX ids ix).length/\ids.getD k 0∈(setX ids ix).getD m []) ↔ ix.getD k 0=m:=by
 have hlen:(setX ids ix).length=(bitX ix).length:=kU _
 have key:m<(bitX ix).length->(ids.getD k 0∈(setX ids ix).getD m [] ↔ ix.getD k 0=m):=fun hm=>by
  unfold setX
  rw[zfK hm,zaU (zaA hr) hk]
  unfold bitX
  rw[zl5 hR ix.length (jE _) m hm k,jP,kJ,jaf]
  exact⟨fun h=>h.2,fun h=>⟨by omega,h⟩⟩
 constructor
 ·rintro⟨hm,hx⟩
  exact (key (by omega)).1 hx
 intro e
 have hm:m<(bitX ix).length:=by
  rw[zn2 hR,<- e]
  have:=zcx (ix:=ix) (k:=ix.length) (show k<ix.length by omega) (jE _)
  rwa [jZ] at this
 exact⟨by omega,(key hm).2 e⟩
theorem zpi {m:Nat} (hm:m<(setX ids ix).length):∃ b,0<b/\b<2 ^ ids.length/\(setX ids ix).getD m []=memb ids b:=by
 have hlen:(setX ids ix).length=(bitX ix).length:=kU _
 have hb:=zbj ix ix.length ((bitX ix).getD m 0) (by
  show (bitX ix).getD m 0∈bitX ix
  rw[hU,kF (by omega)]; exact kT (by omega))
 refine⟨(bitX ix).getD m 0,hb.1,by rw[<- hl]; exact hb.2,?_⟩
 unfold setX
 rw[zfK (by omega)]
theorem zj4 {m:Nat} (hm:m<(setX ids ix).length):((setX ids ix).getD m []).Pairwise (· < ·)/\0<((setX ids ix).getD m []).length /\ ∀ x∈(setX ids ix).getD m [],∃ k,k<ids.length/\ids.getD k 0=x:=by
 obtain⟨b,b1,b2,e⟩:=zpi hr hR hl hm
 rw[e]
 have hs:=zby ids b
 refine⟨hr.sublist hs,ja6.2 (zfz b1 b2),fun x hx=>?_⟩
 obtain⟨k,hk,rfl⟩:=kP (hs.subset hx)
 exact⟨k,hk,by rw[hU,kF hk]; rfl⟩
theorem zq5:plcB ids (setX ids ix)=true/\fndB ids (setX ids ix)=true:=by
 have lt_setB:∀ {s:List Int},s.Pairwise (· < ·)->0<s.length->setB s=true:=fun {s} h1 h2=>by
  unfold setB risB
  rw[jP]
  refine⟨jC.2 fun j hj=>jG ?_,jG h2⟩
  have hj:=kI.1 hj
  rw[hU,hU,kF (by omega),kF (by omega)]
  exact kV.1 h1 j (j+1) (by omega) (by omega) (by omega)
 constructor
 ·refine jC.2 fun m hm=>?_
  have hm:=kI.1 hm
  obtain⟨s1,s2,s3⟩:=zj4 hr hR hl hm
  unfold plc1
  rw[jP,jP,jP]
  refine⟨⟨⟨lt_setB s1 s2,jC.2 fun x hx=>kD.2 ?_⟩,?_⟩,jC.2 fun x hx=>jG (zbs.2 fun j hj hxj=>?_)⟩
  ·obtain⟨k,hk,rfl⟩:=s3 x hx
   rw[hU,kF hk]; exact kT hk
  ·unfold fstB
   by_cases e:m=0
   ·rw[jG e,qY]
   rw[jH e,wL]
   refine jG ?_
   have hf:((setX ids ix).getD m []).getD 0 0∈(setX ids ix).getD m []:=by rw[hU (i:=0),kF s2]; exact kT s2
   obtain⟨k,hk,ek⟩:=s3 _ hf
   have hix:=(zgb hr hR hl (m:=m) hk).1 ⟨hm,by rw[ek]; exact hf⟩
   have hrk:=hR k (by omega)
   obtain⟨j,hj,ej⟩:=zop hR k (by omega) (m - 1) (by omega)
   obtain⟨hm',hxj⟩:=(zgb hr hR hl (m:=m - 1) (show j<ids.length by omega)).2 ej
   obtain⟨t1,t2,_⟩:=zj4 hr hR hl hm'
   obtain⟨i,hi,ei⟩:=kP hxj
   have f1:((setX ids ix).getD (m - 1) []).getD 0 0<=ids.getD j 0:=by
    rw[<- ei,hU (i:=0),kF t2]
    show ((setX ids ix).getD (m - 1) [])[0]<=((setX ids ix).getD (m - 1) [])[i]
    by_cases e0:i=0
    ·subst e0; exact Int.le_refl _
    exact wE (kV.1 t1 0 i t2 hi (by omega))
   have f2:ids.getD j 0<ids.getD k 0:=by
    rw[hU,hU,kF (by omega),kF hk]
    exact kV.1 hr j k (by omega) hk hj
   omega
  obtain⟨k,hk,rfl⟩:=s3 x hx
  have a:=(zgb hr hR hl (m:=m) hk).1 ⟨hm,hx⟩
  have b:=(zgb hr hR hl (m:=j) hk).1 ⟨by omega,hxj⟩
  omega
 refine jC.2 fun x hx=>jG (Int.not_lt.1 fun hn=>?_)
 obtain⟨k,hk,rfl⟩:=kP hx
 have:=(zgb hr hR hl hk).2 rfl
 refine zbs.1 hn _ this.1 ?_
 have h2:=this.2
 rwa [hU (l:=ids),kF hk] at h2
end
theorem zhj {ids:List Int} (hr:ids.Pairwise (· < ·)) (q:List Int->Bool) (p:List (List Int)):p∈prt q ids [] ↔ divB ids p=true/\p.all q=true:=by
 rw[zir,kK,zlz hr,jP]
 constructor
 ·rintro⟨ix,hx,rfl⟩
  obtain⟨h1,h2,h3⟩:=zoJ.1 hx
  refine⟨zq5 hr h1 h2,?_⟩
  unfold setX
  rw[List.all_map,jC]
  intro m hm
  have:=jC.1 h3 m hm
  unfold tbX at this
  rw[jP] at this
  exact this.2
 rintro⟨⟨h1,h2⟩,h3⟩
 refine⟨ixP ids p,zoJ.2 ⟨zoG hr h1 h2,zd4 ids p,jC.2 fun m hm=>?_⟩,zfn hr h1 h2⟩
 unfold tbX
 rw[jG (zbj _ _ m hm).1,kN]
 refine jC.1 h3 _ ?_
 rw[<- zfn hr h1 h2]
 exact kK.2 ⟨m,hm,rfl⟩
def posB (d:Day) (s:List Int):Bool:=decide (0<(plsD d s).length)
def cprR (d:Day) (p:List (List Int)):Int:=if dayE d≠0 then dayE d else if (divB (sigL d.R) p && p.all (posB d))=true then 0 else 8
theorem znK {ids:List Int} (hr:ids.Pairwise (· < ·)) {p:List (List Int)} (hp:divB ids p=true) {s:List Int} (hs:s∈p):∃ b,0<b/\b<2 ^ ids.length/\s=memb ids b:=by
 rw[zlz hr,jP] at hp
 obtain⟨h1,h2⟩:=hp
 have e:=zfn hr h1 h2
 rw[<- e] at hs
 obtain⟨b,hb,rfl⟩:=kK.1 hs
 have:=zbj _ _ b hb
 rw[zd4] at this
 exact⟨b,this.1,this.2,rfl⟩
theorem zqj {d:Day} (h:dayE d=0) (p:List (List Int)):p∈parts d ↔ cprR d p=0:=by
 have ok:=zap h
 have h7:=sig7 ok
 have key:divB (sigL d.R) p=true->(p.all fun s=>fitK d (ksD d) (bitS (sigL d.R) s))=p.all (posB d):=fun hp=>by
  rw[kO,jC,jC]
  refine forall_congr' fun s=>forall_congr' fun hs=>?_
  obtain⟨b,b1,b2,rfl⟩:=znK ok.lt hp hs
  rw[zgP ok.nod h7 b2,zbP h b1 b2,zbO h b1 b2]
  exact jbq
 unfold cprR
 rw[kG (fun hh=>hh h),show parts d=prt (fun s=>fitK d (ksD d) (bitS (sigL d.R) s)) (sigL d.R) [] from rfl,zhj ok.lt]
 constructor
 ·rintro⟨h1,h2⟩
  rw[kH (by rw[h1,<- key h1,h2]; rfl)]
 intro hh
 by_cases hc:(divB (sigL d.R) p && p.all (posB d))=true
 ·rw[jP] at hc
  exact⟨hc.1,by rw[key hc.1]; exact hc.2⟩
 rw[kG hc] at hh
 cases hh
structure Jns where
  F:List Fit
  M:List Mis
abbrev Jns.v (j:Jns):V1:=.agg [lFt j.F,lMs j.M]
theorem zjZ {d:Day} {x:Fit} (h:x∈(tabR d).1):x.IDs.length<=1000000:=by
 unfold tabR at h
 split at h
 ·cases h
 rename_i h0
 have h7:=sig7 (zap (jL h0))
 have h:=(qW _ _).mem_iff.1 h
 obtain⟨m,_,_,_,rfl⟩:=za2 h
 exact jM (zbd _ _ _) (by omega)
theorem zjY {d:Day} {x:Mis} (h:x∈(tabR d).2.1):x.IDs.length<=1000000/\x.R.length<=1000000:=by
 unfold tabR at h
 split at h
 ·cases h
 rename_i h0
 have h7:=sig7 (zap (jL h0))
 have h:=(qW _ _).mem_iff.1 h
 obtain⟨m,_,_,_,rfl⟩:=za2 h
 refine⟨jM (zbd _ _ _) (by omega),?_⟩
 show (misR d _).length<=_
 unfold misR
 split
 ·exact zpr
 exact jF _
theorem zoh (d:Day):(tabR d).1.length<=1000000/\(tabR d).2.1.length<=1000000:=by
 unfold tabR
 split
 ·exact⟨jF _,jF _⟩
 rename_i h0
 have h7:=sig7 (zap (jL h0))
 have hp:2 ^ (sigL d.R).length<=2 ^ 7:=jau (by decide) h7
 show (srtF _).length<=_/\(srtM _).length<=_
 unfold srtF srtM
 rw[kY,kY]
 exact⟨jM (zcn _ _ _) (by omega),jM (zcn _ _ _) (by omega)⟩
theorem zgQ (ids s:List Int):∀ i j,(bitA ids s i).testBit j=(decide (j<i) && s.contains (ids.getD j 0))
 | 0,j=>by show (0:Nat).testBit j=_; simp
 | i+1,j=>by
  have ih:=zgQ ids s i
  rw[zbW]
  by_cases e:s.contains (ids.getD i 0)=true
  ·rw[kH e,zdj,ih]
   by_cases e2:i=j
   ·subst e2; rw[e,jG (rfl:i=i),jG (Nat.lt_succ_self i),qJ]; rfl
   rw[jH e2,jaj]
   congr 1
   exact wF.2 (by omega)
  rw[kG e,ih]
  by_cases e2:i=j
  ·subst e2
   rw[Bool.not_eq_true] at e
   rw[e,qP,qP]
  congr 1
  exact wF.2 (by omega)
theorem zeo (ids s:List Int) (j:Nat):(bitS ids s).testBit j=(decide (j<ids.length) && s.contains (ids.getD j 0)):=zgQ ids s ids.length j
theorem zep (ids s:List Int):bitS ids s<2 ^ ids.length:=Nat.lt_pow_two_of_testBit _ fun j hj=>by
 rw[zeo,jH (by omega),kZ]
theorem zgi {ids s:List Int} (hr:ids.Pairwise (· < ·)) (h1:setB s=true) (h2:partB s ids=true):memb ids (bitS ids s)=s/\0<bitS ids s:=by
 have hs:=zc6 h1
 have key:memb ids (bitS ids s)=s:=by
  refine zkU (hr.sublist (zby ids _)) hs.1 fun x=>⟨fun hx=>?_,fun hx=>?_⟩
  ·obtain⟨k,hk,rfl⟩:=kP ((zby ids _).subset hx)
   have e:ids.getD k 0=ids[k]:=by rw[hU,kF hk]; rfl
   rw[<- e] at hx ⊢
   have:=(zaU (zaA hr) hk).1 hx
   rw[zeo,jP] at this
   exact kD.1 this.2
  have:=kD.1 (jC.1 h2 x hx)
  obtain⟨k,hk,rfl⟩:=kP this
  have e:ids.getD k 0=ids[k]:=by rw[hU,kF hk]; rfl
  rw[<- e] at hx ⊢
  refine (zaU (zaA hr) hk).2 ?_
  rw[zeo,jG hk,kD.2 hx]; rfl
 refine⟨key,Nat.pos_of_ne_zero fun e=>?_⟩
 rw[e,zgh] at key
 rw[<- key] at hs
 exact absurd hs.2 (by simp)
theorem zcv {ids:List Int} (hr:ids.Pairwise (· < ·)) {k b:Nat} (hk:k<2 ^ ids.length) (hb:b<2 ^ ids.length):partB (memb ids k) (memb ids b)=decide (k &&& b=k):=by
 rw[kO,kJ,zba]
 unfold partB
 rw[jC]
 constructor
 ·intro h i hi
  have hl:=zen hk hi
  exact (zaU (zaA hr) hl).1 (kD.1 (h _ ((zaU (zaA hr) hl).2 hi)))
 intro h x hx
 obtain⟨i,hi,rfl⟩:=kP ((zby ids _).subset hx)
 have e:ids.getD i 0=ids[i]:=by rw[hU,kF hi]; rfl
 rw[<- e] at hx ⊢
 exact kD.2 ((zaU (zaA hr) hi).2 (h i ((zaU (zaA hr) hi).1 hx)))
def alwQ (d:Day) (f:Fit) (r:Rpt):Bool:=decide ((alwR d.s (brnD d f.IDs) r f.At).2=0) && (alwR d.s (brnD d f.IDs) r f.At).1
def shoB (d:Day) (ids:List Int):Bool:=decide ((brnD d ids).To - (brnD d ids).From<=d.Long)
def ckFt (d:Day) (f:Fit):Bool:=setB f.IDs && partB f.IDs (sigL d.R) && (shoB d f.IDs && (lstD d f.IDs).all (alwQ d f))
def ckMs (d:Day) (m:Mis):Bool:=setB m.IDs && partB m.IDs (sigL d.R) && (if shoB d m.IDs=true then decide (chkR d.s (brnD d m.IDs) (lstD d m.IDs) [] m.R=0) else decide (m.R.length=0))
def hasB (F:List Fit) (l:List Int):Bool:=F.any fun f=>partB l f.IDs
def fndM (M:List Mis) (l:List Int):Bool:=M.any fun m=>partB m.IDs l
def stT (ids:List Int) (j:Jns) (k:Nat):Bool:=hasB j.F (memb ids k) || fndM j.M (memb ids k)
def allT (ids:List Int) (j:Jns):Bool:=(List.range (2 ^ ids.length)).all fun k=>decide (k=0) || stT ids j k
def ctbE (d:Day) (j:Jns):Int:=if dayE d≠0 then dayE d else if 127<j.F.length \/ 127<j.M.length then 2 else if (j.F.all (ckFt d) && j.M.all (ckMs d))=false then 8 else if allT (sigL d.R) j=false then 8 else 0
theorem zmb {d:Day} {ids:List Int} (h:askE d ids=0):setB ids=true/\partB ids (sigL d.R)=true:=by
 unfold askE at h
 split at h
 ·rename_i h1; exact absurd h h1
 split at h
 ·cases h
 rename_i h2
 split at h
 ·cases h
 rename_i h3
 exact⟨by simpa using h2,by simpa using h3⟩
theorem zi5 {d:Day} {f:Fit} {r:Rpt} (h:alwQ d f r=true):onM d.s.c.M f.At=true/\allB d.s (brnD d f.IDs) r f.At=true:=by
 unfold alwQ at h
 rw[jP,kJ] at h
 obtain⟨h1,h2⟩:=h
 unfold alwR at h1 h2
 split at h1
 ·rename_i h3; exact absurd h1 h3
 rename_i h3
 rw[kG h3] at h2
 split at h1
 ·cases h1
 rename_i h4
 rw[kG h4] at h2
 split at h1
 ·rename_i h5; exact absurd h1 h5
 rename_i h5
 rw[kG h5] at h2
 split at h1
 ·cases h1
 rename_i h6
 rw[kG h6] at h2
 exact⟨by simpa using h6,h2⟩
theorem zrp {m:Mp} {p:Place} (h:onM m p=true):∃ n,n<m.w * m.h/\plc m n=p:=by
 obtain⟨⟨x0,x1⟩,y0,y1⟩:=zah.1 h
 obtain⟨x,hx⟩:=Int.eq_ofNat_of_zero_le x0
 obtain⟨y,hy⟩:=Int.eq_ofNat_of_zero_le y0
 have hxw:x<m.w:=by unfold Mp.w; omega
 have hyh:y<m.h:=by unfold Mp.h; omega
 refine⟨y * m.w+x,?_,?_⟩
 ·have h1:(y+1) * m.w<=m.h * m.w:=jW _ hyh
  rw[qC,Nat.one_mul] at h1
  rw[qI m.w m.h]; omega
 rw[zkt hxw,<- hx,<- hy]
theorem znT {d:Day} (h:dayE d=0) {f:Fit} (hf:ckFt d f=true):fitX d (bitS (sigL d.R) f.IDs)=true/\memb (sigL d.R) (bitS (sigL d.R) f.IDs)=f.IDs:=by
 have ok:=zap h
 unfold ckFt at hf
 rw[jP,jP,jP] at hf
 obtain⟨⟨h1,h2⟩,h3,h4⟩:=hf
 obtain⟨m1,m2⟩:=zgi ok.lt h1 h2
 have hb:=zep (sigL d.R) f.IDs
 have ha:=zcb h m2 hb
 rw[m1] at ha
 refine⟨?_,m1⟩
 rw[zbO h m2 hb]
 show decide (0<(plsD d (memb (sigL d.R) (bitS (sigL d.R) f.IDs))).length)=true
 rw[m1]
 have h4:=jC.1 h4
 obtain⟨r,hr,hc⟩:=kL.1 ha
 have hl:r∈lstD d f.IDs:=kW.2 ⟨hr,by unfold offB; rw[hc]; simp⟩
 obtain⟨n,n1,n2⟩:=zrp (zi5 (h4 r hl)).1
 refine jG (List.length_pos_of_mem (a:=f.At) ?_)
 rw[zdT ok ha,kH (kQ h3)]
 refine zb2.2 ⟨n,n1,?_,n2⟩
 unfold metP
 rw[jC]
 intro P hP
 obtain⟨q,hq,rfl⟩:=kK.1 hP
 unfold alwP alwK
 rw[jG n1,n2,(zi5 (h4 q hq)).2]; rfl
theorem znR {d:Day} (h:dayE d=0) {m:Mis} (hm:ckMs d m=true):fitX d (bitS (sigL d.R) m.IDs)=false/\memb (sigL d.R) (bitS (sigL d.R) m.IDs)=m.IDs/\0<bitS (sigL d.R) m.IDs:=by
 have ok:=zap h
 unfold ckMs at hm
 rw[jP,jP] at hm
 obtain⟨⟨h1,h2⟩,h3⟩:=hm
 obtain⟨m1,m2⟩:=zgi ok.lt h1 h2
 have hb:=zep (sigL d.R) m.IDs
 have ha:=zcb h m2 hb
 rw[m1] at ha
 refine⟨?_,m1,m2⟩
 rw[zbO h m2 hb]
 show decide (0<(plsD d (memb (sigL d.R) (bitS (sigL d.R) m.IDs))).length)=false
 rw[m1,zdT ok ha]
 by_cases hs:shoB d m.IDs=true
 ·rw[kH hs] at h3
  rw[kH (kQ hs)]
  have h3:=kQ h3
  unfold chkR at h3
  split at h3
  ·rename_i h4; exact absurd h3 h4
  split at h3
  ·rename_i h5
   rw[<- znP h5]; rfl
  cases h3
 rw[kG fun hh=>hs (jG hh)]; rfl
theorem zjW {d:Day} (h:dayE d=0) {j:Jns} (hj:ctbE d j=0) {k:Nat} (h0:0<k) (hk:k<2 ^ (sigL d.R).length):fitX d k=hasB j.F (memb (sigL d.R) k):=by
 have ok:=zap h
 unfold ctbE at hj
 rw[kG (fun hh=>hh h)] at hj
 split at hj
 ·cases hj
 split at hj
 ·cases hj
 split at hj
 ·cases hj
 rename_i h1 h2
 have h1:(j.F.all (ckFt d) && j.M.all (ckMs d))=true:=by simpa using h1
 have h2:allT (sigL d.R) j=true:=by simpa using h2
 rw[jP,jC,jC] at h1
 rw[kO]
 constructor
 ·intro hf
  have:=jC.1 h2 k (kI.2 hk)
  rw[jH (by omega),wL] at this
  unfold stT at this
  rw[jX] at this
  refine this.resolve_right fun hm=>?_
  obtain⟨m,hm1,hm2⟩:=kL.1 hm
  obtain⟨g1,g2,g3⟩:=znR h (h1.2 m hm1)
  rw[<- g2,zcv ok.lt (zep _ _) hk,kJ] at hm2
  rw[zcF h g3 hm2 hk hf] at g1
  cases g1
 intro hf
 obtain⟨f,hf1,hf2⟩:=kL.1 hf
 obtain⟨g1,g2⟩:=znT h (h1.1 f hf1)
 rw[<- g2,zcv ok.lt hk (zep _ _),kJ] at hf2
 exact zcF h h0 hf2 (zep _ _) g1
theorem zg0 {α:Type} {p:Nat->Bool} {f:Nat->α}:∀ {m k:Nat},0<k->k<m->p k=true->f k∈tabA p f m
 | 0,k,_,h,_=>by omega
 | m+1,k,h0,h,hp=>by
  unfold tabA
  by_cases e:k=m
  ·subst e
   rw[kH ⟨by omega,hp⟩]; simp
  have:=zg0 (f:=f) h0 (show k<m by omega) hp
  split
  ·exact qE _ this
  exact this
theorem zdH {α:Type} (p:Nat->Bool) (f:Nat->α):∀ m,(tabA p f (m+1)).length<=m
 | 0=>by simp[tabA]
 | m+1=>by
  have:=zdH p f m
  rw[tabA]
  split
  ·rw[jR,wD]; omega
  omega
theorem zoe {p:Nat->Bool} {N:Nat}:∀ (u k:Nat),N - k<=u->0<k->k<N->p k=true -> ∃ m,0<m/\m<N/\k &&& m=k/\greX p N m=true
 | 0,k,h,_,h2,_=>by omega
 | u+1,k,h,h1,h2,hp=>by
  by_cases hl:lonK p k N=true
  ·exact⟨k,h1,h2,Nat.and_self k,by unfold greX; rw[hl,hp]; rfl⟩
  rw[zdy] at hl
  obtain⟨o,hl⟩:=Classical.not_forall.1 hl
  obtain⟨o1,hl⟩:=Classical.not_imp.1 hl
  obtain⟨o2,hl⟩:=Classical.not_imp.1 hl
  obtain⟨o3,hl⟩:=Classical.not_imp.1 hl
  unfold badX at hl
  rw[hp] at hl
  simp only[kN,ja2,kZ,jaj,wA,jP,kA] at hl
  have hko:k<=o:=by rw[<- hl.2]; exact Nat.and_le_right
  obtain⟨m,m1,m2,m3,m4⟩:=zoe u o (by omega) o1 o2 hl.1
  refine⟨m,m1,m2,?_,m4⟩
  rw[zba] at *
  exact fun i hi=>m3 i (hl.2 i hi)
theorem ziR {p:Nat->Bool} {N:Nat}:∀ (u k:Nat),k<=u->0<k->k<N->p k=false -> ∃ m,0<m/\m<N/\m &&& k=m/\leaX p N m=true
 | 0,k,h,h0,_,_=>by omega
 | u+1,k,h,h1,h2,hp=>by
  by_cases hl:lonK p k N=true
  ·exact⟨k,h1,h2,Nat.and_self k,by unfold leaX; rw[hl,hp]; rfl⟩
  rw[zdy] at hl
  obtain⟨o,hl⟩:=Classical.not_forall.1 hl
  obtain⟨o1,hl⟩:=Classical.not_imp.1 hl
  obtain⟨o2,hl⟩:=Classical.not_imp.1 hl
  obtain⟨o3,hl⟩:=Classical.not_imp.1 hl
  unfold badX at hl
  rw[hp] at hl
  simp only[kZ,Bool.not_false,kN,wL,wA,jP,kA,jY] at hl
  have hko:o<=k:=by rw[<- hl.2]; exact Nat.and_le_right
  obtain⟨m,m1,m2,m3,m4⟩:=ziR u o (by omega) o1 o2 hl.1
  refine⟨m,m1,m2,?_,m4⟩
  rw[zba] at *
  exact fun i hi=>hl.2 i (m3 i hi)
theorem znS {d:Day} (h:dayE d=0) {k:Nat} (h0:0<k) (hk:k<2 ^ (sigL d.R).length) (hp:fitX d k=true):ckFt d (fitF d k)=true:=by
 have ok:=zap h
 have ha:=zcb h h0 hk
 obtain⟨s1,s2⟩:=zmb (zfX h (zfz h0 hk))
 rw[zbO h h0 hk] at hp
 have hl:0<(plsD d (memb (sigL d.R) k)).length:=kQ hp
 have hm:(plsD d (memb (sigL d.R) k)).getD 0 default∈plsD d (memb (sigL d.R) k):=by rw[hU,kF hl]; exact kT hl
 unfold ckFt
 show (setB (memb (sigL d.R) k) && partB (memb (sigL d.R) k) (sigL d.R) && (shoB d (memb (sigL d.R) k) && (lstD d (memb (sigL d.R) k)).all (alwQ d (fitF d k))))=true
 rw[s1,s2,kN,kN]
 have hpe:=zdT ok ha
 by_cases hs:(brnD d (memb (sigL d.R) k)).To - (brnD d (memb (sigL d.R) k)).From<=d.Long
 ·rw[kH hs] at hpe
  rw[show shoB d (memb (sigL d.R) k)=true from jG hs,kN,jC]
  intro r hr
  rw[hpe] at hm
  obtain⟨n,n1,n2,n3⟩:=zb2.1 hm
  unfold metP at n2
  have:=jC.1 n2 _ (kK.2 ⟨r,hr,rfl⟩)
  unfold alwP alwK at this
  rw[jP] at this
  have hon:=zos (zbI ok.s).c.m n1
  have hrp:=ok.rpt (kW.1 hr).1
  have e:(fitF d k).At=plc d.s.c.M n:=by
   show (plsD d (memb (sigL d.R) k)).getD 0 default=_
   rw[hpe,n3]
  have ea:alwR d.s (brnD d (fitF d k).IDs) r (fitF d k).At=(allB d.s (brnD d (memb (sigL d.R) k)) r (plc d.s.c.M n),0):=by
   rw[e]
   unfold alwR
   rw[kG (fun hh=>hh ok.s),kG (by rw[show brnB (brnD d (fitF d k).IDs)=true from zfS ok ha]; decide),kG (fun hh=>hh hrp.1),kG (by rw[hon]; decide)]
  unfold alwQ
  rw[ea,this.2]; rfl
 rw[kG hs] at hpe
 rw[hpe] at hl
 exact absurd hl (by simp)
theorem znQ {d:Day} (h:dayE d=0) {k:Nat} (h0:0<k) (hk:k<2 ^ (sigL d.R).length) (hp:fitX d k=false):ckMs d (misF d k)=true:=by
 have ok:=zap h
 have ha:=zcb h h0 hk
 obtain⟨s1,s2⟩:=zmb (zfX h (zfz h0 hk))
 rw[zbO h h0 hk] at hp
 have hl:(plsD d (memb (sigL d.R) k)).length=0:=by
  have:¬ 0<(plsD d (memb (sigL d.R) k)).length:=jaX hp
  omega
 unfold ckMs
 show (setB (memb (sigL d.R) k) && partB (memb (sigL d.R) k) (sigL d.R) && (if shoB d (memb (sigL d.R) k)=true then decide (chkR d.s (brnD d (memb (sigL d.R) k)) (lstD d (memb (sigL d.R) k)) [] (misR d (memb (sigL d.R) k))=0) else decide ((misR d (memb (sigL d.R) k)).length=0)))=true
 rw[s1,s2,kN,kN]
 have hpe:=zdT ok ha
 by_cases hs:(brnD d (memb (sigL d.R) k)).To - (brnD d (memb (sigL d.R) k)).From<=d.Long
 ·rw[kH hs] at hpe
  have hg:=zhv ok (zfS ok ha) (memb (sigL d.R) k)
  rw[kH (show shoB d (memb (sigL d.R) k)=true from jG hs)]
  refine jG ?_
  have er:misR d (memb (sigL d.R) k)=rsnK d.s (lstD d (memb (sigL d.R) k)) ((lstD d (memb (sigL d.R) k)).map (alwP d.s (brnD d (memb (sigL d.R) k)))) d.s.n:=by
   unfold misR rsnR
   rw[kH hs,kG (fun hh=>hh hg)]
  have hc:=zhD hg
  rw[<- hpe,jag.1 hl,<- er] at hc
  unfold chkR
  rw[kG (fun hh=>hh hg),kH hc]
 rw[kG (show ¬ shoB d (memb (sigL d.R) k)=true from fun hh=>hs (kQ hh))]
 refine jG ?_
 unfold misR
 rw[kG hs]; rfl
theorem zjX {d:Day} (h:dayE d=0):ctbE d ⟨(tabR d).1,(tabR d).2.1⟩=0:=by
 have ok:=zap h
 have h7:=sig7 ok
 have hN:2 ^ (sigL d.R).length<=2 ^ 7:=jau (by decide) h7
 have e:tabR d=(srtF (tabA (greB d (ksD d)) (fitF d) (2 ^ (sigL d.R).length)),srtM (tabA (leaB d (ksD d)) (misF d) (2 ^ (sigL d.R).length)),0):=by unfold tabR; rw[kG (fun hh=>hh h)]
 rw[e]
 have hF:∀ f,f∈srtF (tabA (greB d (ksD d)) (fitF d) (2 ^ (sigL d.R).length)) ↔ f∈tabA (greB d (ksD d)) (fitF d) (2 ^ (sigL d.R).length):=fun f=>(qW _ _).mem_iff
 have hM:∀ f,f∈srtM (tabA (leaB d (ksD d)) (misF d) (2 ^ (sigL d.R).length)) ↔ f∈tabA (leaB d (ksD d)) (misF d) (2 ^ (sigL d.R).length):=fun f=>(qW _ _).mem_iff
 have lF:(srtF (tabA (greB d (ksD d)) (fitF d) (2 ^ (sigL d.R).length))).length<=127:=by
  rw[show (srtF (tabA (greB d (ksD d)) (fitF d) (2 ^ (sigL d.R).length))).length=_ from kY _]
  obtain⟨q,hq⟩:∃ q,2 ^ (sigL d.R).length=q+1:=⟨2 ^ (sigL d.R).length - 1,by have:=Nat.two_pow_pos (sigL d.R).length; omega⟩
  rw[hq]
  have:=zdH (greB d (ksD d)) (fitF d) q
  omega
 have lM:(srtM (tabA (leaB d (ksD d)) (misF d) (2 ^ (sigL d.R).length))).length<=127:=by
  rw[show (srtM (tabA (leaB d (ksD d)) (misF d) (2 ^ (sigL d.R).length))).length=_ from kY _]
  obtain⟨q,hq⟩:∃ q,2 ^ (sigL d.R).length=q+1:=⟨2 ^ (sigL d.R).length - 1,by have:=Nat.two_pow_pos (sigL d.R).length; omega⟩
  rw[hq]
  have:=zdH (leaB d (ksD d)) (misF d) q
  omega
 unfold ctbE
 rw[kG (fun hh=>hh h),kG (by dsimp only; omega),kG,kG]
 ·rw[wA]
  refine jC.2 fun k hk=>?_
  have hk:=kI.1 hk
  by_cases h0:k=0
  ·rw[jG h0,qY]
  rw[jH h0,wL]
  unfold stT
  rw[jX]
  cases hp:fitX d k with
  | true=>
   left
   obtain⟨m,m1,m2,m3,m4⟩:=zoe (2 ^ (sigL d.R).length) k (by omega) (by omega) hk hp
   rw[<- zoK h m1 m2] at m4
   refine kL.2 ⟨fitF d m,(hF _).2 (zg0 m1 m2 m4),?_⟩
   show partB (memb (sigL d.R) k) (memb (sigL d.R) m)=true
   rw[zcv ok.lt hk m2,jG m3]
  | false=>
  right
  obtain⟨m,m1,m2,m3,m4⟩:=ziR k k (jE _) (by omega) hk hp
  rw[<- zoA h m1 m2] at m4
  refine kL.2 ⟨misF d m,(hM _).2 (zg0 m1 m2 m4),?_⟩
  show partB (memb (sigL d.R) m) (memb (sigL d.R) k)=true
  rw[zcv ok.lt m2 hk,jG m3]
 rw[wA,jP,jC,jC]
 refine⟨fun f hf=>?_,fun f hf=>?_⟩
 ·obtain⟨k,k1,k2,k3,rfl⟩:=za2 ((hF f).1 hf)
  rw[zoK h k1 k2] at k3
  unfold greX at k3
  rw[jP] at k3
  exact znS h k1 k2 k3.2
 obtain⟨k,k1,k2,k3,rfl⟩:=za2 ((hM f).1 hf)
 rw[zoA h k1 k2] at k3
 unfold leaX at k3
 rw[jP,jY] at k3
 exact znQ h k1 k2 k3.2
theorem zkz {d:Day} {a b:Int} (h:parE d a b=0):dayE d=0/\(sigL d.R).contains a=true/\(sigL d.R).contains b=true:=by
 unfold parE at h
 split at h
 ·rename_i h1; exact absurd h h1
 rename_i h1
 split at h
 ·cases h
 rename_i h2
 have h2:partB [a,b] (sigL d.R)=true:=by simpa using h2
 rw[zrg,jP] at h2
 exact⟨jL h1,h2⟩
theorem zpl {d:Day} {a b:Int}:((samR d a b).1.T.length<=1000000 /\ ∀ s∈(samR d a b).1.T,s.length<=1000000)/\(samR d a b).1.A.length<=1000000 /\ ∀ s∈(samR d a b).1.A,s.length<=1000000:=by
 unfold samR
 split
 ·exact⟨⟨jF _,fun s hs=>by cases hs⟩,jF _,fun s hs=>by cases hs⟩
 rename_i h0
 have h0:parE d a b=0:=jL h0
 split
 ·exact⟨⟨jF _,fun s hs=>by cases hs⟩,jF _,fun s hs=>by cases hs⟩
 have ok:=zkA h0
 have key:∀ p:List (List Int)->Bool,(fstP p (bsts d)).length<=1000000 /\ ∀ s∈fstP p (bsts d),s.length<=1000000:=fun p=>by
  unfold fstP
  cases hf:(bsts d).find? p with
  | none=>exact⟨jF _,fun s hs=>by cases hs⟩
  | some x=>
  have hx:=List.mem_of_find?_eq_some hf
  have hx:x∈parts d:=by
   rw[show bsts d=fltP (fwP (parts d)) (parts d) from zlX] at hx
   exact (kW.1 hx).1
  obtain⟨h1,h2⟩:=zct ok hx
  exact⟨by show x.length<=_; omega,fun s hs=>by have:=h2 s hs; omega⟩
 exact⟨key _,key _⟩
abbrev prtF (F:List Fit) (ids:List Int):List (List (List Int)):=prt (hasB F) ids []
def shoW (ids:List Int) (F:List Fit) (n:Nat) (a b:Int) (p:List (List Int)) (nd one:Bool):Bool:=if nd=false then decide (p.length=0) else divB ids p && decide (p.length=n) && (togB a b p==one) && p.all (hasB F)
def csmE (d:Day) (j:Jns) (a b:Int) (v:Vdt):Int:=
 if parE d a b≠0 then parE d a b else if 127<j.F.length then 2 else if (bstL (prtF j.F (sigL d.R))).length=0 then 9
 else if v.Ans≠(vdtR (bstL (prtF j.F (sigL d.R))) a b).Ans \/ shoW (sigL d.R) j.F ((bstL (prtF j.F (sigL d.R))).getD 0 []).length a b v.T (decide (v.Ans≠1)) true=false \/ shoW (sigL d.R) j.F ((bstL (prtF j.F (sigL d.R))).getD 0 []).length a b v.A (decide (v.Ans≠2)) false=false then 8 else 0
theorem zlY {L:List (List (List Int))} {p:List (List Int)} (h:p∈bstL L):p.length=((bstL L).getD 0 []).length:=by
 have e2:bstL L=fltP (fwP L) L:=zlX
 rw[e2] at h ⊢
 have hne:fltP (fwP L) L ≠ []:=List.ne_nil_of_mem h
 have h1:=zef hne
 have h2:=(kW.1 h).2
 have h2:(p.length:Int)=fwP L:=by simpa using h2
 omega
theorem zqf {d:Day} (h:dayE d=0) {j:Jns} {a b:Int} (hp:parE d a b=0) (h1:¬ 127<j.F.length) (he:prtF j.F (sigL d.R)=parts d) (hn:(bsts d).length≠0):csmE d j a b (vdtR (bsts d) a b)=0:=by
 have ok:=zap h
 have hm:∀ {p},p∈bsts d->divB (sigL d.R) p=true/\p.all (hasB j.F)=true:=fun {p} hq=>by
  have:p∈prtF j.F (sigL d.R):=by rw[he]; exact zca hq
  exact (zhj ok.lt _ p).1 this
 have fst:∀ (q:List (List Int)->Bool) (one:Bool),(∀ p,q p=true->togB a b p=one)->(bsts d).any q=true->shoW (sigL d.R) j.F ((bsts d).getD 0 []).length a b (fstP q (bsts d)) true one=true:=fun q one hq hany=>by
  unfold fstP
  cases hf:(bsts d).find? q with
  | none=>
   obtain⟨x,hx,hx2⟩:=kL.1 hany
   exact absurd hx2 (List.find?_eq_none.1 hf x hx)
  | some x=>
  have hx:=List.mem_of_find?_eq_some hf
  have hx2:=List.find?_some hf
  obtain⟨g1,g2⟩:=hm hx
  unfold shoW
  rw[kG (by decide)]
  show (divB (sigL d.R) x && decide (x.length=((bsts d).getD 0 []).length) && (togB a b x==one) && x.all (hasB j.F))=true
  rw[g1,g2,jG (zlY hx),hq x hx2]
  simp
 have no:∀ (q:List (List Int)->Bool) (one:Bool),(bsts d).any q=false->shoW (sigL d.R) j.F ((bsts d).getD 0 []).length a b (fstP q (bsts d)) false one=true:=fun q one hany=>by
  rw[zlp hany]
  rfl
 unfold csmE
 rw[kG (fun hh=>hh hp),kG h1,he,kG hn,kG]
 rintro (hh | hh | hh)
 ·exact hh rfl
 ·refine absurd hh ?_
  rw[wA]
  unfold vdtR
  by_cases c1:(bsts d).any (togB a b)=true
  ·rw[kH c1]
   have:=fst (togB a b) true (fun p hq=>hq) c1
   split
   ·exact this
   exact this
  rw[kG c1]
  exact no _ _ (by simpa using c1)
 refine absurd hh ?_
 rw[wA]
 unfold vdtR
 by_cases c2:((bsts d).any fun p=>!togB a b p)=true
 ·have:=fst (fun p=>!togB a b p) false (fun p hq=>by simpa using hq) c2
  by_cases c1:(bsts d).any (togB a b)=true
  ·rw[kH c1,kH c2]; exact this
  rw[kG c1]; exact this
 have c1:(bsts d).any (togB a b)=true:=by
  have hl:0<(bsts d).length:=by omega
  have hx:(bsts d)[0]∈bsts d:=kT hl
  refine kL.2 ⟨_,hx,?_⟩
  have c2:((bsts d).any fun p=>!togB a b p)=false:=by simpa using c2
  have:=wI.1 c2 _ hx
  simpa using this
 rw[kH c1,kG c2]
 exact no _ _ (by simpa using c2)
theorem zjj {d:Day} (h:dayE d=0) {j:Jns} (hj:ctbE d j=0):prtF j.F (sigL d.R)=parts d:=by
 rw[show prtF j.F (sigL d.R)=_ from zir (hasB j.F) (sigL d.R),zpG h]
 congr 1
 unfold gwD gwX
 refine jbu fun ix hx=>?_
 obtain⟨iy,hy,e⟩:=kK.1 hx
 have e:ix=iy:=e.symm
 subst e
 have hl:=(zgc _ [] zh9 ix hy).2
 rw[kO,jC,jC]
 refine forall_congr' fun m=>forall_congr' fun hm=>?_
 have hb:=zbj ix ix.length m hm
 rw[hl] at hb
 unfold tbX
 rw[jG hb.1,kN,zjW h hj hb.1 hb.2]
end Go.Pg
namespace Go.Pg
open Go.Proofs Go.Shelf Go.RowKit Go.Lib Go.Sort
variable {P:Program} {ρ:Ren}
theorem SpecT.congr {P:Program} {f:FuncId} {pre post:List V1} {e k n n' n2:Nat} {g g' g2:Nat->Nat->D} (h:SpecT P f pre post e k n g n' g') (hn:n'=n2) (hg:∀ m,m<n2 -> ∀ j,j<k->g' m j=g2 m j):SpecT P f pre post e k n g n2 g2:=by
 subst hn
 refine⟨h.1,fun w ok vs us v xs h1 h2 h3 h4=>(h.2 w ok vs us v xs h1 h2 h3 h4).mono ?_⟩
 rintro en w' ⟨v',e1,e2,e3,xs',e4,e5,e6⟩
 exact⟨v',e1,e2,e3,xs',e4,e5,fun m hm j hj=>by rw[<- hg m hm j hj]; exact e6 m hm j hj⟩
theorem zqo {s:Svc} {b:Brn} {S:List Rpt} {p:Place} (hon:onM s.c.M p=true) (h:∀ r∈S,allB s b r p=true):∃ n,n<s.n/\plc s.c.M n=p /\ ∀ r∈S,alwP s b r n=true:=by
 obtain⟨⟨x1,x2⟩,y1,y2⟩:=zah.1 hon
 have ew:(s.c.M.w:Int)=s.c.M.W:=by show ((s.c.M.W.toNat:Nat):Int)=s.c.M.W; omega
 have eh:(s.c.M.h:Int)=s.c.M.H:=by show ((s.c.M.H.toNat:Nat):Int)=s.c.M.H; omega
 have hx:p.X.toNat<s.c.M.w:=by omega
 have hy:p.Y.toNat<s.c.M.h:=by omega
 have ep:plc s.c.M (p.Y.toNat * s.c.M.w+p.X.toNat)=p:=by
  rw[zkt hx]
  cases p with
  | mk X Y=>rw[Place.mk.injEq]; dsimp only at *; omega
 have hn:p.Y.toNat * s.c.M.w+p.X.toNat<s.n:=by
  have:=jW s.c.M.w (show p.Y.toNat+1<=s.c.M.h from hy)
  rw[Nat.succ_mul] at this
  show _<s.c.M.w * s.c.M.h
  rw[qI s.c.M.w]; omega
 refine⟨_,hn,ep,fun r hr=>?_⟩
 show (decide (_<s.n) && allB s b r (plc s.c.M _))=true
 rw[jG hn,ep,h r hr]; rfl
theorem znU {s:Svc} {b:Brn} {S:List Rpt} {p:Place} (h0:givE s b S=0) (hon:onM s.c.M p=true) (h:∀ r∈S,allB s b r p=true):p∈(plcR s b S).1:=by
 obtain⟨n,h1,h2,h3⟩:=zqo hon h
 unfold plcR
 rw[kG (fun hh=>hh h0)]
 unfold plsL plsK
 refine kK.2 ⟨n,kW.2 ⟨kI.2 h1,?_⟩,h2⟩
 unfold metP
 rw[jC]
 intro P hP
 obtain⟨r,hr,rfl⟩:=kK.1 hP
 exact h3 r hr
theorem zpD {d:Day} (h:DayOk d) {ids:List Int} {p:Place} (hB:(d.R.any fun r=>ids.contains r.ID)=true) (hl:(brnD d ids).To - (brnD d ids).From<=d.Long) (hon:onM d.s.c.M p=true) (ha:∀ r∈lstD d ids,allB d.s (brnD d ids) r p=true):p∈plsD d ids:=by
 unfold plsD
 rw[kH hl]
 exact znU (zhv h (zfS h hB) ids) hon ha
theorem zqy {d:Day} (h:dayE d=0) {p:List (List Int)} (hp:p∈parts d):(fewR d).2=0/\(fewR d).1<=p.length/\((fewR d).1=p.length->p∈bsts d)/\(bsts d).length≠0:=by
 have e2:bsts d=fltP (fwP (parts d)) (parts d):=zlX
 have hne:fltP (fwP (parts d)) (parts d) ≠ []:=fun hh=>by
  have:=ziM hh
  rw[this] at hp; cases hp
 have hl:(bsts d).length≠0:=by rw[e2]; exact fun hh=>hne (jag.1 hh)
 have hd:=zef hne
 have ef:fewR d=(((((bsts d).getD 0 []).length:Nat):Int),0):=by unfold fewR; rw[kG (fun hh=>hh h),kG hl]
 have hm:=(zlo (l:=parts d)).2.1 p hp
 rw[e2,hd] at ef
 rw[ef]
 refine⟨rfl,hm,fun he=>?_,hl⟩
 rw[e2]
 unfold fltP
 exact kW.2 ⟨hp,by have he:fwP (parts d)=p.length:=he; simp[he]⟩
theorem zo0 {l:List (List (List Int))} {a b:Int} {p:List (List Int)} (hp:p∈l) (h:(vdtR l a b).Ans=2):togB a b p=true:=by
 unfold vdtR at h
 dsimp only at h
 split at h
 ·split at h
  ·cases h
  rename_i g
  cases ht:togB a b p with
  | true=>rfl
  | false=>exact absurd (kL.2 ⟨p,hp,by rw[ht]; rfl⟩) g
 cases h
theorem zqL {l:List (List (List Int))} {a b:Int} {p:List (List Int)} (hp:p∈l) (h:(vdtR l a b).Ans=1):togB a b p=false:=by
 unfold vdtR at h
 dsimp only at h
 split at h
 ·split at h <;> cases h
 rename_i g
 cases ht:togB a b p with
 | false=>rfl
 | true=>exact absurd (kL.2 ⟨p,hp,ht⟩) g
theorem zmr {d:Day} (h:dayE d=0) {p:List (List Int)} (hd:divB (sigL d.R) p=true) (hp:∀ s∈p,∃ q,q∈plsD d s):cprR d p=0/\p∈parts d:=by
 have hc:cprR d p=0:=by
  unfold cprR
  rw[kG (fun hh=>hh h),kH]
  rw[hd,kN,jC]
  intro s hs
  obtain⟨q,hq⟩:=hp s hs
  unfold posB
  exact jG (List.length_pos_of_mem hq)
 exact⟨hc,(zqj h p).2 hc⟩
def stnB (d:Day) (id:Int) (q:Place) (p:List (List Int)):Bool:=p.any fun s=>s.contains id && (plsD d s).contains q
def staB (d:Day) (id:Int) (n:Nat):Bool:=(bsts d).any (stnB d id (plc d.s.c.M n))
def staR (d:Day) (id:Int):List Place × Int:=
 if dayE d≠0 then ([],dayE d) else if (sigL d.R).contains id=false then ([],5) else if (bsts d).length=0 then ([],9) else (plsL d.s.c.M (staB d id),0)
theorem zpc {d:Day} {id:Int} {q:Place} {p:List (List Int)}:stnB d id q p=true ↔ ∃ s∈p,s.contains id=true/\q∈plsD d s:=by
 unfold stnB
 rw[kL]
 refine exists_congr fun s=>and_congr_right fun _=>?_
 rw[jP,kD (a:=q)]
theorem zio (d:Day) (s:List Int):(plsD d s).length<=2401:=by
 unfold plsD
 split
 ·exact zm2 _ _ _
 simp
theorem zkl {L:List Place} {p q:Place}:q∈putPl L p ↔ q∈L \/ q=p:=by
 unfold putPl
 split
 ·rename_i h
  exact⟨.inl,fun g=>g.elim id fun e=>e ▸ h⟩
 rw[kR,kM]
abbrev bxDy (d:Day):Ob:=.box (d.ds.map AV.d)
abbrev mpPl (L:List Place):Ob:=.mp 2 (L.map plK) fun _=>.bool true
theorem znq (d:Day) (id:Int) (hn:d.R.length<=1000000):Spec PP 18 [d.v,N id] [.d (lP (staR d id).1),.d (.int .i64 (staR d id).2)]:=by
 refine sA Tryz.func18 ?_
 refine cP (zbD d hn) rfl rfl ?_
 unfold staR
 apply bY <;> intro h0
 ·rw[kH (by simpa using h0)]
  exact⟨⟨_,_,_,_,rfl,rfl,.inl rfl⟩,rtI rfl rfl,trivial⟩
 have h0:dayE d=0:=by simpa using h0
 have h:=zap h0
 rw[kG (fun hh=>hh h0)]
 refine cR (zar d hn) rfl rfl ?_
 refine cP (zc7 (sigL d.R) id (by have:=sig7 h; omega)) rfl rfl ?_
 apply bY <;> intro h1
 ·rw[kH (by simpa using h1)]
  exact⟨⟨_,_,_,_,rfl,rfl,.inl rfl⟩,rtI rfl rfl,trivial⟩
 have h1:(sigL d.R).contains id=true:=by simpa using h1
 rw[kG (by rw[h1]; decide)]
 refine cR (zfH h) rfl rfl ?_
 by_cases h2:(bsts d).length=0
 ·have e:bsR d=([],9):=by unfold bsR; rw[kH h2]
  rw[e,kH h2]
  refine sT ?_
  exact⟨⟨_,_,_,_,rfl,rfl,.inl rfl⟩,rtI rfl rfl,trivial⟩
 have e:bsR d=(bsts d,0):=by unfold bsR; rw[kG h2]
 rw[e,kG h2]
 refine sF ?_
 have hl:(bsts d).length<=1000000:=by have:(bsts d).length<=(parts d).length:=zcJ (parts d); have:=zcu h; omega
 have hp:∀ p∈bsts d,p.length<=1000000 /\ ∀ s∈p,s.length<=1000000:=fun p hp=>by
  have:=zct h (zca hp)
  exact⟨by omega,fun s hs=>by have:=this.2 s hs; omega⟩
 generalize hB:bsts d=l at *
 refine lOf (σ:=Nat × List Place) (fun x=>([(1,.d (I id)),(2,.box 2 0),(9,.own 38),(39,.d (lPP l)),(40,.d (I l.length)),(41,.d (I x.1))],[(2,bxDy d),(38,mpPl x.2)])) (fun x=>x.1<=l.length /\ ∀ q,q∈x.2 ↔ ∃ p∈l.take x.1,stnB d id q p=true) (fun x=>l.length - x.1) (0,[])
  ⟨rfl,⟨obD d.ds rfl,obMp rfl ⟨rfl,rfl,fun j hj=>absurd hj (qQ _)⟩,trivial⟩,wq rfl⟩ ⟨jF _,by simp⟩ fun x hx=>?_
 obtain⟨i,L⟩:=x
 obtain⟨hi,hL⟩:=hx
 have hi:i<=l.length:=hi
 have hL:∀ q,q∈L ↔ ∃ p∈l.take i,stnB d id q p=true:=hL
 apply bY <;> intro k1
 ·have k1:i<l.length:=by have:=dT k1; omega
  have hpi:=hp _ (gd1 k1 [])
  refine⟨⟨rfl,by omega,by omega⟩,?_⟩
  refine lOf (σ:=Nat × List Place) (fun x=>([(1,.d (I id)),(2,.box 2 0),(9,.own 38),(39,.d (lPP l)),(40,.d (I l.length)),(41,.d (I i)),(45,.d (lII (l.getD i []))),(46,.d (I (l.getD i []).length)),(47,.d (I x.1))],[(2,bxDy d),(38,mpPl x.2)])) (fun x=>x.1<=(l.getD i []).length /\ ∀ q,q∈x.2 ↔ q∈L \/ stnB d id q ((l.getD i []).take x.1)=true) (fun x=>(l.getD i []).length - x.1) (0,L)
   ⟨rfl,⟨obD d.ds rfl,obMp rfl (dE _),trivial⟩,wq rfl⟩ ⟨jF _,fun q=>by simp[stnB]⟩ fun x hx=>?_
  obtain⟨k,M⟩:=x
  obtain⟨hk,hM⟩:=hx
  have hk:k<=(l.getD i []).length:=hk
  have hM:∀ q,q∈M ↔ q∈L \/ stnB d id q ((l.getD i []).take k)=true:=hM
  apply bY <;> intro k2
  ·have k2:k<(l.getD i []).length:=by have:=dT k2; omega
   have hs:=hpi.2 _ (gd1 k2 [])
   have step:∀ q,stnB d id q ((l.getD i []).take (k+1))=(stnB d id q ((l.getD i []).take k) || (((l.getD i []).getD k []).contains id && (plsD d ((l.getD i []).getD k [])).contains q)):=fun q=>by
    unfold stnB
    rw[zay k2 [],List.any_append]; simp
   refine⟨⟨rfl,by omega,by omega⟩,?_⟩
   refine cP (zc7 ((l.getD i []).getD k []) id hs) rfl rfl ?_
   apply bY <;> intro k3
   ·have k3:((l.getD i []).getD k []).contains id=false:=by simpa using k3
    refine⟨i6,?_⟩
    refine⟨(k+1,M),⟨rfl,⟨obD d.ds rfl,obMp rfl (dE _),trivial⟩,wq rfl⟩,⟨k2,fun q=>?_⟩,msr k2⟩
    rw[step,k3,kZ,jaj]; exact hM q
   have k3:((l.getD i []).getD k []).contains id=true:=by simpa using k3
   have hpl:=zio d ((l.getD i []).getD k [])
   refine cR (zdC h ((l.getD i []).getD k []) hs) rfl rfl ?_
   generalize hQ:plsD d ((l.getD i []).getD k [])=Q at *
   refine lOf (σ:=Nat × List Place) (fun x=>([(1,.d (I id)),(2,.box 2 0),(9,.own 38),(39,.d (lPP l)),(40,.d (I l.length)),(41,.d (I i)),(45,.d (lII (l.getD i []))),(46,.d (I (l.getD i []).length)),(47,.d (I k)),(57,.d (lP Q)),(58,.d (I Q.length)),(59,.d (I x.1))],[(2,bxDy d),(38,mpPl x.2)])) (fun x=>x.1<=Q.length /\ ∀ q,q∈x.2 ↔ q∈M \/ q∈Q.take x.1) (fun x=>Q.length - x.1) (0,M)
    ⟨rfl,⟨obD d.ds rfl,obMp rfl (dE _),trivial⟩,wq rfl⟩ ⟨jF _,fun q=>by simp⟩ fun x hx=>?_
   obtain⟨m,W⟩:=x
   obtain⟨hm,hW⟩:=hx
   have hm:m<=Q.length:=hm
   have hW:∀ q,q∈W ↔ q∈M \/ q∈Q.take m:=hW
   apply bY <;> intro k4
   ·have k4:m<Q.length:=by have:=dT k4; omega
    refine⟨⟨rfl,by omega,by omega⟩,?_⟩
    refine⟨⟨kPl,rfl⟩,?_⟩
    refine⟨i6,?_⟩
    refine⟨(m+1,putPl W (Q.getD m default)),⟨rfl,⟨obD d.ds rfl,obMp rfl (zq6 W (Q.getD m default)),trivial⟩,wq rfl⟩,⟨k4,fun q=>?_⟩,msr k4⟩
    show q∈putPl W (Q.getD m default) ↔ q∈M \/ q∈Q.take (m+1)
    rw[zkl,hW,zay k4 default,kR,kM,or_assoc]
   have k4:m=Q.length:=by have:=dF k4; omega
   subst k4
   refine⟨i6,?_⟩
   refine⟨(k+1,W),⟨rfl,⟨obD d.ds rfl,obMp rfl (dE _),trivial⟩,wq rfl⟩,⟨k2,fun q=>?_⟩,msr k2⟩
   show q∈W ↔ q∈L \/ stnB d id q ((l.getD i []).take (k+1))=true
   rw[hW,hM,step,k3,kN,jX,jZ,kD,or_assoc]
  have k2:k=(l.getD i []).length:=by have:=dF k2; omega
  subst k2
  refine⟨i6,?_⟩
  refine⟨(i+1,M),⟨rfl,⟨obD d.ds rfl,obMp rfl (dE _),trivial⟩,wq rfl⟩,⟨k1,fun q=>?_⟩,msr k1⟩
  show q∈M ↔ ∃ p∈l.take (i+1),stnB d id q p=true
  rw[hM,jZ,hL,zay k1 []]
  constructor
  ·rintro (⟨r,hr,g⟩ | g)
   ·exact⟨r,kR.2 (.inl hr),g⟩
   exact⟨_,kR.2 (.inr (kM.2 rfl)),g⟩
  rintro⟨r,hr,g⟩
  rcases kR.1 hr with hr | hr
  ·exact .inl ⟨r,hr,g⟩
  rw[kM.1 hr] at g; exact .inr g
 have k1:i=l.length:=by have:=dF k1; omega
 subst k1
 rw[jZ] at hL
 have eB:∀ n,staB d id n=decide (plc d.s.c.M n∈L):=fun n=>by
  unfold staB
  rw[hB,kO,kJ,hL,kL]
 obtain⟨wW,wH,-,-⟩:=zag (zbI h.s).c.m
 have ew:(d.s.c.M.w:Int)=d.s.c.M.W:=by show ((d.s.c.M.W.toNat:Nat):Int)=d.s.c.M.W; omega
 have eh:(d.s.c.M.h:Int)=d.s.c.M.H:=by show ((d.s.c.M.H.toNat:Nat):Int)=d.s.c.M.H; omega
 have hwh:=zbv (zbI h.s).c.m
 have bd:∀ y x:Nat,y<d.s.c.M.h->x<d.s.c.M.w->y * d.s.c.M.w+x<2401:=fun y x hy hx=>by
  have:=jW d.s.c.M.w (show y+1<=d.s.c.M.h from hy)
  rw[Nat.succ_mul,qI d.s.c.M.h] at this
  omega
 generalize hS:staB d id=S at *
 generalize hMw:d.s.c.M.w=w at *
 generalize hMh:d.s.c.M.h=hh at *
 refine lOf (σ:=Nat) (fun y=>([(2,.box 2 0),(9,.own 38),(16,.own 16),(72,.d (I d.s.c.M.H)),(73,.d (I y))],[(2,bxDy d),(38,mpPl L),(16,.row 63 2 (plsK d.s.c.M S (y * w)).length (rowP (plsK d.s.c.M S (y * w))))])) (fun y=>y<=hh) (fun y=>hh - y) 0
  ⟨rfl,⟨obD d.ds rfl,obMp rfl (dE _),obR rfl ⟨by rw[Nat.zero_mul]; rfl,.inl rfl⟩,trivial⟩,wq rfl⟩ (jF _) fun y hy=>?_
 have hy:y<=hh:=hy
 apply bY <;> intro m1
 ·have m1:y<hh:=by have:=dT m1; omega
  refine lOf (σ:=Nat) (fun x=>([(2,.box 2 0),(9,.own 38),(16,.own 16),(17,.d (I y)),(72,.d (I d.s.c.M.H)),(73,.d (I y)),(80,.d (I d.s.c.M.W)),(81,.d (I x))],[(2,bxDy d),(38,mpPl L),(16,.row 63 2 (plsK d.s.c.M S (y * w+x)).length (rowP (plsK d.s.c.M S (y * w+x))))])) (fun x=>x<=w) (fun x=>w - x) 0
   ⟨rfl,⟨obD d.ds rfl,obMp rfl (dE _),obR rfl (dE _),trivial⟩,wq rfl⟩ (jF _) fun x hx=>?_
  have hx:x<=w:=hx
  apply bY <;> intro m2
  ·have m2:x<w:=by have:=dT m2; omega
   have ep:plc d.s.c.M (y * w+x)=⟨(x:Int),(y:Int)⟩:=by rw[<- hMw]; exact zkt (by rw[hMw]; exact m2)
   have eb:=eB (y * w+x)
   rw[ep] at eb
   have hlen:=zds d.s.c.M S (y * w+x)
   have hb:=bd y x m1 m2
   refine⟨⟨kPl,rfl⟩,.bool (decide ((⟨(x:Int),(y:Int)⟩:Place)∈L)),D.eqv_of_eq (lk_pl L ⟨(x:Int),(y:Int)⟩),?_⟩
   rw[<- eb]
   apply bY <;> intro m3
   ·refine⟨⟨.inr rfl,by unfold maxLen; omega,by show ((plsK d.s.c.M S (y * w+x)).length+1) * 16<=140737488355328; omega⟩,?_⟩
    refine⟨i6,?_⟩
    refine⟨x+1,⟨rfl,⟨obD d.ds rfl,obMp rfl (dE _),obR rfl ?_,trivial⟩,wq rfl⟩,m2,msr m2⟩
    rw[<- jaI,zdr m3,ep]
    exact zq8 (at2 rfl rfl)
   refine⟨i6,?_⟩
   refine⟨x+1,⟨rfl,⟨obD d.ds rfl,obMp rfl (dE _),obR rfl ?_,trivial⟩,wq rfl⟩,m2,msr m2⟩
   rw[<- jaI,zfr m3]; exact dE _
  have m2:x=w:=by have:=dF m2; omega
  subst m2
  refine⟨i6,?_⟩
  refine⟨y+1,⟨rfl,⟨obD d.ds rfl,obMp rfl (dE _),obR rfl ?_,trivial⟩,wq rfl⟩,m1,msr m1⟩
  rw[Nat.succ_mul]; exact dE _
 have m1:y=hh:=by have:=dF m1; omega
 subst m1
 refine⟨⟨_,_,_,_,rfl,?_⟩,rtI rfl rfl,trivial⟩
 show D.eqv _ (lP (plsK d.s.c.M S (d.s.c.M.w * d.s.c.M.h)))
 rw[hMw,hMh,qI]
 exact dE _
end Go.Pg
