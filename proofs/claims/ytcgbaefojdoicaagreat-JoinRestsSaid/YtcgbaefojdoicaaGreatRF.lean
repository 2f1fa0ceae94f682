/- Texts joined and shortened by program. -/
import Derived.Test.YtcgbaefojdoicaaGreatRE
import Derived.Test.YtcgbaefojdoicaaGreatRD
import Derived.Test.YtcgbaefojdoicaaGreatRC
import Derived.Test.YtcgbaefojdoicaaGreatRA
set_option maxHeartbeats 4000000
set_option linter.all false
set_option maxRecDepth 100000
namespace Go.Pg
open Go.Proofs Go.RowKit Go.Sort Go.Shelf
theorem zcN {α:Type} {p q:α->Bool}:∀ {l:List α},(∀ x∈l,p x=q x)->l.find? p=l.find? q
 | [],_=>rfl
 | x :: l,h=>by
  rw[List.find?_cons,List.find?_cons,h x (qV ..),zcN fun y hy=>h y (qT _ hy)]
theorem zrr {ids:List Int} (hd:ids.Nodup) {l:List (List Nat)} (hl:∀ x∈l,Rg x/\x.length=ids.length) {i j:Nat} (hi:i<ids.length) (hj:j<ids.length) :
  vdtR (l.map (setX ids)) (ids.getD i 0) (ids.getD j 0)=vdtX ids l i j:=by
 have h1:∀ x∈l,togB (ids.getD i 0) (ids.getD j 0) (setX ids x)=samI i j x:=fun x hx=>zrw hd (hl x hx).1 (hl x hx).2 hi hj
 have f1:l.find? (togB (ids.getD i 0) (ids.getD j 0) ∘ setX ids)=l.find? (samI i j):=zcN h1
 have f2:l.find? ((fun p=>!togB (ids.getD i 0) (ids.getD j 0) p) ∘ setX ids)=l.find? fun x=>!samI i j x:=zcN fun x hx=>by
  show (!togB _ _ (setX ids x))=_
  rw[h1 x hx]
 have g1:(l.map (setX ids)).find? (togB (ids.getD i 0) (ids.getD j 0))=(l.find? (samI i j)).map (setX ids):=by rw[List.find?_map,f1]
 have g2:(l.map (setX ids)).find? (fun p=>!togB (ids.getD i 0) (ids.getD j 0) p)=(l.find? fun x=>!samI i j x).map (setX ids):=by rw[List.find?_map,f2]
 have any':∀ (p:List (List Int)->Bool) (L:List (List (List Int))),L.any p=(L.find? p).isSome:=fun p L=>by
  induction L with
  | nil=>rfl
  | cons x L ih=>
  rw[List.any_cons,List.find?_cons]
  cases p x with
  | true=>rfl
  | false=>rw[jaq]; exact ih
 unfold vdtR vdtX fstP
 rw[any',any',zb4,zb4,g1,g2,Option.isSome_map,Option.isSome_map]
theorem zo3 {l:List Int} {x:Int} (h:l.contains x=true):∃ i:Nat,i<l.length/\idxL (· == x) l=(i:Int)/\l.getD i 0=x:=by
 rcases idxL_cases (· == x) l 0 with⟨e,h1⟩ | ⟨i,hi,e,h1,_⟩
 ·have:=zjw l x
  rw[e,h] at this
  cases this
 exact⟨i,hi,e,eq_of_beq h1⟩
theorem zkI {d:Day} {a b:Int} (h:parE d a b=0):dayE d=0/\(sigL d.R).contains a=true/\(sigL d.R).contains b=true:=by
 unfold parE at h
 split at h
 ·rename_i h1; exact absurd h h1
 rename_i h1
 split at h
 ·cases h
 rename_i h2
 have h2:partB [a,b] (sigL d.R)=true:=by simpa using h2
 rw[zig,jP] at h2
 exact⟨jL h1,h2⟩
theorem zko (d:Day) (a b:Int) (hn:d.R.length<=1000000):Spec PP 41 [d.v,N a,N b] [.agg [I (samR d a b).1.Ans,lII (samR d a b).1.T,lII (samR d a b).1.A,I (samR d a b).2]]:=by
 refine sA Tryz.func41 ?_
 have hp:=zpU d a b hn
 by_cases h0:parE d a b=0
 ·obtain⟨hd,ha,hb⟩:=zkI h0
  have ok:=zb6 hd
  have h7:=sig7 ok
  obtain⟨i,hi,ei,rfl⟩:=zo3 ha
  obtain⟨j,hj,ej,rfl⟩:=zo3 hb
  have ep:prR d ((sigL d.R).getD i 0) ((sigL d.R).getD j 0)=(((i:Int),(j:Int)),0):=by unfold prR; rw[kG (fun hh=>hh h0),ei,ej]
  rw[ep] at hp
  have es:samR d ((sigL d.R).getD i 0) ((sigL d.R).getD j 0)=if (bstX (fitX d) (sigL d.R).length).length=0 then (⟨0,[],[]⟩,9) else (vdtX (sigL d.R) (bstX (fitX d) (sigL d.R).length) i j,0):=by
   unfold samR
   rw[kG (fun hh=>hh h0),zrb hd,kS,zrr (l:=bstX (fitX d) (sigL d.R).length) ok.nod (fun x hx=>ziA (kW.1 hx).1) hi hj]
  rw[es]
  have hbR:Rgs (bstX (fitX d) (sigL d.R).length):=fun x hx=>zlw h7 x (kW.1 hx).1
  have hbl:(bstX (fitX d) (sigL d.R).length).length<=1000000:=jM (zpj _ _) (zlx h7)
  have hbx:∀ x∈bstX (fitX d) (sigL d.R).length,i<x.length/\j<x.length:=fun x hx=>by
   have:=(ziA (kW.1 hx).1).2
   omega
  have hbest:=zpY (fitX d) _ h7
  generalize bstX (fitX d) (sigL d.R).length=l at hbR hbl hbx hbest ⊢
  refine cP hp rfl rfl ?_
  refine sF ?_
  refine CallSt.ro (zf7 d hn) rfl rfl ?_
  refine CallSt.ro (zpX ok) rfl rfl ?_
  refine CallSt.ro hbest rfl rfl ?_
  apply bY <;> intro h1
  ·have h1:l.length=0:=by
    have h1:((l.length:Nat):Int)=0:=by simpa using h1
    omega
   rw[kH h1]
   exact⟨rtC (a:=6) rfl rfl rfl rfl rfl rfl ⟨⟨rfl,rfl⟩,rfl,rfl,⟨rfl,rfl⟩,trivial⟩,trivial⟩
  have h1:¬ l.length=0:=by
   have h1:¬ ((l.length:Nat):Int)=0:=by simpa using h1
   omega
  rw[kG h1]
  refine CallSt.ro (zkl (sigL d.R) l i j h7 hbR hbl (fun e=>h1 (by rw[e]; rfl)) hbx) rfl rfl ?_
  exact⟨rtC (a:=6) rfl rfl rfl rfl rfl rfl (zaa _),trivial⟩
 have ep:prR d a b=((0,0),parE d a b):=by unfold prR; rw[kH h0]
 have es:samR d a b=(⟨0,[],[]⟩,parE d a b):=by unfold samR; rw[kH h0]
 rw[ep] at hp
 rw[es]
 refine cP hp rfl rfl ?_
 refine Split.yes (by simpa using h0) ?_
 exact⟨rtC (a:=6) rfl rfl rfl rfl rfl rfl ⟨⟨rfl,rfl⟩,rfl,rfl,⟨rfl,rfl⟩,trivial⟩,trivial⟩
theorem zjf (d:Day) (ids:List Int) (hn:d.R.length<=1000000) (hi:ids.length<=1000000):Spec PP 42 [d.v,.d (lI ids)] [(witD d ids).v]:=by
 refine zbU [8] Tryz.func42 rfl (by kernel_rfl) rfl ?_
 refine LoopOb.of (σ:=Nat) (fun i=>([(1,.d (lI ids)),(2,.box 2 0),(4,.box 4 0),(5,.own 5),(6,.d (I i))],[(2,.box (d.ds.map AV.d)),(4,.box (List.replicate 10 .any)),(5,.row 93 8 (witR ids (d.R.take i)).length (rowRp (witR ids (d.R.take i))))])) (fun i=>i<=d.R.length) (fun i=>d.R.length - i) 0
  ⟨rfl,⟨obD d.ds rfl,zaJ rfl rfl,obR rfl ⟨rfl,.inl rfl⟩,trivial⟩,wq rfl⟩ (jF _) fun i hi2=>?_
 have hi2:i<=d.R.length:=hi2
 have hl:=zeR ids (d.R.take i)
 rw[jQ] at hl
 apply bY <;> intro h1
 ·have h1:i<d.R.length:=by have:=dT h1; omega
  refine⟨⟨rfl,by omega,by omega⟩,?_⟩
  refine cP (zkp ids (d.R.getD i default).ID hi) rfl rfl ?_
  have hc:=zls ids (d.R.getD i default).ID
  apply bY <;> intro h2
  ·have h2:ids.contains (d.R.getD i default).ID=false:=by
    have h2:decide (idxL (· == (d.R.getD i default).ID) ids<0)=true:=h2
    rw[hc] at h2; simpa using h2
   refine⟨⟨rfl,by omega,by omega⟩,?_⟩
   refine⟨⟨.inr rfl,by unfold maxLen; omega,by show ((witR ids (d.R.take i)).length+1) * 64<=140737488355328; omega⟩,?_⟩
   refine⟨i6,?_⟩
   refine⟨i+1,⟨rfl,⟨obD d.ds rfl,zaJ rfl rfl,obR rfl ?_,trivial⟩,wq rfl⟩,h1,msr h1⟩
   rw[zmn h1 h2]
   exact zqe (rdR8 _)
  have h2:ids.contains (d.R.getD i default).ID=true:=by
   have h2:decide (idxL (· == (d.R.getD i default).ID) ids<0)=false:=h2
   rw[hc] at h2; simpa using h2
  refine⟨i6,?_⟩
  refine⟨i+1,⟨rfl,⟨obD d.ds rfl,zaJ rfl rfl,obR rfl ?_,trivial⟩,wq rfl⟩,h1,msr h1⟩
  rw[zpl h1 h2]
  exact dE _
 have h1:i=d.R.length:=by have:=dF h1; omega
 subst h1
 rw[jZ]
 refine CutOb.at [(2,.box 2 0),(4,.box 4 0)] [(2,.box ((witD d ids).ds.map AV.d)),(4,.box (List.replicate 10 .any))]
  ⟨rfl,⟨⟨dE _,dE _,dE _,dE _,dE _,dE _,dE _,dE _,dE _,⟨rfl,_,_,_,_,rfl,dE _⟩,trivial⟩,zaJ rfl rfl,trivial⟩,wq rfl⟩ ?_
 exact⟨rtC (a:=4) rfl rfl rfl rfl rfl rfl (zaa _),trivial⟩
abbrev vfD (x:Vdt × Int):List D:=[I x.1.Ans,lII x.1.T,lII x.1.A,I x.2]
theorem zm5 (d : Day) (a b : Int) (hn : d.R.length <= 1000000) : Spec PP 12 [d.v, N a, N b] [.agg [lI (rstR d a b).1, I (rstR d a b).2]] := by
  refine sA Tryz.func12 ?_
  refine CallSt.ro (zko d a b hn) rfl rfl ?_
  apply bY <;> intro h0
  · have e : rstR d a b = ([], (samR d a b).2) := by unfold rstR; rw [kH (by simpa using h0)]
    rw [e]
    exact ⟨rtC (a := 6) rfl rfl rfl rfl rfl rfl ⟨rfl, ⟨rfl, rfl⟩, trivial⟩, trivial⟩
  have h0 : (samR d a b).2 = 0 := by simpa using h0
  have e : rstR d a b = (rstL (rstB d a b) d.R, 0) := by unfold rstR; rw [kG (fun hh => hh h0)]
  rw [e]
  refine LoopOb.of (σ := List Int × Nat) (fun x => ([(1, .d (I a)), (2, .d (I b)), (3, .box 3 0), (6, .box 6 0), (7, .box 7 0), (8, .d (lI x.1)), (9, .d (I x.2))], [(3, .box (d.ds.map AV.d)), (6, .box (List.replicate 2 .any)), (7, .box ((vfD (samR d a b)).map AV.d))])) (fun x => x.2 <= d.R.length /\ Srt x.1 /\ x.1.Perm (rstK (rstB d a b) (d.R.take x.2))) (fun x => d.R.length - x.2) ([], 0)
    ⟨rfl, ⟨obD d.ds rfl, zaJ rfl rfl, obD (vfD (samR d a b)) rfl, trivial⟩, avQ rfl, avQ rfl, avQ rfl, avQ rfl, avQ rfl, avOw rfl rfl rfl ⟨rfl, .inl rfl⟩, avQ rfl, trivial⟩ ⟨jF _, List.Pairwise.nil, List.Perm.refl _⟩ fun ⟨U, i⟩ ⟨hi, hs, hp⟩ => ?_
  have hi : i <= d.R.length := hi
  have hs : Srt U := hs
  have hp : U.Perm (rstK (rstB d a b) (d.R.take i)) := hp
  have hU : U.length <= i := by
    rw [hp.length_eq]
    have := ze4 (rstB d a b) (d.R.take i)
    rw [jQ] at this; omega
  apply bY <;> intro h1
  · have h1 : i < d.R.length := by have : (i : Int) < d.R.length := dT h1; omega
    have skip : rstB d a b (d.R.getD i default) = false -> U.Perm (rstK (rstB d a b) (d.R.take (i + 1))) := fun h => by rw [zke h1 h]; exact hp
    refine ⟨⟨rfl, by omega, by show (i : Int) < d.R.length; omega⟩, ?_⟩
    apply bY <;> intro h2
    · have h2 : (d.R.getD i default).ID = a := by simpa using h2
      repeat first | apply sT | apply sF
      refine ⟨i6, ?_⟩
      exact ⟨(U, i + 1), ⟨rfl, ⟨obD d.ds rfl, zaJ rfl rfl, obD (vfD (samR d a b)) rfl, trivial⟩, wq rfl⟩, ⟨h1, hs, skip (zhZ (.inl h2))⟩, msr h1⟩
    have h2 : ¬ (d.R.getD i default).ID = a := by simpa using h2
    repeat first | apply sT | apply sF
    apply bY <;> intro h3
    · have h3 : (d.R.getD i default).ID = b := by simpa using h3
      refine ⟨i6, ?_⟩
      exact ⟨(U, i + 1), ⟨rfl, ⟨obD d.ds rfl, zaJ rfl rfl, obD (vfD (samR d a b)) rfl, trivial⟩, wq rfl⟩, ⟨h1, hs, skip (zhZ (.inr h3))⟩, msr h1⟩
    have h3 : ¬ (d.R.getD i default).ID = b := by simpa using h3
    have hr := zoG (d := d) h2 h3
    have hsm := zko (witD d [(d.R.getD i default).ID]) a b (by have := zeR [(d.R.getD i default).ID] d.R; show (witR _ _).length <= _; omega)
    have oe := zsj (d := d) (a := a) (b := b) (x := (d.R.getD i default).ID)
    have oa := zsk (d := d) (a := a) (b := b) (x := (d.R.getD i default).ID)
    have hw := zjf d [(d.R.getD i default).ID] hn (by simp)
    generalize samR (witD d [(d.R.getD i default).ID]) a b = y at hsm oe oa
    refine CallSt.fzE [47] hw rfl ⟨zaa _, zlg (dE _), trivial⟩ rfl ?_
    refine CallSt.ro hsm rfl rfl ?_
    by_cases hb : rstB d a b (d.R.getD i default) = false
    · rw [hr] at hb
      have h4 : y.2 = 0 := jL fun h => by rw [oe h] at hb; cases hb
      have h5 : y.1.Ans = (samR d a b).1.Ans := jL fun h => by rw [oa h4, jH h] at hb; cases hb
      refine Split.yes (by rw [h4]; rfl) ?_
      repeat first | apply sT | apply sF
      refine Split.yes (by rw [h5]; simp) ?_
      refine ⟨i6, ?_⟩
      exact ⟨(U, i + 1), ⟨rfl, ⟨obD d.ds rfl, zaJ rfl rfl, obD (vfD (samR d a b)) rfl, trivial⟩, wq rfl⟩, ⟨h1, hs, skip (by rw [hr]; exact hb)⟩, msr h1⟩
    have hb : rstB d a b (d.R.getD i default) = true := by simpa using hb
    have ob1 : othB d a b (d.R.getD i default).ID = true := by rw [<- hr]; exact hb
    rcases Classical.em (y.2 = 0) with h4 | h4
    all_goals first
      | (refine Split.yes (by rw [h4]; rfl) ?_
         repeat first | apply sT | apply sF
         have h5 : ¬ y.1.Ans = (samR d a b).1.Ans := fun h => by rw [oa h4, jG h] at ob1; cases ob1
         refine Split.no (by simpa using h5) ?_)
      | refine Split.no (by simpa using h4) ?_
    all_goals
      repeat first | apply sT | apply sF
      refine LoopOb.of (σ := Nat) (fun k => ([(1, .d (I a)), (2, .d (I b)), (3, .box 3 0), (6, .box 6 0), (7, .box 7 0), (8, .d (lI U)), (9, .d (I i)), (10, .d (I (d.R.getD i default).ID)), (12, .d (I k))], [(3, .box (d.ds.map AV.d)), (6, .box (List.replicate 2 .any)), (7, .box ((vfD (samR d a b)).map AV.d))])) (fun k => k <= U.length /\ ∀ j, k <= j -> j < U.length -> (d.R.getD i default).ID < U.getD j 0) (fun k => k) U.length
        ⟨rfl, ⟨obD d.ds rfl, zaJ rfl rfl, obD (vfD (samR d a b)) rfl, trivial⟩, wq rfl⟩ ⟨jE _, fun j h3 h4 => absurd h4 (by omega)⟩ fun k hk => ?_
      obtain ⟨hk, ha⟩ := hk
      apply bY <;> intro h6
      · have h6 : 0 < k := by have := dT h6; omega
        refine ⟨i6, ?_⟩
        refine ⟨⟨rfl, by omega, by omega⟩, ?_⟩
        have ek : ((k : Int) - 1).toNat = k - 1 := by omega
        repeat first | apply sT | apply sF
        apply bY <;> intro h7
        · have h7 : (d.R.getD i default).ID < U.getD (k - 1) 0 := by have h7 := dT h7; rw [ek] at h7; exact h7
          refine ⟨i6, ?_⟩
          refine ⟨k - 1, ⟨rfl, ⟨obD d.ds rfl, zaJ rfl rfl, obD (vfD (samR d a b)) rfl, trivial⟩, avQ rfl, avQ rfl, avQ rfl, avQ rfl, avQ rfl, avQ rfl, avQ rfl, avQ rfl, avI rfl (by omega), trivial⟩, ⟨by omega, fun j h8 h9 => ?_⟩, by omega⟩
          by_cases e : j = k - 1
          · rw [e]; exact h7
          exact ha j (by omega) h9
        have h7 : U.getD (k - 1) 0 <= (d.R.getD i default).ID := by have h7 := dF h7; rw [ek] at h7; have : ¬ (d.R.getD i default).ID < U.getD (k - 1) 0 := h7; omega
        refine ⟨⟨.inr rfl, by omega, by omega⟩, ?_⟩
        refine ⟨⟨.inr rfl, by simp only [maxLen]; omega, by dsimp only; omega⟩, ?_⟩
        refine ⟨⟨.inr rfl, by simp only [maxLen]; omega, by dsimp only; omega⟩, ?_⟩
        refine ⟨⟨.inr rfl, by omega, by omega⟩, ?_⟩
        refine ⟨⟨.inr rfl, by simp only [maxLen]; omega, by dsimp only; omega⟩, ?_⟩
        refine ⟨i6, ?_⟩
        refine ⟨(insK U (d.R.getD i default).ID k, i + 1), ⟨rfl, ⟨obD d.ds rfl, zaJ rfl rfl, obD (vfD (samR d a b)) rfl, trivial⟩, avQ rfl, avQ rfl, avQ rfl, avQ rfl, avQ rfl, avOw rfl rfl rfl ?_, avQ rfl, trivial⟩, ⟨h1, zdp hk hs ha (fun _ => h7), ?_⟩, msr h1⟩
        · exact zdq hk (by omega) (by omega) (fun a _ => rfl) rfl
        rw [ze3 h1 hb]
        exact (zbK _ _ _).trans (hp.append_right _)
      have h6 : k = 0 := by have := dF h6; omega
      repeat first | apply sT | apply sF
      refine ⟨⟨.inr rfl, by omega, by omega⟩, ?_⟩
      refine ⟨⟨.inr rfl, by simp only [maxLen]; omega, by dsimp only; omega⟩, ?_⟩
      refine ⟨⟨.inr rfl, by simp only [maxLen]; omega, by dsimp only; omega⟩, ?_⟩
      refine ⟨⟨.inr rfl, by omega, by omega⟩, ?_⟩
      refine ⟨⟨.inr rfl, by simp only [maxLen]; omega, by dsimp only; omega⟩, ?_⟩
      refine ⟨i6, ?_⟩
      refine ⟨(insK U (d.R.getD i default).ID k, i + 1), ⟨rfl, ⟨obD d.ds rfl, zaJ rfl rfl, obD (vfD (samR d a b)) rfl, trivial⟩, avQ rfl, avQ rfl, avQ rfl, avQ rfl, avQ rfl, avOw rfl rfl rfl ?_, avQ rfl, trivial⟩, ⟨h1, zdp hk hs ha (fun h => by omega), ?_⟩, msr h1⟩
      · exact zdq hk (by omega) (by omega) (fun a _ => rfl) rfl
      rw [ze3 h1 hb]
      exact (zbK _ _ _).trans (hp.append_right _)
  have h1 : i = d.R.length := by have : ¬ (i : Int) < d.R.length := dF h1; omega
  subst h1
  rw [jZ] at hp
  rw [zf1 (zmS _ d.R) hs ((ja0 _ _).trans hp.symm)]
  exact ⟨rtC (a := 6) rfl rfl rfl rfl rfl rfl (zaa _), trivial⟩
theorem zmR {d:Day} {a b:Int} (hn:d.R.length<=40):(rstR d a b).1.length<=1000000:=by
 unfold rstR
 split
 ·exact jF _
 show (rstL _ _).length<=_
 rw[zh0]
 have:=ze4 (rstB d a b) d.R
 omega
theorem s_JoinRests (d:Day) (a b:Int):Spec PP 3 [d.v,N a,N b] [B true]:=by
 refine sA Tryz.func3 ?_
 refine cP zpt rfl rfl ?_
 refine cP (zrt d) rfl rfl ?_
 apply bY <;> intro h0
 ·exact r1B rfl rfl
 have hf:few7 d:=by simpa using h0
 have hn:=zsW hf
 obtain⟨f1,f2,f3,f4,f5,f6⟩:=hf.1
 have h1:=zqI d a b ⟨by omega,by omega,by omega,by omega,by omega⟩ (by omega)
 have h2:=zm5 d a b (by omega)
 have hl:=zmR (a:=a) (b:=b) f6
 generalize rstR d a b=x at h1 h2 hl
 refine CallSt.ro h1 rfl rfl ?_
 refine CallSt.ro h2 rfl rfl ?_
 have hi:=zps x.1 x.1 hl
 rw[jG rfl] at hi
 refine cP hi rfl rfl ?_
 repeat first | apply sT | apply sF
 exact r1B rfl (by simp)
theorem zh2 {w:World} {ok:Nat->Prop}:∀ {xs ys:List D} {vs:List Value},All2 (Rep w ok) xs vs->eqvs xs ys->All2 (Rep w ok) ys vs
 | [],[],_,h,_=>h
 | _ :: _,_ :: _,_,.cons h r,⟨e,es⟩=>.cons (Rep.eqv h e) (zh2 r es)
abbrev shI (k:Nat):Sh:=.sl k fun j=>shSl.getD' (List.replicate k (.int .i64)) j
theorem zrI {k j:Nat} (h:j<k):shSl.getD' (List.replicate k (.int .i64)) j = .int .i64:=by
 induction k generalizing j with
 | zero=>omega
 | succ k ih=>
 cases j with
 | zero=>rfl
 | succ j=>exact ih (j:=j) (by omega)
theorem fitI {α:Type} [Inhabited α] {k:Nat} {at_:α->Nat->D} {x:D} (mkα:(Nat->Int)->α) (hk:∀ g:Nat->Int,∀ j,j<k->at_ (mkα g) j=I (g j)) (h:Fits (shI k) x):∃ l:List α,D.eqv x (.slc k l.length fun i=>at_ (l.getD i default)):=by
 obtain⟨l,_,_,e⟩:=fitsL (at_:=at_) mkα (fun j hj=>zrI hj) hk h
 exact⟨l,e⟩
abbrev shDay:List Sh:=[.int .i64,.int .i64,shI 1,shI 4,shI 3,shI 8,shI 7,.int .i64,.int .i64,shI 8]
theorem rep_Day {w:World} {ok:Nat->Prop} {xs:List D} {v:Value} (hr:Rep1 w ok (.agg xs) v) (h:All2 Fits shDay xs):∃ d:Day,Rep1 w ok d.v v:=by
 obtain⟨vs,e,hv⟩:=hr
 cases h with | cons h0 h=>
 cases h with | cons h1 h=>
 cases h with | cons h2 h=>
 cases h with | cons h3 h=>
 cases h with | cons h4 h=>
 cases h with | cons h5 h=>
 cases h with | cons h6 h=>
 cases h with | cons h7 h=>
 cases h with | cons h8 h=>
 cases h with | cons h9 h=>
 cases h
 obtain⟨n0,-,rfl⟩:=h0
 obtain⟨n1,-,rfl⟩:=h1
 obtain⟨n7,-,rfl⟩:=h7
 obtain⟨n8,-,rfl⟩:=h8
 obtain⟨l2,e2⟩:=fitI (α:=Int) (at_:=fun a _=>I a) (fun g=>g 0) (fun g j hj=>by
  match j,hj with
  | 0,_=>rfl) h2
 obtain⟨l3,e3⟩:=fitI (α:=Twr) (at_:=Twr.at) (fun g=>⟨g 0,⟨g 1,g 2⟩,g 3⟩) (fun g j hj=>by
  match j,hj with
  | 0,_=>rfl
  | 1,_=>rfl
  | 2,_=>rfl
  | 3,_=>rfl) h3
 obtain⟨l4,e4⟩:=fitI (α:=Hz) (at_:=Hz.at) (fun g=>⟨g 0,g 1,g 2⟩) (fun g j hj=>by
  match j,hj with
  | 0,_=>rfl
  | 1,_=>rfl
  | 2,_=>rfl) h4
 obtain⟨l5,e5⟩:=fitI (α:=Cir) (at_:=Cir.at) (fun g=>⟨g 0,⟨g 1,g 2⟩,g 3,g 4,g 5,g 6,g 7⟩) (fun g j hj=>by
  match j,hj with
  | 0,_=>rfl
  | 1,_=>rfl
  | 2,_=>rfl
  | 3,_=>rfl
  | 4,_=>rfl
  | 5,_=>rfl
  | 6,_=>rfl
  | 7,_=>rfl) h5
 obtain⟨l6,e6⟩:=fitI (α:=Chk) (at_:=Chk.at) (fun g=>⟨g 0,g 1,g 2,⟨g 3,g 4⟩,g 5,g 6⟩) (fun g j hj=>by
  match j,hj with
  | 0,_=>rfl
  | 1,_=>rfl
  | 2,_=>rfl
  | 3,_=>rfl
  | 4,_=>rfl
  | 5,_=>rfl
  | 6,_=>rfl) h6
 obtain⟨l9,e9⟩:=fitI (α:=Rpt) (at_:=Rpt.at) (fun g=>⟨g 0,g 1,g 2,g 3,g 4,g 5,g 6,g 7⟩) (fun g j hj=>by
  match j,hj with
  | 0,_=>rfl
  | 1,_=>rfl
  | 2,_=>rfl
  | 3,_=>rfl
  | 4,_=>rfl
  | 5,_=>rfl
  | 6,_=>rfl
  | 7,_=>rfl) h9
 exact⟨⟨⟨⟨⟨n0,n1,l2⟩,l3,l4⟩,⟨l5,l6⟩⟩,n7,n8,l9⟩,vs,e,zh2 hv ⟨⟨rfl,rfl⟩,⟨rfl,rfl⟩,e2,e3,e4,e5,e6,⟨rfl,rfl⟩,⟨rfl,rfl⟩,e9,trivial⟩⟩
theorem rep_lI {w:World} {ok:Nat->Prop} {x:D} {v:Value} (hr:Rep1 w ok (.d x) v) (h:All2 Fits [shI 1] [x]):∃ l:List Int,Rep1 w ok (.d (lI l)) v:=by
 cases h with
 | cons h _=>
 obtain⟨l,e⟩:=fitI (α:=Int) (at_:=fun a _=>I a) (fun g=>g 0) (fun g j hj=>by
  match j,hj with
  | 0,_=>rfl) h
 exact⟨l,Rep.eqv hr e⟩
end Go.Pg
