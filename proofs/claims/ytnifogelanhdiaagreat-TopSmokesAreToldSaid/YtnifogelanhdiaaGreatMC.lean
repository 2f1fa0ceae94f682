/- Lemmas, joined by program. -/
import Derived.Test.YtnifogelanhdiaaGreatMB
set_option maxHeartbeats 4000000
set_option linter.all false
set_option maxRecDepth 100000
namespace Go.Pg
open Go.Proofs Go.RowKit
theorem zlH {l m:List Half} (h:checkL l=0) (hm:∀ x∈m,x∈l) (hn:m.length<=40):checkL m=0:=by
 obtain⟨n1,n2,n3⟩:=zgL h
 unfold checkL
 rw[kG (by omega),kH (jC.2 fun x hx=>n2 x (hm x hx))]
theorem zhb (l:List Int) (i j:Nat):(rmLh l i)[j]?=if j<i then l[j]? else l[j+1]?:=by
 have e:rmLh l i=l.eraseIdx i:=by unfold rmLh; rw[List.eraseIdx_eq_take_drop_succ]
 rw[e,List.getElem?_eraseIdx]
theorem zq4 {l:List Int} {i:Nat} {x:Int}:x∈rmLh l i ↔ ∃ j,j≠i/\l[j]?=some x:=by
 rw[List.mem_iff_getElem?]
 constructor
 ·rintro⟨j,hj⟩
  rw[zhb] at hj
  split at hj
  ·exact⟨j,by omega,hj⟩
  exact⟨j+1,by omega,hj⟩
 rintro⟨j,hne,hj⟩
 rcases Nat.lt_or_gt_of_ne hne with h | h
 ·exact⟨j,by rw[zhb,kH h,hj]⟩
 exact⟨j - 1,by rw[zhb,kG (by omega),show j - 1+1=j by omega,hj]⟩
structure Js (l:List Half) (js:List Int):Prop where
  len:js.length<=40
  mem:∀ j∈js,0<=j/\j<l.length
theorem Js.ck {l:List Half} {js:List Int} (h:Js l js) (h1:checkL l=0):checkL (pickL l js)=0:=zlH h1 (zkw h.mem) (by rw[zkx]; exact h.len)
theorem Js.all {l:List Half} (h1:checkL l=0):Js l (upTo l.length):=⟨by rw[zmq]; exact (zgL h1).1,fun j hj=>zmp hj⟩
theorem still (l:List Half) (js:List Int) {g:Half} (hg:g∈hsL (pickL l js)):∃ a,∀ m,m≠a->g∈hsL (pickL l (rmLh js m)):=by
 rcases kR.1 hg with h | h
 ·unfold pickL at h
  obtain⟨j,hj,rfl⟩:=kK.1 h
  obtain⟨a,ha⟩:=List.mem_iff_getElem?.1 hj
  refine⟨a,fun m hm=>qE _ ?_⟩
  unfold pickL
  exact kK.2 ⟨j,zq4.2 ⟨a,fun e=>hm e.symm,ha⟩,rfl⟩
 exact⟨0,fun m _=>List.mem_append_right _ h⟩
def plusH (a:Half) (t:Int) (h:Half):Half:=⟨a.A+t * h.A,a.B+t * h.B,a.C+t * h.C⟩
theorem zly (a:Half) (t:Int) (h:Half) (q:Corner):ef (plusH a t h) q=ef a q+t * ef h q:=by unfold plusH ef; grind
def useH (l:List Half) (n:Int):Half:=if n<0 then sidesL.getD (-1 - n).toNat default else l.getD n.toNat default
structure SmallU (i:Nat) (h:Half):Prop where
  a:-(2097152000 * i:Int)<=h.A/\h.A<=2097152000 * i
  b:-(2097152000 * i:Int)<=h.B/\h.B<=2097152000 * i
  c:-(549755813888 * i:Int)<=h.C/\h.C<=549755813888 * i
theorem zm1 {t:Int} {h:Half} (ht:1<=t/\t<=2097152) (hh:okH h):(-2097152000<=t * h.A/\t * h.A<=2097152000)/\(-2097152000<=t * h.B/\t * h.B<=2097152000)/\(-549755813888<=t * h.C/\t * h.C<=549755813888):=by
 have q:-2097152<=t/\t<=2097152:=by omega
 exact⟨mulB q hh.a,mulB q hh.b,mulB q hh.c⟩
theorem SmallU.plus {i:Nat} {a h:Half} {t:Int} (s:SmallU i a) (ht:1<=t/\t<=2097152) (hh:okH h):SmallU (i+1) (plusH a t h):=by
 obtain⟨b1,b2,b3⟩:=zm1 ht hh
 have:=s.a; have:=s.b; have:=s.c
 exact⟨(by show _<=a.A+t * h.A/\a.A+t * h.A<=_; omega),(by show _<=a.B+t * h.B/\a.B+t * h.B<=_; omega),(by show _<=a.C+t * h.C/\a.C+t * h.C<=_; omega)⟩
theorem p8:(1073741824:Nat) ^ 8=1766847064778384329583297500742918515827483896875618958121606201292619776:=by decide
theorem p4:(1073741824:Nat) ^ 4=1329227995784915872903807060280344576:=by decide
theorem zgB {n m:Int} (h:n≠0):flip (-n) (-m)=flip n m:=by unfold flip; split <;> split <;> omega
def Cn (f:Form) (g h:Half):Prop:=0<=flip (det g h) (fx f h)/\0<=flip (det g h) (-fx f g)
theorem Cn.symm {f:Form} {g h:Half} (hd:det g h≠0) (c:Cn f g h):Cn f h g:=by
 unfold Cn at *
 have e:det h g = -det g h:=by rw[znL]
 have e1:=zgB (n:=det g h) (m:=-fx f g) hd
 have e2:=zgB (n:=det g h) (m:=fx f h) hd
 rw[Int.neg_neg] at e1
 rw[e,e1,e2]
 exact⟨c.2,c.1⟩
theorem zib {w:World} {ok:Nat->Prop}:∀ {xs ys:List D} {vs:List Value},All2 (Rep w ok) xs vs->eqvs xs ys->All2 (Rep w ok) ys vs
 | [],[],_,h,_=>h
 | _ :: _,_ :: _,_,.cons h r,⟨e,es⟩=>.cons (Rep.eqv h e) (zib r es)
abbrev shI (k:Nat):Sh:=.sl k fun j=>shSl.getD' (List.replicate k (.int .i64)) j
theorem zqW {k j:Nat} (h:j<k):shSl.getD' (List.replicate k (.int .i64)) j = .int .i64:=by
 induction k generalizing j with
 | zero=>omega
 | succ k ih=>
 cases j with
 | zero=>rfl
 | succ j=>exact ih (j:=j) (by omega)
theorem fitI {α:Type} [Inhabited α] {k:Nat} {at_:α->Nat->D} {x:D} (mkα:(Nat->Int)->α) (hk:∀ g:Nat->Int,∀ j,j<k->at_ (mkα g) j=I (g j)) (h:Fits (shI k) x):∃ l:List α,D.eqv x (.slc k l.length fun i=>at_ (l.getD i default)):=by
 obtain⟨l,_,_,e⟩:=fitsL (at_:=at_) mkα (fun j hj=>zqW hj) hk h
 exact⟨l,e⟩
abbrev shSvc:List Sh:=[.int .i64,.int .i64,shI 1,shI 4,shI 3,shI 8,shI 7]
theorem rep_Svc {w:World} {ok:Nat->Prop} {xs:List D} {v:Value} (hr:Rep1 w ok (.agg xs) v) (h:All2 Fits shSvc xs):∃ s:Svc,Rep1 w ok s.v v:=by
 obtain⟨vs,e,hv⟩:=hr
 cases h with | cons h0 h=>
 cases h with | cons h1 h=>
 cases h with | cons h2 h=>
 cases h with | cons h3 h=>
 cases h with | cons h4 h=>
 cases h with | cons h5 h=>
 cases h with | cons h6 h=>
 cases h
 obtain⟨n0,-,rfl⟩:=h0
 obtain⟨n1,-,rfl⟩:=h1
 obtain⟨l2,e2⟩:=fitI (α:=Int) (at_:=fun a _=>I a) (fun g=>g 0) (fun g j hj=>by
  match j,hj with
  | 0,_=>rfl) h2
 obtain⟨l3,e3⟩:=fitI (α:=Twr) (at_:=Twr.at) (fun g=>⟨g 0,⟨g 1,g 2⟩,g 3⟩) (fun g j hj=>by
  match j,hj with
  | 0,_=>rfl
  | 1,_=>rfl
  | 2,_=>rfl
  | 3,_=>rfl) h3
 obtain⟨l4,e4⟩:=fitI (α:=Hz) (at_:=Hz.at) (fun g=>⟨g 0,g 1,g 2⟩) (fun g j hj=>by
  match j,hj with
  | 0,_=>rfl
  | 1,_=>rfl
  | 2,_=>rfl) h4
 obtain⟨l5,e5⟩:=fitI (α:=Cir) (at_:=Cir.at) (fun g=>⟨g 0,⟨g 1,g 2⟩,g 3,g 4,g 5,g 6,g 7⟩) (fun g j hj=>by
  match j,hj with
  | 0,_=>rfl
  | 1,_=>rfl
  | 2,_=>rfl
  | 3,_=>rfl
  | 4,_=>rfl
  | 5,_=>rfl
  | 6,_=>rfl
  | 7,_=>rfl) h5
 obtain⟨l6,e6⟩:=fitI (α:=Chk) (at_:=Chk.at) (fun g=>⟨g 0,g 1,g 2,⟨g 3,g 4⟩,g 5,g 6⟩) (fun g j hj=>by
  match j,hj with
  | 0,_=>rfl
  | 1,_=>rfl
  | 2,_=>rfl
  | 3,_=>rfl
  | 4,_=>rfl
  | 5,_=>rfl
  | 6,_=>rfl) h6
 exact⟨⟨⟨⟨n0,n1,l2⟩,l3,l4⟩,⟨l5,l6⟩⟩,vs,e,zib hv ⟨⟨rfl,rfl⟩,⟨rfl,rfl⟩,e2,e3,e4,e5,e6,trivial⟩⟩
theorem zkt {m:Mp} {y x:Nat} (hx:x<m.w):plc m (y * m.w+x)=⟨(x:Int),(y:Int)⟩:=by
 unfold plc
 have e1:(y * m.w+x) % m.w=x:=by rw[Nat.add_comm,Nat.add_mul_mod_self_right,jaC hx]
 have e2:(y * m.w+x) / m.w=y:=by rw[Nat.add_comm,Nat.add_mul_div_right _ _ (by omega),jbf hx,qH]
 rw[e1,e2]
theorem zpr {s:Svc} {b:Brn} {l:List Rpt}:(rsnR s b l).1.length<=1000000:=by
 unfold rsnR
 split
 ·simp
 rename_i h0
 have h0:givE s b l=0:=jL h0
 obtain⟨bw,bh,-,-⟩:=zag (zde h0).s.c.m
 have hn:s.n<=49 * 49:=Nat.mul_le_mul (by show s.c.M.W.toNat<=49; omega) (by show s.c.M.H.toNat<=49; omega)
 have:=zh7 s l (l.map (alwP s b)) s.n
 show (rsnK s l (l.map (alwP s b)) s.n).length<=1000000
 omega
def hO:Half:=⟨64,1,0⟩
end Go.Pg
