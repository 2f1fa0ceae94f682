/- Texts joined and shortened by program. -/
import Derived.Test.YtkifimaihfildaaGreatDD
import Derived.Test.YtkifimaihfildaaGreatDC
import Derived.Test.YtkifimaihfildaaGreatDA
set_option maxHeartbeats 4000000
set_option linter.all false
set_option maxRecDepth 100000
namespace Go.Pg
open Go.Proofs Go.RowKit Go.Sort Go.Shelf
theorem zlp {a i : Nat} (ha : a < 256) (hi : i < 7) : ((((a : Int).tdiv (IntKind.wrap .u8 (1 * 2 ^ (min ((i : Nat) : Int).toNat 8)))).tmod 2) == 1) = a.testBit i := by
 have := allL (n := 256) (m := 7) (P := fun a i => decide (((((a : Int).tdiv (IntKind.wrap .u8 (1 * 2 ^ (min ((i : Nat) : Int).toNat 8)))).tmod 2) == 1) = a.testBit i)) (by decide +kernel) ha hi
 exact of_decide_eq_true this
theorem bQuo8 {a i : Nat} (ha : a < 256) (hi : i < 7) : IntKind.wrap .u8 (1 * 2 ^ (min ((i : Nat) : Int).toNat 8)) ≠ 0 /\ inR .u8 ((a : Int).tdiv (IntKind.wrap .u8 (1 * 2 ^ (min ((i : Nat) : Int).toNat 8)))) := by
 have := allL (n := 256) (m := 7) (P := fun a i => decide (IntKind.wrap .u8 (1 * 2 ^ (min ((i : Nat) : Int).toNat 8)) ≠ 0 /\ ((0 : Int) <= ((a : Int).tdiv (IntKind.wrap .u8 (1 * 2 ^ (min ((i : Nat) : Int).toNat 8)))) /\ ((a : Int).tdiv (IntKind.wrap .u8 (1 * 2 ^ (min ((i : Nat) : Int).toNat 8)))) <= 255))) (by decide +kernel) ha hi
 have h3 := of_decide_eq_true (p := IntKind.wrap .u8 (1 * 2 ^ (min ((i : Nat) : Int).toNat 8)) ≠ 0 /\ ((0 : Int) <= ((a : Int).tdiv (IntKind.wrap .u8 (1 * 2 ^ (min ((i : Nat) : Int).toNat 8)))) /\ ((a : Int).tdiv (IntKind.wrap .u8 (1 * 2 ^ (min ((i : Nat) : Int).toNat 8)))) <= 255)) this
 exact h3
theorem bAnd8 {a b : Nat} (ha : a < 256) (hb : b < 256) : IntKind.wrap .u8 ((BitVec.ofInt 8 (a : Int) &&& BitVec.ofInt 8 (b : Int)).toNat : Int) = ((a &&& b : Nat) : Int) := by
 have e : ∀ {c : Nat}, c < 256 -> (BitVec.ofInt 8 (c : Int)).toNat = c := fun {c} h => by
  rw [BitVec.toNat_ofInt]
  omega
 rw [BitVec.toNat_and, e ha, e hb]
 have h : a &&& b < 256 := Nat.lt_of_le_of_lt Nat.and_le_left ha
 exact zbw (k := .u8) ⟨by show (0 : Int) <= _; omega, by show _ <= (255 : Int); omega⟩
theorem zeH (ids : List Int) (set : Nat) (hn : ids.length <= 7) (hs : set < 256) : Spec PP 25 [.d (lI ids), .d (.int .u8 (set : Int))] [.d (lI (memb ids set))] := by
 refine sA Tryz.func25 ?_
 refine LoopOb.of (σ := Nat) (fun i => ([(0, .d (lI ids)), (1, .d (.int .u8 set)), (5, .own 5), (6, .d (I i))], [(5, .row 3 1 (membA ids set i).length (rowI (membA ids set i)))])) (fun i => i <= ids.length) (fun i => ids.length - i) 0
  ⟨rfl, ⟨obR rfl ⟨rfl, .inl rfl⟩, trivial⟩, wq rfl⟩ (Nat.zero_le _) fun i hi => ?_
 have hi : i <= ids.length := hi
 have hl := zaZ ids set i
 apply bY <;> intro h1
 ·have h1 : i < ids.length := by have := dT h1; omega
  refine sT ?_
  refine Split.yes (decide_eq_true (by omega)) ?_
  refine ⟨by omega, ?_⟩
  refine ⟨bQuo8 hs (by omega), ?_⟩
  refine ⟨by decide, ?_⟩
  apply bY <;> intro h2
  ·have h2 : set.testBit i = true := by rw [<- zlp hs (show i < 7 by omega)]; exact h2
   refine ⟨⟨rfl, by omega, by omega⟩, ?_⟩
   refine ⟨⟨.inr rfl, by unfold maxLen; omega, by show ((membA ids set i).length + 1) * 8 <= 140737488355328; omega⟩, ?_⟩
   refine ⟨i6, ?_⟩
   refine ⟨i + 1, ⟨rfl, ⟨obR rfl ?_, trivial⟩, wq rfl⟩, h1, msr h1⟩
   rw [zeW h2]
   exact zlU rfl
  ·have h2 : set.testBit i = false := by rw [<- zlp hs (show i < 7 by omega)]; exact h2
   refine ⟨i6, ?_⟩
   refine ⟨i + 1, ⟨rfl, ⟨obR rfl ?_, trivial⟩, wq rfl⟩, h1, msr h1⟩
   rw [zgB h2]
   exact dE _
 have h1 : i = ids.length := by have := dF h1; omega
 subst h1
 repeat first | apply sT | apply sF
 exact ⟨⟨_, _, _, _, rfl, rfl, .inr ⟨rfl, fun i _ j _ => dE _⟩⟩, trivial⟩
abbrev plK (p : Place) : List Int := [p.X, p.Y]
theorem zef (p q : Place) (h : plK p = plK q) : p = q := by
 obtain ⟨a, b⟩ := p
 obtain ⟨c, d⟩ := q
 simp only [plK, List.cons.injEq, and_true] at h
 rw [h.1, h.2]
theorem kPl : KeyF PP 52 2 := by
 have h2 : (PP.fieldsOf 52).size = 2 := by kernel_rfl
 have := ziJ (P := PP) (t := 52) (fs := PP.fieldsOf 52) (by kernel_rfl) (by kernel_rfl) (by omega)
 rwa [h2] at this
theorem lk_pl (l : List Place) (p : Place) : lkD (l.map plK) (fun _ => .bool true) (plK p) (.bool false) = .bool (decide (p ∈ l)) := by
 unfold lkD
 by_cases h : p ∈ l
 ·rw [if_pos ((zcN plK zef l p).2 h), decide_eq_true h]
 ·rw [if_neg fun e => h ((zcN plK zef l p).1 e), decide_eq_false h]
def putPl (l : List Place) (p : Place) : List Place := if p ∈ l then l else l ++ [p]
theorem znf (l : List Place) (p : Place) : D.eqv (.mp 2 (putK (l.map plK) (plK p)) (putF (l.map plK) (fun _ => .bool true) (plK p) (.bool true))) (.mp 2 ((putPl l p).map plK) fun _ => .bool true) := by
 refine ⟨rfl, ?_, fun j _ => ?_⟩
 ·unfold putK putPl
  by_cases h : p ∈ l
  ·rw [if_pos ((zcN plK zef l p).2 h), if_pos h]
  ·rw [if_neg fun e => h ((zcN plK zef l p).1 e), if_neg h, List.map_append]; rfl
 ·unfold putF; split <;> exact dE _
theorem zhK (a b : List Place) (ha : a.length <= 1000000) (hb : b.length <= 1000000) : Spec PP 26 [.d (lP a), .d (lP b)] [B (a.all fun p => decide (p ∈ b))] := by
 refine sA Tryz.func26 ?_
 refine LoopOb.of (σ := Nat × List Place) (fun x => ([(0, .d (lP a)), (1, .d (lP b)), (5, .own 8), (6, .d (I x.1))], [(8, .mp 2 (x.2.map plK) fun _ => .bool true)])) (fun x => x.1 <= b.length /\ ∀ p, p ∈ x.2 ↔ p ∈ b.take x.1) (fun x => b.length - x.1) (0, [])
  ⟨rfl, ⟨obMp rfl ⟨rfl, rfl, fun j hj => absurd hj (Nat.not_lt_zero _)⟩, trivial⟩, wq rfl⟩ ⟨Nat.zero_le _, by simp⟩ fun x hx => ?_
 obtain ⟨i, L⟩ := x
 obtain ⟨hi, hL⟩ := hx
 have hi : i <= b.length := hi
 have hL : ∀ p, p ∈ L ↔ p ∈ b.take i := hL
 apply bY <;> intro h1
 ·have h1 : i < b.length := by have := dT h1; omega
  refine ⟨⟨rfl, by omega, by omega⟩, ?_⟩
  refine ⟨⟨kPl, rfl⟩, ?_⟩
  refine ⟨i6, ?_⟩
  refine ⟨(i + 1, putPl L (b.getD i default)), ⟨rfl, ⟨obMp rfl (znf L (b.getD i default)), trivial⟩, wq rfl⟩, ⟨h1, fun p => ?_⟩, msr h1⟩
  show p ∈ putPl L (b.getD i default) ↔ p ∈ b.take (i + 1)
  rw [za7 h1 default, List.mem_append, List.mem_singleton, <- hL]
  unfold putPl
  split
  ·rename_i hm
   exact ⟨.inl, fun h => h.elim id fun e => e ▸ hm⟩
  ·rw [List.mem_append, List.mem_singleton]
 have h1 : i = b.length := by have := dF h1; omega
 subst h1
 have hL : ∀ p, p ∈ L ↔ p ∈ b := fun p => by rw [hL, List.take_length]
 refine LoopOb.of (σ := Nat) (fun i => ([(0, .d (lP a)), (5, .own 8), (7, .d (I i))], [(8, .mp 2 (L.map plK) fun _ => .bool true)])) (fun i => i <= a.length /\ ∀ j, j < i -> a.getD j default ∈ b) (fun i => a.length - i) 0
  ⟨rfl, ⟨obMp rfl (dE _), trivial⟩, wq rfl⟩ z0L fun i hx => ?_
 obtain ⟨hi, hj⟩ := hx
 have hi : i <= a.length := hi
 apply bY <;> intro h1
 ·have h1 : i < a.length := by have := dT h1; omega
  refine ⟨⟨rfl, by omega, by omega⟩, ?_⟩
  refine ⟨⟨kPl, rfl⟩, .bool (decide (a.getD i default ∈ L)), D.eqv_of_eq (lk_pl L (a.getD i default)), ?_⟩
  apply bY <;> intro h2
  ·have h2 : a.getD i default ∉ L := by simpa using h2
   refine r1B rfl ?_
   refine (Bool.eq_false_iff.2 fun hh => ?_).symm
   have := List.all_eq_true.1 hh (a.getD i default) (by rw [gdq, gqe h1]; exact List.getElem_mem h1)
   exact h2 ((hL _).2 (of_decide_eq_true this))
  ·have h2 : a.getD i default ∈ L := by simpa using h2
   refine ⟨i6, ?_⟩
   refine ⟨i + 1, ⟨rfl, ⟨obMp rfl (dE _), trivial⟩, wq rfl⟩, ⟨h1, fun j hj' => ?_⟩, msr h1⟩
   by_cases e : j = i
   ·subst e; exact (hL _).1 h2
   ·exact hj j (by omega)
 have h1 : i = a.length := by have := dF h1; omega
 subst h1
 refine r1B rfl ?_
 symm
 refine List.all_eq_true.2 fun p hp => decide_eq_true ?_
 obtain ⟨j, h2, rfl⟩ := List.getElem_of_mem hp
 have := hj j h2
 rwa [gdq, gqe h2] at this
theorem zkf (ids : List Int) (m : Nat) : (memb ids m).Sublist ids := by
 have e : (List.range ids.length).map (ids.getD · 0) = ids := by
  apply List.ext_getElem (by simp)
  intro i h1 h2
  rw [List.getElem_map, List.getElem_range, gdq, gqe h2]; rfl
 have : (memb ids m).Sublist ((List.range ids.length).map (ids.getD · 0)) := List.Sublist.map _ (List.filter_sublist ..)
 rwa [e] at this
theorem DayOk.lt {d : Day} (h : DayOk d) : (sigL d.R).Pairwise (· < ·) := by
 refine List.Pairwise.imp₂ (fun a b h1 h2 => ?_) (zgj d.R) h.nod
 have h1 := of_decide_eq_true h1
 have h2 : a ≠ b := h2
 omega
theorem zeA {d : Day} (h : dayE d = 0) {m : Nat} (hne : memb (sigL d.R) m ≠ []) : askE d (memb (sigL d.R) m) = 0 := by
 have ok := zdQ h
 have hsub := zkf (sigL d.R) m
 have hp := ok.lt.sublist hsub
 have hr : setB (memb (sigL d.R) m) = true := by
  unfold setB risB
  rw [Bool.and_eq_true]
  refine ⟨List.all_eq_true.2 fun j hj => decide_eq_true ?_, decide_eq_true (List.length_pos_iff.2 hne)⟩
  have hj := List.mem_range.1 hj
  have h1 : j < (memb (sigL d.R) m).length := by omega
  have h2 : j + 1 < (memb (sigL d.R) m).length := by omega
  rw [gdq, gdq, gqe h1, gqe h2]
  exact List.pairwise_iff_getElem.1 hp j (j + 1) h1 h2 (by omega)
 have hq : partB (memb (sigL d.R) m) (sigL d.R) = true := List.all_eq_true.2 fun x hx => List.contains_iff_mem.2 (hsub.subset hx)
 unfold askE
 rw [if_neg (fun hh => hh h), if_neg (by rw [hr]; decide), if_neg (by rw [hq]; decide)]
theorem zgA (ids : List Int) (a b : Nat) {x : Int} (h : (memb ids (a &&& b)).contains x = true) : (memb ids a).contains x = true := by
 have h := List.contains_iff_mem.1 h
 unfold memb membA at h
 obtain ⟨i, hi, e⟩ := List.mem_map.1 h
 rw [List.mem_filter, Nat.testBit_and, Bool.and_eq_true] at hi
 exact List.contains_iff_mem.2 (List.mem_map.2 ⟨i, List.mem_filter.2 ⟨hi.1, hi.2.1⟩, e⟩)
theorem s_JoinParts (d : Day) (a b : Int) (ha : 0 <= a /\ a <= 255) (hb : 0 <= b /\ b <= 255) : Spec PP 6 [d.v, .d (.int .u8 a), .d (.int .u8 b)] [B true] := by
 obtain ⟨s, rfl⟩ := Int.eq_ofNat_of_zero_le ha.1
 obtain ⟨p, rfl⟩ := Int.eq_ofNat_of_zero_le hb.1
 have hs : s < 256 := by omega
 have hp : p < 256 := by omega
 refine sA Tryz.func6 ?_
 refine cP zlw rfl rfl ?_
 refine cP (zmT d) rfl rfl ?_
 apply bY <;> intro h0
 ·repeat first | apply sT | apply sF
  exact r1B rfl rfl
 have hf : few7 d := by simpa using h0
 have hn := znV hf
 by_cases hd : dayE d = 0
 ·have e : sigR d = (sigL d.R, 0) := by unfold sigR; rw [if_neg (fun hh => hh hd)]
  have hsg := zc2 d (by omega)
  rw [e] at hsg
  have ok := zdQ hd
  have h7 := sig7 ok
  refine CallSt.ro hsg rfl rfl ?_
  refine sF ?_
  refine CallSt.ro (zeH (sigL d.R) s h7 hs) rfl rfl ?_
  have hc := zeH (sigL d.R) (s &&& p) h7 (Nat.lt_of_le_of_lt Nat.and_le_left hs)
  rw [<- bAnd8 hs hp] at hc
  refine CallSt.ro hc rfl rfl ?_
  apply bY <;> intro h1
  ·exact r1B rfl rfl
  have hB : memb (sigL d.R) (s &&& p) ≠ [] := fun e => by rw [e] at h1; cases h1
  have hA : memb (sigL d.R) s ≠ [] := fun e => by
   obtain ⟨x, hx⟩ := List.exists_mem_of_ne_nil _ hB
   have := zgA (sigL d.R) s p (List.contains_iff_mem.2 hx)
   rw [e] at this
   cases this
  have l1 := zaZ (sigL d.R) s (sigL d.R).length
  have l2 := zaZ (sigL d.R) (s &&& p) (sigL d.R).length
  have eA : celR d (memb (sigL d.R) s) = (plsD d (memb (sigL d.R) s), 0) := by unfold celR; rw [if_neg (fun hh => hh (zeA hd hA))]
  have eB : celR d (memb (sigL d.R) (s &&& p)) = (plsD d (memb (sigL d.R) (s &&& p)), 0) := by unfold celR; rw [if_neg (fun hh => hh (zeA hd hB))]
  have cA := ziT d (memb (sigL d.R) s) (by omega) (Nat.le_trans l1 (by omega))
  have cB := ziT d (memb (sigL d.R) (s &&& p)) (by omega) (Nat.le_trans l2 (by omega))
  have pA := zch d (memb (sigL d.R) s) (by omega) (Nat.le_trans l1 (by omega))
  have pB := zch d (memb (sigL d.R) (s &&& p)) (by omega) (Nat.le_trans l2 (by omega))
  have nA := zgW d (memb (sigL d.R) s)
  have nB := zgW d (memb (sigL d.R) (s &&& p))
  rw [eA] at cA pA nA
  rw [eB] at cB pB nB
  have hm : ∀ q ∈ plsD d (memb (sigL d.R) s), q ∈ plsD d (memb (sigL d.R) (s &&& p)) := fun q hq => zia ok (fun x hx => zgA _ s p hx) (zmK (zeA hd hB)) hq
  generalize plsD d (memb (sigL d.R) s) = x at cA pA nA hm
  generalize plsD d (memb (sigL d.R) (s &&& p)) = y at cB pB nB hm
  have hw := zhK x y nA nB
  rw [List.all_eq_true.2 fun q hq => decide_eq_true (hm q hq)] at hw
  have eq1 : ∀ l : List Place, (decide (0 < l.length) == decide ((0 : Int) < (l.length : Int))) = true := fun l => by
   rw [show decide ((0 : Int) < (l.length : Int)) = decide (0 < l.length) from decide_eq_decide.2 (by omega)]
   exact beq_self_eq_true _
  refine CallSt.ro cA rfl rfl ?_
  refine CallSt.ro cB rfl rfl ?_
  refine cP pA rfl rfl ?_
  refine cP pB rfl rfl ?_
  refine cP hw rfl rfl ?_
  repeat first | apply sT | apply sF
  refine Split.yes (eq1 x) ?_
  repeat first | apply sT | apply sF
  refine Split.yes (eq1 y) ?_
  repeat first | apply sT | apply sF
  apply bY <;> intro h2
  ·repeat first | apply sT | apply sF
   exact r1B rfl rfl
  have hx : 0 < x.length := by simpa using h2
  obtain ⟨q, hq⟩ := List.exists_mem_of_length_pos hx
  have hy : 0 < y.length := List.length_pos_of_mem (hm q hq)
  refine Split.yes (decide_eq_true hy) ?_
  repeat first | apply sT | apply sF
  exact r1B rfl rfl
 ·have e : sigR d = ([], dayE d) := by unfold sigR; rw [if_pos hd]
  have hsg := zc2 d (by omega)
  rw [e] at hsg
  refine CallSt.ro hsg rfl rfl ?_
  refine Split.yes (by simpa using hd) ?_
  repeat first | apply sT | apply sF
  exact r1B rfl rfl
theorem zgm {w : World} {ok : Nat -> Prop} : ∀ {xs ys : List D} {vs : List Value}, All2 (Rep w ok) xs vs -> eqvs xs ys -> All2 (Rep w ok) ys vs
 | [], [], _, h, _ => h
 | _ :: _, _ :: _, _, .cons h r, ⟨e, es⟩ => .cons (Rep.eqv h e) (zgm r es)
abbrev shI (k : Nat) : Sh := .sl k fun j => shSl.getD' (List.replicate k (.int .i64)) j
theorem zm4 {k j : Nat} (h : j < k) : shSl.getD' (List.replicate k (.int .i64)) j = .int .i64 := by
 induction k generalizing j with
 | zero => omega
 | succ k ih =>
  cases j with
  | zero => rfl
  | succ j => exact ih (j := j) (by omega)
theorem fitI {α : Type} [Inhabited α] {k : Nat} {at_ : α -> Nat -> D} {x : D} (mkα : (Nat -> Int) -> α) (hk : ∀ g : Nat -> Int, ∀ j, j < k -> at_ (mkα g) j = I (g j)) (h : Fits (shI k) x) : ∃ l : List α, D.eqv x (.slc k l.length fun i => at_ (l.getD i default)) := by
 obtain ⟨l, _, _, e⟩ := fitsL (at_ := at_) mkα (fun j hj => zm4 hj) hk h
 exact ⟨l, e⟩
abbrev shDay : List Sh := [.int .i64, .int .i64, shI 1, shI 4, shI 3, shI 8, shI 7, .int .i64, .int .i64, shI 8]
theorem rep_Day {w : World} {ok : Nat -> Prop} {xs : List D} {v : Value} (hr : Rep1 w ok (.agg xs) v) (h : All2 Fits shDay xs) : ∃ d : Day, Rep1 w ok d.v v := by
 obtain ⟨vs, e, hv⟩ := hr
 cases h with | cons h0 h =>
 cases h with | cons h1 h =>
 cases h with | cons h2 h =>
 cases h with | cons h3 h =>
 cases h with | cons h4 h =>
 cases h with | cons h5 h =>
 cases h with | cons h6 h =>
 cases h with | cons h7 h =>
 cases h with | cons h8 h =>
 cases h with | cons h9 h =>
 cases h
 obtain ⟨n0, -, rfl⟩ := h0
 obtain ⟨n1, -, rfl⟩ := h1
 obtain ⟨n7, -, rfl⟩ := h7
 obtain ⟨n8, -, rfl⟩ := h8
 obtain ⟨l2, e2⟩ := fitI (α := Int) (at_ := fun a _ => I a) (fun g => g 0) (fun g j hj => by
  match j, hj with
  | 0, _ => rfl) h2
 obtain ⟨l3, e3⟩ := fitI (α := Twr) (at_ := Twr.at) (fun g => ⟨g 0, ⟨g 1, g 2⟩, g 3⟩) (fun g j hj => by
  match j, hj with
  | 0, _ => rfl
  | 1, _ => rfl
  | 2, _ => rfl
  | 3, _ => rfl) h3
 obtain ⟨l4, e4⟩ := fitI (α := Hz) (at_ := Hz.at) (fun g => ⟨g 0, g 1, g 2⟩) (fun g j hj => by
  match j, hj with
  | 0, _ => rfl
  | 1, _ => rfl
  | 2, _ => rfl) h4
 obtain ⟨l5, e5⟩ := fitI (α := Cir) (at_ := Cir.at) (fun g => ⟨g 0, ⟨g 1, g 2⟩, g 3, g 4, g 5, g 6, g 7⟩) (fun g j hj => by
  match j, hj with
  | 0, _ => rfl
  | 1, _ => rfl
  | 2, _ => rfl
  | 3, _ => rfl
  | 4, _ => rfl
  | 5, _ => rfl
  | 6, _ => rfl
  | 7, _ => rfl) h5
 obtain ⟨l6, e6⟩ := fitI (α := Chk) (at_ := Chk.at) (fun g => ⟨g 0, g 1, g 2, ⟨g 3, g 4⟩, g 5, g 6⟩) (fun g j hj => by
  match j, hj with
  | 0, _ => rfl
  | 1, _ => rfl
  | 2, _ => rfl
  | 3, _ => rfl
  | 4, _ => rfl
  | 5, _ => rfl
  | 6, _ => rfl) h6
 obtain ⟨l9, e9⟩ := fitI (α := Rpt) (at_ := Rpt.at) (fun g => ⟨g 0, g 1, g 2, g 3, g 4, g 5, g 6, g 7⟩) (fun g j hj => by
  match j, hj with
  | 0, _ => rfl
  | 1, _ => rfl
  | 2, _ => rfl
  | 3, _ => rfl
  | 4, _ => rfl
  | 5, _ => rfl
  | 6, _ => rfl
  | 7, _ => rfl) h9
 exact ⟨⟨⟨⟨⟨n0, n1, l2⟩, l3, l4⟩, ⟨l5, l6⟩⟩, n7, n8, l9⟩, vs, e, zgm hv ⟨⟨rfl, rfl⟩, ⟨rfl, rfl⟩, e2, e3, e4, e5, e6, ⟨rfl, rfl⟩, ⟨rfl, rfl⟩, e9, trivial⟩⟩
theorem rep_lI {w : World} {ok : Nat -> Prop} {x : D} {v : Value} (hr : Rep1 w ok (.d x) v) (h : All2 Fits [shI 1] [x]) : ∃ l : List Int, Rep1 w ok (.d (lI l)) v := by
 cases h with
 | cons h _ =>
 obtain ⟨l, e⟩ := fitI (α := Int) (at_ := fun a _ => I a) (fun g => g 0) (fun g j hj => by
  match j, hj with
  | 0, _ => rfl) h
 exact ⟨l, Rep.eqv hr e⟩
end Go.Pg
