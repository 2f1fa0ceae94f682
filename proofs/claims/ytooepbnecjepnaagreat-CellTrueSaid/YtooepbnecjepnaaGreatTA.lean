/- Texts joined and shortened by program. -/
import Derived.Test.YtooepbnecjepnaaGreatT8
import Derived.Test.YtooepbnecjepnaaGreatT6
set_option maxHeartbeats 4000000
set_option linter.all false
set_option maxRecDepth 100000
namespace Go.Pg
open Go.Proofs Go.RowKit
def smlB (s : Svc) : Bool := decide ((s.c.M.G.length : Int) <= 200) && decide (s.c.M.W <= 12) && decide (s.c.M.H <= 12) && (decide ((s.c.T.length : Int) <= 4) || (decide ((12 : Int) < s.c.T.length) && decide ((s.c.T.length : Int) <= 20))) && decide ((s.c.Z.length : Int) <= 4) && decide ((s.k.C.length : Int) <= 4) && decide ((s.k.K.length : Int) <= 6)
theorem znO (s : Svc) : Spec PP 7 [s.v] [B (smlB s)] := by
 refine sA Tryz.func7 ?_
 apply bY <;> intro h1
 rotate_left
 ·have h1 : decide ((s.c.M.G.length : Int) <= 200) = false := h1
  repeat first | apply sT | apply sF
  exact r1B rfl (by unfold smlB; rw [h1]; simp)
 have h1 : decide ((s.c.M.G.length : Int) <= 200) = true := h1
 repeat first | apply sT | apply sF
 apply bY <;> intro h2
 rotate_left
 ·have h2 : decide (s.c.M.W <= 12) = false := h2
  repeat first | apply sT | apply sF
  exact r1B rfl (by unfold smlB; rw [h2]; simp)
 have h2 : decide (s.c.M.W <= 12) = true := h2
 repeat first | apply sT | apply sF
 apply bY <;> intro h3
 rotate_left
 ·have h3 : decide (s.c.M.H <= 12) = false := h3
  repeat first | apply sT | apply sF
  exact r1B rfl (by unfold smlB; rw [h3]; simp)
 have h3 : decide (s.c.M.H <= 12) = true := h3
 repeat first | apply sT | apply sF
 have last : ∀ (t : Bool), t = (decide ((s.c.T.length : Int) <= 4) || (decide ((12 : Int) < s.c.T.length) && decide ((s.c.T.length : Int) <= 20))) -> smlB s = (t && decide ((s.c.Z.length : Int) <= 4) && decide ((s.k.C.length : Int) <= 4) && decide ((s.k.K.length : Int) <= 6)) := fun t ht => by
  unfold smlB; rw [h1, h2, h3, <- ht]; rfl
 apply bY <;> intro h4
 ·have h4 : decide ((s.c.T.length : Int) <= 4) = true := h4
  have last := last true (by rw [h4]; rfl)
  repeat first | apply sT | apply sF
  apply bY <;> intro h5
  rotate_left
  ·have h5 : decide ((s.c.Z.length : Int) <= 4) = false := h5
   repeat first | apply sT | apply sF
   exact r1B rfl (by rw [last, h5]; rfl)
  have h5 : decide ((s.c.Z.length : Int) <= 4) = true := h5
  repeat first | apply sT | apply sF
  apply bY <;> intro h6
  rotate_left
  ·have h6 : decide ((s.k.C.length : Int) <= 4) = false := h6
   repeat first | apply sT | apply sF
   exact r1B rfl (by rw [last, h5, h6]; rfl)
  have h6 : decide ((s.k.C.length : Int) <= 4) = true := h6
  repeat first | apply sT | apply sF
  exact r1B rfl (by rw [last, h5, h6]; rfl)
 ·have h4 : decide ((s.c.T.length : Int) <= 4) = false := h4
  repeat first | apply sT | apply sF
  apply bY <;> intro h7
  ·have h7 : decide ((12 : Int) < s.c.T.length) = true := h7
   repeat first | apply sT | apply sF
   apply bY <;> intro h8
   rotate_left
   ·have h8 : decide ((s.c.T.length : Int) <= 20) = false := h8
    have last := last false (by rw [h4, h7, h8]; rfl)
    repeat first | apply sT | apply sF
    exact r1B rfl (by rw [last]; rfl)
   have h8 : decide ((s.c.T.length : Int) <= 20) = true := h8
   have last := last true (by rw [h4, h7, h8]; rfl)
   repeat first | apply sT | apply sF
   apply bY <;> intro h5
   rotate_left
   ·have h5 : decide ((s.c.Z.length : Int) <= 4) = false := h5
    repeat first | apply sT | apply sF
    exact r1B rfl (by rw [last, h5]; rfl)
   have h5 : decide ((s.c.Z.length : Int) <= 4) = true := h5
   repeat first | apply sT | apply sF
   apply bY <;> intro h6
   rotate_left
   ·have h6 : decide ((s.k.C.length : Int) <= 4) = false := h6
    repeat first | apply sT | apply sF
    exact r1B rfl (by rw [last, h5, h6]; rfl)
   have h6 : decide ((s.k.C.length : Int) <= 4) = true := h6
   repeat first | apply sT | apply sF
   exact r1B rfl (by rw [last, h5, h6]; rfl)
  ·have h7 : decide ((12 : Int) < s.c.T.length) = false := h7
   have last := last false (by rw [h4, h7]; rfl)
   repeat first | apply sT | apply sF
   exact r1B rfl (by rw [last]; rfl)
theorem ze1 {w : World} {ok : Nat -> Prop} : ∀ {xs ys : List D} {vs : List Value}, All2 (Rep w ok) xs vs -> eqvs xs ys -> All2 (Rep w ok) ys vs
 | [], [], _, h, _ => h
 | _ :: _, _ :: _, _, .cons h r, ⟨e, es⟩ => .cons (Rep.eqv h e) (ze1 r es)
abbrev shI (k : Nat) : Sh := .sl k fun j => shSl.getD' (List.replicate k (.int .i64)) j
theorem zpS {k j : Nat} (h : j < k) : shSl.getD' (List.replicate k (.int .i64)) j = .int .i64 := by
 induction k generalizing j with
 | zero => omega
 | succ k ih =>
  cases j with
  | zero => rfl
  | succ j => exact ih (j := j) (by omega)
theorem fitI {α : Type} [Inhabited α] {k : Nat} {at_ : α -> Nat -> D} {x : D} (mkα : (Nat -> Int) -> α) (hk : ∀ g : Nat -> Int, ∀ j, j < k -> at_ (mkα g) j = I (g j)) (h : Fits (shI k) x) : ∃ l : List α, D.eqv x (.slc k l.length fun i => at_ (l.getD i default)) := by
 obtain ⟨l, _, _, e⟩ := fitsL (at_ := at_) mkα (fun j hj => zpS hj) hk h
 exact ⟨l, e⟩
abbrev shSvc : List Sh := [.int .i64, .int .i64, shI 1, shI 4, shI 3, shI 8, shI 7]
theorem rep_Svc {w : World} {ok : Nat -> Prop} {xs : List D} {v : Value} (hr : Rep1 w ok (.agg xs) v) (h : All2 Fits shSvc xs) : ∃ s : Svc, Rep1 w ok s.v v := by
 obtain ⟨vs, e, hv⟩ := hr
 cases h with | cons h0 h =>
 cases h with | cons h1 h =>
 cases h with | cons h2 h =>
 cases h with | cons h3 h =>
 cases h with | cons h4 h =>
 cases h with | cons h5 h =>
 cases h with | cons h6 h =>
 cases h
 obtain ⟨n0, -, rfl⟩ := h0
 obtain ⟨n1, -, rfl⟩ := h1
 obtain ⟨l2, e2⟩ := fitI (α := Int) (at_ := fun a _ => I a) (fun g => g 0) (fun g j hj => by
  match j, hj with
  | 0, _ => rfl) h2
 obtain ⟨l3, e3⟩ := fitI (α := Twr) (at_ := Twr.at) (fun g => ⟨g 0, ⟨g 1, g 2⟩, g 3⟩) (fun g j hj => by
  match j, hj with
  | 0, _ => rfl
  | 1, _ => rfl
  | 2, _ => rfl
  | 3, _ => rfl) h3
 obtain ⟨l4, e4⟩ := fitI (α := Hz) (at_ := Hz.at) (fun g => ⟨g 0, g 1, g 2⟩) (fun g j hj => by
  match j, hj with
  | 0, _ => rfl
  | 1, _ => rfl
  | 2, _ => rfl) h4
 obtain ⟨l5, e5⟩ := fitI (α := Cir) (at_ := Cir.at) (fun g => ⟨g 0, ⟨g 1, g 2⟩, g 3, g 4, g 5, g 6, g 7⟩) (fun g j hj => by
  match j, hj with
  | 0, _ => rfl
  | 1, _ => rfl
  | 2, _ => rfl
  | 3, _ => rfl
  | 4, _ => rfl
  | 5, _ => rfl
  | 6, _ => rfl
  | 7, _ => rfl) h5
 obtain ⟨l6, e6⟩ := fitI (α := Chk) (at_ := Chk.at) (fun g => ⟨g 0, g 1, g 2, ⟨g 3, g 4⟩, g 5, g 6⟩) (fun g j hj => by
  match j, hj with
  | 0, _ => rfl
  | 1, _ => rfl
  | 2, _ => rfl
  | 3, _ => rfl
  | 4, _ => rfl
  | 5, _ => rfl
  | 6, _ => rfl) h6
 exact ⟨⟨⟨⟨n0, n1, l2⟩, l3, l4⟩, ⟨l5, l6⟩⟩, vs, e, ze1 hv ⟨⟨rfl, rfl⟩, ⟨rfl, rfl⟩, e2, e3, e4, e5, e6, trivial⟩⟩
theorem zmK (x : Cir) (a b : Int) : drf x a b = drf x b a := by
 unfold drf
 rw [show max (a - b) (b - a) = max (b - a) (a - b) by omega]
def cl2 (x : Cir) (a b : Thg) : Bool := decide (drf x a.k.Tick b.k.Tick < gap a b)
def Fine (x : Cir) (l : List Thg) : Prop := (∀ t ∈ l, noneB t = false) /\ l.Pairwise fun a b => cl2 x a b = false
theorem zgE {α : Type} [Inhabited α] {r : α -> α -> Prop} {l : List α} : l.Pairwise r ↔ ∀ i j, i < j -> j < l.length -> r (l.getD i default) (l.getD j default) := by
 rw [List.pairwise_iff_getElem]
 constructor
 ·intro h i j hij hj
  have := h i j (by omega) hj hij
  rw [gdq, gdq, gqe (by omega), gqe hj]
  exact this
 ·intro h i j hi hj hij
  have := h i j hij hj
  rw [gdq, gdq, gqe (by omega), gqe hj] at this
  exact this
theorem zmU (x : Cir) (l : List Thg) : clsL x l = [] ↔ Fine x l := by
 have e1 : clsL x l = [] ↔ ∀ i, i < l.length -> clsI x l i = [] := by
  unfold clsL clsU
  rw [List.flatMap_eq_nil_iff]
  exact ⟨fun h i hi => h i (List.mem_range.2 hi), fun h i hi => h i (List.mem_range.1 hi)⟩
 have e2 : ∀ i, i < l.length -> (clsI x l i = [] ↔ noneB (l.getD i default) = false /\ ∀ j, i < j -> j < l.length -> clB x (l.getD i default) (l.getD j default) = false) := fun i hi => by
  unfold clsI
  cases hn : noneB (l.getD i default) with
  | true => simp
  | false =>
   simp only [Bool.false_eq_true, if_false, true_and]
   unfold clsJ
   rw [List.map_eq_nil_iff, List.filter_eq_nil_iff]
   constructor
   ·intro h j hij hj
    have hm : l.getD j default ∈ (l.drop (i + 1)).take (l.length - (i + 1)) := by
     rw [List.take_of_length_le (by rw [List.length_drop]; omega)]
     have := gd1 (l := l.drop (i + 1)) (i := j - (i + 1)) (by rw [List.length_drop]; omega) default
     rw [zmJ (by omega), show i + 1 + (j - (i + 1)) = j by omega] at this
     exact this
    have := h _ hm
    simpa using this
   ·intro h t ht
    have ht := List.mem_of_mem_take ht
    obtain ⟨j, hj, rfl⟩ := zaX default ht
    rw [List.length_drop] at hj
    rw [zmJ (by omega), h (i + 1 + j) (by omega) (by omega)]
    decide
 rw [e1]
 unfold Fine
 rw [zgE]
 constructor
 ·intro h
  refine ⟨fun t ht => ?_, fun i j hij hj => ?_⟩
  ·obtain ⟨i, hi, rfl⟩ := zaX default ht
   exact ((e2 i hi).1 (h i hi)).1
  ·have h1 := ((e2 i (by omega)).1 (h i (by omega))).2 j hij hj
   have h2 := ((e2 j hj).1 (h j hj)).1
   unfold clB at h1
   rw [h2] at h1
   exact h1
 ·intro ⟨h1, h2⟩ i hi
  refine (e2 i hi).2 ⟨h1 _ (gd1 hi default), fun j hij hj => ?_⟩
  have := h2 i j hij hj
  unfold clB
  unfold cl2 at this
  rw [this, Bool.and_false]
theorem ziR (x : Cir) (t : Int) : ∀ (l : List Thg) (z : ZS) (y : Int), (l.foldl (zStep x t) z).lo <= y ↔ z.lo <= y /\ ∀ g ∈ l, g.s.Lo - drf x g.k.Tick t <= y
 | [], z, y => by simp
 | g :: r, z, y => by
  rw [List.foldl_cons, ziR x t r, List.forall_mem_cons]
  unfold zStep
  dsimp only
  constructor
  ·rintro ⟨h1, h2⟩
   split at h1 <;> exact ⟨by omega, by omega, h2⟩
  ·rintro ⟨h1, h2, h3⟩
   split <;> exact ⟨by omega, h3⟩
theorem zhc (x : Cir) (t : Int) : ∀ (l : List Thg) (z : ZS) (y : Int), y <= (l.foldl (zStep x t) z).hi ↔ y <= z.hi /\ ∀ g ∈ l, y <= g.s.Hi + drf x g.k.Tick t
 | [], z, y => by simp
 | g :: r, z, y => by
  rw [List.foldl_cons, zhc x t r, List.forall_mem_cons]
  unfold zStep
  dsimp only
  constructor
  ·rintro ⟨h1, h2⟩
   split at h1 <;> exact ⟨by omega, by omega, h2⟩
  ·rintro ⟨h1, h2, h3⟩
   split <;> exact ⟨by omega, h3⟩
theorem zkp {l : List Rpt} {i : Nat} (hi : i <= l.length) (x : Int) : ((l.take i).map Rpt.ID).contains x = true ↔ ∃ j, j < i /\ (l.getD j default).ID = x := by
 rw [List.contains_iff_mem, List.mem_map]
 constructor
 ·rintro ⟨r, hr, rfl⟩
  obtain ⟨j, hj, rfl⟩ := zaX default hr
  rw [List.length_take] at hj
  refine ⟨j, by omega, ?_⟩
  rw [gdq, gdq, List.getElem?_take, if_pos (by omega)]
 ·rintro ⟨j, hj, rfl⟩
  refine ⟨l.getD j default, ?_, rfl⟩
  have := gd1 (l := l.take i) (i := j) (by rw [List.length_take]; omega) default
  rw [gdq, List.getElem?_take, if_pos hj, <- gdq] at this
  exact this
structure Lim where
  lo : Int
  hi : Int
  no : Bool
  deriving DecidableEq, Inhabited
abbrev Lim.ds (x : Lim) : List D := [I x.lo, I x.hi, .bool x.no]
end Go.Pg
namespace Go.Pg
open Go.Proofs Go.RowKit Go.Sort Go.Shelf
structure Tg where
  N : Int
  T : Int
  lo : Int
  hi : Int
  no : Bool
  deriving DecidableEq, Inhabited
abbrev Tg.ds (x : Tg) : List D := [I x.N, I x.T, I x.lo, I x.hi, .bool x.no]
abbrev Tg.v (x : Tg) : V1 := .agg x.ds
def Tg.at (x : Tg) : Nat -> D
 | 0 => I x.N
 | 1 => I x.T
 | 2 => I x.lo
 | 3 => I x.hi
 | _ => .bool x.no
end Go.Pg
