/- Texts joined and shortened by program. -/
import Derived.Test.YtooepbnecjepnaaGreatH8
import Derived.Test.YtooepbnecjepnaaGreatH6
set_option maxHeartbeats 4000000
set_option linter.all false
set_option maxRecDepth 100000
namespace Go.Pg
open Go.Proofs Go.RowKit
def smlB (s : Svc) : Bool := decide ((s.c.M.G.length : Int) <= 200) && decide (s.c.M.W <= 12) && decide (s.c.M.H <= 12) && (decide ((s.c.T.length : Int) <= 4) || (decide ((12 : Int) < s.c.T.length) && decide ((s.c.T.length : Int) <= 20))) && decide ((s.c.Z.length : Int) <= 4) && decide ((s.k.C.length : Int) <= 4) && decide ((s.k.K.length : Int) <= 6)
theorem zpj (s : Svc) : Spec PP 7 [s.v] [B (smlB s)] := by
 refine sA Tryz.func7 ?_
 apply sB <;> intro h1
 rotate_left
 ·have h1 : decide ((s.c.M.G.length : Int) <= 200) = false := h1
  repeat first | apply sT | apply sF
  exact r1B rfl (by unfold smlB; rw [h1]; simp)
 have h1 : decide ((s.c.M.G.length : Int) <= 200) = true := h1
 repeat first | apply sT | apply sF
 apply sB <;> intro h2
 rotate_left
 ·have h2 : decide (s.c.M.W <= 12) = false := h2
  repeat first | apply sT | apply sF
  exact r1B rfl (by unfold smlB; rw [h2]; simp)
 have h2 : decide (s.c.M.W <= 12) = true := h2
 repeat first | apply sT | apply sF
 apply sB <;> intro h3
 rotate_left
 ·have h3 : decide (s.c.M.H <= 12) = false := h3
  repeat first | apply sT | apply sF
  exact r1B rfl (by unfold smlB; rw [h3]; simp)
 have h3 : decide (s.c.M.H <= 12) = true := h3
 repeat first | apply sT | apply sF
 have last : ∀ (t : Bool), t = (decide ((s.c.T.length : Int) <= 4) || (decide ((12 : Int) < s.c.T.length) && decide ((s.c.T.length : Int) <= 20))) -> smlB s = (t && decide ((s.c.Z.length : Int) <= 4) && decide ((s.k.C.length : Int) <= 4) && decide ((s.k.K.length : Int) <= 6)) := fun t ht => by
  unfold smlB; rw [h1, h2, h3, <- ht]; rfl
 apply sB <;> intro h4
 ·have h4 : decide ((s.c.T.length : Int) <= 4) = true := h4
  have last := last true (by rw [h4]; rfl)
  repeat first | apply sT | apply sF
  apply sB <;> intro h5
  rotate_left
  ·have h5 : decide ((s.c.Z.length : Int) <= 4) = false := h5
   repeat first | apply sT | apply sF
   exact r1B rfl (by rw [last, h5]; rfl)
  have h5 : decide ((s.c.Z.length : Int) <= 4) = true := h5
  repeat first | apply sT | apply sF
  apply sB <;> intro h6
  rotate_left
  ·have h6 : decide ((s.k.C.length : Int) <= 4) = false := h6
   repeat first | apply sT | apply sF
   exact r1B rfl (by rw [last, h5, h6]; rfl)
  have h6 : decide ((s.k.C.length : Int) <= 4) = true := h6
  repeat first | apply sT | apply sF
  exact r1B rfl (by rw [last, h5, h6]; rfl)
 ·have h4 : decide ((s.c.T.length : Int) <= 4) = false := h4
  repeat first | apply sT | apply sF
  apply sB <;> intro h7
  ·have h7 : decide ((12 : Int) < s.c.T.length) = true := h7
   repeat first | apply sT | apply sF
   apply sB <;> intro h8
   rotate_left
   ·have h8 : decide ((s.c.T.length : Int) <= 20) = false := h8
    have last := last false (by rw [h4, h7, h8]; rfl)
    repeat first | apply sT | apply sF
    exact r1B rfl (by rw [last]; rfl)
   have h8 : decide ((s.c.T.length : Int) <= 20) = true := h8
   have last := last true (by rw [h4, h7, h8]; rfl)
   repeat first | apply sT | apply sF
   apply sB <;> intro h5
   rotate_left
   ·have h5 : decide ((s.c.Z.length : Int) <= 4) = false := h5
    repeat first | apply sT | apply sF
    exact r1B rfl (by rw [last, h5]; rfl)
   have h5 : decide ((s.c.Z.length : Int) <= 4) = true := h5
   repeat first | apply sT | apply sF
   apply sB <;> intro h6
   rotate_left
   ·have h6 : decide ((s.k.C.length : Int) <= 4) = false := h6
    repeat first | apply sT | apply sF
    exact r1B rfl (by rw [last, h5, h6]; rfl)
   have h6 : decide ((s.k.C.length : Int) <= 4) = true := h6
   repeat first | apply sT | apply sF
   exact r1B rfl (by rw [last, h5, h6]; rfl)
  ·have h7 : decide ((12 : Int) < s.c.T.length) = false := h7
   have last := last false (by rw [h4, h7]; rfl)
   repeat first | apply sT | apply sF
   exact r1B rfl (by rw [last]; rfl)
theorem zie {w : World} {ok : Nat -> Prop} : ∀ {xs ys : List D} {vs : List Value}, All2 (Rep w ok) xs vs -> eqvs xs ys -> All2 (Rep w ok) ys vs
 | [], [], _, h, _ => h
 | _ :: _, _ :: _, _, .cons h r, ⟨e, es⟩ => .cons (Rep.eqv h e) (zie r es)
abbrev shI (k : Nat) : Sh := .sl k fun j => shSl.getD' (List.replicate k (.int .i64)) j
theorem zrl {k j : Nat} (h : j < k) : shSl.getD' (List.replicate k (.int .i64)) j = .int .i64 := by
 induction k generalizing j with
 | zero => omega
 | succ k ih =>
  cases j with
  | zero => rfl
  | succ j => exact ih (j := j) (by omega)
theorem fitI {α : Type} [Inhabited α] {k : Nat} {at_ : α -> Nat -> D} {x : D} (mkα : (Nat -> Int) -> α) (hk : ∀ g : Nat -> Int, ∀ j, j < k -> at_ (mkα g) j = I (g j)) (h : Fits (shI k) x) : ∃ l : List α, D.eqv x (.slc k l.length fun i => at_ (l.getD i default)) := by
 obtain ⟨l, _, _, e⟩ := fitsL (at_ := at_) mkα (fun j hj => zrl hj) hk h
 exact ⟨l, e⟩
abbrev shSvc : List Sh := [.int .i64, .int .i64, shI 1, shI 4, shI 3, shI 8, shI 7]
theorem rep_Svc {w : World} {ok : Nat -> Prop} {xs : List D} {v : Value} (hr : Rep1 w ok (.agg xs) v) (h : All2 Fits shSvc xs) : ∃ s : Svc, Rep1 w ok s.v v := by
 obtain ⟨vs, e, hv⟩ := hr
 cases h with | cons h0 h =>
 cases h with | cons h1 h =>
 cases h with | cons h2 h =>
 cases h with | cons h3 h =>
 cases h with | cons h4 h =>
 cases h with | cons h5 h =>
 cases h with | cons h6 h =>
 cases h
 obtain ⟨n0, -, rfl⟩ := h0
 obtain ⟨n1, -, rfl⟩ := h1
 obtain ⟨l2, e2⟩ := fitI (α := Int) (at_ := fun a _ => I a) (fun g => g 0) (fun g j hj => by
  match j, hj with
  | 0, _ => rfl) h2
 obtain ⟨l3, e3⟩ := fitI (α := Twr) (at_ := Twr.at) (fun g => ⟨g 0, ⟨g 1, g 2⟩, g 3⟩) (fun g j hj => by
  match j, hj with
  | 0, _ => rfl
  | 1, _ => rfl
  | 2, _ => rfl
  | 3, _ => rfl) h3
 obtain ⟨l4, e4⟩ := fitI (α := Hz) (at_ := Hz.at) (fun g => ⟨g 0, g 1, g 2⟩) (fun g j hj => by
  match j, hj with
  | 0, _ => rfl
  | 1, _ => rfl
  | 2, _ => rfl) h4
 obtain ⟨l5, e5⟩ := fitI (α := Cir) (at_ := Cir.at) (fun g => ⟨g 0, ⟨g 1, g 2⟩, g 3, g 4, g 5, g 6, g 7⟩) (fun g j hj => by
  match j, hj with
  | 0, _ => rfl
  | 1, _ => rfl
  | 2, _ => rfl
  | 3, _ => rfl
  | 4, _ => rfl
  | 5, _ => rfl
  | 6, _ => rfl
  | 7, _ => rfl) h5
 obtain ⟨l6, e6⟩ := fitI (α := Chk) (at_ := Chk.at) (fun g => ⟨g 0, g 1, g 2, ⟨g 3, g 4⟩, g 5, g 6⟩) (fun g j hj => by
  match j, hj with
  | 0, _ => rfl
  | 1, _ => rfl
  | 2, _ => rfl
  | 3, _ => rfl
  | 4, _ => rfl
  | 5, _ => rfl
  | 6, _ => rfl) h6
 exact ⟨⟨⟨⟨n0, n1, l2⟩, l3, l4⟩, ⟨l5, l6⟩⟩, vs, e, zie hv ⟨⟨rfl, rfl⟩, ⟨rfl, rfl⟩, e2, e3, e4, e5, e6, trivial⟩⟩
theorem zn2 (x : Cir) (a b : Int) : drf x a b = drf x b a := by
 unfold drf
 rw [show max (a - b) (b - a) = max (b - a) (a - b) by omega]
def cl2 (x : Cir) (a b : Thg) : Bool := decide (drf x a.k.Tick b.k.Tick < gap a b)
theorem zfQ (x : Cir) (a b : Thg) : cl2 x a b = cl2 x b a := by
 unfold cl2
 rw [zn2]
 apply decide_eq_decide.2
 unfold gap
 omega
def Fine (x : Cir) (l : List Thg) : Prop := (∀ t ∈ l, noneB t = false) /\ l.Pairwise fun a b => cl2 x a b = false
theorem zlM {x : Cir} {l m : List Thg} (h : l.Perm m) : Fine x l ↔ Fine x m := by
 unfold Fine
 have h1 : (∀ t ∈ l, noneB t = false) ↔ ∀ t ∈ m, noneB t = false := ⟨fun g t ht => g t (h.mem_iff.2 ht), fun g t ht => g t (h.mem_iff.1 ht)⟩
 rw [h1, h.pairwise_iff (fun {a b} hab => by rw [zfQ]; exact hab)]
theorem zfv {α : Type} [Inhabited α] {r : α -> α -> Prop} {l : List α} : l.Pairwise r ↔ ∀ i j, i < j -> j < l.length -> r (l.getD i default) (l.getD j default) := by
 rw [List.pairwise_iff_getElem]
 constructor
 ·intro h i j hij hj
  have := h i j (by omega) hj hij
  rw [gdq, gdq, gqe (by omega), gqe hj]
  exact this
 ·intro h i j hi hj hij
  have := h i j hij hj
  rw [gdq, gdq, gqe (by omega), gqe hj] at this
  exact this
theorem ziQ (x : Cir) (l : List Thg) : clsL x l = [] ↔ Fine x l := by
 have e1 : clsL x l = [] ↔ ∀ i, i < l.length -> clsI x l i = [] := by
  unfold clsL clsU
  rw [List.flatMap_eq_nil_iff]
  exact ⟨fun h i hi => h i (List.mem_range.2 hi), fun h i hi => h i (List.mem_range.1 hi)⟩
 have e2 : ∀ i, i < l.length -> (clsI x l i = [] ↔ noneB (l.getD i default) = false /\ ∀ j, i < j -> j < l.length -> clB x (l.getD i default) (l.getD j default) = false) := fun i hi => by
  unfold clsI
  cases hn : noneB (l.getD i default) with
  | true => simp
  | false =>
   simp only [Bool.false_eq_true, if_false, true_and]
   unfold clsJ
   rw [List.map_eq_nil_iff, List.filter_eq_nil_iff]
   constructor
   ·intro h j hij hj
    have hm : l.getD j default ∈ (l.drop (i + 1)).take (l.length - (i + 1)) := by
     rw [List.take_of_length_le (by rw [List.length_drop]; omega)]
     have := gd1 (l := l.drop (i + 1)) (i := j - (i + 1)) (by rw [List.length_drop]; omega) default
     rw [zn1 (by omega), show i + 1 + (j - (i + 1)) = j by omega] at this
     exact this
    have := h _ hm
    simpa using this
   ·intro h t ht
    have ht := List.mem_of_mem_take ht
    obtain ⟨j, hj, rfl⟩ := zbh default ht
    rw [List.length_drop] at hj
    rw [zn1 (by omega), h (i + 1 + j) (by omega) (by omega)]
    decide
 rw [e1]
 unfold Fine
 rw [zfv]
 constructor
 ·intro h
  refine ⟨fun t ht => ?_, fun i j hij hj => ?_⟩
  ·obtain ⟨i, hi, rfl⟩ := zbh default ht
   exact ((e2 i hi).1 (h i hi)).1
  ·have h1 := ((e2 i (by omega)).1 (h i (by omega))).2 j hij hj
   have h2 := ((e2 j hj).1 (h j hj)).1
   unfold clB at h1
   rw [h2] at h1
   exact h1
 ·intro ⟨h1, h2⟩ i hi
  refine (e2 i hi).2 ⟨h1 _ (gd1 hi default), fun j hij hj => ?_⟩
  have := h2 i j hij hj
  unfold clB
  unfold cl2 at this
  rw [this, Bool.and_false]
theorem zoA (x : Cir) (t : Int) : ∀ (l : List Thg) (z : ZS) (y : Int), (l.foldl (zStep x t) z).lo <= y ↔ z.lo <= y /\ ∀ g ∈ l, g.s.Lo - drf x g.k.Tick t <= y
 | [], z, y => by simp
 | g :: r, z, y => by
  rw [List.foldl_cons, zoA x t r, List.forall_mem_cons]
  unfold zStep
  dsimp only
  constructor
  ·rintro ⟨h1, h2⟩
   split at h1 <;> exact ⟨by omega, by omega, h2⟩
  ·rintro ⟨h1, h2, h3⟩
   split <;> exact ⟨by omega, h3⟩
theorem zoB (x : Cir) (t : Int) : ∀ (l : List Thg) (z : ZS) (y : Int), y <= (l.foldl (zStep x t) z).hi ↔ y <= z.hi /\ ∀ g ∈ l, y <= g.s.Hi + drf x g.k.Tick t
 | [], z, y => by simp
 | g :: r, z, y => by
  rw [List.foldl_cons, zoB x t r, List.forall_mem_cons]
  unfold zStep
  dsimp only
  constructor
  ·rintro ⟨h1, h2⟩
   split at h1 <;> exact ⟨by omega, by omega, h2⟩
  ·rintro ⟨h1, h2, h3⟩
   split <;> exact ⟨by omega, h3⟩
theorem zlw {l : List Rpt} {i : Nat} (hi : i <= l.length) (x : Int) : ((l.take i).map Rpt.ID).contains x = true ↔ ∃ j, j < i /\ (l.getD j default).ID = x := by
 rw [List.contains_iff_mem, List.mem_map]
 constructor
 ·rintro ⟨r, hr, rfl⟩
  obtain ⟨j, hj, rfl⟩ := zbh default hr
  rw [List.length_take] at hj
  refine ⟨j, by omega, ?_⟩
  rw [gdq, gdq, List.getElem?_take, if_pos (by omega)]
 ·rintro ⟨j, hj, rfl⟩
  refine ⟨l.getD j default, ?_, rfl⟩
  have := gd1 (l := l.take i) (i := j) (by rw [List.length_take]; omega) default
  rw [gdq, List.getElem?_take, if_pos hj, <- gdq] at this
  exact this
theorem zat (n lo hi : Int) : Spec PP 200 [N n, N lo, N hi] [B (within n lo hi)] := by
 refine sA Tryz.func200 ?_
 apply sB <;> intro h1
 ·have h1 : decide (lo <= n) = true := h1
  refine sT ?_
  refine r1B rfl ?_
  unfold within; rw [h1]; rfl
 ·have h1 : decide (lo <= n) = false := h1
  refine sF ?_
  refine r1B rfl ?_
  unfold within; rw [h1]; rfl
theorem zfq (n : Int) (hn : -1000000000000 <= n /\ n <= 1000000000000) : Spec PP 194 [N n] [N (n % 3600)] := by
 have h1 := Int.tmod_lt_of_pos n (show (0 : Int) < 3600 by decide)
 have h2 := Int.tmod_lt_of_pos (-n) (show (0 : Int) < 3600 by decide)
 rw [Int.neg_tmod] at h2
 have e := Int.tmod_eq_emod (a := n) (b := 3600)
 refine sA Tryz.func194 ?_
 refine ⟨by decide, ?_⟩
 apply sB <;> intro h3
 ·have h3 : n.tmod 3600 < 0 := dT h3
  refine ⟨i6, ?_⟩
  refine r1I rfl ?_
  show n.tmod 3600 + 3600 = n % 3600
  rw [Int.tmod_eq_emod] at h3 ⊢
  split at h3
  ·omega
  ·rename_i h4
   rw [if_neg h4]
   show n % 3600 - 3600 + 3600 = n % 3600
   omega
 ·have h3 : ¬ n.tmod 3600 < 0 := dF h3
  refine r1I rfl ?_
  show n.tmod 3600 = n % 3600
  rw [Int.tmod_eq_emod] at h3 ⊢
  split at h3
  ·rename_i h4
   rw [if_pos h4]; omega
  ·rename_i h4
   have := Int.emod_lt_of_pos n (show (0 : Int) < 3600 by decide)
   exact absurd h3 (by show ¬ ¬ (n % 3600 - 3600 < 0); omega)
theorem zkO (p : Place) : Spec PP 120 [p.v] [B (on p)] := by
 refine sA Tryz.func120 ?_
 refine cP (zat p.X 0 48) rfl rfl ?_
 refine cP (zat p.Y 0 48) rfl rfl ?_
 apply sB <;> intro h1
 ·have h1 : within p.X 0 48 = true := h1
  refine sT ?_
  refine r1B rfl ?_
  unfold on; rw [h1]; rfl
 ·have h1 : within p.X 0 48 = false := h1
  refine sF ?_
  refine r1B rfl ?_
  unfold on; rw [h1]; rfl
theorem zdd {n d : Int} (hd : 0 < d) (h1 : -(3600 * d) <= n) (h2 : n < 0) : n + 3600 * d = n % (3600 * d) := by
 rw [<- Int.add_emod_right, Int.emod_eq_of_lt (by omega) (by omega)]
theorem zdc {n d : Int} (h1 : 0 <= n) (h2 : n < 3600 * d) : n = n % (3600 * d) := (Int.emod_eq_of_lt h1 h2).symm
theorem zmo {x y : Int} (h : x ≠ 0 \/ y ≠ 0) : -(3600 * (bearP x y).2) <= (bearP x y).1 /\ (bearP x y).1 < 3600 * (bearP x y).2 := by
 unfold bearP
 repeat' split
 all_goals (dsimp only; omega)
theorem zkN (x y : Int) (h : x ≠ 0 \/ y ≠ 0) (hx : -48 <= x /\ x <= 48) (hy : -48 <= y /\ y <= 48) : Spec PP 318 [N x, N y] [.agg [I ((bearP x y).1 % (3600 * (bearP x y).2)), I (bearP x y).2]] := by
 have hr := zmo h
 have hp := (zec h).2
 refine sA Tryz.func318 ?_
 refine ⟨i6, ⟨i6, ?_⟩⟩
 apply sB <;> intro h1
 ·have h1 : max y (-y) <= x := dT h1
  have e : bearP x y = (450 * y, x) := by unfold bearP; rw [if_pos (by omega)]
  rw [e] at hr hp ⊢
  dsimp only at hr hp ⊢
  refine ⟨i6, ?_⟩
  apply sB <;> intro h2
  ·have h2 : 450 * y < 0 := dT h2
   refine ⟨i6, ⟨i6, ?_⟩⟩
   exact r1C rfl rfl rfl rfl rfl rfl (zbl (zdd hp hr.1 h2) rfl)
  ·have h2 : ¬ 450 * y < 0 := dF h2
   exact r1C rfl rfl rfl rfl rfl rfl (zbl (zdc (by omega) hr.2) rfl)
 have h1 : ¬ max y (-y) <= x := dF h1
 apply sB <;> intro h2
 ·have h2 : max x (-x) <= y := dT h2
  have e : bearP x y = (900 * y - 450 * x, y) := by unfold bearP; rw [if_neg (by omega), if_pos (by omega)]
  rw [e] at hr hp ⊢
  dsimp only at hr hp ⊢
  refine ⟨i6, ⟨i6, ⟨i6, ?_⟩⟩⟩
  apply sB <;> intro h3
  ·have h3 : 900 * y - 450 * x < 0 := dT h3
   refine ⟨i6, ⟨i6, ?_⟩⟩
   exact r1C rfl rfl rfl rfl rfl rfl (zbl (zdd hp hr.1 h3) rfl)
  ·have h3 : ¬ 900 * y - 450 * x < 0 := dF h3
   exact r1C rfl rfl rfl rfl rfl rfl (zbl (zdc (by omega) hr.2) rfl)
 have h2 : ¬ max x (-x) <= y := dF h2
 refine ⟨i6, ?_⟩
 apply sB <;> intro h3
 ·have h3 : max y (-y) <= -x := dT h3
  have ex : max x (-x) = -x := by omega
  have e : bearP x y = (1800 * max x (-x) - 450 * y, max x (-x)) := by unfold bearP; rw [if_neg (by omega), if_neg (by omega), if_pos (by omega), ex]
  rw [e] at hr hp ⊢
  dsimp only at hr hp ⊢
  refine ⟨i6, ⟨i6, ⟨i6, ?_⟩⟩⟩
  apply sB <;> intro h4
  ·have h4 : 1800 * max x (-x) - 450 * y < 0 := dT h4
   refine ⟨i6, ⟨i6, ?_⟩⟩
   exact r1C rfl rfl rfl rfl rfl rfl (zbl (zdd hp hr.1 h4) rfl)
  ·have h4 : ¬ 1800 * max x (-x) - 450 * y < 0 := dF h4
   exact r1C rfl rfl rfl rfl rfl rfl (zbl (zdc (by omega) hr.2) rfl)
 have h3 : ¬ max y (-y) <= -x := dF h3
 have ey : max y (-y) = -y := by omega
 have e : bearP x y = (2700 * max y (-y) + 450 * x, max y (-y)) := by unfold bearP; rw [if_neg (by omega), if_neg (by omega), if_neg (by omega), ey]
 rw [e] at hr hp ⊢
 dsimp only at hr hp ⊢
 refine ⟨i6, ⟨i6, ⟨i6, ?_⟩⟩⟩
 apply sB <;> intro h4
 ·have h4 : 2700 * max y (-y) + 450 * x < 0 := dT h4
  refine ⟨i6, ⟨i6, ?_⟩⟩
  exact r1C rfl rfl rfl rfl rfl rfl (zbl (zdd hp hr.1 h4) rfl)
 ·have h4 : ¬ 2700 * max y (-y) + 450 * x < 0 := dF h4
  exact r1C rfl rfl rfl rfl rfl rfl (zbl (zdc (by omega) hr.2) rfl)
def brgR (a b : Place) : (Int × Int) × Bool := if (on a && on b && !(a == b)) = true then (bear a b, true) else ((0, 0), false)
theorem zhN {a b : Place} (h : (on a && on b && !(a == b)) = false) : brgR a b = ((0, 0), false) := by unfold brgR; rw [if_neg (by rw [h]; decide)]
theorem zi1 {a b : Place} (h1 : on a = true) (h2 : on b = true) (h3 : a ≠ b) : brgR a b = (bear a b, true) := by
 unfold brgR; rw [if_pos (by rw [h1, h2, beq_eq_false_iff_ne.2 h3]; rfl)]
theorem zjj (a b : Place) : Spec PP 301 [a.v, b.v] [.agg [I (brgR a b).1.1, I (brgR a b).1.2], B (brgR a b).2] := by
 refine sA Tryz.func301 ?_
 refine cP (zkO a) rfl rfl ?_
 refine cP (zkO b) rfl rfl ?_
 apply sB <;> intro h1
 ·have h1 : on a = false := by
   have : (!on a) = true := h1
   simpa using this
  refine sT (sT ?_)
  rw [zhN (by rw [h1]; rfl)]
  exact ⟨rtC (a := 4) rfl rfl rfl rfl rfl rfl (zaa _), rtB rfl rfl, trivial⟩
 have h1 : on a = true := by
  have : (!on a) = false := h1
  simpa using this
 refine sF ?_
 apply sB <;> intro h2
 ·have h2 : on b = false := by
   have : (!on b) = true := h2
   simpa using this
  refine sT ?_
  rw [zhN (by rw [h2, Bool.and_false]; rfl)]
  exact ⟨rtC (a := 4) rfl rfl rfl rfl rfl rfl (zaa _), rtB rfl rfl, trivial⟩
 have h2 : on b = true := by
  have : (!on b) = false := h2
  simpa using this
 refine sF ?_
 apply sB <;> intro h3
 ·have h3 : (a == b) = true := by simpa using (eqPW a b).symm.trans h3
  rw [zhN (by rw [h3, Bool.not_true, Bool.and_false])]
  exact ⟨rtC (a := 4) rfl rfl rfl rfl rfl rfl (zaa _), rtB rfl rfl, trivial⟩
 have h3 : a ≠ b := by
  simpa using (eqPW a b).symm.trans h3
 obtain ⟨a1, a2⟩ := za4.1 h1
 obtain ⟨b1, b2⟩ := za4.1 h2
 refine ⟨i6, ⟨i6, ?_⟩⟩
 refine cP (zkN (b.X - a.X) (b.Y - a.Y) (zfu h3) (by omega) (by omega)) rfl rfl ?_
 rw [zi1 h1 h2 h3]
 exact ⟨rtC (a := 4) rfl rfl rfl rfl rfl rfl (zaa _), rtB rfl rfl, trivial⟩
theorem zjk (w : Wdg) : Spec PP 199 [w.v] [N (openW w)] := by
 refine sA Tryz.func199 ?_
 refine cP (zat w.F 0 3599) rfl rfl ?_
 refine cP (zat w.T 0 3599) rfl rfl ?_
 have no : ¬ (within w.F 0 3599 = true /\ within w.T 0 3599 = true) -> openW w = -1 := fun h => by unfold openW; rw [if_neg h]
 apply sB <;> intro h1
 ·have h1 : within w.F 0 3599 = false := by
   have : (!within w.F 0 3599) = true := h1
   simpa using this
  refine sT ?_
  repeat first | apply sT | apply sF
  refine r1I rfl ?_
  rw [no fun h => by rw [h.1] at h1; cases h1]
 have h1 : within w.F 0 3599 = true := by
  have : (!within w.F 0 3599) = false := h1
  simpa using this
 refine sF ?_
 apply sB <;> intro h2
 ·have h2 : within w.T 0 3599 = false := by
   have : (!within w.T 0 3599) = true := h2
   simpa using this
  refine r1I rfl ?_
  rw [no fun h => by rw [h.2] at h2; cases h2]
 have h2 : within w.T 0 3599 = true := by
  have : (!within w.T 0 3599) = false := h2
  simpa using this
 have b1 := zab.1 h1
 have b2 := zab.1 h2
 refine ⟨i6, ?_⟩
 refine cP (zfq (w.T - w.F) (by omega)) rfl rfl ?_
 refine r1I rfl ?_
 unfold openW; rw [if_pos ⟨h1, h2⟩]
theorem zm8 (w : Wdg) : Spec PP 119 [w.v] [B (validW w)] := by
 refine sA Tryz.func119 ?_
 refine cP (zjk w) rfl rfl ?_
 refine cP (zat (openW w) 0 900) rfl rfl ?_
 refine r1B rfl ?_
 unfold validW; rfl
def fndC (c : Cirs) (id : Int) : Cir × Bool := if cirI c id < 0 then (default, false) else (c.C.getD (cirI c id).toNat default, true)
theorem zhi (c : Cirs) (id : Int) (hn : c.C.length <= 1000000) : Spec PP 259 [c.v, N id] [(fndC c id).1.v, B (fndC c id).2] := by
 refine sA Tryz.func259 ?_
 refine LoopOb.of (σ := Nat) (fun i => ([(1, .d (I id)), (2, .box 2 0), (4, .box 4 0), (6, .d (I i))], [(2, .box ([lC c.C, lK c.K].map AV.d)), (4, .box ([I 0, I 0, I 0, I 0, I 0, I 0, I 0, I 0].map AV.d))])) (fun i => i <= c.C.length /\ ∀ j, j < i -> ((c.C.getD j default).ID == id) = false) (fun i => c.C.length - i) 0
  ⟨rfl, ⟨obD [lC c.C, lK c.K] rfl, obD [I 0, I 0, I 0, I 0, I 0, I 0, I 0, I 0] rfl, trivial⟩, wq rfl⟩ z0L fun i hi => ?_
 obtain ⟨hi, ha⟩ := hi
 apply sB <;> intro h1
 ·have h1 : i < c.C.length := by have := dT h1; omega
  refine ⟨⟨rfl, by omega, by omega⟩, ?_⟩
  apply sB <;> intro h2
  ·have e : cirI c id = (i : Int) := zaC (p := fun t : Cir => t.ID == id) default h1 h2 ha
   have e2 : fndC c id = (c.C.getD i default, true) := by unfold fndC; rw [e, if_neg (by omega)]; rfl
   rw [e2]
   refine ⟨⟨rfl, by omega, by omega⟩, ?_⟩
   exact ⟨rtC (a := 4) rfl rfl rfl rfl rfl rfl (zaa _), rtB rfl rfl, trivial⟩
  ·refine ⟨i6, ?_⟩
   refine ⟨i + 1, ⟨rfl, ⟨obD [lC c.C, lK c.K] rfl, obD [I 0, I 0, I 0, I 0, I 0, I 0, I 0, I 0] rfl, trivial⟩, wq rfl⟩, ⟨h1, fun j hj => ?_⟩, (msr (by omega))⟩
   by_cases e : j = i
   ·subst e; exact h2
   ·exact ha j (by omega)
 have h1 : i = c.C.length := by have := dF h1; omega
 subst h1
 have e : cirI c id = -1 := zaS (p := fun t : Cir => t.ID == id) default ha
 have e2 : fndC c id = (default, false) := by unfold fndC; rw [e]; rfl
 rw [e2]
 exact ⟨rtC (a := 4) rfl rfl rfl rfl rfl rfl (zaa _), rtB rfl rfl, trivial⟩
def spnB (s : Spn) (lo hi : Int) : Bool := decide (lo <= s.Lo) && decide (s.Lo <= s.Hi) && decide (s.Hi <= hi)
theorem zkL (s : Spn) (lo hi : Int) : Spec PP 300 [s.v, N lo, N hi] [B (spnB s lo hi)] := by
 refine sA Tryz.func300 ?_
 apply sB <;> intro h1
 ·have h1 : decide (lo <= s.Lo) = true := h1
  refine sT ?_
  apply sB <;> intro h2
  ·have h2 : decide (s.Lo <= s.Hi) = true := h2
   refine sT ?_
   refine r1B rfl ?_
   unfold spnB; rw [h1, h2]; rfl
  ·have h2 : decide (s.Lo <= s.Hi) = false := h2
   refine sF ?_
   refine r1B rfl ?_
   unfold spnB; rw [h1, h2]; rfl
 ·have h1 : decide (lo <= s.Lo) = false := h1
  refine sF (sF ?_)
  repeat first | apply sT | apply sF
  refine r1B rfl ?_
  unfold spnB; rw [h1]; rfl
theorem zdN {b : Bool} (h : (!b) = true) : b = false := by simpa using h
theorem zdO {b : Bool} (h : (!b) = false) : b = true := by simpa using h
theorem zsl (x : Cir) (h1 : within x.ID 1 1099511627776 = true) (h2 : on x.At = true) (h3 : spnB ⟨x.From, x.To⟩ 0 1048576 = true) (h4 : spnB ⟨x.Lo, x.Hi⟩ (-300) 300 = true) (h5 : within x.Drift 0 60 = true) : cirE x = 0 := by
 unfold spnB at h3 h4
 simp only [Bool.and_eq_true, decide_eq_true_eq] at h3 h4
 unfold cirE
 rw [if_neg]
 simp only [h1, h2, h5, List.all_cons, List.all_nil, Bool.and_true, Bool.or_eq_true, decide_eq_true_eq, Bool.not_true, Bool.or_false, Bool.false_or, Bool.false_eq_true]
 omega
theorem zgN (x : Cir) (h : ¬ (within x.ID 1 1099511627776 = true /\ on x.At = true /\ spnB ⟨x.From, x.To⟩ 0 1048576 = true /\ spnB ⟨x.Lo, x.Hi⟩ (-300) 300 = true /\ within x.Drift 0 60 = true)) : cirE x = 1 := by
 unfold cirE
 refine if_pos (Classical.byContradiction fun h0 => h ?_)
 simp only [Bool.or_eq_true, Bool.not_eq_true', not_or, Bool.not_eq_false, decide_eq_true_eq, List.all_cons, List.all_nil, Bool.and_true] at h0
 obtain ⟨⟨⟨⟨⟨⟨⟨⟨a, b⟩, c⟩, d⟩, e⟩, f⟩, g⟩, i⟩, j⟩ := h0
 unfold spnB
 simp only [Bool.and_eq_true, decide_eq_true_eq]
 exact ⟨a, b, by omega, by omega, j⟩
theorem zjh (x : Cir) : Spec PP 255 [x.v] [.d (.int .i64 (cirE x))] := by
 refine sA Tryz.func255 ?_
 refine cP (zat x.ID 1 1099511627776) rfl rfl ?_
 refine cP (zkO x.At) rfl rfl ?_
 refine cP (zkL ⟨x.From, x.To⟩ 0 1048576) rfl rfl ?_
 refine cP (zkL ⟨x.Lo, x.Hi⟩ (-300) 300) rfl rfl ?_
 refine cP (zat x.Drift 0 60) rfl rfl ?_
 apply sB <;> intro h1
 ·have h1 := zdN h1
  repeat first | apply sT | apply sF
  refine r1I rfl ?_
  rw [zgN x fun h => by rw [h.1] at h1; cases h1]
 have h1 := zdO h1
 repeat first | apply sT | apply sF
 apply sB <;> intro h2
 ·have h2 := zdN h2
  repeat first | apply sT | apply sF
  refine r1I rfl ?_
  rw [zgN x fun h => by rw [h.2.1] at h2; cases h2]
 have h2 := zdO h2
 repeat first | apply sT | apply sF
 apply sB <;> intro h3
 ·have h3 := zdN h3
  repeat first | apply sT | apply sF
  refine r1I rfl ?_
  rw [zgN x fun h => by rw [h.2.2.1] at h3; cases h3]
 have h3 := zdO h3
 repeat first | apply sT | apply sF
 apply sB <;> intro h4
 ·have h4 := zdN h4
  repeat first | apply sT | apply sF
  refine r1I rfl ?_
  rw [zgN x fun h => by rw [h.2.2.2.1] at h4; cases h4]
 have h4 := zdO h4
 repeat first | apply sT | apply sF
 apply sB <;> intro h5
 ·have h5 := zdN h5
  refine r1I rfl ?_
  rw [zgN x fun h => by rw [h.2.2.2.2] at h5; cases h5]
 have h5 := zdO h5
 refine r1I rfl ?_
 rw [zsl x h1 h2 h3 h4 h5]
theorem zji (c : Cirs) (k : Chk) (hn : c.C.length <= 1000000) : Spec PP 256 [c.v, k.v] [.d (.int .i64 (chkE c k))] := by
 have bad : ¬ (within k.ID 1 1099511627776 = true /\ on k.Mark = true /\ within k.Shown 0 3599 = true /\ within k.Slack 1 100 = true) -> chkE c k = 1 := fun h => by
  unfold chkE
  rw [if_pos]
  refine Classical.byContradiction fun h0 => h ?_
  unfold chkB at h0
  simp only [Bool.or_eq_true, Bool.not_eq_true', not_or, Bool.not_eq_false, List.all_cons, List.all_nil, Bool.and_true] at h0
  exact ⟨h0.1.1.1, h0.1.1.2, h0.1.2, h0.2⟩
 refine sA Tryz.func256 ?_
 refine cP (zat k.ID 1 1099511627776) rfl rfl ?_
 refine cP (zkO k.Mark) rfl rfl ?_
 refine cP (zat k.Shown 0 3599) rfl rfl ?_
 refine cP (zat k.Slack 1 100) rfl rfl ?_
 apply sB <;> intro h1
 ·have h1 := zdN h1
  repeat first | apply sT | apply sF
  refine r1I rfl ?_
  rw [bad fun h => by rw [h.1] at h1; cases h1]
 have h1 := zdO h1
 repeat first | apply sT | apply sF
 apply sB <;> intro h2
 ·have h2 := zdN h2
  repeat first | apply sT | apply sF
  refine r1I rfl ?_
  rw [bad fun h => by rw [h.2.1] at h2; cases h2]
 have h2 := zdO h2
 repeat first | apply sT | apply sF
 apply sB <;> intro h3
 ·have h3 := zdN h3
  repeat first | apply sT | apply sF
  refine r1I rfl ?_
  rw [bad fun h => by rw [h.2.2.1] at h3; cases h3]
 have h3 := zdO h3
 repeat first | apply sT | apply sF
 apply sB <;> intro h4
 ·have h4 := zdN h4
  refine r1I rfl ?_
  rw [bad fun h => by rw [h.2.2.2] at h4; cases h4]
 have h4 := zdO h4
 have e0 : chkE c k = if cirI c k.C < 0 then 5 else if (decide (k.Mark = (chkO c k).At) || !within k.Tick (chkO c k).From (chkO c k).To) = true then 1 else 0 := by
  unfold chkE
  rw [if_neg]
  unfold chkB
  simp only [h1, h2, h3, h4, List.all_cons, List.all_nil, Bool.and_true, Bool.not_true, Bool.or_false]
  decide
 refine cP (zhi c k.C hn) rfl rfl ?_
 by_cases h5 : cirI c k.C < 0
 ·have e1 : fndC c k.C = (default, false) := by unfold fndC; rw [if_pos h5]
  rw [e1]
  refine sT ?_
  refine r1I rfl ?_
  rw [e0, if_pos h5]
 have e1 : fndC c k.C = (chkO c k, true) := by unfold fndC chkO; rw [if_neg h5]
 rw [e1, e0, if_neg h5]
 generalize chkO c k = x
 refine sF ?_
 apply sB <;> intro h6
 ·have h6 : decide (k.Mark = x.At) = true := (eqPW k.Mark x.At).symm.trans h6
  repeat first | apply sT | apply sF
  refine r1I rfl ?_
  rw [if_pos (by rw [h6]; rfl)]
 have h6 : decide (k.Mark = x.At) = false := (eqPW k.Mark x.At).symm.trans h6
 repeat first | apply sT | apply sF
 apply sB <;> intro h7
 ·have h7 : k.Tick < x.From := dT h7
  repeat first | apply sT | apply sF
  refine r1I rfl ?_
  rw [if_pos]
  rw [h6, Bool.false_or, Bool.not_eq_true']
  unfold within
  rw [decide_eq_false (show ¬ x.From <= k.Tick by omega)]; rfl
 have h7 : ¬ k.Tick < x.From := dF h7
 repeat first | apply sT | apply sF
 apply sB <;> intro h8
 ·have h8 : x.To < k.Tick := dT h8
  refine r1I rfl ?_
  rw [if_pos]
  rw [h6, Bool.false_or, Bool.not_eq_true']
  unfold within
  rw [decide_eq_false (show ¬ k.Tick <= x.To by omega), Bool.and_false]
 have h8 : ¬ x.To < k.Tick := dF h8
 refine r1I rfl ?_
 rw [if_neg]
 rw [h6, Bool.false_or, zab.2 (show x.From <= k.Tick /\ k.Tick <= x.To by omega)]
 decide
theorem zlv {α : Type} {p : α -> Bool} {l : List α} {i : Nat} (d : α) (hi : i < l.length) (hp : p (l.getD i d) = true) : idxL p l <= i := by
 rcases idxL_cases p l d with ⟨_, h2⟩ | ⟨j, h1, h2, _, h4⟩
 ·rw [h2 i hi] at hp; cases hp
 ·rw [h2]
  rcases Nat.lt_or_ge i j with h5 | h5
  ·rw [h4 i h5] at hp; cases hp
  ·omega
theorem zfr (c : Cirs) : Spec PP 191 [c.v] [.d (.int .i64 (cirsE c))] := by
 refine sA Tryz.func191 ?_
 apply sB <;> intro h1
 ·have h1 : 12 < c.C.length := by have := dT h1; omega
  repeat first | apply sT | apply sF
  refine r1I rfl ?_
  unfold cirsE; rw [if_pos (.inl h1)]
 have h1 : ¬ 12 < c.C.length := by have := dF h1; omega
 repeat first | apply sT | apply sF
 apply sB <;> intro h2
 ·have h2 : 60 < c.K.length := by have := dT h2; omega
  refine r1I rfl ?_
  unfold cirsE; rw [if_pos (.inr h2)]
 have h2 : ¬ 60 < c.K.length := by have := dF h2; omega
 have e0 : cirsE c = if err1 (cir1E c) c.C.length ≠ 0 then err1 (cir1E c) c.C.length else err1 (chk1E c) c.K.length := by unfold cirsE; rw [if_neg (by omega)]
 refine LoopOb.of (σ := Nat) (fun i => ([(1, .box 1 0), (3, .d (I i))], [(1, bxCs c)])) (fun i => i <= c.C.length /\ ∀ j, j < i -> cir1E c j = 0) (fun i => c.C.length - i) 0
  ⟨rfl, ⟨obCs rfl, trivial⟩, wq rfl⟩ z0L fun i hi => ?_
 obtain ⟨hi, ha⟩ := hi
 apply sB <;> intro h3
 ·have h3 : i < c.C.length := by have := dT h3; omega
  have bad : cir1E c i ≠ 0 -> cirsE c = cir1E c i := fun h => by
   have := zan ha h h3
   rw [e0, if_pos (by rw [this]; exact h), this]
  refine ⟨⟨rfl, by omega, by omega⟩, ?_⟩
  refine cP (zjh (c.C.getD i default)) rfl rfl ?_
  apply sB <;> intro h4
  ·have h4 : cirE (c.C.getD i default) ≠ 0 := by simpa using h4
   refine r1I rfl ?_
   have e : cir1E c i = cirE (c.C.getD i default) := by unfold cir1E; rw [if_pos h4]
   rw [bad (by rw [e]; exact h4), e]
  have h4 : cirE (c.C.getD i default) = 0 := by simpa using h4
  refine LoopOb.of (σ := Nat) (fun k => ([(1, .box 1 0), (3, .d (I i)), (5, .d (I k))], [(1, bxCs c)])) (fun k => k <= i /\ ∀ j, j < k -> ((c.C.getD j default).ID == (c.C.getD i default).ID) = false) (fun k => i - k) 0
   ⟨rfl, ⟨obCs rfl, trivial⟩, wq rfl⟩ z0L fun k hk => ?_
  obtain ⟨hk, hb⟩ := hk
  apply sB <;> intro h5
  ·have h5 : k < i := by have := dT h5; omega
   refine oL (List.range 13) (FzOb.no ?_)
   refine ⟨⟨rfl, by omega, by omega⟩, ⟨⟨rfl, by omega, by omega⟩, ?_⟩⟩
   apply sB <;> intro h6
   ·have h6 : ((c.C.getD k default).ID == (c.C.getD i default).ID) = true := h6
    have hle := zlv (p := fun t : Cir => t.ID == (c.C.getD i default).ID) default (show k < c.C.length by omega) h6
    have h7 : cirI c (c.C.getD i default).ID < i := by unfold cirI; omega
    refine r1I rfl ?_
    have e : cir1E c i = 6 := by unfold cir1E; rw [if_neg (fun hh => hh h4), if_pos h7]
    rw [bad (by rw [e]; decide), e]
   ·refine ⟨i6, ?_⟩
    refine ⟨k + 1, ⟨rfl, ⟨obCs rfl, trivial⟩, wq rfl⟩, ⟨h5, fun j hj => ?_⟩, (msr (by omega))⟩
    by_cases q : j = k
    ·subst q; exact h6
    ·exact hb j (by omega)
  ·have h5 : k = i := by have := dF h5; omega
   subst h5
   have h7 : ¬ cirI c (c.C.getD k default).ID < k := by
    have : cirI c (c.C.getD k default).ID = (k : Int) := zaC (p := fun t : Cir => t.ID == (c.C.getD k default).ID) default h3 (beq_self_eq_true _) hb
    omega
   have e : cir1E c k = 0 := by unfold cir1E; rw [if_neg (fun hh => hh h4), if_neg h7]
   refine ⟨i6, ?_⟩
   refine ⟨k + 1, ⟨rfl, ⟨obCs rfl, trivial⟩, wq rfl⟩, ⟨h3, fun j hj => ?_⟩, (msr (by omega))⟩
   by_cases q : j = k
   ·subst q; exact e
   ·exact ha j (by omega)
 have h3 : i = c.C.length := by have := dF h3; omega
 subst h3
 have e1 : cirsE c = err1 (chk1E c) c.K.length := by rw [e0, zaJ ha]; rfl
 clear ha
 refine LoopOb.of (σ := Nat) (fun i => ([(1, .box 1 0), (6, .d (I i))], [(1, bxCs c)])) (fun i => i <= c.K.length /\ ∀ j, j < i -> chk1E c j = 0) (fun i => c.K.length - i) 0
  ⟨rfl, ⟨obCs rfl, trivial⟩, wq rfl⟩ z0L fun i hi => ?_
 obtain ⟨hi, ha⟩ := hi
 apply sB <;> intro h3
 ·have h3 : i < c.K.length := by have := dT h3; omega
  have bad : chk1E c i ≠ 0 -> cirsE c = chk1E c i := fun h => by rw [e1, zan ha h h3]
  refine oL (List.range 8) (FzOb.no ?_)
  refine ⟨⟨rfl, by omega, by omega⟩, ?_⟩
  refine oP (zji c (c.K.getD i default) (by omega)) rfl rfl ?_
  apply sB <;> intro h4
  ·have h4 : chkE c (c.K.getD i default) ≠ 0 := by simpa using h4
   refine r1I rfl ?_
   have e : chk1E c i = chkE c (c.K.getD i default) := by unfold chk1E; rw [if_pos h4]
   rw [bad (by rw [e]; exact h4), e]
  have h4 : chkE c (c.K.getD i default) = 0 := by simpa using h4
  refine LoopOb.of (σ := Nat) (fun k => ([(1, .box 1 0), (6, .d (I i)), (8, .d (I k))], [(1, bxCs c)])) (fun k => k <= i /\ ∀ j, j < k -> ((c.K.getD j default).ID == (c.K.getD i default).ID) = false) (fun k => i - k) 0
   ⟨rfl, ⟨obCs rfl, trivial⟩, wq rfl⟩ z0L fun k hk => ?_
  obtain ⟨hk, hb⟩ := hk
  apply sB <;> intro h5
  ·have h5 : k < i := by have := dT h5; omega
   refine oL (List.range 13) (FzOb.no ?_)
   refine ⟨⟨rfl, by omega, by omega⟩, ⟨⟨rfl, by omega, by omega⟩, ?_⟩⟩
   apply sB <;> intro h6
   ·have h6 : ((c.K.getD k default).ID == (c.K.getD i default).ID) = true := h6
    have hle := zlv (p := fun t : Chk => t.ID == (c.K.getD i default).ID) default (show k < c.K.length by omega) h6
    have h7 : chkI c (c.K.getD i default).ID < i := by unfold chkI; omega
    refine r1I rfl ?_
    have e : chk1E c i = 6 := by unfold chk1E; rw [if_neg (fun hh => hh h4), if_pos h7]
    rw [bad (by rw [e]; decide), e]
   ·refine ⟨i6, ?_⟩
    refine ⟨k + 1, ⟨rfl, ⟨obCs rfl, trivial⟩, wq rfl⟩, ⟨h5, fun j hj => ?_⟩, (msr (by omega))⟩
    by_cases q : j = k
    ·subst q; exact h6
    ·exact hb j (by omega)
  ·have h5 : k = i := by have := dF h5; omega
   subst h5
   have h7 : ¬ chkI c (c.K.getD k default).ID < k := by
    have : chkI c (c.K.getD k default).ID = (k : Int) := zaC (p := fun t : Chk => t.ID == (c.K.getD k default).ID) default h3 (beq_self_eq_true _) hb
    omega
   have e : chk1E c k = 0 := by unfold chk1E; rw [if_neg (fun hh => hh h4), if_neg h7]
   refine ⟨i6, ?_⟩
   refine ⟨k + 1, ⟨rfl, ⟨obCs rfl, trivial⟩, wq rfl⟩, ⟨h3, fun j hj => ?_⟩, (msr (by omega))⟩
   by_cases q : j = k
   ·subst q; exact e
   ·exact ha j (by omega)
 have h3 : i = c.K.length := by have := dF h3; omega
 subst h3
 refine r1I rfl ?_
 rw [e1, zaJ ha]
def canK (b : Int × Int) (s l z k : Int) : Bool := decide (-l * b.2 <= b.1 + (z - s + 3600 * k) * b.2) && decide (b.1 + (z - s + 3600 * k) * b.2 <= l * b.2)
def canB (b : Int × Int) (s l z : Int) : Bool := (List.range 5).any fun i => canK b s l z ((i : Int) - 2)
theorem zrD (b : Int × Int) (s l z : Int) (hb : (0 < b.2 /\ b.2 <= 48) /\ 0 <= b.1 /\ b.1 < 3600 * b.2) (hs : 0 <= s /\ s <= 3599) (hl : 1 <= l /\ l <= 100) (hz : -300 <= z /\ z <= 300) : Spec PP 302 [N s, N l, .agg [I b.1, I b.2], N z] [B (canB b s l z)] := by
 refine sA Tryz.func302 ?_
 refine LoopOb.of (σ := Nat) (fun i => ([(0, .d (I s)), (1, .d (I l)), (3, .d (I z)), (6, .box 6 0), (9, .d (I ((i : Int) - 2)))], [(6, .box ([I b.1, I b.2].map AV.d))])) (fun i => i <= 5 /\ ∀ j : Nat, j < i -> canK b s l z ((j : Int) - 2) = false) (fun i => 5 - i) 0
  ⟨rfl, ⟨obD [I b.1, I b.2] rfl, trivial⟩, wq rfl⟩ z0L fun i hi => ?_
 obtain ⟨hi, ha⟩ := hi
 apply sB <;> intro h1
 ·have h1 : (i : Int) - 2 <= 2 := dT h1
  have m1 := mulB (a := z - s + 3600 * ((i : Int) - 2)) (b := b.2) (x := 20000) (y := 48) (by omega) (by omega)
  have m2 := mulB (a := l) (b := b.2) (x := 100) (y := 48) (by omega) (by omega)
  have m3 : -l * b.2 = -(l * b.2) := Int.neg_mul l b.2
  have ok : canK b s l z ((i : Int) - 2) = true -> canB b s l z = true := fun h => List.any_eq_true.2 ⟨i, List.mem_range.2 (by omega), h⟩
  have next : canK b s l z ((i : Int) - 2) = false -> ∀ j : Nat, j < i + 1 -> canK b s l z ((j : Int) - 2) = false := fun h j hj => by
   by_cases q : j = i
   ·subst q; exact h
   ·exact ha j (by omega)
  refine ⟨i6, ⟨i6, ⟨i6, ⟨i6, ⟨i6, ?_⟩⟩⟩⟩⟩
  refine ⟨i6, ⟨i6, ?_⟩⟩
  apply sB <;> intro h2
  ·have h2 : decide (-l * b.2 <= b.1 + (z - s + 3600 * ((i : Int) - 2)) * b.2) = true := h2
   refine ⟨i6, ?_⟩
   refine sT ?_
   apply sB <;> intro h3
   ·have h3 : decide (b.1 + (z - s + 3600 * ((i : Int) - 2)) * b.2 <= l * b.2) = true := h3
    refine r1B rfl ?_
    rw [ok (by unfold canK; rw [h2, h3]; rfl)]
   ·have h3 : decide (b.1 + (z - s + 3600 * ((i : Int) - 2)) * b.2 <= l * b.2) = false := h3
    refine ⟨i6, ?_⟩
    exact ⟨i + 1, ⟨rfl, ⟨obD [I b.1, I b.2] rfl, trivial⟩, avR _ rfl, avR _ rfl, avR _ rfl, avQ rfl, avI rfl (by omega), trivial⟩, ⟨by omega, next (by unfold canK; rw [h3, Bool.and_false])⟩, (msr (by omega))⟩
  ·have h2 : decide (-l * b.2 <= b.1 + (z - s + 3600 * ((i : Int) - 2)) * b.2) = false := h2
   repeat first | apply sT | apply sF
   refine ⟨i6, ?_⟩
   exact ⟨i + 1, ⟨rfl, ⟨obD [I b.1, I b.2] rfl, trivial⟩, avR _ rfl, avR _ rfl, avR _ rfl, avQ rfl, avI rfl (by omega), trivial⟩, ⟨by omega, next (by unfold canK; rw [h2]; rfl)⟩, (msr (by omega))⟩
 ·have h1 : i = 5 := by have : ¬ (i : Int) - 2 <= 2 := dF h1; omega
  subst h1
  refine r1B rfl ?_
  symm
  unfold canB
  rw [List.any_eq_false]
  intro j hj
  rw [ha j (List.mem_range.1 hj)]; decide
section
variable {b : Int × Int} {s l : Int} (hb : (0 < b.2 /\ b.2 <= 48) /\ 0 <= b.1 /\ b.1 < 3600 * b.2) (hs : 0 <= s /\ s <= 3599) (hl : 1 <= l /\ l <= 100)
include hb
theorem zof {z k : Int} (hz : -300 <= z /\ z <= 300) : canK b s l z k = true ↔ (aloT b (s - 3600 * k) l).Lo <= z /\ z <= (aloT b (s - 3600 * k) l).Hi := by
 have hd := hb.1.1
 have e : (z - s + 3600 * k) * b.2 = z * b.2 - (s - 3600 * k) * b.2 := by rw [<- Int.sub_mul]; congr 1; omega
 have e1 : (s - 3600 * k - l) * b.2 = (s - 3600 * k) * b.2 - l * b.2 := Int.sub_mul ..
 have e2 : (s - 3600 * k + l) * b.2 = (s - 3600 * k) * b.2 + l * b.2 := Int.add_mul ..
 have e3 : -l * b.2 = -(l * b.2) := Int.neg_mul l b.2
 have f1 : -z <= -((s - 3600 * k - l) * b.2 - b.1) / b.2 ↔ -z * b.2 <= -((s - 3600 * k - l) * b.2 - b.1) := Int.le_ediv_iff_mul_le hd
 have f2 : z <= ((s - 3600 * k + l) * b.2 - b.1) / b.2 ↔ z * b.2 <= (s - 3600 * k + l) * b.2 - b.1 := Int.le_ediv_iff_mul_le hd
 have e4 : -z * b.2 = -(z * b.2) := Int.neg_mul z b.2
 unfold canK aloT
 simp only [Bool.and_eq_true, decide_eq_true_eq]
 rw [e, e3]
 rw [e1, e4] at f1
 rw [e2] at f2
 rw [e1, e2]
 generalize z * b.2 = Z at *
 generalize (s - 3600 * k) * b.2 = S at *
 generalize l * b.2 = L at *
 generalize hq1 : -(S - L - b.1) / b.2 = Q1 at *
 generalize hq2 : (S + L - b.1) / b.2 = Q2 at *
 omega
include hs hl
theorem ziY {z k : Int} (hz : -300 <= z /\ z <= 300) (hk : k <= -2 \/ 2 <= k) : canK b s l z k = false := by
 have hd := hb.1.1
 refine Bool.eq_false_iff.2 fun h => ?_
 unfold canK at h
 simp only [Bool.and_eq_true, decide_eq_true_eq] at h
 have e3 : -l * b.2 = -(l * b.2) := Int.neg_mul l b.2
 have m := Int.mul_le_mul_of_nonneg_right hl.2 (show 0 <= b.2 by omega)
 rcases hk with hk | hk
 ·have m1 : (z - s + 3600 * k) * b.2 <= -6900 * b.2 := Int.mul_le_mul_of_nonneg_right (by omega) (by omega)
  omega
 ·have m1 : 3301 * b.2 <= (z - s + 3600 * k) * b.2 := Int.mul_le_mul_of_nonneg_right (by omega) (by omega)
  omega
theorem zoe {z z' k k' : Int} (hz : -300 <= z /\ z <= 300) (hz' : -300 <= z' /\ z' <= 300) (h : canK b s l z k = true) (h' : canK b s l z' k' = true) : k = k' := by
 have hd := hb.1.1
 unfold canK at h h'
 simp only [Bool.and_eq_true, decide_eq_true_eq] at h h'
 have e3 : -l * b.2 = -(l * b.2) := Int.neg_mul l b.2
 have m := Int.mul_le_mul_of_nonneg_right hl.2 (show 0 <= b.2 by omega)
 have e : (z - s + 3600 * k) * b.2 - (z' - s + 3600 * k') * b.2 = (z - z' + 3600 * (k - k')) * b.2 := by rw [<- Int.sub_mul]; congr 1; omega
 rcases Int.lt_trichotomy k k' with h1 | h1 | h1
 ·have m1 : (z - z' + 3600 * (k - k')) * b.2 <= -3000 * b.2 := Int.mul_le_mul_of_nonneg_right (by omega) (by omega)
  omega
 ·exact h1
 ·have m1 : 3000 * b.2 <= (z - z' + 3600 * (k - k')) * b.2 := Int.mul_le_mul_of_nonneg_right (by omega) (by omega)
  omega
theorem zog {z : Int} (hz : -300 <= z /\ z <= 300) : canB b s l z = true ↔ ∃ i : Nat, i < 3 /\ canK b s l z (1 - i) = true := by
 unfold canB
 rw [List.any_eq_true]
 constructor
 ·rintro ⟨j, hj, h⟩
  have hj := List.mem_range.1 hj
  by_cases h4 : j = 4
  ·rw [ziY hb hs hl hz (by omega)] at h; cases h
  by_cases h0 : j = 0
  ·rw [ziY hb hs hl hz (by omega)] at h; cases h
  refine ⟨3 - j, by omega, ?_⟩
  rw [show (1 : Int) - ((3 - j : Nat) : Int) = (j : Int) - 2 by omega]; exact h
 ·rintro ⟨i, hi, h⟩
  refine ⟨3 - i, List.mem_range.2 (by omega), ?_⟩
  rw [show ((3 - i : Nat) : Int) - 2 = 1 - (i : Int) by omega]; exact h
end
theorem zmq (b : Int × Int) (S l : Int) : -300 <= (aloT b S l).Lo /\ (aloT b S l).Hi <= 300 := by unfold aloT; dsimp only; omega
theorem aloR3 (f : Nat -> Spn) : (∃ i, i < 3 /\ (f i).Lo <= (f i).Hi /\ aloR f 0 3 = f i) \/ ((∀ i, i < 3 -> ¬ (f i).Lo <= (f i).Hi) /\ aloR f 0 3 = ⟨1, 0⟩) := by
 unfold aloR
 split
 ·rename_i h; exact .inl ⟨0, by omega, h, rfl⟩
 rename_i h0
 unfold aloR
 split
 ·rename_i h; exact .inl ⟨1, by omega, h, rfl⟩
 rename_i h1
 unfold aloR
 split
 ·rename_i h; exact .inl ⟨2, by omega, h, rfl⟩
 rename_i h2
 refine .inr ⟨fun i hi => ?_, rfl⟩
 match i, hi with
 | 0, _ => exact h0
 | 1, _ => exact h1
 | 2, _ => exact h2
theorem zqP {x : Cir} {k : Chk} (hb : (0 < (bear x.At k.Mark).2 /\ (bear x.At k.Mark).2 <= 48) /\ 0 <= (bear x.At k.Mark).1 /\ (bear x.At k.Mark).1 < 3600 * (bear x.At k.Mark).2) (hs : 0 <= k.Shown /\ k.Shown <= 3599) (hl : 1 <= k.Slack /\ k.Slack <= 100) {z : Int} (hz : -300 <= z /\ z <= 300) :
  canB (bear x.At k.Mark) k.Shown k.Slack z = true ↔ (alo x k).Lo <= z /\ z <= (alo x k).Hi := by
 have hf : ∀ i : Nat, aloF x k i = aloT (bear x.At k.Mark) (k.Shown - 3600 * (1 - (i : Int))) k.Slack := fun i => by
  unfold aloF; congr 1; omega
 have key : ∀ i : Nat, ∀ z : Int, -300 <= z /\ z <= 300 -> (canK (bear x.At k.Mark) k.Shown k.Slack z (1 - i) = true ↔ (aloF x k i).Lo <= z /\ z <= (aloF x k i).Hi) := fun i z hz => by
  rw [hf i]; exact zof hb hz
 have rng : ∀ i : Nat, -300 <= (aloF x k i).Lo /\ (aloF x k i).Hi <= 300 := fun i => by unfold aloF; exact zmq _ _ _
 rw [zog hb hs hl hz]
 rcases aloR3 (aloF x k) with ⟨i, hi, hn, e⟩ | ⟨hn, e⟩
 ·have e' : alo x k = aloF x k i := e
  rw [e']
  constructor
  ·rintro ⟨j, hj, h⟩
   have hlo := (key i (aloF x k i).Lo (by have := rng i; omega)).2 ⟨Int.le_refl _, hn⟩
   have := zoe hb hs hl hz (by have := rng i; omega) h hlo
   obtain rfl : i = j := by omega
   exact (key i z hz).1 h
  ·intro h
   exact ⟨i, hi, (key i z hz).2 h⟩
 ·have e' : alo x k = ⟨1, 0⟩ := e
  rw [e']
  constructor
  ·rintro ⟨j, hj, h⟩
   have := (key j z hz).1 h
   exact absurd (show (aloF x k j).Lo <= (aloF x k j).Hi by omega) (hn j hj)
  ·intro h
   have h1 : (1 : Int) <= z := h.1
   have h2 : z <= (0 : Int) := h.2
   omega
theorem zou (x : Cir) (k : Chk) (h : (alo x k).Lo <= (alo x k).Hi) : -300 <= (alo x k).Lo /\ (alo x k).Hi <= 300 := by
 rcases aloR3 (aloF x k) with ⟨i, hi, hn, e⟩ | ⟨hn, e⟩
 ·have e' : alo x k = aloF x k i := e
  rw [e']; unfold aloF; exact zmq _ _ _
 ·have e' : alo x k = ⟨1, 0⟩ := e
  rw [e'] at h; exact absurd h (by decide)
structure Lim where
  lo : Int
  hi : Int
  no : Bool
  deriving DecidableEq, Inhabited
abbrev Lim.ds (x : Lim) : List D := [I x.lo, I x.hi, .bool x.no]
def alnD (x : Cir) (k : Chk) : Lim := if (alo x k).Lo <= (alo x k).Hi then ⟨(alo x k).Lo, (alo x k).Hi, false⟩ else ⟨0, 0, true⟩
def alnI (S : Spn) (i : Nat) : Lim := if S.Lo <= S.Hi /\ S.Lo <= (i : Int) - 301 then ⟨S.Lo, min S.Hi ((i : Int) - 301), false⟩ else ⟨0, 0, true⟩
theorem zsF {S : Spn} (h : S.Lo <= S.Hi -> -300 <= S.Lo /\ S.Hi <= 300) : alnI S 0 = ⟨0, 0, true⟩ := by
 unfold alnI
 rw [if_neg]
 intro h1
 have := h h1.1
 omega
theorem zox {S : Spn} (h : S.Lo <= S.Hi -> -300 <= S.Lo /\ S.Hi <= 300) : alnI S 601 = if S.Lo <= S.Hi then ⟨S.Lo, S.Hi, false⟩ else ⟨0, 0, true⟩ := by
 unfold alnI
 by_cases h1 : S.Lo <= S.Hi
 ·have := h h1
  rw [if_pos ⟨h1, by omega⟩, if_pos h1]
  congr 1; omega
 ·rw [if_neg (fun hh => h1 hh.1), if_neg h1]
theorem zq1 {S : Spn} {i : Nat} (h : ¬ (S.Lo <= (i : Int) - 300 /\ (i : Int) - 300 <= S.Hi)) : alnI S (i + 1) = alnI S i := by
 unfold alnI
 by_cases h1 : S.Lo <= S.Hi
 ·by_cases h2 : S.Lo <= (i : Int) - 301
  ·rw [if_pos ⟨h1, by omega⟩, if_pos ⟨h1, h2⟩]
   congr 1; omega
  ·rw [if_neg (by omega), if_neg (by omega)]
 ·rw [if_neg (fun hh => h1 hh.1), if_neg (fun hh => h1 hh.1)]
theorem zow {S : Spn} {i : Nat} (h : S.Lo <= (i : Int) - 300 /\ (i : Int) - 300 <= S.Hi) (hn : (alnI S i).no = true) : alnI S (i + 1) = ⟨(i : Int) - 300, (i : Int) - 300, false⟩ := by
 unfold alnI at hn ⊢
 split at hn
 ·cases hn
 ·rename_i h2
  rw [if_pos (by omega)]
  have e1 : S.Lo = (i : Int) - 300 := by omega
  rw [e1]; congr 1; omega
theorem zov {S : Spn} {i : Nat} (h : S.Lo <= (i : Int) - 300 /\ (i : Int) - 300 <= S.Hi) (hn : (alnI S i).no = false) : alnI S (i + 1) = ⟨(alnI S i).lo, (i : Int) - 300, false⟩ := by
 unfold alnI at hn ⊢
 split at hn
 ·rename_i h2
  rw [if_pos (by omega), if_pos h2]
  dsimp only
  congr 1; omega
 ·cases hn
theorem zm7 (c : Cirs) (k : Chk) (hk : ChkOk c k) (hx : on (chkO c k).At = true) (hn : c.C.length <= 1000000) : Spec PP 263 [c.v, k.v] [.agg (alnD (chkO c k) k).ds] := by
 have e1 : fndC c k.C = (chkO c k, true) := by unfold fndC chkO; rw [if_neg (by have := hk.cc; omega)]
 have hne : (chkO c k).At ≠ k.Mark := fun h => hk.ne h.symm
 have hb := zhO hx hk.on hne
 have rng := zou (chkO c k) k
 have key := fun z hz => zqP (x := chkO c k) (k := k) hb hk.s hk.l (z := z) hz
 have hkk := hk
 refine sA Tryz.func263 ?_
 refine cP (zhi c k.C hn) rfl rfl ?_
 rw [e1]
 generalize chkO c k = x at *
 refine cP (zjj x.At k.Mark) rfl rfl ?_
 rw [zi1 hx hk.on hne]
 have ed : alnD x k = alnI (alo x k) 601 := by rw [zox rng]; rfl
 rw [ed]
 generalize alo x k = S at *
 refine LoopOb.of (σ := Nat) (fun i => ([(3, .box 3 0), (4, .box 4 0), (7, .box 7 0), (9, .box 9 0), (10, .d (I ((i : Int) - 300)))], [(3, .box (k.ds.map AV.d)), (4, .box ([I 0, I 0, .bool false].map AV.d)), (7, .box ([I (bear x.At k.Mark).1, I (bear x.At k.Mark).2].map AV.d)), (9, .box ((alnI S i).ds.map AV.d))])) (fun i => i <= 601) (fun i => 601 - i) 0
  ⟨rfl, ⟨obD k.ds rfl, obD [I 0, I 0, .bool false] rfl, obD [I (bear x.At k.Mark).1, I (bear x.At k.Mark).2] rfl, obD (alnI S 0).ds (by rw [zsF rng]; rfl), trivial⟩, wq rfl⟩ (Nat.zero_le _) fun i hi => ?_
 apply sB <;> intro h1
 ·have h1 : (i : Int) - 300 <= 300 := dT h1
  refine cP (zrD (bear x.At k.Mark) k.Shown k.Slack ((i : Int) - 300) hb hkk.s hkk.l (by omega)) rfl rfl ?_
  have ky := key ((i : Int) - 300) (by omega)
  apply sB <;> intro h2
  ·have h2 : canB (bear x.At k.Mark) k.Shown k.Slack ((i : Int) - 300) = true := h2
   have h3 := ky.1 h2
   refine sT ?_
   apply sB <;> intro h4
   ·have h4 : (alnI S i).no = true := h4
    repeat first | refine sT ?_ | refine Split.yes h2 ?_
    refine ⟨i6, ?_⟩
    refine ⟨i + 1, ⟨rfl, ⟨obD k.ds rfl, obD [I 0, I 0, .bool false] rfl, obD [I (bear x.At k.Mark).1, I (bear x.At k.Mark).2] rfl, obD (alnI S (i + 1)).ds (by rw [zow h3 h4]; rfl), trivial⟩, avQ rfl, avQ rfl, avQ rfl, avQ rfl, avI rfl (by omega), trivial⟩, (show i + 1 <= 601 by omega), (msr (by omega))⟩
   ·have h4 : (alnI S i).no = false := h4
    repeat first | refine sT ?_ | refine Split.yes h2 ?_
    refine ⟨i6, ?_⟩
    refine ⟨i + 1, ⟨rfl, ⟨obD k.ds rfl, obD [I 0, I 0, .bool false] rfl, obD [I (bear x.At k.Mark).1, I (bear x.At k.Mark).2] rfl, obD (alnI S (i + 1)).ds (by rw [zov h3 h4]; show some (Ob.box ([I (alnI S i).lo, I ((i : Int) - 300), .bool (alnI S i).no].map AV.d)) = _; rw [h4]), trivial⟩, avQ rfl, avQ rfl, avQ rfl, avQ rfl, avI rfl (by omega), trivial⟩, (show i + 1 <= 601 by omega), (msr (by omega))⟩
  ·have h2 : canB (bear x.At k.Mark) k.Shown k.Slack ((i : Int) - 300) = false := h2
   have h3 : ¬ (S.Lo <= (i : Int) - 300 /\ (i : Int) - 300 <= S.Hi) := fun h => by rw [ky.2 h] at h2; cases h2
   repeat first | refine sF ?_ | refine Split.no h2 ?_
   refine ⟨i6, ?_⟩
   refine ⟨i + 1, ⟨rfl, ⟨obD k.ds rfl, obD [I 0, I 0, .bool false] rfl, obD [I (bear x.At k.Mark).1, I (bear x.At k.Mark).2] rfl, obD (alnI S (i + 1)).ds (by rw [zq1 h3]; rfl), trivial⟩, avQ rfl, avQ rfl, avQ rfl, avQ rfl, avI rfl (by omega), trivial⟩, (show i + 1 <= 601 by omega), (msr (by omega))⟩
 ·have h1 : i = 601 := by have : ¬ (i : Int) - 300 <= 300 := dF h1; omega
  subst h1
  exact r1C rfl rfl rfl rfl rfl rfl (zaa _)
theorem zoQ (x : Cir) (a b : Int) (hx : 0 <= x.Drift /\ x.Drift <= 60) (ha : 0 <= a /\ a <= 1048576) (hb : 0 <= b /\ b <= 1048576) : Spec PP 262 [x.v, N a, N b] [N (drf x a b)] := by
 have m1 := mulB (a := x.Drift) (b := max (a - b) (b - a)) (x := 60) (y := 1048576) (by omega) (by omega)
 have m0 := Int.mul_nonneg hx.1 (show 0 <= max (a - b) (b - a) by omega)
 refine sA Tryz.func262 ?_
 have g1 : inR .i64 (x.Drift * max (a - b) (b - a)) := i6
 have g2 : inR .i64 (x.Drift * max (a - b) (b - a) + 59) := i6
 have eq : (x.Drift * max (a - b) (b - a) + 59).tdiv 60 = drf x a b := by
  unfold drf
  rw [Int.tdiv_eq_ediv_of_nonneg (by omega)]
  omega
 have g3 : inR .i64 ((x.Drift * max (a - b) (b - a) + 59).tdiv 60) := by
  rw [Int.tdiv_eq_ediv_of_nonneg (by omega)]
  exact i6
 refine ⟨i6, ⟨i6, ⟨g1, ⟨g2, ⟨⟨by decide, g3⟩, ?_⟩⟩⟩⟩⟩
 exact r1I rfl eq
end Go.Pg
namespace Go.Pg
open Go.Proofs Go.RowKit Go.Sort Go.Shelf
structure Tg where
  N : Int
  T : Int
  lo : Int
  hi : Int
  no : Bool
  deriving DecidableEq, Inhabited
abbrev Tg.ds (x : Tg) : List D := [I x.N, I x.T, I x.lo, I x.hi, .bool x.no]
abbrev Tg.v (x : Tg) : V1 := .agg x.ds
def Tg.at (x : Tg) : Nat -> D
 | 0 => I x.N
 | 1 => I x.T
 | 2 => I x.lo
 | 3 => I x.hi
 | _ => .bool x.no
abbrev lTg (l : List Tg) : D := .slc 5 l.length fun i => (l.getD i default).at
abbrev rowTg (l : List Tg) : Nat -> Nat -> D := fun i => (l.getD i default).at
theorem zrE {vs : List Tg} {p : Tg} {g : Nat -> Nat -> D} (hg : ∀ j, j < 5 -> D.eqv (g 0 j) (p.at j)) : D.eqv (.slc 5 (vs.length + 1) (appRow vs.length (rowTg vs) g)) (.slc 5 (vs ++ [p]).length (rowTg (vs ++ [p]))) := by
 refine ⟨by simp, .inr ⟨rfl, fun i hi j hj => ?_⟩⟩
 show D.eqv (appRow vs.length (rowTg vs) g i j) (((vs ++ [p]).getD i default).at j)
 unfold appRow
 by_cases h : i < vs.length
 ·rw [if_pos h, gdq, List.getElem?_append_left h, <- gdq]
  exact dE _
 ·have e : i = vs.length := by omega
  subst e
  rw [if_neg h, Nat.sub_self, gdq, List.getElem?_append_right (Nat.le_refl _), Nat.sub_self]
  exact hg j hj
theorem eqv5 {f : Nat -> D} {p : Tg} (h0 : f 0 = I p.N) (h1 : f 1 = I p.T) (h2 : f 2 = I p.lo) (h3 : f 3 = I p.hi) (h4 : f 4 = .bool p.no) : ∀ j, j < 5 -> D.eqv (f j) (p.at j)
 | 0, _ => by rw [h0]; exact ⟨rfl, rfl⟩
 | 1, _ => by rw [h1]; exact ⟨rfl, rfl⟩
 | 2, _ => by rw [h2]; exact ⟨rfl, rfl⟩
 | 3, _ => by rw [h3]; exact ⟨rfl, rfl⟩
 | 4, _ => by rw [h4]; exact rfl
def tg0 (x : Cir) : Tg := ⟨0, x.From, x.Lo, x.Hi, false⟩
def tgK (x : Cir) (k : Chk) : Tg := ⟨k.ID, k.Tick, (alnD x k).lo, (alnD x k).hi, (alnD x k).no⟩
def tgsR (c : Cirs) (x : Cir) (n : Nat) : List Tg := tg0 x :: (((c.K.take n).filter fun k => k.C == x.ID).map (tgK x))
def tgsL (c : Cirs) (x : Cir) : List Tg := tgsR c x c.K.length
theorem zmD {c : Cirs} {x : Cir} {i : Nat} (h : i < c.K.length) (hk : (c.K.getD i default).C = x.ID) : tgsR c x (i + 1) = tgsR c x i ++ [tgK x (c.K.getD i default)] := by
 unfold tgsR
 have e : [c.K.getD i default].filter (fun k : Chk => k.C == x.ID) = [c.K.getD i default] := by rw [List.filter_cons_of_pos (by rw [hk]; exact beq_self_eq_true _)]; rfl
 rw [zas h default, List.filter_append, List.map_append, e]
 rfl
theorem zpz {c : Cirs} {x : Cir} {i : Nat} (h : i < c.K.length) (hk : (c.K.getD i default).C ≠ x.ID) : tgsR c x (i + 1) = tgsR c x i := by
 unfold tgsR
 have e : [c.K.getD i default].filter (fun k : Chk => k.C == x.ID) = [] := by rw [List.filter_cons_of_neg (by simpa using hk)]; rfl
 rw [zas h default, List.filter_append, e, List.append_nil]
theorem zfd (c : Cirs) (x : Cir) (n : Nat) : (tgsR c x n).length <= n + 1 := by
 unfold tgsR
 have := List.length_filter_le (fun k : Chk => k.C == x.ID) (c.K.take n)
 have := List.length_take_le n c.K
 simp; omega
theorem zqN {c : Cirs} {id : Int} (hid : ¬ cirI c id < 0) {k : Chk} (hk : k.C = (c.C.getD (cirI c id).toNat default).ID) : chkO c k = c.C.getD (cirI c id).toNat default := by
 unfold chkO
 rw [hk, zhI hid]
theorem zgh (c : Cirs) (id : Int) (h : CirsOk c) (hid : ¬ cirI c id < 0) : Spec PP 198 [c.v, (c.C.getD (cirI c id).toNat default).v] [.d (lTg (tgsL c (c.C.getD (cirI c id).toNat default)))] := by
 have hO := fun k => zqN hid (k := k)
 have hX := (h.cs _ (zaK hid).1).on
 generalize c.C.getD (cirI c id).toNat default = x at *
 have hm := h.m
 have hn := h.n
 refine sA Tryz.func198 ?_
 refine LoopOb.of (σ := Nat) (fun i => ([(2, .box 2 0), (3, .box 3 0), (5, .own 13), (6, .d (I i))], [(2, bxCs c), (3, .box (x.ds.map AV.d)), (13, .row 345 5 (tgsR c x i).length (rowTg (tgsR c x i)))])) (fun i => i <= c.K.length) (fun i => c.K.length - i) 0
  ⟨rfl, ⟨obCs rfl, obD x.ds rfl, obR rfl ⟨rfl, .inr ⟨rfl, fun i hi j hj => ?_⟩⟩, trivial⟩, wq rfl⟩ (Nat.zero_le _) fun i hi => ?_
 ·obtain rfl : i = 0 := by omega
  exact eqv5 (p := tg0 x) rfl rfl rfl rfl rfl j hj
 apply sB <;> intro h1
 ·have h1 : i < c.K.length := by have := dT h1; omega
  refine oL (List.range 9) (FzOb.no ?_)
  refine ⟨⟨rfl, by omega, by omega⟩, ?_⟩
  apply sB <;> intro h2
  ·have h2 : (c.K.getD i default).C = x.ID := by simpa using h2
   have eO := hO (c.K.getD i default) h2
   refine oL (List.range 24) (FzOb.no ?_)
   refine ⟨⟨rfl, by omega, by omega⟩, ⟨⟨rfl, by omega, by omega⟩, ⟨⟨rfl, by omega, by omega⟩, ?_⟩⟩⟩
   refine oP (zm7 c (c.K.getD i default) (h.ks i h1) (by rw [eO]; exact hX) (by omega)) rfl rfl ?_
   have hl := zfd c x i
   refine ⟨⟨.inr rfl, by simp only [maxLen]; omega, by dsimp only; omega⟩, ?_⟩
   refine ⟨i6, ?_⟩
   refine ⟨i + 1, ⟨rfl, ⟨obCs rfl, obD x.ds rfl, obR rfl ?_, trivial⟩, wq rfl⟩, h1, (msr (by omega))⟩
   rw [zmD h1 h2]
   exact zrE (eqv5 (p := tgK x (c.K.getD i default)) rfl rfl (by show I (alnD (chkO c (c.K.getD i default)) _).lo = _; rw [eO]; rfl) (by show I (alnD (chkO c (c.K.getD i default)) _).hi = _; rw [eO]; rfl) (by show D.bool (alnD (chkO c (c.K.getD i default)) _).no = _; rw [eO]; rfl))
  ·have h2 : (c.K.getD i default).C ≠ x.ID := by simpa using h2
   refine ⟨i6, ?_⟩
   refine ⟨i + 1, ⟨rfl, ⟨obCs rfl, obD x.ds rfl, obR rfl (by rw [zpz h1 h2]; exact dE _), trivial⟩, wq rfl⟩, h1, (msr (by omega))⟩
 ·have h1 : i = c.K.length := by have := dF h1; omega
  subst h1
  exact ⟨⟨_, _, _, _, rfl, dE _⟩, trivial⟩
structure TgOk (t : Tg) : Prop where
  lo : -300 <= t.lo /\ t.lo <= 300
  hi : -300 <= t.hi /\ t.hi <= 300
  t : 0 <= t.T /\ t.T <= 1048576
def agaB (x : Cir) (a b : Tg) : Bool := decide (b.hi + drf x a.T b.T < a.lo) || decide (a.hi + drf x a.T b.T < b.lo)
theorem zjl (x : Cir) (a b : Tg) (hx : 0 <= x.Drift /\ x.Drift <= 60) (ha : TgOk a) (hb : TgOk b) : Spec PP 260 [x.v, a.v, b.v] [B (agaB x a b)] := by
 have db := ziN hx ha.t hb.t
 have a1 := ha.lo
 have a2 := ha.hi
 have b1 := hb.lo
 have b2 := hb.hi
 refine sA Tryz.func260 ?_
 refine cP (zoQ x a.T b.T hx ha.t hb.t) rfl rfl ?_
 refine ⟨i6, ?_⟩
 apply sB <;> intro h1
 ·have h1 : decide (b.hi + drf x a.T b.T < a.lo) = true := h1
  refine sT ?_
  refine r1B rfl ?_
  unfold agaB; rw [h1]; rfl
 ·have h1 : decide (b.hi + drf x a.T b.T < a.lo) = false := h1
  refine ⟨i6, ?_⟩
  refine sF ?_
  refine r1B rfl ?_
  unfold agaB; rw [h1]; rfl
def prAt (p : Int × Int) : Nat -> D
 | 0 => I p.1
 | _ => I p.2
abbrev lPr (l : List (Int × Int)) : D := .slc 2 l.length fun i => prAt (l.getD i default)
def lsP (p q : Int × Int) : Bool := decide (p.1 < q.1) || (p.1 == q.1 && decide (p.2 < q.2))
def leadN (q : Int × Int) : List (Int × Int) -> Nat
 | [] => 0
 | a :: r => if lsP a q = true then leadN q r + 1 else 0
def putL (L : List (Int × Int)) (q : Int × Int) : List (Int × Int) := L.take (leadN q L) ++ q :: L.drop (leadN q L)
theorem zfD (q : Int × Int) : ∀ L : List (Int × Int), leadN q L <= L.length
 | [] => Nat.le_refl _
 | a :: r => by
  unfold leadN
  split
  ·have := zfD q r; simp; omega
  ·simp
theorem zdm (q : Int × Int) : ∀ (L : List (Int × Int)) (i : Nat), i <= L.length -> (∀ j, j < i -> lsP (L.getD j default) q = true) -> (i < L.length -> lsP (L.getD i default) q = false) -> leadN q L = i
 | [], i, h, _, _ => by simp at h; subst h; rfl
 | a :: r, 0, _, _, h2 => by
  have := h2 (by simp)
  unfold leadN
  rw [if_neg (by rw [show lsP a q = false from this]; decide)]
 | a :: r, i + 1, h, h1, h2 => by
  have h0 := h1 0 (by omega)
  unfold leadN
  rw [if_pos (show lsP a q = true from h0), zdm q r i (by simpa using h) (fun j hj => by simpa using h1 (j + 1) (by omega)) (fun hi => by simpa using h2 (by simpa using hi))]
theorem zfs (L : List (Int × Int)) (q : Int × Int) : (putL L q).length = L.length + 1 := by
 have := zfD q L
 unfold putL
 simp
 omega
theorem znb (L : List (Int × Int)) (q : Int × Int) (m : Nat) : (putL L q).getD m default = if m < leadN q L then L.getD m default else if m = leadN q L then q else L.getD (m - 1) default := by
 have hl := zfD q L
 unfold putL
 rw [gdq]
 by_cases h1 : m < leadN q L
 ·rw [if_pos h1, List.getElem?_append_left (by rw [List.length_take]; omega), List.getElem?_take, if_pos h1, <- gdq]
 ·rw [if_neg h1, List.getElem?_append_right (by rw [List.length_take]; omega), List.length_take]
  rw [show min (leadN q L) L.length = leadN q L by omega]
  by_cases h2 : m = leadN q L
  ·rw [if_pos h2, h2, Nat.sub_self]; rfl
  ·rw [if_neg h2]
   obtain ⟨d, hd⟩ : ∃ d, m - leadN q L = d + 1 := ⟨m - leadN q L - 1, by omega⟩
   rw [hd, List.getElem?_cons_succ, List.getElem?_drop, show leadN q L + d = m - 1 by omega, <- gdq]
theorem zhl {L : List (Int × Int)} {q : Int × Int} {i : Nat} (hi : i <= L.length) (hat : leadN q L = i) {n n' : Nat} {F f : Nat -> Nat -> D} (hn : n = i) (hn' : n' = i) (hF : ∀ a, a < i -> ∀ j, j < 2 -> F a j = prAt (L.getD a default) j) (h : ∀ j, j < 2 -> f 0 j = prAt q j) :
  D.eqv (.slc 2 (n + 1 + (L.length - n')) (appRow (n + 1) (appRow n F f) fun a => prAt (L.getD (n' + a) default))) (lPr (putL L q)) := by
 subst hn
 subst hn'
 refine ⟨by rw [zfs]; omega, .inr ⟨rfl, fun m hm j hj => ?_⟩⟩
 show D.eqv (appRow (n' + 1) (appRow n' F f) (fun a => prAt (L.getD (n' + a) default)) m j) (prAt ((putL L q).getD m default) j)
 rw [znb, hat]
 unfold appRow
 by_cases h1 : m < n'
 ·rw [if_pos (by omega), if_pos h1, if_pos h1, hF m h1 j hj]; exact dE _
 ·by_cases h2 : m = n'
  ·rw [if_pos (by omega), if_neg h1, if_neg h1, if_pos h2, h2, Nat.sub_self, h j hj]; exact dE _
  ·rw [if_neg (by omega), if_neg h1, if_neg h2]
   show D.eqv (prAt (L.getD (n' + (m - (n' + 1))) default) j) _
   rw [show n' + (m - (n' + 1)) = m - 1 by omega]; exact dE _
theorem zkW {f : Nat -> D} {q : Int × Int} (h0 : f 0 = I q.1) (h1 : f 1 = I q.2) : ∀ j, j < 2 -> f j = prAt q j
 | 0, _ => h0
 | 1, _ => h1
theorem zoP (L : List (Int × Int)) (q : Int × Int) (hn : L.length <= 100000) : Spec PP 261 [.d (lPr L), .agg [I q.1, I q.2]] [.d (lPr (putL L q))] := by
 refine sA Tryz.func261 ?_
 refine LoopOb.of (σ := Nat) (fun i => ([(0, .d (lPr L)), (3, .box 3 0), (5, .d (I i))], [(3, .box ([I q.1, I q.2].map AV.d))])) (fun i => i <= L.length /\ ∀ j, j < i -> lsP (L.getD j default) q = true) (fun i => L.length - i) 0
  ⟨rfl, ⟨obD [I q.1, I q.2] rfl, trivial⟩, wq rfl⟩ z0L fun i hi => ?_
 obtain ⟨hi, ha⟩ := hi
 have next : lsP (L.getD i default) q = true -> ∀ j, j < i + 1 -> lsP (L.getD j default) q = true := fun h j hj => by
  by_cases e : j = i
  ·subst e; exact h
  ·exact ha j (by omega)
 refine oL (List.range 34) (FzOb.no ?_)
 apply sB <;> intro h1
 ·have h1 : i < L.length := by have := dT h1; omega
  refine ⟨⟨rfl, by omega, by omega⟩, ⟨⟨by decide, by decide⟩, ⟨⟨by decide, by decide⟩, ?_⟩⟩⟩
  apply sB <;> intro h2
  ·have h2 : decide ((L.getD i default).1 < q.1) = true := h2
   repeat first | apply sT | apply sF
   refine ⟨i6, ?_⟩
   exact ⟨i + 1, ⟨rfl, ⟨obD [I q.1, I q.2] rfl, trivial⟩, wq rfl⟩, ⟨h1, next (by unfold lsP; rw [h2]; rfl)⟩, (msr (by omega))⟩
  ·have h2 : decide ((L.getD i default).1 < q.1) = false := h2
   refine ⟨⟨rfl, by omega, by omega⟩, ⟨⟨by decide, by decide⟩, ⟨⟨by decide, by decide⟩, ?_⟩⟩⟩
   apply sB <;> intro h3
   ·have h3 : ((L.getD i default).1 == q.1) = true := h3
    refine ⟨⟨rfl, by omega, by omega⟩, ⟨⟨by decide, by decide⟩, ⟨⟨by decide, by decide⟩, ?_⟩⟩⟩
    repeat first | apply sT | apply sF
    apply sB <;> intro h4
    ·have h4 : decide ((L.getD i default).2 < q.2) = true := h4
     refine ⟨i6, ?_⟩
     exact ⟨i + 1, ⟨rfl, ⟨obD [I q.1, I q.2] rfl, trivial⟩, wq rfl⟩, ⟨h1, next (by unfold lsP; rw [h3, h4, Bool.true_and, Bool.or_true])⟩, (msr (by omega))⟩
    ·have h4 : decide ((L.getD i default).2 < q.2) = false := h4
     have hat : leadN q L = i := zdm q L i hi ha fun _ => by unfold lsP; rw [h2, h3, h4]; rfl
     refine Exists.intro [1001, 1002, 1003, 1005, 1006, 1008, 1009, 1010, 0, 4, 7, 11, 12] (And.intro (by kernel_rfl) (FzOb.fz [3] ?_))
     refine ⟨rfl, ⟨rfl, ?_⟩⟩
     refine ⟨rfl, ⟨rfl, ?_⟩⟩
     refine ⟨rfl, ⟨⟨.inr rfl, by omega, by omega⟩, ⟨rfl, ?_⟩⟩⟩
     refine ⟨rfl, ⟨rfl, ?_⟩⟩
     refine ⟨rfl, ⟨rfl, ?_⟩⟩
     refine ⟨rfl, ⟨rfl, ?_⟩⟩
     refine ⟨rfl, ⟨rfl, ?_⟩⟩
     refine ⟨rfl, ⟨⟨.inr rfl, by omega, by omega⟩, ⟨rfl, ?_⟩⟩⟩
     refine ⟨⟨.inr rfl, by simp only [maxLen]; omega, by dsimp only; omega⟩, ?_⟩
     refine ⟨⟨.inr rfl, by simp only [maxLen]; omega, by dsimp only; omega⟩, ?_⟩
     refine ⟨⟨.inr rfl, by simp only [maxLen]; omega, by dsimp only; omega⟩, ?_⟩
     refine ⟨⟨_, _, _, _, rfl, ?_⟩, trivial⟩
     exact zhl hi hat (Nat.zero_add i) rfl (fun a _ j _ => rfl) (zkW rfl rfl)
   ·have h3 : ((L.getD i default).1 == q.1) = false := h3
    repeat first | apply sT | apply sF
    have hat : leadN q L = i := zdm q L i hi ha fun _ => by unfold lsP; rw [h2, h3]; rfl
    refine Exists.intro [1001, 1002, 1003, 1005, 1006, 1008, 1009, 1010, 0, 4, 7, 11, 12] (And.intro (by kernel_rfl) (FzOb.fz [3] ?_))
    refine ⟨rfl, ⟨rfl, ?_⟩⟩
    refine ⟨rfl, ⟨rfl, ?_⟩⟩
    refine ⟨rfl, ⟨⟨.inr rfl, by omega, by omega⟩, ⟨rfl, ?_⟩⟩⟩
    refine ⟨rfl, ⟨rfl, ?_⟩⟩
    refine ⟨rfl, ⟨rfl, ?_⟩⟩
    refine ⟨rfl, ⟨rfl, ?_⟩⟩
    refine ⟨rfl, ⟨rfl, ?_⟩⟩
    refine ⟨rfl, ⟨⟨.inr rfl, by omega, by omega⟩, ⟨rfl, ?_⟩⟩⟩
    refine ⟨⟨.inr rfl, by simp only [maxLen]; omega, by dsimp only; omega⟩, ?_⟩
    refine ⟨⟨.inr rfl, by simp only [maxLen]; omega, by dsimp only; omega⟩, ?_⟩
    refine ⟨⟨.inr rfl, by simp only [maxLen]; omega, by dsimp only; omega⟩, ?_⟩
    refine ⟨⟨_, _, _, _, rfl, ?_⟩, trivial⟩
    exact zhl hi hat (Nat.zero_add i) rfl (fun a _ j _ => rfl) (zkW rfl rfl)
 ·have h1 : i = L.length := by have := dF h1; omega
  repeat first | apply sT | apply sF
  have hat : leadN q L = i := zdm q L i hi ha fun h => by omega
  refine Exists.intro [1001, 1002, 1003, 1005, 1006, 1008, 1009, 1010, 0, 4, 7, 11, 12] (And.intro (by kernel_rfl) (FzOb.fz [3] ?_))
  refine ⟨rfl, ⟨rfl, ?_⟩⟩
  refine ⟨rfl, ⟨rfl, ?_⟩⟩
  refine ⟨rfl, ⟨⟨.inr rfl, by omega, by omega⟩, ⟨rfl, ?_⟩⟩⟩
  refine ⟨rfl, ⟨rfl, ?_⟩⟩
  refine ⟨rfl, ⟨rfl, ?_⟩⟩
  refine ⟨rfl, ⟨rfl, ?_⟩⟩
  refine ⟨rfl, ⟨rfl, ?_⟩⟩
  refine ⟨rfl, ⟨⟨.inr rfl, by omega, by omega⟩, ⟨rfl, ?_⟩⟩⟩
  refine ⟨⟨.inr rfl, by simp only [maxLen]; omega, by dsimp only; omega⟩, ?_⟩
  refine ⟨⟨.inr rfl, by simp only [maxLen]; omega, by dsimp only; omega⟩, ?_⟩
  refine ⟨⟨.inr rfl, by simp only [maxLen]; omega, by dsimp only; omega⟩, ?_⟩
  refine ⟨⟨_, _, _, _, rfl, ?_⟩, trivial⟩
  exact zhl hi hat (Nat.zero_add i) rfl (fun a _ j _ => rfl) (zkW rfl rfl)
def fireB (x : Cir) (l : List Tg) (i k : Nat) : Bool :=
 (((i : Int) == (k : Int)) && (l.getD i default).no) || (decide ((l.getD i default).N < (l.getD k default).N) && !(l.getD i default).no && !(l.getD k default).no && agaB x (l.getD i default) (l.getD k default))
def outK (x : Cir) (l : List Tg) (i : Nat) (o : List (Int × Int)) : Nat -> List (Int × Int)
 | 0 => o
 | k + 1 => if fireB x l i k = true then putL (outK x l i o k) ((l.getD i default).N, (l.getD k default).N) else outK x l i o k
def outI (x : Cir) (l : List Tg) : Nat -> List (Int × Int)
 | 0 => []
 | i + 1 => outK x l i (outI x l i) l.length
theorem zfx (x : Cir) (l : List Tg) (i : Nat) (o : List (Int × Int)) : ∀ k, (outK x l i o k).length <= o.length + k
 | 0 => Nat.le_refl _
 | k + 1 => by
  have := zfx x l i o k
  unfold outK
  split
  ·rw [zfs]; omega
  ·omega
theorem ziv (x : Cir) (l : List Tg) : ∀ i, (outI x l i).length <= i * l.length
 | 0 => by simp [outI]
 | i + 1 => by
  have h1 := ziv x l i
  have h2 := zfx x l i (outI x l i) l.length
  unfold outI
  rw [Nat.add_mul, Nat.one_mul]
  omega
theorem zfw {x : Cir} {l : List Tg} {i k : Nat} {o : List (Int × Int)} (h : fireB x l i k = true) : outK x l i o (k + 1) = putL (outK x l i o k) ((l.getD i default).N, (l.getD k default).N) := by
 show (if _ then _ else _) = _; rw [if_pos h]
theorem zcM {x : Cir} {l : List Tg} {i k : Nat} {o : List (Int × Int)} (h : fireB x l i k = false) : outK x l i o (k + 1) = outK x l i o k := by
 show (if _ then _ else _) = _; rw [if_neg (by rw [h]; decide)]
theorem zhj (c : Cirs) (id : Int) (h : CirsOk c) (hid : ¬ cirI c id < 0) (hl : ∀ t ∈ tgsL c (c.C.getD (cirI c id).toNat default), TgOk t) :
    Spec PP 196 [c.v, (c.C.getD (cirI c id).toNat default).v] [.d (lPr (outI (c.C.getD (cirI c id).toNat default) (tgsL c (c.C.getD (cirI c id).toNat default)) (tgsL c (c.C.getD (cirI c id).toNat default)).length))] := by
  have hT := zgh c id h hid
  have hx := (h.cs _ (zaK hid).1).d
  have hlen : (tgsL c (c.C.getD (cirI c id).toNat default)).length <= 61 := Nat.le_trans (zfd c _ _) (by have := h.m; omega)
  generalize c.C.getD (cirI c id).toNat default = x at *
  generalize tgsL c x = l at *
  refine sA Tryz.func196 ?_
  refine CallSt.ro hT rfl rfl ?_
  refine LoopOb.of (σ := Nat) (fun i => ([(3, .box 3 0), (5, .d (lTg l)), (6, .d (lPr (outI x l i))), (7, .d (I i))], [(3, .box (x.ds.map AV.d))])) (fun i => i <= l.length) (fun i => l.length - i) 0
    ⟨rfl, ⟨obD x.ds rfl, trivial⟩, avQ rfl, avR _ rfl, avOw rfl rfl rfl ⟨rfl, .inl rfl⟩, avR _ rfl, trivial⟩ (Nat.zero_le _) fun i hi => ?_
  apply sB <;> intro h0
  · have h0 : i < l.length := by have := dT h0; omega
    have oi := hl _ (gd1 h0 default)
    refine LoopOb.of (σ := Nat) (fun k => ([(3, .box 3 0), (5, .d (lTg l)), (6, .d (lPr (outK x l i (outI x l i) k))), (7, .d (I i)), (8, .d (I k))], [(3, .box (x.ds.map AV.d))])) (fun k => k <= l.length) (fun k => l.length - k) 0
      ⟨rfl, ⟨obD x.ds rfl, trivial⟩, wq rfl⟩ (Nat.zero_le _) fun k hk => ?_
    apply sB <;> intro h1
    · have h1 : k < l.length := by have := dT h1; omega
      have ok := hl _ (gd1 h1 default)
      have ol : (outK x l i (outI x l i) k).length <= 10000 := by
        have a1 := zfx x l i (outI x l i) k
        have a2 := ziv x l i
        have a3 : i * l.length <= 61 * 61 := Nat.mul_le_mul (by omega) hlen
        omega
      refine ⟨⟨rfl, by omega, by omega⟩, ?_⟩
      refine ⟨⟨rfl, by omega, by omega⟩, ?_⟩
      apply sB <;> intro h2
      · have h2 : ((i : Int) == (k : Int)) = true := h2
        obtain rfl : i = k := by have : (i : Int) = k := by simpa using h2
                                 omega
        repeat first | apply sT | apply sF
        apply sB <;> intro h3
        · have h3 : (l.getD i default).N < (l.getD i default).N := dT h3
          omega
        have h3 : decide ((l.getD i default).N < (l.getD i default).N) = false := h3
        repeat first | apply sT | apply sF
        apply sB <;> intro h4
        · have h4 : (l.getD i default).no = true := h4
          have hf : fireB x l i i = true := by unfold fireB; rw [h2, h4]; rfl
          repeat first | apply sT | apply sF
          refine CallSt.ro (zoP (outK x l i (outI x l i) i) ((l.getD i default).N, (l.getD i default).N) (by omega)) rfl rfl ?_
          refine ⟨i6, ?_⟩
          refine ⟨i + 1, ⟨rfl, ⟨obD x.ds rfl, trivial⟩, avQ rfl, avR _ rfl, avR _ (by rw [zfw hf]; rfl), wq rfl⟩, h1, (msr (by omega))⟩
        · have h4 : (l.getD i default).no = false := h4
          have hf : fireB x l i i = false := by unfold fireB; rw [h3, h4, Bool.and_false]; rfl
          repeat first | apply sT | apply sF
          refine ⟨i6, ?_⟩
          refine ⟨i + 1, ⟨rfl, ⟨obD x.ds rfl, trivial⟩, avQ rfl, avR _ rfl, avR _ (by rw [zcM hf]; rfl), wq rfl⟩, h1, (msr (by omega))⟩
      have h2 : ((i : Int) == (k : Int)) = false := h2
      repeat first | apply sT | apply sF
      apply sB <;> intro h3
      · have h3 : decide ((l.getD i default).N < (l.getD k default).N) = true := h3
        repeat first | apply sT | apply sF
        apply sB <;> intro h4
        · have h4 : (l.getD i default).no = false := zdN h4
          repeat first | apply sT | apply sF
          apply sB <;> intro h5
          · have h5 : (l.getD k default).no = false := zdN h5
            refine cP (zjl x (l.getD i default) (l.getD k default) hx oi ok) rfl rfl ?_
            repeat first | apply sT | apply sF
            apply sB <;> intro h6
            · have h6 : agaB x (l.getD i default) (l.getD k default) = true := h6
              have hf : fireB x l i k = true := by unfold fireB; rw [h3, h4, h5, h6, Bool.or_eq_true]; exact .inr rfl
              refine CallSt.ro (zoP (outK x l i (outI x l i) k) ((l.getD i default).N, (l.getD k default).N) (by omega)) rfl rfl ?_
              refine ⟨i6, ?_⟩
              refine ⟨k + 1, ⟨rfl, ⟨obD x.ds rfl, trivial⟩, avQ rfl, avR _ rfl, avR _ (by rw [zfw hf]; rfl), wq rfl⟩, h1, (msr (by omega))⟩
            · have h6 : agaB x (l.getD i default) (l.getD k default) = false := h6
              have hf : fireB x l i k = false := by unfold fireB; rw [h2, h6, Bool.and_false]; rfl
              refine ⟨i6, ?_⟩
              refine ⟨k + 1, ⟨rfl, ⟨obD x.ds rfl, trivial⟩, avQ rfl, avR _ rfl, avR _ (by rw [zcM hf]; rfl), wq rfl⟩, h1, (msr (by omega))⟩
          · have h5 : (l.getD k default).no = true := zdO h5
            have hf : fireB x l i k = false := by unfold fireB; rw [h2, h5]; simp
            repeat first | apply sT | apply sF
            refine ⟨i6, ?_⟩
            refine ⟨k + 1, ⟨rfl, ⟨obD x.ds rfl, trivial⟩, avQ rfl, avR _ rfl, avR _ (by rw [zcM hf]; rfl), wq rfl⟩, h1, (msr (by omega))⟩
        · have h4 : (l.getD i default).no = true := zdO h4
          have hf : fireB x l i k = false := by unfold fireB; rw [h2, h4]; simp
          repeat first | apply sT | apply sF
          refine ⟨i6, ?_⟩
          refine ⟨k + 1, ⟨rfl, ⟨obD x.ds rfl, trivial⟩, avQ rfl, avR _ rfl, avR _ (by rw [zcM hf]; rfl), wq rfl⟩, h1, (msr (by omega))⟩
      · have h3 : decide ((l.getD i default).N < (l.getD k default).N) = false := h3
        have hf : fireB x l i k = false := by unfold fireB; rw [h2, h3]; rfl
        repeat first | apply sT | apply sF
        refine ⟨i6, ?_⟩
        refine ⟨k + 1, ⟨rfl, ⟨obD x.ds rfl, trivial⟩, avQ rfl, avR _ rfl, avR _ (by rw [zcM hf]; rfl), wq rfl⟩, h1, (msr (by omega))⟩
    · have h1 : k = l.length := by have := dF h1; omega
      subst h1
      refine ⟨i6, ?_⟩
      exact ⟨i + 1, ⟨rfl, ⟨obD x.ds rfl, trivial⟩, wq rfl⟩, h0, (msr (by omega))⟩
  · have h0 : i = l.length := by have := dF h0; omega
    subst h0
    exact ⟨dE _, trivial⟩
def limS (x : Cir) (t : Int) (s : Spn) (g : Tg) : Spn := ⟨max s.Lo (g.lo - drf x g.T t), min s.Hi (g.hi + drf x g.T t)⟩
def limF (x : Cir) (t : Int) (l : List Tg) : Spn := l.foldl (limS x t) ⟨-300, 300⟩
theorem zkM (x : Cir) (l : List Tg) (t : Int) (hx : 0 <= x.Drift /\ x.Drift <= 60) (hl : ∀ g ∈ l, TgOk g) (hn : l.length <= 1000) (ht : 0 <= t /\ t <= 1048576) : Spec PP 197 [x.v, .d (lTg l), N t] [(limF x t l).v] := by
 refine sA Tryz.func197 ?_
 refine LoopOb.of (σ := Nat) (fun i => ([(1, .d (lTg l)), (2, .d (I t)), (3, .box 3 0), (6, .box 6 0), (7, .box 7 0), (8, .d (I i))], [(3, .box (x.ds.map AV.d)), (6, .box ([I 0, I 0].map AV.d)), (7, .box ([I (limF x t (l.take i)).Lo, I (limF x t (l.take i)).Hi].map AV.d))])) (fun i => i <= l.length) (fun i => l.length - i) 0
  ⟨rfl, ⟨obD x.ds rfl, obD [I 0, I 0] rfl, obD [I (-300), I 300] rfl, trivial⟩, wq rfl⟩ (Nat.zero_le _) fun i hi => ?_
 apply sB <;> intro h1
 ·have h1 : i < l.length := by have := dT h1; omega
  have o := hl _ (gd1 h1 default)
  have q1 := o.lo
  have q2 := o.hi
  have db := ziN hx o.t ht
  have eS : limF x t (l.take (i + 1)) = limS x t (limF x t (l.take i)) (l.getD i default) := by unfold limF; rw [zas h1 default, List.foldl_append]; rfl
  refine oL (List.range 9) (FzOb.no ?_)
  refine ⟨⟨rfl, by omega, by omega⟩, ?_⟩
  refine oP (zoQ x (l.getD i default).T t hx o.t ht) rfl rfl ?_
  refine oL (List.range 14) (FzOb.no ?_)
  refine ⟨⟨rfl, by omega, by omega⟩, ?_⟩
  have z1 : inR .i64 ((l.getD i default).lo - drf x (l.getD i default).T t) := i6
  have z2 : inR .i64 ((l.getD i default).hi + drf x (l.getD i default).T t) := i6
  refine ⟨z1, ?_⟩
  refine oL (List.range 14) (FzOb.no ?_)
  refine ⟨⟨rfl, by omega, by omega⟩, ?_⟩
  refine ⟨z2, ?_⟩
  refine ⟨i6, ?_⟩
  refine ⟨i + 1, ⟨rfl, ⟨obD x.ds rfl, obD [I 0, I 0] rfl, obD [I (limF x t (l.take (i + 1))).Lo, I (limF x t (l.take (i + 1))).Hi] (by rw [eS]; rfl), trivial⟩, wq rfl⟩, h1, (msr (by omega))⟩
 ·have h1 : i = l.length := by have := dF h1; omega
  subst h1
  rw [List.take_length]
  exact r1C rfl rfl rfl rfl rfl rfl (zaa _)
def tgOf (t : Thg) : Tg := ⟨t.k.ID, t.k.Tick, if t.s.Lo <= t.s.Hi then t.s.Lo else 0, if t.s.Lo <= t.s.Hi then t.s.Hi else 0, noneB t⟩
theorem zre {x : Cir} (h : x.Lo <= x.Hi) : tgOf (thg0 x) = tg0 x := by
 unfold tgOf tg0 thg0 noneB
 dsimp only
 rw [if_pos h, if_pos h, decide_eq_false (by omega)]
theorem zrd (x : Cir) (k : Chk) : tgOf ⟨k, alo x k⟩ = tgK x k := by
 unfold tgOf tgK noneB alnD
 dsimp only
 by_cases h : (alo x k).Lo <= (alo x k).Hi
 ·rw [if_pos h, if_pos h, if_pos h, decide_eq_false (by omega)]
 ·rw [if_neg h, if_neg h, if_neg h, decide_eq_true (by omega)]
theorem zj6 {c : Cirs} {x : Cir} (h : x.Lo <= x.Hi) : tgsL c x = (thsR c x c.K.length).map tgOf := by
 unfold tgsL tgsR thsR thsK
 rw [List.map_cons, List.map_map, zre h]
 congr 1
 refine List.map_congr_left fun k _ => ?_
 exact (zrd x k).symm
theorem zit {x : Cir} {l : List Tg} {i : Nat} : ∀ {k : Nat} {o : List (Int × Int)}, outK x l i o k = [] ↔ o = [] /\ ∀ j, j < k -> fireB x l i j = false
 | 0, o => ⟨fun h => ⟨h, fun j hj => absurd hj (Nat.not_lt_zero _)⟩, fun h => h.1⟩
 | k + 1, o => by
  cases hf : fireB x l i k with
  | true =>
   rw [zfw hf]
   refine ⟨fun h => ?_, fun h => ?_⟩
   ·have := zfs (outK x l i o k) ((l.getD i default).N, (l.getD k default).N)
    rw [h] at this; simp at this
   ·have := h.2 k (by omega)
    rw [hf] at this; cases this
  | false =>
   rw [zcM hf, zit]
   refine ⟨fun h => ⟨h.1, fun j hj => ?_⟩, fun h => ⟨h.1, fun j hj => h.2 j (by omega)⟩⟩
   by_cases e : j = k
   ·subst e; exact hf
   ·exact h.2 j (by omega)
theorem ziu {x : Cir} {l : List Tg} : ∀ {i : Nat}, outI x l i = [] ↔ ∀ j, j < i -> ∀ k, k < l.length -> fireB x l j k = false
 | 0 => ⟨fun _ j hj => absurd hj (Nat.not_lt_zero _), fun _ => rfl⟩
 | i + 1 => by
  show outK x l i (outI x l i) l.length = [] ↔ _
  rw [zit, ziu]
  refine ⟨fun h j hj => ?_, fun h => ⟨fun j hj => h j (by omega), h i (by omega)⟩⟩
  by_cases e : j = i
  ·subst e; exact h.2
  ·exact h.1 j (by omega)
theorem zoX {α β : Type} [Inhabited α] [Inhabited β] (f : α -> β) (l : List α) {i : Nat} (h : i < l.length) : (l.map f).getD i default = f (l.getD i default) := by
 rw [gdq, gdq, List.getElem?_map, gqe h]; rfl
theorem zhW {x : Cir} {a b : Thg} (ha : noneB a = false) (hb : noneB b = false) : agaB x (tgOf a) (tgOf b) = cl2 x a b := by
 have h1 : a.s.Lo <= a.s.Hi := by have := of_decide_eq_false ha; omega
 have h2 : b.s.Lo <= b.s.Hi := by have := of_decide_eq_false hb; omega
 unfold agaB cl2 tgOf gap
 dsimp only
 rw [if_pos h1, if_pos h1, if_pos h2, if_pos h2, <- Bool.decide_or]
 apply decide_eq_decide.2
 omega
theorem znk {x : Cir} {l : List Thg} (hd : ∀ i j, i < l.length -> j < l.length -> (l.getD i default).k.ID = (l.getD j default).k.ID -> i = j) : outI x (l.map tgOf) (l.map tgOf).length = [] ↔ Fine x l := by
 rw [ziu, List.length_map]
 have ef : ∀ i k, i < l.length -> k < l.length -> fireB x (l.map tgOf) i k = (((i : Int) == (k : Int)) && noneB (l.getD i default) || (decide ((l.getD i default).k.ID < (l.getD k default).k.ID) && !noneB (l.getD i default) && !noneB (l.getD k default) && agaB x (tgOf (l.getD i default)) (tgOf (l.getD k default)))) := fun i k hi hk => by
  unfold fireB
  rw [zoX _ _ hi, zoX _ _ hk]; rfl
 unfold Fine
 rw [zfv]
 constructor
 ·intro h
  have hn : ∀ i, i < l.length -> noneB (l.getD i default) = false := fun i hi => by
   have := h i hi i hi
   rw [ef i i hi hi] at this
   simp at this
   exact this
  refine ⟨fun t ht => ?_, fun i j hij hj => ?_⟩
  ·obtain ⟨i, hi, rfl⟩ := zbh default ht
   exact hn i hi
  ·have hi : i < l.length := by omega
   have n1 := hn i hi
   have n2 := hn j hj
   rcases Int.lt_trichotomy (l.getD i default).k.ID (l.getD j default).k.ID with h1 | h1 | h1
   ·have := h i hi j hj
    rw [ef i j hi hj, n1, n2, decide_eq_true h1, zhW n1 n2] at this
    simpa using this
   ·exact absurd (hd i j hi hj h1) (by omega)
   ·have := h j hj i hi
    rw [ef j i hj hi, n1, n2, decide_eq_true h1, zhW n2 n1] at this
    rw [zfQ]
    simpa using this
 ·intro ⟨h1, h2⟩ i hi k hk
  have n1 := h1 _ (gd1 hi default)
  have n2 := h1 _ (gd1 hk default)
  rw [ef i k hi hk, n1, n2, zhW n1 n2, Bool.and_false, Bool.false_or]
  rcases Nat.lt_trichotomy i k with h | h | h
  ·rw [h2 i k h hk, Bool.and_false]
  ·subst h
   rw [decide_eq_false (by omega)]; rfl
  ·rw [zfQ, h2 k i h hi, Bool.and_false]
theorem zoY (x : Cir) (t : Int) : ∀ (l : List Tg) (s : Spn) (y : Int), (l.foldl (limS x t) s).Lo <= y ↔ s.Lo <= y /\ ∀ g ∈ l, g.lo - drf x g.T t <= y
 | [], s, y => by simp
 | g :: r, s, y => by
  rw [List.foldl_cons, zoY x t r, List.forall_mem_cons]
  unfold limS
  dsimp only
  constructor
  ·rintro ⟨h1, h2⟩; exact ⟨by omega, by omega, h2⟩
  ·rintro ⟨h1, h2, h3⟩; exact ⟨by omega, h3⟩
theorem zoZ (x : Cir) (t : Int) : ∀ (l : List Tg) (s : Spn) (y : Int), y <= (l.foldl (limS x t) s).Hi ↔ y <= s.Hi /\ ∀ g ∈ l, y <= g.hi + drf x g.T t
 | [], s, y => by simp
 | g :: r, s, y => by
  rw [List.foldl_cons, zoZ x t r, List.forall_mem_cons]
  unfold limS
  dsimp only
  constructor
  ·rintro ⟨h1, h2⟩; exact ⟨by omega, by omega, h2⟩
  ·rintro ⟨h1, h2, h3⟩; exact ⟨by omega, h3⟩
theorem zqj {x : Cir} {t : Int} {l m : List Thg} (hp : l.Perm m) (hn : ∀ g ∈ l, noneB g = false) : limF x t (l.map tgOf) = ⟨(zer x m t).lo, (zer x m t).hi⟩ := by
 have hs : ∀ g ∈ l, (tgOf g).lo = g.s.Lo /\ (tgOf g).hi = g.s.Hi /\ (tgOf g).T = g.k.Tick := fun g hg => by
  have h1 : g.s.Lo <= g.s.Hi := by have := of_decide_eq_false (hn g hg); omega
  unfold tgOf; dsimp only
  rw [if_pos h1, if_pos h1]; exact ⟨rfl, rfl, rfl⟩
 have k1 : ∀ y, (limF x t (l.map tgOf)).Lo <= y ↔ (zer x m t).lo <= y := fun y => by
  unfold limF zer
  rw [zoY, zoA]
  refine and_congr_right fun _ => ⟨fun h g hg => ?_, fun h g hg => ?_⟩
  ·have hg' := hp.mem_iff.2 hg
   have := h _ (List.mem_map_of_mem hg')
   rw [(hs g hg').1, (hs g hg').2.2] at this; exact this
  ·obtain ⟨g', hg', rfl⟩ := List.mem_map.1 hg
   rw [(hs g' hg').1, (hs g' hg').2.2]
   exact h g' (hp.mem_iff.1 hg')
 have k2 : ∀ y, y <= (limF x t (l.map tgOf)).Hi ↔ y <= (zer x m t).hi := fun y => by
  unfold limF zer
  rw [zoZ, zoB]
  refine and_congr_right fun _ => ⟨fun h g hg => ?_, fun h g hg => ?_⟩
  ·have hg' := hp.mem_iff.2 hg
   have := h _ (List.mem_map_of_mem hg')
   rw [(hs g hg').2.1, (hs g hg').2.2] at this; exact this
  ·obtain ⟨g', hg', rfl⟩ := List.mem_map.1 hg
   rw [(hs g' hg').2.1, (hs g' hg').2.2]
   exact h g' (hp.mem_iff.1 hg')
 have e1 : (limF x t (l.map tgOf)).Lo = (zer x m t).lo := Int.le_antisymm ((k1 _).2 (Int.le_refl _)) ((k1 _).1 (Int.le_refl _))
 have e2 : (limF x t (l.map tgOf)).Hi = (zer x m t).hi := Int.le_antisymm ((k2 _).1 (Int.le_refl _)) ((k2 _).2 (Int.le_refl _))
 rw [<- e1, <- e2]
section
variable {c : Cirs} (h : CirsOk c) {id : Int} (hid : ¬ cirI c id < 0)
include h hid
theorem zdh : (thsR c (c.C.getD (cirI c id).toNat default) c.K.length).Perm (thsL c (c.C.getD (cirI c id).toNat default)) := (List.mergeSort_perm _ _).symm
theorem zrc : ∀ t ∈ tgsL c (c.C.getD (cirI c id).toNat default), TgOk t := fun t ht => by
 have hx := h.cs _ (zaK hid).1
 rw [zj6 hx.z.2.1] at ht
 obtain ⟨g, hg, rfl⟩ := List.mem_map.1 ht
 have o := zh6 h hid g ((zdh h hid).mem_iff.1 hg)
 have o1 := o.lo
 have o2 := o.hi
 refine ⟨?_, ?_, o.t⟩
 ·unfold tgOf; dsimp only; split <;> omega
 ·unfold tgOf; dsimp only; split <;> omega
theorem zqM : ∀ i j, i < c.K.length -> j < c.K.length -> (c.K.getD i default).ID = (c.K.getD j default).ID -> i = j := fun i j hi hj e => by
 have h1 := h.ki i hi
 have h2 := h.ki j hj
 have h3 := zfR hi
 have h4 := zfR hj
 rw [e] at h1 h3
 omega
theorem zpx : ((thsR c (c.C.getD (cirI c id).toNat default) c.K.length).map fun t => t.k.ID).Nodup := by
 have hK : (c.K.map Chk.ID).Nodup := by
  unfold List.Nodup
  rw [List.pairwise_map, zfv]
  intro i j hij hj e
  have := zqM h hid i j (by omega) hj e
  omega
 unfold thsR thsK
 rw [List.take_length, List.map_cons, List.map_map, List.nodup_cons]
 constructor
 ·intro hm
  obtain ⟨k, hk, e⟩ := List.mem_map.1 hm
  have hk := (List.mem_filter.1 hk).1
  obtain ⟨j, hj, rfl⟩ := zbh default hk
  have o := (h.ks j hj).id
  have e : (c.K.getD j default).ID = 0 := e
  omega
 ·exact hK.sublist ((List.filter_sublist (l := c.K)).map Chk.ID)
theorem zpw : ∀ i j, i < (thsR c (c.C.getD (cirI c id).toNat default) c.K.length).length -> j < (thsR c (c.C.getD (cirI c id).toNat default) c.K.length).length -> ((thsR c (c.C.getD (cirI c id).toNat default) c.K.length).getD i default).k.ID = ((thsR c (c.C.getD (cirI c id).toNat default) c.K.length).getD j default).k.ID -> i = j := fun i j hi hj e => by
 have hn := zpx h hid
 unfold List.Nodup at hn
 rw [List.pairwise_map, zfv] at hn
 rcases Nat.lt_trichotomy i j with h1 | h1 | h1
 ·exact absurd e (hn i j h1 hj)
 ·exact h1
 ·exact absurd e.symm (hn j i h1 hi)
theorem zl4 : outI (c.C.getD (cirI c id).toNat default) (tgsL c (c.C.getD (cirI c id).toNat default)) (tgsL c (c.C.getD (cirI c id).toNat default)).length = [] ↔ clsL (c.C.getD (cirI c id).toNat default) (thsL c (c.C.getD (cirI c id).toNat default)) = [] := by
 have hx := h.cs _ (zaK hid).1
 rw [zj6 hx.z.2.1, znk (zpw h hid), zlM (zdh h hid), ziQ]
theorem zrT (t : Int) (hc : clsL (c.C.getD (cirI c id).toNat default) (thsL c (c.C.getD (cirI c id).toNat default)) = []) : limF (c.C.getD (cirI c id).toNat default) t (tgsL c (c.C.getD (cirI c id).toNat default)) = ⟨(zer (c.C.getD (cirI c id).toNat default) (thsL c (c.C.getD (cirI c id).toNat default)) t).lo, (zer (c.C.getD (cirI c id).toNat default) (thsL c (c.C.getD (cirI c id).toNat default)) t).hi⟩ := by
 have hx := h.cs _ (zaK hid).1
 have hf := (ziQ _ _).1 hc
 rw [zj6 hx.z.2.1]
 exact zqj (zdh h hid) fun g hg => hf.1 g ((zdh h hid).mem_iff.1 hg)
end
theorem zpc {c : Cirs} {id t : Int} (h0 : cirsE c = 0) (h1 : ¬ cirI c id < 0) (h2 : within t (c.C.getD (cirI c id).toNat default).From (c.C.getD (cirI c id).toNat default).To = true) :
  zerR c id t = if clsL (c.C.getD (cirI c id).toNat default) (thsL c (c.C.getD (cirI c id).toNat default)) = [] then (⟨(zer (c.C.getD (cirI c id).toNat default) (thsL c (c.C.getD (cirI c id).toNat default)) t).lo, (zer (c.C.getD (cirI c id).toNat default) (thsL c (c.C.getD (cirI c id).toNat default)) t).hi⟩, 0) else (⟨0, 0⟩, 9) := by
 have ek : knw c id [t] = (c.C.getD (cirI c id).toNat default, thsL c (c.C.getD (cirI c id).toNat default), 0) := by
  unfold knw
  rw [if_neg (fun hh => hh h0), if_neg h1, if_pos (by rw [List.all_cons, h2]; rfl)]
 have ea : atR c id t = (c.C.getD (cirI c id).toNat default, thsL c (c.C.getD (cirI c id).toNat default), agrE (c.C.getD (cirI c id).toNat default) (thsL c (c.C.getD (cirI c id).toNat default))) := by
  unfold atR; rw [ek]; dsimp only; rw [if_pos rfl]
 unfold zerR
 rw [ea]
 dsimp only
 unfold agrE
 by_cases hc : clsL (c.C.getD (cirI c id).toNat default) (thsL c (c.C.getD (cirI c id).toNat default)) = []
 ·rw [if_pos hc, if_neg (by decide), if_pos hc]
 ·rw [if_neg hc, if_pos (by decide), if_neg hc]
theorem zgT {c : Cirs} {id t e : Int} (h : knw c id [t] = ((knw c id [t]).1, (knw c id [t]).2.1, e)) (he : e ≠ 0) : zerR c id t = (⟨0, 0⟩, e) := by
 have h2 : (knw c id [t]).2.2 = e := congrArg (fun z : Cir × List Thg × Int => z.2.2) h
 have ea : (atR c id t).2.2 = e := by
  show (if (knw c id [t]).2.2 = 0 then _ else (knw c id [t]).2.2) = e
  rw [h2, if_neg he]
 unfold zerR
 rw [ea, if_pos he]
theorem zpf {c : Cirs} {id t : Int} (h0 : cirsE c ≠ 0) : zerR c id t = (⟨0, 0⟩, cirsE c) := zgT (by unfold knw; rw [if_pos h0]) h0
theorem zpe {c : Cirs} {id t : Int} (h0 : cirsE c = 0) (h1 : cirI c id < 0) : zerR c id t = (⟨0, 0⟩, 5) := zgT (by unfold knw; rw [if_neg (fun hh => hh h0), if_pos h1]) (by decide)
theorem zpd {c : Cirs} {id t : Int} (h0 : cirsE c = 0) (h1 : ¬ cirI c id < 0) (h2 : within t (c.C.getD (cirI c id).toNat default).From (c.C.getD (cirI c id).toNat default).To = false) : zerR c id t = (⟨0, 0⟩, 1) := zgT (by unfold knw; rw [if_neg (fun hh => hh h0), if_neg h1, if_neg (by rw [List.all_cons, h2, Bool.false_and]; decide)]) (by decide)
def useR (c : Cirs) (id t : Int) : Cir × Int :=
 if cirsE c ≠ 0 then (default, cirsE c) else if cirI c id < 0 then (default, 5)
 else if within t (c.C.getD (cirI c id).toNat default).From (c.C.getD (cirI c id).toNat default).To = false then (default, 1) else (c.C.getD (cirI c id).toNat default, 0)
theorem zrC (c : Cirs) (id t : Int) : Spec PP 195 [c.v, N id, .agg [I t, I t]] [.agg ((useR c id t).1.ds ++ [I (useR c id t).2])] := by
 refine sA Tryz.func195 ?_
 refine cP (zfr c) rfl rfl ?_
 apply sB <;> intro h0
 ·have e : useR c id t = (default, cirsE c) := by unfold useR; rw [if_pos (by simpa using h0)]
  rw [e]
  exact r1C rfl rfl rfl rfl rfl rfl (zaa _)
 have h0 : cirsE c = 0 := by simpa using h0
 have ok := zbG h0
 have e0 : useR c id t = if cirI c id < 0 then (default, 5) else if within t (c.C.getD (cirI c id).toNat default).From (c.C.getD (cirI c id).toNat default).To = false then (default, 1) else (c.C.getD (cirI c id).toNat default, 0) := by unfold useR; rw [if_neg (fun hh => hh h0)]
 refine cP (zhi c id (by have := ok.n; omega)) rfl rfl ?_
 by_cases h1 : cirI c id < 0
 ·have e1 : fndC c id = (default, false) := by unfold fndC; rw [if_pos h1]
  rw [e1, e0, if_pos h1]
  refine sT ?_
  exact r1C rfl rfl rfl rfl rfl rfl (zaa _)
 have e1 : fndC c id = (c.C.getD (cirI c id).toNat default, true) := by unfold fndC; rw [if_neg h1]
 rw [e1, e0, if_neg h1]
 generalize c.C.getD (cirI c id).toNat default = x
 refine sF ?_
 apply sB <;> intro h2
 ·have : t < t := dT h2
  omega
 repeat first | apply sT | apply sF
 apply sB <;> intro h3
 ·have h3 : t < x.From := dT h3
  repeat first | apply sT | apply sF
  rw [if_pos (by unfold within; rw [decide_eq_false (show ¬ x.From <= t by omega)]; rfl)]
  exact r1C rfl rfl rfl rfl rfl rfl (zaa _)
 have h3 : ¬ t < x.From := dF h3
 repeat first | apply sT | apply sF
 apply sB <;> intro h4
 ·have h4 : x.To < t := dT h4
  rw [if_pos (by unfold within; rw [decide_eq_false (show ¬ t <= x.To by omega), Bool.and_false])]
  exact r1C rfl rfl rfl rfl rfl rfl (zaa _)
 have h4 : ¬ x.To < t := dF h4
 rw [if_neg (by rw [zab.2 (show x.From <= t /\ t <= x.To by omega)]; decide)]
 exact r1C rfl rfl rfl rfl rfl rfl (zaa _)
theorem zhk (c : Cirs) (id t : Int) : Spec PP 117 [c.v, N id, N t] [.agg [I (zerR c id t).1.Lo, I (zerR c id t).1.Hi, I (zerR c id t).2]] := by
 refine sA Tryz.func117 ?_
 refine cP (zrC c id t) rfl rfl ?_
 by_cases h0 : cirsE c = 0
 ·by_cases h1 : cirI c id < 0
  ·have e : useR c id t = (default, 5) := by unfold useR; rw [if_neg (fun hh => hh h0), if_pos h1]
   rw [e, zpe h0 h1]
   refine Split.yes rfl ?_
   exact r1C rfl rfl rfl rfl rfl rfl (zaa _)
  cases h2 : within t (c.C.getD (cirI c id).toNat default).From (c.C.getD (cirI c id).toNat default).To with
  | false =>
   have e : useR c id t = (default, 1) := by unfold useR; rw [if_neg (fun hh => hh h0), if_neg h1, if_pos h2]
   rw [e, zpd h0 h1 h2]
   refine Split.yes rfl ?_
   exact r1C rfl rfl rfl rfl rfl rfl (zaa _)
  | true =>
   have e : useR c id t = (c.C.getD (cirI c id).toNat default, 0) := by unfold useR; rw [if_neg (fun hh => hh h0), if_neg h1, if_neg (by rw [h2]; decide)]
   have ok := zbG h0
   have hC := zhj c id ok h1 (zrc ok h1)
   have hTh := zgh c id ok h1
   have hcl := zl4 ok h1
   have hle := zrT ok h1 t
   have hto := zrc ok h1
   have hlen : (tgsL c (c.C.getD (cirI c id).toNat default)).length <= 61 := Nat.le_trans (zfd c _ _) (by have := ok.m; omega)
   have hx := ok.cs _ (zaK h1).1
   have ht := zab.1 h2
   rw [e, zpc h0 h1 h2]
   generalize c.C.getD (cirI c id).toNat default = x at *
   refine Split.no rfl ?_
   refine CallSt.ro hC rfl rfl ?_
   by_cases hc : clsL x (thsL c x) = []
   ·have ho := hcl.2 hc
    rw [if_pos hc]
    refine Split.no (by rw [ho]; rfl) ?_
    refine oL (List.range 10) (FzOb.no ?_)
    refine CallOb.ro hTh rfl rfl ?_
    refine oP (zkM x (tgsL c x) t hx.d hto (by omega) (by have := hx.t; omega)) rfl rfl ?_
    rw [hle hc]
    exact r1C rfl rfl rfl rfl rfl rfl (zaa _)
   ·have ho : outI x (tgsL c x) (tgsL c x).length ≠ [] := fun h => hc (hcl.1 h)
    have hp : 0 < (outI x (tgsL c x) (tgsL c x).length).length := List.length_pos_iff.2 ho
    rw [if_neg hc]
    refine Split.yes (decide_eq_true (by omega)) ?_
    exact r1C rfl rfl rfl rfl rfl rfl (zaa _)
 ·have e : useR c id t = (default, cirsE c) := by unfold useR; rw [if_pos h0]
  rw [e, zpf h0]
  refine Split.yes (by simpa using h0) ?_
  exact r1C rfl rfl rfl rfl rfl rfl (zaa _)
def askR (c : Cirs) (r : Rdg) : Spn × Int := if rdgE c r ≠ 0 then (⟨0, 0⟩, rdgE c r) else zerR c r.C r.Tick
theorem zm6 (c : Cirs) (r : Rdg) : Spec PP 193 [c.v, r.v] [.agg [I (askR c r).1.Lo, I (askR c r).1.Hi, I (askR c r).2]] := by
 refine sA Tryz.func193 ?_
 refine cP (zfr c) rfl rfl ?_
 apply sB <;> intro h0
 ·have h0 : cirsE c ≠ 0 := by simpa using h0
  have e : askR c r = (⟨0, 0⟩, cirsE c) := by
   have : rdgE c r = cirsE c := by unfold rdgE; rw [if_pos h0]
   unfold askR; rw [this, if_pos h0]
  rw [e]
  exact r1C rfl rfl rfl rfl rfl rfl (zaa _)
 have h0 : cirsE c = 0 := by simpa using h0
 have e0 : rdgE c r = if (!within r.Shown 0 3599 || !within r.Slack 1 100) = true then 1 else 0 := by unfold rdgE; rw [if_neg (fun hh => hh h0)]
 have bad : (!within r.Shown 0 3599 || !within r.Slack 1 100) = true -> askR c r = (⟨0, 0⟩, 1) := fun h => by
  unfold askR; rw [e0, if_pos h, if_pos (by decide)]
 refine cP (zat r.Shown 0 3599) rfl rfl ?_
 refine cP (zat r.Slack 1 100) rfl rfl ?_
 apply sB <;> intro h1
 ·have h1 : (!within r.Shown 0 3599) = true := h1
  repeat first | apply sT | apply sF
  rw [bad (by rw [h1]; rfl)]
  exact r1C rfl rfl rfl rfl rfl rfl (zaa _)
 have h1 : (!within r.Shown 0 3599) = false := h1
 repeat first | apply sT | apply sF
 apply sB <;> intro h2
 ·have h2 : (!within r.Slack 1 100) = true := h2
  rw [bad (by rw [h2, Bool.or_true])]
  exact r1C rfl rfl rfl rfl rfl rfl (zaa _)
 have h2 : (!within r.Slack 1 100) = false := h2
 have e : askR c r = zerR c r.C r.Tick := by
  have e1 : rdgE c r = 0 := by rw [e0, h1, h2]; rfl
  unfold askR; rw [e1, if_neg (fun hh => hh rfl)]
 refine cP (zhk c r.C r.Tick) rfl rfl ?_
 rw [e]
 exact r1C rfl rfl rfl rfl rfl rfl (zaa _)
theorem zsy {c : Cirs} {r : Rdg} (h : (askR c r).2 ≠ 0) : wdgR c r = (⟨0, 0⟩, (askR c r).2) := by
 unfold askR at h ⊢
 unfold wdgR
 split
 ·rfl
 ·rename_i h1
  rw [if_neg h1] at h
  rw [if_pos h]
theorem zsz {c : Cirs} {r : Rdg} (h : (askR c r).2 = 0) : rdgE c r = 0 /\ (zerR c r.C r.Tick).2 = 0 /\ askR c r = zerR c r.C r.Tick := by
 unfold askR at h ⊢
 split at h
 ·rename_i h1; exact absurd h h1
 ·rename_i h1
  rw [if_neg h1]
  exact ⟨Classical.byContradiction h1, h, rfl⟩
theorem zig (c : Cirs) (r : Rdg) : Spec PP 116 [c.v, r.v] [.agg [I (wdgR c r).1.F, I (wdgR c r).1.T, I (wdgR c r).2]] := by
 refine sA Tryz.func116 ?_
 refine cP (zm6 c r) rfl rfl ?_
 apply sB <;> intro h0
 ·have h0 : (askR c r).2 ≠ 0 := by simpa using h0
  rw [zsy h0]
  exact r1C rfl rfl rfl rfl rfl rfl (zaa _)
 have h0 : (askR c r).2 = 0 := by simpa using h0
 obtain ⟨h1, h2, h3⟩ := zsz h0
 have hs : (0 <= r.Shown /\ r.Shown <= 3599) /\ (1 <= r.Slack /\ r.Slack <= 100) := by
  unfold rdgE at h1
  split at h1
  ·rename_i h; exact absurd h1 h
  ·split at h1
   ·cases h1
   ·rename_i h
    simp only [Bool.or_eq_true, Bool.not_eq_true', not_or, Bool.not_eq_false] at h
    exact ⟨zab.1 h.1, zab.1 h.2⟩
 have zb := zgU h2
 rw [h3]
 have e0 : wdgR c r = if 900 < 2 * r.Slack + (zerR c r.C r.Tick).1.Hi - (zerR c r.C r.Tick).1.Lo then (⟨0, 0⟩, 50) else (wdg (r.Shown - r.Slack - (zerR c r.C r.Tick).1.Hi) (2 * r.Slack + (zerR c r.C r.Tick).1.Hi - (zerR c r.C r.Tick).1.Lo), 0) := by
  unfold wdgR; rw [if_neg (fun hh => hh h1), if_neg (fun hh => hh h2)]
 rw [e0]
 generalize (zerR c r.C r.Tick).1 = z at *
 refine ⟨i6, ⟨i6, ⟨i6, ?_⟩⟩⟩
 apply sB <;> intro h4
 ·have h4 : 900 < 2 * r.Slack + z.Hi - z.Lo := dT h4
  rw [if_pos h4]
  exact r1C rfl rfl rfl rfl rfl rfl (zaa _)
 have h4 : ¬ 900 < 2 * r.Slack + z.Hi - z.Lo := dF h4
 rw [if_neg h4]
 refine oL (List.range 23) (FzOb.no ?_)
 refine ⟨i6, ⟨i6, ?_⟩⟩
 refine oP (zfq (r.Shown - r.Slack - z.Hi) (by omega)) rfl rfl ?_
 refine ⟨i6, ⟨i6, ?_⟩⟩
 refine oP (zfq (r.Shown + r.Slack - z.Lo) (by omega)) rfl rfl ?_
 refine r1C rfl rfl rfl rfl rfl rfl ⟨⟨rfl, rfl⟩, ⟨rfl, ?_⟩, ⟨rfl, rfl⟩, trivial⟩
 show (r.Shown + r.Slack - z.Lo) % 3600 = (r.Shown - r.Slack - z.Hi + (2 * r.Slack + z.Hi - z.Lo)) % 3600
 congr 1; omega
end Go.Pg
