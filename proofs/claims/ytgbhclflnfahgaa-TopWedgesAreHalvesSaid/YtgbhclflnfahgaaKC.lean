/-
  Wedges of the square around a place: which side of a division a place lies on. Plain.
-/
import Derived.Test.YtgbhclflnfahgaaK5
import Derived.Test.YtgbhclflnfahgaaKA
import Derived.Test.YtgbhclflnfahgaaKB
import Derived.Test.YtgbhclflnfahgaaK4
set_option linter.all false
namespace Go.Pg
open Go.Proofs Go.RowKit

/-- The vector of a division. -/
def vecP (d : Int) : Place :=
  if 3150 ≤ d then ⟨450, d - 3600⟩ else if 2250 ≤ d then ⟨d - 2700, -450⟩ else if 1350 ≤ d then ⟨-450, 1800 - d⟩ else if 450 ≤ d then ⟨900 - d, 450⟩ else ⟨450, d⟩
/-- The sign c goes with the way m from the one direction to the other one, turning left, of 3600 d. -/
def Sg (c m d : Int) : Prop := (0 ≤ m ∧ m < 3600 * d) ∧ (0 < c ↔ 0 < m ∧ m < 1800 * d) ∧ (c < 0 ↔ 1800 * d < m)
/-- To the east: for each division. -/
theorem sg_east {s x y : Int} (hs : 0 ≤ s ∧ s < 3600) (hx : 0 < x) (hy : -x ≤ y ∧ y ≤ x) : ∃ j : Int, Sg ((vecP s).X * y - (vecP s).Y * x) (450 * y - s * x + 3600 * x * j) x := by
  unfold Sg vecP
  by_cases h4 : 3150 ≤ s
  · rw [if_pos h4]
    have a := Int.mul_nonneg (show 0 ≤ s - 3150 by omega) (Int.le_of_lt hx)
    have b := Int.mul_pos (show 0 < 3600 - s by omega) hx
    rw [Int.sub_mul] at a b
    have e : (450 : Int) * y - (s - 3600) * x = 450 * y - s * x + 3600 * x := by rw [Int.sub_mul]; omega
    by_cases z : 0 ≤ 450 * y - s * x + 3600 * x
    · exact ⟨1, (show (0 ≤ 450 * y - s * x + 3600 * x * 1 ∧ _) ∧ (0 < 450 * y - (s - 3600) * x ↔ _) ∧ (450 * y - (s - 3600) * x < 0 ↔ _) by rw [e]; omega)⟩
    · exact ⟨2, (show (0 ≤ 450 * y - s * x + 3600 * x * 2 ∧ _) ∧ (0 < 450 * y - (s - 3600) * x ↔ _) ∧ (450 * y - (s - 3600) * x < 0 ↔ _) by rw [e]; omega)⟩
  rw [if_neg h4]
  by_cases h3 : 2250 ≤ s
  · rw [if_pos h3]
    have a := Int.mul_nonneg (show 0 ≤ s - 2250 by omega) (Int.le_of_lt hx)
    have b := Int.mul_pos (show 0 < 3150 - s by omega) hx
    rw [Int.sub_mul] at a b
    -- south: to the right of all that lies east, or on it at the edge
    refine ⟨1, (show (0 ≤ 450 * y - s * x + 3600 * x * 1 ∧ 450 * y - s * x + 3600 * x * 1 < 3600 * x) ∧ (0 < (s - 2700) * y - -450 * x ↔ 0 < 450 * y - s * x + 3600 * x * 1 ∧ 450 * y - s * x + 3600 * x * 1 < 1800 * x) ∧ ((s - 2700) * y - -450 * x < 0 ↔ 1800 * x < 450 * y - s * x + 3600 * x * 1) from ?_)⟩
    have e1 : (s - 2700) * y - -450 * x = 450 * (x + y) + (3150 - s) * (-y) := by grind
    have e2 : (s - 2700) * y - -450 * x = 450 * (x - y) + (s - 2250) * y := by grind
    have k3 : 450 * y - s * x + 3600 * x * 1 = 1800 * x → (s - 2700) * y - -450 * x = 0 := fun h => by
      have yx : y = x := by omega
      subst yx
      rw [Int.sub_mul]; omega
    have k : 0 ≤ (s - 2700) * y - -450 * x ∧ ((s - 2700) * y - -450 * x = 0 → 450 * y - s * x + 3600 * x * 1 = 0 ∨ 450 * y - s * x + 3600 * x * 1 = 1800 * x) := by
      rcases Int.lt_or_le y 0 with g | g
      · have := Int.mul_pos (show 0 < 3150 - s by omega) (show 0 < -y by omega)
        exact ⟨by omega, fun h => by omega⟩
      · have := Int.mul_nonneg (show 0 ≤ s - 2250 by omega) g
        refine ⟨by omega, fun h => ?_⟩
        have z : (s - 2250) * y = 0 := by omega
        have yx : y = x := by omega
        rcases Int.mul_eq_zero.1 z with q | q
        · have : s = 2250 := by omega
          subst this; right; omega
        · omega
    obtain ⟨k1, k2⟩ := k
    generalize (s - 2700) * y - -450 * x = c at *
    omega
  rw [if_neg h3]
  by_cases h2 : 1350 ≤ s
  · rw [if_pos h2]
    have a := Int.mul_nonneg (show 0 ≤ s - 1350 by omega) (Int.le_of_lt hx)
    have b := Int.mul_pos (show 0 < 2250 - s by omega) hx
    rw [Int.sub_mul] at a b
    have e : -450 * y - (1800 - s) * x = -(450 * y - s * x + 1800 * x) := by rw [Int.sub_mul]; omega
    exact ⟨1, (show (0 ≤ 450 * y - s * x + 3600 * x * 1 ∧ _) ∧ (0 < -450 * y - (1800 - s) * x ↔ _) ∧ (-450 * y - (1800 - s) * x < 0 ↔ _) by rw [e]; omega)⟩
  rw [if_neg h2]
  by_cases h1 : 450 ≤ s
  · rw [if_pos h1]
    have a := Int.mul_nonneg (show 0 ≤ s - 450 by omega) (Int.le_of_lt hx)
    have b := Int.mul_pos (show 0 < 1350 - s by omega) hx
    rw [Int.sub_mul] at a b
    have e1 : (900 - s) * y - 450 * x = -(450 * (x + y) + (1350 - s) * (-y)) := by grind
    have e2 : (900 - s) * y - 450 * x = -(450 * (x - y) + (s - 450) * y) := by grind
    have k : (900 - s) * y - 450 * x ≤ 0 ∧ ((900 - s) * y - 450 * x = 0 → 450 * y - s * x = 0) ∧ (450 * y - s * x = 0 → (900 - s) * y - 450 * x = 0) := by
      rcases Int.lt_or_le y 0 with g | g
      · have := Int.mul_pos (show 0 < 1350 - s by omega) (show 0 < -y by omega)
        exact ⟨by omega, fun h => by omega, fun h => by omega⟩
      · have := Int.mul_nonneg (show 0 ≤ s - 450 by omega) g
        refine ⟨by omega, fun h => ?_, fun h => ?_⟩
        · have z : (s - 450) * y = 0 := by omega
          have yx : y = x := by omega
          rcases Int.mul_eq_zero.1 z with q | q
          · have : s = 450 := by omega
            subst this; omega
          · omega
        · have yx : y = x := by omega
          subst yx
          have : (s - 450) * y = 0 := by rw [Int.sub_mul]; omega
          omega
    obtain ⟨k1, k2, k3⟩ := k
    by_cases z : 450 * y - s * x = 0
    · exact ⟨0, (show (0 ≤ 450 * y - s * x + 3600 * x * 0 ∧ _) ∧ (0 < (900 - s) * y - 450 * x ↔ _) ∧ ((900 - s) * y - 450 * x < 0 ↔ _) by have := k3 z; omega)⟩
    · refine ⟨1, (show (0 ≤ 450 * y - s * x + 3600 * x * 1 ∧ _) ∧ (0 < (900 - s) * y - 450 * x ↔ _) ∧ ((900 - s) * y - 450 * x < 0 ↔ _) from ?_)⟩
      have : (900 - s) * y - 450 * x ≠ 0 := fun h => z (k2 h)
      generalize (900 - s) * y - 450 * x = c at *
      omega
  rw [if_neg h1]
  have a := Int.mul_nonneg hs.1 (Int.le_of_lt hx)
  have b := Int.mul_pos (show 0 < 450 - s by omega) hx
  rw [Int.sub_mul] at b
  by_cases z : 0 ≤ 450 * y - s * x
  · exact ⟨0, (show (0 ≤ 450 * y - s * x + 3600 * x * 0 ∧ _) ∧ (0 < 450 * y - s * x ↔ _) ∧ (450 * y - s * x < 0 ↔ _) by omega)⟩
  · exact ⟨1, (show (0 ≤ 450 * y - s * x + 3600 * x * 1 ∧ _) ∧ (0 < 450 * y - s * x ↔ _) ∧ (450 * y - s * x < 0 ↔ _) by omega)⟩
/-! ### All directions, by quarter turns -/
theorem vec_rot {s : Int} (hs : 0 ≤ s ∧ s < 3600) : ∃ t : Int, (0 ≤ t ∧ t < 3600) ∧ (s = t + 900 ∨ s = t - 2700) ∧ (vecP s).X = -(vecP t).Y ∧ (vecP s).Y = (vecP t).X := by
  by_cases h : 900 ≤ s
  · refine ⟨s - 900, by omega, .inl (by omega), ?_⟩
    unfold vecP
    repeat' split
    all_goals first | (exfalso; omega) | (constructor <;> first | rfl | (dsimp only; omega))
  · refine ⟨s + 2700, by omega, .inr (by omega), ?_⟩
    unfold vecP
    repeat' split
    all_goals first | (exfalso; omega) | (constructor <;> first | rfl | (dsimp only; omega))
def Side (x y n d : Int) : Prop := ∀ s : Int, 0 ≤ s → s < 3600 → ∃ j : Int, Sg ((vecP s).X * y - (vecP s).Y * x) (n - s * d + 3600 * d * j) d
theorem side_rot {x y n d : Int} (h : Side x y n d) : Side (-y) x (n + 900 * d) d := fun s h1 h2 => by
  obtain ⟨t, ht, hst, eX, eY⟩ := vec_rot ⟨h1, h2⟩
  obtain ⟨j, hj⟩ := h t ht.1 ht.2
  have ec : (vecP s).X * x - (vecP s).Y * -y = (vecP t).X * y - (vecP t).Y * x := by rw [eX, eY]; grind
  rw [ec]
  rcases hst with e | e
  · refine ⟨j, ?_⟩
    have : n + 900 * d - s * d + 3600 * d * j = n - t * d + 3600 * d * j := by rw [e]; grind
    rw [this]; exact hj
  · refine ⟨j - 1, ?_⟩
    have : n + 900 * d - s * d + 3600 * d * (j - 1) = n - t * d + 3600 * d * j := by rw [e]; grind
    rw [this]; exact hj
theorem side_east {x y : Int} (hx : 0 < x) (hy : -x ≤ y ∧ y ≤ x) : Side x y (450 * y) x := fun s h1 h2 => sg_east ⟨h1, h2⟩ hx hy
theorem side_north {x y : Int} (hy : 0 < y) (hx : -y ≤ x ∧ x ≤ y) : Side x y (900 * y - 450 * x) y := by
  have := side_rot (side_east (x := y) (y := -x) hy (by omega))
  rw [Int.neg_neg] at this
  rwa [show 450 * -x + 900 * y = 900 * y - 450 * x by omega] at this
theorem side_west {x y : Int} (hx : x < 0) (hy : x ≤ y ∧ y ≤ -x) : Side x y (1800 * -x - 450 * y) (-x) := by
  have := side_rot (side_north (x := y) (y := -x) (by omega) (by omega))
  rw [Int.neg_neg] at this
  rwa [show 900 * -x - 450 * y + 900 * -x = 1800 * -x - 450 * y by omega] at this
theorem side_south {x y : Int} (hy : y < 0) (hx : y ≤ x ∧ x ≤ -y) : Side x y (2700 * -y + 450 * x) (-y) := by
  have := side_rot (side_west (x := y) (y := -x) hy (by omega))
  rw [Int.neg_neg] at this
  rwa [show 1800 * -y - 450 * -x + 900 * -y = 2700 * -y + 450 * x by omega] at this
/-- In both half-planes of a wedge exactly if in the wedge. -/
theorem wedge_iff {x y n d s t : Int} (h : Side x y n d) (hd : 0 < d) (hs : 0 ≤ s ∧ s < 3600) (ht : 0 ≤ t ∧ t < 3600) (ho : (t - s) % 3600 ≤ 900) (h1 : 1 ≤ (t - s) % 3600) :
    (0 ≤ (vecP s).X * y - (vecP s).Y * x ∧ (vecP t).X * y - (vecP t).Y * x ≤ 0) ↔ (n - s * d) % (3600 * d) ≤ (t - s) % 3600 * d := by
  obtain ⟨j, ⟨a1, a2⟩, a3, a4⟩ := h s hs.1 hs.2
  obtain ⟨k, ⟨b1, b2⟩, b3, b4⟩ := h t ht.1 ht.2
  have em : (n - s * d) % (3600 * d) = n - s * d + 3600 * d * j := by
    rw [← Int.emod_eq_of_lt a1 a2]
    exact (Int.add_mul_emod_self_left _ _ _).symm
  rw [em]
  obtain ⟨q, hq⟩ : ∃ q : Int, t - s = (t - s) % 3600 + 3600 * q := ⟨(t - s) / 3600, by omega⟩
  generalize (t - s) % 3600 = o at *
  have e : n - t * d + 3600 * d * k = (n - s * d + 3600 * d * j) - o * d + 3600 * d * (k - j - q) := by
    have : t = s + o + 3600 * q := by omega
    rw [this]; grind
  have od := Int.mul_le_mul_of_nonneg_right ho (Int.le_of_lt hd)
  have od1 := Int.mul_le_mul_of_nonneg_right h1 (Int.le_of_lt hd)
  rw [e] at b1 b2 b3 b4
  generalize n - s * d + 3600 * d * j = m at *
  generalize (vecP s).X * y - (vecP s).Y * x = c at *
  generalize (vecP t).X * y - (vecP t).Y * x = c' at *
  generalize k - j - q = i at *
  generalize o * d = w at *
  have hi : i = 0 ∨ i = 1 := by
    rcases Int.lt_or_le i 0 with g | g
    · have := Int.mul_le_mul_of_nonneg_left (show i ≤ -1 by omega) (show 0 ≤ 3600 * d by omega)
      omega
    · rcases Int.lt_or_le 1 i with g2 | g2
      · have := Int.mul_le_mul_of_nonneg_left (show (2 : Int) ≤ i by omega) (show 0 ≤ 3600 * d by omega)
        omega
      · omega
  rcases hi with rfl | rfl
  · rw [Int.mul_zero] at b1 b2 b3 b4
    omega
  · rw [Int.mul_one] at b1 b2 b3 b4
    omega
end Go.Pg
/-
  Contracts: the circle's numbers and vectors.
-/
set_option linter.all false
set_option maxRecDepth 100000
namespace Go.Pg
open Go.Proofs Go.RowKit

theorem c_within (n lo hi : Int) : Spec PP 30 [N n, N lo, N hi] [B (within n lo hi)] := by
  refine spec_at Try.func30 rfl (by kernel_rfl) rfl ?_
  repeat' first
    | refine Split.tt ?_
    | refine Split.ff ?_
    | refine Split.by (fun _ => ?_) (fun _ => ?_)
    | refine r1B rfl ?_
  all_goals (unfold within; simp_all <;> omega)
theorem c_division (d : Int) : Spec PP 31 [N d] [B (within d 0 3599)] := by
  refine spec_at Try.func31 rfl (by kernel_rfl) rfl ?_
  refine CallSt.pure (c_within d 0 3599) rfl rfl ?_
  exact r1B rfl rfl
/-- A number in turns of the circle. -/
theorem c_turned (n p : Int) (hp : 0 < p ∧ p ≤ 1000000) (hn : -1000000000000 ≤ n ∧ n ≤ 1000000000000) : Spec PP 29 [N n, N p] [N (n % (3600 * p))] := by
  have h1 := Int.tmod_lt_of_pos n (show 0 < 3600 * p by omega)
  have h2 := Int.tmod_lt_of_pos (-n) (show 0 < 3600 * p by omega)
  rw [Int.neg_tmod] at h2
  refine spec_at Try.func29 rfl (by kernel_rfl) rfl ?_
  refine ⟨inI64 (by omega) (by omega), ?_⟩
  refine ⟨by omega, ⟨inI64 (by omega) (by omega), ⟨by omega, ?_⟩⟩⟩
  refine r1I rfl ?_
  rw [Int.tmod_eq_emod_of_nonneg (by omega), Int.add_emod_right]
  rw [Int.tmod_def, Int.sub_mul_emod_self_left]
end Go.Pg
/-
  Contracts: openings of wedges.
-/
set_option linter.all false
set_option maxRecDepth 100000
namespace Go.Pg
open Go.Proofs Go.RowKit

/-- A wedge: from a division, turning left, to another one. -/
structure Wdg where
  F : Int
  T : Int
  deriving DecidableEq, Inhabited
abbrev Wdg.v (w : Wdg) : V1 := .agg [I w.F, I w.T]
@[irreducible] def openW (w : Wdg) : Int := if within w.F 0 3599 = true ∧ within w.T 0 3599 = true then (w.T - w.F) % 3600 else -1
theorem c_Opening (w : Wdg) : Spec PP 12 [w.v] [N (openW w)] := by
  refine spec_at Try.func12 rfl (by kernel_rfl) rfl ?_
  refine CallSt.pure (c_division w.F) rfl rfl ?_
  refine Split.by (fun h1 => ?_) (fun h1 => ?_)
  · have h1 : within w.F 0 3599 = false := by simpa using h1
    repeat first | refine Split.tt ?_ | refine Split.ff ?_
    refine r1I rfl ?_
    unfold openW; rw [if_neg fun h => by rw [h.1] at h1; cases h1]
  have h1 : within w.F 0 3599 = true := by simpa using h1
  repeat first | refine Split.tt ?_ | refine Split.ff ?_
  refine CallSt.pure (c_division w.T) rfl rfl ?_
  repeat first | refine Split.tt ?_ | refine Split.ff ?_
  refine Split.by (fun h2 => ?_) (fun h2 => ?_)
  · have h2 : within w.T 0 3599 = false := by simpa using h2
    repeat first | refine Split.tt ?_ | refine Split.ff ?_
    refine r1I rfl ?_
    unfold openW; rw [if_neg fun h => by rw [h.2] at h2; cases h2]
  have h2 : within w.T 0 3599 = true := by simpa using h2
  have b1 := within_spec.1 h1
  have b2 := within_spec.1 h2
  repeat first | refine Split.tt ?_ | refine Split.ff ?_
  refine ⟨inI64 (by omega) (by omega), ?_⟩
  refine CallSt.pure (c_turned (w.T - w.F) 1 (by omega) (by omega)) rfl rfl ?_
  refine r1I rfl ?_
  unfold openW; rw [if_pos ⟨h1, h2⟩]; rfl
end Go.Pg
/-
  Contracts: the square around a place, and the vector of a division.
-/
set_option linter.all false
set_option maxRecDepth 100000
namespace Go.Pg
open Go.Proofs Go.RowKit

@[irreducible] def validW (w : Wdg) : Bool := within (openW w) 0 900
theorem c_valid (w : Wdg) : Spec PP 11 [w.v] [B (validW w)] := by
  refine spec_at Try.func11 rfl (by kernel_rfl) rfl ?_
  refine CallSt.pure (c_Opening w) rfl rfl ?_
  refine CallSt.pure (c_within (openW w) 0 900) rfl rfl ?_
  refine r1B rfl ?_
  unfold validW; rfl
theorem c_on (l : List Place) (hn : l.length ≤ 1000000) : Spec PP 13 [slP l] [B (l.all on)] := by
  refine spec_at Try.func13 rfl (by kernel_rfl) rfl ?_
  refine LoopOb.of (σ := Nat) (fun i => ([(5, avOf (slP l)), (6, .d (I l.length)), (7, .d (I i))], [])) (fun i => i ≤ l.length ∧ (l.take i).all on = true) (fun i => l.length - i) 0 ⟨rfl, trivial, avR _ rfl, avR _ rfl, avR _ rfl, trivial⟩ ⟨Nat.zero_le _, rfl⟩ fun i hi => ?_
  obtain ⟨hi, ha⟩ := hi
  refine Split.by (fun h1 => ?_) (fun h1 => ?_)
  · have h1 : i < l.length := by have := dT h1; omega
    have hx : (l.getD i default) ∈ l := gd1 h1 default
    refine ⟨⟨rfl, by omega, by omega⟩, ?_⟩
    refine CallSt.pure (c_within (l.getD i default).X 0 48) rfl rfl ?_
    refine Split.by (fun h2 => ?_) (fun h2 => ?_)
    · have h2 : within (l.getD i default).X 0 48 = false := by simpa using h2
      refine Split.tt ?_
      refine Split.tt ?_
      refine r1B rfl ?_
      have h3 : on (l.getD i default) = false := by unfold on; rw [h2]; rfl
      exact (List.all_eq_false.2 ⟨_, hx, by rw [h3]; decide⟩).symm
    have h2 : within (l.getD i default).X 0 48 = true := by simpa using h2
    refine CallSt.pure (c_within (l.getD i default).Y 0 48) rfl rfl ?_
    refine Split.ff ?_
    refine Split.by (fun h3 => ?_) (fun h3 => ?_)
    · have h3 : within (l.getD i default).Y 0 48 = false := by simpa using h3
      refine r1B rfl ?_
      have h3 : on (l.getD i default) = false := by unfold on; rw [h2, h3]; rfl
      exact (List.all_eq_false.2 ⟨_, hx, by rw [h3]; decide⟩).symm
    have h3 : within (l.getD i default).Y 0 48 = true := by simpa using h3
    have h4 : on (l.getD i default) = true := by unfold on; rw [h2, h3]; rfl
    refine ⟨inI64 (by omega) (by omega), ?_⟩
    refine ⟨i + 1, ⟨rfl, trivial, avR _ rfl, avR _ rfl, avI rfl rfl, trivial⟩, ⟨h1, ?_⟩, (show l.length - (i + 1) < l.length - i by omega)⟩
    rw [take1 h1 default, List.all_append, ha]; simp only [List.all_cons, h4]; rfl
  have h1 : i = l.length := by have := dF h1; omega
  refine r1B rfl ?_
  rw [h1, List.take_length] at ha
  exact ha.symm
/-! ### The sides of the square -/
/-- The variable that all of them have captured. -/
abbrev capR : V1 := .d (.ptr 1 fun _ => I 450)
theorem c_sq1 (d : Int) : Spec PP 49 [N d, capR] [(Place.mk 450 d).v] := by
  refine spec_at Try.func49 rfl (by kernel_rfl) rfl ?_
  exact r1C rfl rfl rfl rfl rfl rfl (eqvs2 rfl rfl)
theorem c_sq2 (d : Int) (hd : 0 ≤ d ∧ d < 3600) : Spec PP 50 [N d, capR] [(Place.mk (900 - d) 450).v] := by
  refine spec_at Try.func50 rfl (by kernel_rfl) rfl ?_
  refine ⟨inI64 (by decide) (by decide), ⟨inI64 (by omega) (by omega), ?_⟩⟩
  exact r1C rfl rfl rfl rfl rfl rfl (eqvs2 rfl rfl)
theorem c_sq3 (d : Int) (hd : 0 ≤ d ∧ d < 3600) : Spec PP 51 [N d, capR] [(Place.mk (-450) (1800 - d)).v] := by
  refine spec_at Try.func51 rfl (by kernel_rfl) rfl ?_
  refine ⟨inI64 (by decide) (by decide), ⟨inI64 (by decide) (by decide), ⟨inI64 (by omega) (by omega), ?_⟩⟩⟩
  exact r1C rfl rfl rfl rfl rfl rfl (eqvs2 rfl rfl)
theorem c_sq4 (d : Int) (hd : 0 ≤ d ∧ d < 3600) : Spec PP 52 [N d, capR] [(Place.mk (d - 2700) (-450)).v] := by
  refine spec_at Try.func52 rfl (by kernel_rfl) rfl ?_
  refine ⟨inI64 (by decide) (by decide), ⟨inI64 (by omega) (by omega), ⟨inI64 (by decide) (by decide), ?_⟩⟩⟩
  exact r1C rfl rfl rfl rfl rfl rfl (eqvs2 rfl rfl)
theorem c_sq5 (d : Int) (hd : 0 ≤ d ∧ d < 3600) : Spec PP 53 [N d, capR] [(Place.mk 450 (d - 3600)).v] := by
  refine spec_at Try.func53 rfl (by kernel_rfl) rfl ?_
  refine ⟨inI64 (by decide) (by decide), ⟨inI64 (by omega) (by omega), ?_⟩⟩
  exact r1C rfl rfl rfl rfl rfl rfl (eqvs2 rfl rfl)
abbrev sqC (f : FuncId) : D := .clo f 1 fun _ => .ptr 1 fun _ => I 450
abbrev sqD : List D := [I 0, sqC 49, I 450, sqC 50, I 1350, sqC 51, I 2250, sqC 52, I 3150, sqC 53]
theorem sqc (f : FuncId) : D.eqv (.clo f [D.ptr 1 fun _ => I 450].length (getD' [D.ptr 1 fun _ => I 450])) (sqC f) := ⟨rfl, rfl, fun j hj => by obtain rfl : j = 0 := Nat.lt_one_iff.1 hj; exact D.eqv_refl _⟩
theorem c_square : Spec PP 32 [] [.agg sqD] := by
  refine specC_at [2] Try.func32 rfl (by kernel_rfl) rfl ?_
  refine CutOb.at [(0, .box 0 0), (1, .roe 1 fun _ => I 450)] [(0, .box [.any, .any, .any, .any, .any, .any, .any, .any, .any, .any])] ?_ ?_
  · exact ⟨rfl, ⟨⟨trivial, trivial, trivial, trivial, trivial, trivial, trivial, trivial, trivial, trivial, trivial⟩, trivial⟩, ⟨rfl, rfl⟩, ⟨rfl, [.d (I 450)], [I 450], rfl, rfl, rfl, fun j hj => by obtain rfl : j = 0 := Nat.lt_one_iff.1 hj; exact ⟨rfl, rfl⟩⟩, trivial⟩
  refine ⟨inI64 (by decide) (by decide), ⟨inI64 (by decide) (by decide), ⟨inI64 (by decide) (by decide), ?_⟩⟩⟩
  exact r1C rfl rfl rfl rfl rfl rfl ⟨⟨rfl, rfl⟩, sqc _, ⟨rfl, rfl⟩, sqc _, ⟨rfl, rfl⟩, sqc _, ⟨rfl, rfl⟩, sqc _, ⟨rfl, rfl⟩, sqc _, trivial⟩
def vecTo (d : Int) (i : Nat) : Place :=
  if 5 ≤ i ∧ 3150 ≤ d then ⟨450, d - 3600⟩ else if 4 ≤ i ∧ 2250 ≤ d then ⟨d - 2700, -450⟩ else if 3 ≤ i ∧ 1350 ≤ d then ⟨-450, 1800 - d⟩ else if 2 ≤ i ∧ 450 ≤ d then ⟨900 - d, 450⟩ else if 1 ≤ i then ⟨450, d⟩ else ⟨0, 0⟩
theorem c_Vector (n : Int) (hn : -1000000 ≤ n ∧ n ≤ 1000000) : Spec PP 14 [N n] [(vecP (n % 3600)).v] := by
  have hd : 0 ≤ n % 3600 ∧ n % 3600 < 3600 := by omega
  refine spec_at Try.func14 rfl (by kernel_rfl) rfl ?_
  refine CallSt.pure (c_turned n 1 (by omega) (by omega)) rfl rfl ?_
  rw [show (3600 : Int) * 1 = 3600 from rfl]
  generalize n % 3600 = d at *
  refine CallSt.ro c_square rfl rfl ?_
  refine LoopOb.of (σ := Nat) (fun i => ([(2, .box 2 0), (3, .d (I d)), (4, .box 4 0), (9, .agg sqD), (10, .d (I i))], [(2, .box [.any, .any]), (4, .box [.d (I (vecTo d i).X), .d (I (vecTo d i).Y)])])) (fun i => i ≤ 5) (fun i => 5 - i) 0
    ⟨rfl, ⟨⟨trivial, trivial, trivial⟩, obD [I 0, I 0] rfl, trivial⟩, ⟨rfl, rfl⟩, avR _ rfl, ⟨rfl, rfl⟩, avA rfl (eqvs_refl _), avR _ rfl, trivial⟩ (Nat.zero_le _) fun i hi => ?_
  match i, hi with
  | 0, _ =>
    refine Split.tt ?_
    refine ⟨⟨by decide, by decide⟩, ?_⟩
    refine Split.by (fun h1 => ?_) (fun h1 => ?_)
    · have h1 : 0 ≤ d := dT h1
      have e : vecTo d 1 = ⟨450, d⟩ := by unfold vecTo; simp [h1]
      refine CallSt.pure (c_sq1 d) rfl rfl ?_
      refine ⟨inI64 (by decide) (by decide), ?_⟩
      refine ⟨1, ⟨rfl, ⟨⟨trivial, trivial, trivial⟩, ?_, trivial⟩, ⟨rfl, rfl⟩, avR _ rfl, ⟨rfl, rfl⟩, avA rfl (eqvs_refl _), avI rfl rfl, trivial⟩, by decide, by decide⟩
      show Oble _ _ _ (.box [.d (I (vecTo d 1).X), .d (I (vecTo d 1).Y)])
      rw [e]; exact obD [I (450), I (d)] rfl
    · have h1 : ¬ 0 ≤ d := dF h1
      have e : vecTo d 1 = vecTo d 0 := absurd hd.1 h1
      refine ⟨inI64 (by decide) (by decide), ?_⟩
      refine ⟨1, ⟨rfl, ⟨⟨trivial, trivial, trivial⟩, ?_, trivial⟩, ⟨rfl, rfl⟩, avR _ rfl, ⟨rfl, rfl⟩, avA rfl (eqvs_refl _), avI rfl rfl, trivial⟩, by decide, by decide⟩
      show Oble _ _ _ (.box [.d (I (vecTo d 1).X), .d (I (vecTo d 1).Y)])
      rw [e]; exact obD [I (vecTo d 0).X, I (vecTo d 0).Y] rfl
  | 1, _ =>
    refine Split.tt ?_
    refine ⟨⟨by decide, by decide⟩, ?_⟩
    refine Split.by (fun h1 => ?_) (fun h1 => ?_)
    · have h1 : 450 ≤ d := dT h1
      have e : vecTo d 2 = ⟨900 - d, 450⟩ := by unfold vecTo; simp [h1]
      refine CallSt.pure (c_sq2 d hd) rfl rfl ?_
      refine ⟨inI64 (by decide) (by decide), ?_⟩
      refine ⟨2, ⟨rfl, ⟨⟨trivial, trivial, trivial⟩, ?_, trivial⟩, ⟨rfl, rfl⟩, avR _ rfl, ⟨rfl, rfl⟩, avA rfl (eqvs_refl _), avI rfl rfl, trivial⟩, by decide, by decide⟩
      show Oble _ _ _ (.box [.d (I (vecTo d 2).X), .d (I (vecTo d 2).Y)])
      rw [e]; exact obD [I (900 - d), I (450)] rfl
    · have h1 : ¬ 450 ≤ d := dF h1
      have e : vecTo d 2 = vecTo d 1 := by unfold vecTo; simp [h1]
      refine ⟨inI64 (by decide) (by decide), ?_⟩
      refine ⟨2, ⟨rfl, ⟨⟨trivial, trivial, trivial⟩, ?_, trivial⟩, ⟨rfl, rfl⟩, avR _ rfl, ⟨rfl, rfl⟩, avA rfl (eqvs_refl _), avI rfl rfl, trivial⟩, by decide, by decide⟩
      show Oble _ _ _ (.box [.d (I (vecTo d 2).X), .d (I (vecTo d 2).Y)])
      rw [e]; exact obD [I (vecTo d 1).X, I (vecTo d 1).Y] rfl
  | 2, _ =>
    refine Split.tt ?_
    refine ⟨⟨by decide, by decide⟩, ?_⟩
    refine Split.by (fun h1 => ?_) (fun h1 => ?_)
    · have h1 : 1350 ≤ d := dT h1
      have e : vecTo d 3 = ⟨-450, 1800 - d⟩ := by unfold vecTo; simp [h1]
      refine CallSt.pure (c_sq3 d hd) rfl rfl ?_
      refine ⟨inI64 (by decide) (by decide), ?_⟩
      refine ⟨3, ⟨rfl, ⟨⟨trivial, trivial, trivial⟩, ?_, trivial⟩, ⟨rfl, rfl⟩, avR _ rfl, ⟨rfl, rfl⟩, avA rfl (eqvs_refl _), avI rfl rfl, trivial⟩, by decide, by decide⟩
      show Oble _ _ _ (.box [.d (I (vecTo d 3).X), .d (I (vecTo d 3).Y)])
      rw [e]; exact obD [I (-450), I (1800 - d)] rfl
    · have h1 : ¬ 1350 ≤ d := dF h1
      have e : vecTo d 3 = vecTo d 2 := by unfold vecTo; simp [h1]
      refine ⟨inI64 (by decide) (by decide), ?_⟩
      refine ⟨3, ⟨rfl, ⟨⟨trivial, trivial, trivial⟩, ?_, trivial⟩, ⟨rfl, rfl⟩, avR _ rfl, ⟨rfl, rfl⟩, avA rfl (eqvs_refl _), avI rfl rfl, trivial⟩, by decide, by decide⟩
      show Oble _ _ _ (.box [.d (I (vecTo d 3).X), .d (I (vecTo d 3).Y)])
      rw [e]; exact obD [I (vecTo d 2).X, I (vecTo d 2).Y] rfl
  | 3, _ =>
    refine Split.tt ?_
    refine ⟨⟨by decide, by decide⟩, ?_⟩
    refine Split.by (fun h1 => ?_) (fun h1 => ?_)
    · have h1 : 2250 ≤ d := dT h1
      have e : vecTo d 4 = ⟨d - 2700, -450⟩ := by unfold vecTo; simp [h1]
      refine CallSt.pure (c_sq4 d hd) rfl rfl ?_
      refine ⟨inI64 (by decide) (by decide), ?_⟩
      refine ⟨4, ⟨rfl, ⟨⟨trivial, trivial, trivial⟩, ?_, trivial⟩, ⟨rfl, rfl⟩, avR _ rfl, ⟨rfl, rfl⟩, avA rfl (eqvs_refl _), avI rfl rfl, trivial⟩, by decide, by decide⟩
      show Oble _ _ _ (.box [.d (I (vecTo d 4).X), .d (I (vecTo d 4).Y)])
      rw [e]; exact obD [I (d - 2700), I (-450)] rfl
    · have h1 : ¬ 2250 ≤ d := dF h1
      have e : vecTo d 4 = vecTo d 3 := by unfold vecTo; simp [h1]
      refine ⟨inI64 (by decide) (by decide), ?_⟩
      refine ⟨4, ⟨rfl, ⟨⟨trivial, trivial, trivial⟩, ?_, trivial⟩, ⟨rfl, rfl⟩, avR _ rfl, ⟨rfl, rfl⟩, avA rfl (eqvs_refl _), avI rfl rfl, trivial⟩, by decide, by decide⟩
      show Oble _ _ _ (.box [.d (I (vecTo d 4).X), .d (I (vecTo d 4).Y)])
      rw [e]; exact obD [I (vecTo d 3).X, I (vecTo d 3).Y] rfl
  | 4, _ =>
    refine Split.tt ?_
    refine ⟨⟨by decide, by decide⟩, ?_⟩
    refine Split.by (fun h1 => ?_) (fun h1 => ?_)
    · have h1 : 3150 ≤ d := dT h1
      have e : vecTo d 5 = ⟨450, d - 3600⟩ := by unfold vecTo; simp [h1]
      refine CallSt.pure (c_sq5 d hd) rfl rfl ?_
      refine ⟨inI64 (by decide) (by decide), ?_⟩
      refine ⟨5, ⟨rfl, ⟨⟨trivial, trivial, trivial⟩, ?_, trivial⟩, ⟨rfl, rfl⟩, avR _ rfl, ⟨rfl, rfl⟩, avA rfl (eqvs_refl _), avI rfl rfl, trivial⟩, by decide, by decide⟩
      show Oble _ _ _ (.box [.d (I (vecTo d 5).X), .d (I (vecTo d 5).Y)])
      rw [e]; exact obD [I (450), I (d - 3600)] rfl
    · have h1 : ¬ 3150 ≤ d := dF h1
      have e : vecTo d 5 = vecTo d 4 := by unfold vecTo; simp [h1]
      refine ⟨inI64 (by decide) (by decide), ?_⟩
      refine ⟨5, ⟨rfl, ⟨⟨trivial, trivial, trivial⟩, ?_, trivial⟩, ⟨rfl, rfl⟩, avR _ rfl, ⟨rfl, rfl⟩, avA rfl (eqvs_refl _), avI rfl rfl, trivial⟩, by decide, by decide⟩
      show Oble _ _ _ (.box [.d (I (vecTo d 5).X), .d (I (vecTo d 5).Y)])
      rw [e]; exact obD [I (vecTo d 4).X, I (vecTo d 4).Y] rfl
  | 5, _ =>
    refine Split.ff ?_
    have e : vecTo d 5 = vecP d := by unfold vecTo vecP; simp
    refine r1C rfl rfl rfl rfl rfl rfl ?_
    show eqvs [I (vecTo d 5).X, I (vecTo d 5).Y] _
    rw [e]; exact eqvs_refl _
  | n + 6, h => exact absurd h (by omega)
end Go.Pg
/-
  Contracts: bearings; what lies in a wedge; the half-planes of a wedge.
-/
set_option linter.all false
set_option maxRecDepth 100000
namespace Go.Pg
open Go.Proofs Go.RowKit

/-- The bearing of a direction, not yet turned. -/
def bearP (x y : Int) : Int × Int :=
  if 0 < x ∧ max y (-y) ≤ x then (450 * y, x) else if 0 < y ∧ max x (-x) ≤ y then (900 * y - 450 * x, y) else if x < 0 ∧ max y (-y) ≤ -x then (1800 * -x - 450 * y, -x) else (2700 * -y + 450 * x, -y)
theorem bear_side {x y : Int} (h : x ≠ 0 ∨ y ≠ 0) : Side x y (bearP x y).1 (bearP x y).2 ∧ 0 < (bearP x y).2 := by
  unfold bearP
  by_cases h1 : 0 < x ∧ max y (-y) ≤ x
  · rw [if_pos h1]; exact ⟨side_east h1.1 (by omega), h1.1⟩
  rw [if_neg h1]
  by_cases h2 : 0 < y ∧ max x (-x) ≤ y
  · rw [if_pos h2]; exact ⟨side_north h2.1 (by omega), h2.1⟩
  rw [if_neg h2]
  by_cases h3 : x < 0 ∧ max y (-y) ≤ -x
  · rw [if_pos h3]; exact ⟨side_west h3.1 (by omega), (show 0 < -x by omega)⟩
  rw [if_neg h3]
  have hy : y < 0 := by omega
  exact ⟨side_south hy (by omega), (show 0 < -y by omega)⟩
theorem bear_bd {x y : Int} (hx : -48 ≤ x ∧ x ≤ 48) (hy : -48 ≤ y ∧ y ≤ 48) : (-1000000 ≤ (bearP x y).1 ∧ (bearP x y).1 ≤ 1000000) ∧ (bearP x y).2 ≤ 48 := by
  unfold bearP
  repeat' split
  all_goals (dsimp only; omega)
def bear (a b : Place) : Int × Int := ((bearP (b.X - a.X) (b.Y - a.Y)).1 % (3600 * (bearP (b.X - a.X) (b.Y - a.Y)).2), (bearP (b.X - a.X) (b.Y - a.Y)).2)
theorem on_spec {p : Place} : on p = true ↔ (0 ≤ p.X ∧ p.X ≤ 48) ∧ (0 ≤ p.Y ∧ p.Y ≤ 48) := by
  unfold on; rw [Bool.and_eq_true, within_spec, within_spec]
theorem place_ne {a b : Place} (h : a ≠ b) : b.X - a.X ≠ 0 ∨ b.Y - a.Y ≠ 0 := by
  rcases a with ⟨ax, ay⟩; rcases b with ⟨bx, by'⟩
  by_cases h1 : bx - ax = 0
  · refine .inr fun h2 => h ?_
    dsimp only at h1 h2
    rw [Place.mk.injEq]; omega
  · exact .inl h1
theorem c_bearing (a b : Place) (ha : on a = true) (hb : on b = true) (hne : a ≠ b) : Spec PP 28 [a.v, b.v] [N (bear a b).1, N (bear a b).2] := by
  obtain ⟨a1, a2⟩ := on_spec.1 ha
  obtain ⟨b1, b2⟩ := on_spec.1 hb
  have hs := bear_side (place_ne hne)
  have hbd := bear_bd (x := b.X - a.X) (y := b.Y - a.Y) (by omega) (by omega)
  refine spec_at Try.func28 rfl (by kernel_rfl) rfl ?_
  refine Exists.intro (List.range 12) (And.intro (by kernel_rfl) (FzOb.no ?_))
  refine ⟨inI64 (by omega) (by omega), ⟨inI64 (by omega) (by omega), ?_⟩⟩
  unfold bear
  have hx : -48 ≤ b.X - a.X ∧ b.X - a.X ≤ 48 := by omega
  have hy : -48 ≤ b.Y - a.Y ∧ b.Y - a.Y ≤ 48 := by omega
  generalize b.X - a.X = x at *
  generalize b.Y - a.Y = y at *
  have fin : ∀ {n d : Int}, bearP x y = (n, d) → Spec PP 29 [N n, N d] [N ((bearP x y).1 % (3600 * (bearP x y).2))] := fun e => by
    rw [e] at hs hbd ⊢
    exact c_turned _ _ (by have := hs.2; have := hbd.2; dsimp only at *; omega) (by have := hbd.1; dsimp only at *; omega)
  refine Split.by (fun h1 => ?_) (fun h1 => ?_)
  · have h1 : 0 < x := dT h1
    refine ⟨inI64 (by omega) (by omega), ?_⟩
    refine Split.tt ?_
    refine Split.by (fun h2 => ?_) (fun h2 => ?_)
    · have h2 : max y (-y) ≤ x := dT h2
      have e : bearP x y = (450 * y, x) := by unfold bearP; rw [if_pos ⟨h1, h2⟩]
      refine ⟨inI64 (by omega) (by omega), ?_⟩
      refine CallSt.pure (fin e) rfl rfl ?_
      exact r2II rfl rfl rfl (by rw [e])
    have h2 : ¬ max y (-y) ≤ x := dF h2
    refine Split.by (fun h3 => ?_) (fun h3 => ?_)
    · have h3 : 0 < y := dT h3
      refine ⟨inI64 (by omega) (by omega), ?_⟩
      refine Split.tt ?_
      refine Split.by (fun h4 => ?_) (fun h4 => ?_)
      · have h4 : max x (-x) ≤ y := dT h4
        have e : bearP x y = (900 * y - 450 * x, y) := by unfold bearP; rw [if_neg (fun h => h2 h.2), if_pos ⟨h3, h4⟩]
        refine ⟨inI64 (by decide) (by decide), ⟨inI64 (by omega) (by omega), ⟨inI64 (by omega) (by omega), ⟨inI64 (by omega) (by omega), ?_⟩⟩⟩⟩
        refine CallSt.pure (fin e) rfl rfl ?_
        exact r2II rfl rfl rfl (by rw [e])
      have h4 : ¬ max x (-x) ≤ y := dF h4
      omega
    have h3 : ¬ 0 < y := dF h3
    refine Split.ff ?_
    refine Split.ff ?_
    refine Split.no (decide_eq_false (by omega)) ?_
    refine Split.ff ?_
    refine Split.ff ?_
    have e : bearP x y = (2700 * -y + 450 * x, -y) := by unfold bearP; rw [if_neg (fun h => h2 h.2), if_neg (fun h => h3 h.1), if_neg (by omega)]
    refine ⟨inI64 (by decide) (by decide), ⟨inI64 (by omega) (by omega), ⟨inI64 (by omega) (by omega), ⟨inI64 (by omega) (by omega), ⟨inI64 (by omega) (by omega), ⟨inI64 (by omega) (by omega), ?_⟩⟩⟩⟩⟩⟩
    refine CallSt.pure (fin e) rfl rfl ?_
    exact r2II rfl rfl rfl (by rw [e])
  have h1 : ¬ 0 < x := dF h1
  refine Split.ff ?_
  refine Split.ff ?_
  refine Split.by (fun h3 => ?_) (fun h3 => ?_)
  · have h3 : 0 < y := dT h3
    refine ⟨inI64 (by omega) (by omega), ?_⟩
    refine Split.tt ?_
    refine Split.by (fun h4 => ?_) (fun h4 => ?_)
    · have h4 : max x (-x) ≤ y := dT h4
      have e : bearP x y = (900 * y - 450 * x, y) := by unfold bearP; rw [if_neg (fun h => h1 h.1), if_pos ⟨h3, h4⟩]
      refine ⟨inI64 (by decide) (by decide), ⟨inI64 (by omega) (by omega), ⟨inI64 (by omega) (by omega), ⟨inI64 (by omega) (by omega), ?_⟩⟩⟩⟩
      refine CallSt.pure (fin e) rfl rfl ?_
      exact r2II rfl rfl rfl (by rw [e])
    have h4 : ¬ max x (-x) ≤ y := dF h4
    refine Split.by (fun h5 => ?_) (fun h5 => ?_)
    · have h5 : x < 0 := dT h5
      refine ⟨inI64 (by omega) (by omega), ⟨inI64 (by omega) (by omega), ?_⟩⟩
      refine Split.tt ?_
      refine Split.by (fun h6 => ?_) (fun h6 => ?_)
      · have h6 : max y (-y) ≤ -x := dT h6
        have e : bearP x y = (1800 * -x - 450 * y, -x) := by unfold bearP; rw [if_neg (fun h => h1 h.1), if_neg (fun h => h4 h.2), if_pos ⟨h5, h6⟩]
        refine ⟨inI64 (by decide) (by decide), ⟨inI64 (by omega) (by omega), ⟨inI64 (by omega) (by omega), ⟨inI64 (by omega) (by omega), ⟨inI64 (by omega) (by omega), ⟨inI64 (by omega) (by omega), ?_⟩⟩⟩⟩⟩⟩
        refine CallSt.pure (fin e) rfl rfl ?_
        exact r2II rfl rfl rfl (by rw [e])
      have h6 : ¬ max y (-y) ≤ -x := dF h6
      omega
    have h5 : ¬ x < 0 := dF h5
    omega
  have h3 : ¬ 0 < y := dF h3
  refine Split.ff ?_
  refine Split.ff ?_
  refine Split.by (fun h5 => ?_) (fun h5 => ?_)
  · have h5 : x < 0 := dT h5
    refine ⟨inI64 (by omega) (by omega), ⟨inI64 (by omega) (by omega), ?_⟩⟩
    refine Split.tt ?_
    refine Split.by (fun h6 => ?_) (fun h6 => ?_)
    · have h6 : max y (-y) ≤ -x := dT h6
      have e : bearP x y = (1800 * -x - 450 * y, -x) := by unfold bearP; rw [if_neg (fun h => h1 h.1), if_neg (fun h => h3 h.1), if_pos ⟨h5, h6⟩]
      refine ⟨inI64 (by decide) (by decide), ⟨inI64 (by omega) (by omega), ⟨inI64 (by omega) (by omega), ⟨inI64 (by omega) (by omega), ⟨inI64 (by omega) (by omega), ⟨inI64 (by omega) (by omega), ?_⟩⟩⟩⟩⟩⟩
      refine CallSt.pure (fin e) rfl rfl ?_
      exact r2II rfl rfl rfl (by rw [e])
    have h6 : ¬ max y (-y) ≤ -x := dF h6
    have e : bearP x y = (2700 * -y + 450 * x, -y) := by unfold bearP; rw [if_neg (fun h => h1 h.1), if_neg (fun h => h3 h.1), if_neg (fun h => h6 h.2)]
    refine ⟨inI64 (by decide) (by decide), ⟨inI64 (by omega) (by omega), ⟨inI64 (by omega) (by omega), ⟨inI64 (by omega) (by omega), ⟨inI64 (by omega) (by omega), ⟨inI64 (by omega) (by omega), ?_⟩⟩⟩⟩⟩⟩
    refine CallSt.pure (fin e) rfl rfl ?_
    exact r2II rfl rfl rfl (by rw [e])
  have h5 : ¬ x < 0 := dF h5
  refine Split.ff ?_
  refine Split.ff ?_
  have e : bearP x y = (2700 * -y + 450 * x, -y) := by unfold bearP; rw [if_neg (fun h => h1 h.1), if_neg (fun h => h3 h.1), if_neg (fun h => h5 h.1)]
  refine ⟨inI64 (by decide) (by decide), ⟨inI64 (by omega) (by omega), ⟨inI64 (by omega) (by omega), ⟨inI64 (by omega) (by omega), ⟨inI64 (by omega) (by omega), ⟨inI64 (by omega) (by omega), ?_⟩⟩⟩⟩⟩⟩
  refine CallSt.pure (fin e) rfl rfl ?_
  exact r2II rfl rfl rfl (by rw [e])
/-! ### In a wedge -/
@[irreducible] def liesW (w : Wdg) (a p : Place) : Bool := validW w && (on a && on p) && !decide (a = p) && decide (((bear a p).1 - w.F * (bear a p).2) % (3600 * (bear a p).2) ≤ openW w * (bear a p).2)
theorem eqv_slP2 {f : Nat → Nat → D} {a b : Place} (h0 : ∀ j, j < 2 → D.eqv (f 0 j) (a.at j)) (h1 : ∀ j, j < 2 → D.eqv (f 1 j) (b.at j)) : eqV1s [.d (.slc 2 2 f)] [slP [a, b]] := by
  refine ⟨⟨rfl, .inr ⟨rfl, fun i hi j hj => ?_⟩⟩, trivial⟩
  match i, hi with
  | 0, _ => exact h0 j hj
  | 1, _ => exact h1 j hj
theorem eqv_slP1 {f : Nat → Nat → D} {a : Place} (h0 : ∀ j, j < 2 → D.eqv (f 0 j) (a.at j)) : eqV1s [.d (.slc 2 1 f)] [slP [a]] := by
  refine ⟨⟨rfl, .inr ⟨rfl, fun i hi j hj => ?_⟩⟩, trivial⟩
  match i, hi with
  | 0, _ => exact h0 j hj
theorem at2 {f : Nat → D} {p : Place} (h0 : f 0 = I p.X) (h1 : f 1 = I p.Y) : ∀ j, j < 2 → D.eqv (f j) (p.at j)
  | 0, _ => by rw [h0]; exact ⟨rfl, rfl⟩
  | 1, _ => by rw [h1]; exact ⟨rfl, rfl⟩
theorem eqPW (p q : Place) : (p.X == q.X && (p.Y == q.Y && true)) = decide (p = q) := by
  rw [Bool.eq_iff_iff]
  simp only [Bool.and_eq_true, beq_iff_eq, and_true, decide_eq_true_iff]
  cases p; cases q; simp
theorem valid_spec {w : Wdg} (h : validW w = true) : (0 ≤ w.F ∧ w.F < 3600) ∧ (0 ≤ w.T ∧ w.T < 3600) ∧ openW w = (w.T - w.F) % 3600 ∧ openW w ≤ 900 := by
  unfold validW at h
  have h1 := within_spec.1 h
  unfold openW at h1 ⊢
  split at h1
  · rename_i h2
    have h3 := within_spec.1 h2.1
    have h4 := within_spec.1 h2.2
    rw [if_pos h2]; omega
  · omega
theorem bear_ok {a p : Place} (ha : on a = true) (hp : on p = true) (hne : a ≠ p) : (0 < (bear a p).2 ∧ (bear a p).2 ≤ 48) ∧ 0 ≤ (bear a p).1 ∧ (bear a p).1 < 3600 * (bear a p).2 := by
  obtain ⟨a1, a2⟩ := on_spec.1 ha
  obtain ⟨b1, b2⟩ := on_spec.1 hp
  have hs := bear_side (place_ne hne)
  have hbd := bear_bd (x := p.X - a.X) (y := p.Y - a.Y) (by omega) (by omega)
  unfold bear
  have := Int.emod_nonneg (bearP (p.X - a.X) (p.Y - a.Y)).1 (show 3600 * (bearP (p.X - a.X) (p.Y - a.Y)).2 ≠ 0 by omega)
  have := Int.emod_lt_of_pos (bearP (p.X - a.X) (p.Y - a.Y)).1 (show 0 < 3600 * (bearP (p.X - a.X) (p.Y - a.Y)).2 by omega)
  dsimp only
  omega
theorem c_Lies (w : Wdg) (a p : Place) : Spec PP 10 [w.v, a.v, p.v] [B (liesW w a p)] := by
  refine spec_at Try.func10 rfl (by kernel_rfl) rfl ?_
  have e : liesW w a p = (validW w && (on a && on p) && !decide (a = p) && decide (((bear a p).1 - w.F * (bear a p).2) % (3600 * (bear a p).2) ≤ openW w * (bear a p).2)) := by unfold liesW; rfl
  refine CallSt.pure (c_valid w) rfl rfl ?_
  refine Split.by (fun h1 => ?_) (fun h1 => ?_)
  · have h1 : validW w = false := by simpa using h1
    refine Split.tt ?_
    refine Split.tt ?_
    refine Split.tt ?_
    refine Split.tt ?_
    refine r1B rfl ?_
    rw [e, h1]; rfl
  have h1 : validW w = true := by simpa using h1
  refine CallSt.pureE (c_on [a, p] (Nat.le_of_ble_eq_true rfl)) rfl (eqv_slP2 (at2 rfl rfl) (at2 rfl rfl)) rfl ?_
  refine Split.ff ?_
  refine Split.by (fun h2 => ?_) (fun h2 => ?_)
  · have h2 : (on a && on p) = false := by simp only [List.all_cons, List.all_nil, Bool.and_true, Bool.not_eq_true'] at h2; exact h2
    refine Split.tt ?_
    refine Split.tt ?_
    refine r1B rfl ?_
    rw [e, h2, h1]; rfl
  have h2 : on a = true ∧ on p = true := by simpa using h2
  refine Split.ff ?_
  refine Split.by (fun h3 => ?_) (fun h3 => ?_)
  · have h3 : a = p := of_decide_eq_true ((eqPW a p).symm.trans h3)
    refine r1B rfl ?_
    rw [e, decide_eq_true h3]; simp
  have h3 : a ≠ p := of_decide_eq_false ((eqPW a p).symm.trans h3)
  have hb := bear_ok h2.1 h2.2 h3
  obtain ⟨v1, v2, v3, v4⟩ := valid_spec h1
  have g1 := mulB (a := w.F) (b := (bear a p).2) (x := 3600) (y := 48) (by omega) (by omega)
  have g2 := mulB (a := openW w) (b := (bear a p).2) (x := 3600) (y := 48) (by omega) (by omega)
  refine CallSt.pure (c_bearing a p h2.1 h2.2 h3) rfl rfl ?_
  refine Exists.intro (List.range 14) (And.intro (by kernel_rfl) (FzOb.no ?_))
  refine ⟨inI64 (by omega) (by omega), ⟨inI64 (by omega) (by omega), ?_⟩⟩
  refine CallOb.pure (c_turned ((bear a p).1 - w.F * (bear a p).2) (bear a p).2 (by omega) (by omega)) rfl rfl ?_
  refine CallOb.pure (c_Opening w) rfl rfl ?_
  refine ⟨inI64 (by omega) (by omega), ?_⟩
  refine r1B rfl ?_
  rw [e, h1, h2.1, h2.2, decide_eq_false h3]; rfl
/-! ### The half-planes of a wedge -/
def hvA (w : Wdg) (a : Place) : Half := ⟨(vecP w.F).Y, -(vecP w.F).X, (vecP w.F).Y * a.X - (vecP w.F).X * a.Y⟩
def hvB (w : Wdg) (a : Place) : Half := ⟨-(vecP w.T).Y, (vecP w.T).X, (vecP w.T).X * a.Y - (vecP w.T).Y * a.X⟩
@[irreducible] def halvesB (w : Wdg) (a : Place) : Bool := validW w && decide (1 ≤ openW w) && on a
@[irreducible] def halvesW (w : Wdg) (a : Place) : Half × Half := if halvesB w a = true then (hvA w a, hvB w a) else (⟨0, 0, 0⟩, ⟨0, 0, 0⟩)
abbrev vHv (x : Half × Half) : V1 := .agg [I x.1.A, I x.1.B, I x.1.C, I x.2.A, I x.2.B, I x.2.C]
theorem vec_bd {d : Int} (h : 0 ≤ d ∧ d < 3600) : (-450 ≤ (vecP d).X ∧ (vecP d).X ≤ 450) ∧ (-450 ≤ (vecP d).Y ∧ (vecP d).Y ≤ 450) ∧ ((vecP d).X ≠ 0 ∨ (vecP d).Y ≠ 0) := by
  unfold vecP
  repeat' split
  all_goals (dsimp only; omega)
theorem eqvs6 {a b c d e f a' b' c' d' e' f' : Int} (h1 : a = a') (h2 : b = b') (h3 : c = c') (h4 : d = d') (h5 : e = e') (h6 : f = f') : eqvs [I a, I b, I c, I d, I e, I f] [I a', I b', I c', I d', I e', I f'] := ⟨⟨rfl, h1⟩, ⟨rfl, h2⟩, ⟨rfl, h3⟩, ⟨rfl, h4⟩, ⟨rfl, h5⟩, ⟨rfl, h6⟩, trivial⟩
theorem c_Halves (w : Wdg) (a : Place) : Spec PP 5 [w.v, a.v] [vHv (halvesW w a), B (halvesB w a)] := by
  refine spec_at Try.func5 rfl (by kernel_rfl) rfl ?_
  have e : halvesB w a = (validW w && decide (1 ≤ openW w) && on a) := by unfold halvesB; rfl
  have no : halvesB w a = false → halvesW w a = (⟨0, 0, 0⟩, ⟨0, 0, 0⟩) := fun h => by unfold halvesW; rw [h]; rfl
  refine CallSt.pure (c_valid w) rfl rfl ?_
  refine Split.by (fun h1 => ?_) (fun h1 => ?_)
  · have h1 : validW w = false := by simpa using h1
    rw [h1] at e
    rw [no e, e]
    refine Split.tt ?_
    refine Split.tt ?_
    refine Split.tt ?_
    refine Split.tt ?_
    exact ⟨rtC (a := 4) rfl rfl rfl rfl rfl rfl (eqvs_refl _), rtB rfl rfl, trivial⟩
  have h1 : validW w = true := by simpa using h1
  refine CallSt.pure (c_Opening w) rfl rfl ?_
  refine Split.ff ?_
  refine Split.by (fun h2 => ?_) (fun h2 => ?_)
  · have h2 : ¬ 1 ≤ openW w := by have := dT h2; omega
    rw [h1, decide_eq_false h2] at e
    rw [no e, e]
    refine Split.tt ?_
    refine Split.tt ?_
    exact ⟨rtC (a := 4) rfl rfl rfl rfl rfl rfl (eqvs_refl _), rtB rfl rfl, trivial⟩
  have h2 : 1 ≤ openW w := by have := dF h2; omega
  refine CallSt.pureE (c_on [a] (Nat.le_of_ble_eq_true rfl)) rfl (eqv_slP1 (at2 rfl rfl)) rfl ?_
  refine Split.ff ?_
  refine Split.by (fun h3 => ?_) (fun h3 => ?_)
  · have h3 : on a = false := by simpa using h3
    rw [h1, h3, decide_eq_true h2] at e
    rw [no e, e]
    exact ⟨rtC (a := 4) rfl rfl rfl rfl rfl rfl (eqvs_refl _), rtB rfl rfl, trivial⟩
  have h3 : on a = true := by simpa using h3
  rw [h1, h3, decide_eq_true h2] at e
  have yes : halvesW w a = (hvA w a, hvB w a) := by unfold halvesW; rw [e]; rfl
  rw [yes, e]
  obtain ⟨v1, v2, v3, v4⟩ := valid_spec h1
  obtain ⟨a1, a2⟩ := on_spec.1 h3
  have c1 := c_Vector w.F (by omega)
  have c2 := c_Vector w.T (by omega)
  rw [Int.emod_eq_of_lt v1.1 v1.2] at c1
  rw [Int.emod_eq_of_lt v2.1 v2.2] at c2
  obtain ⟨u1, u2, -⟩ := vec_bd v1
  obtain ⟨w1, w2, -⟩ := vec_bd v2
  unfold hvA hvB
  generalize vecP w.F = u at *
  generalize vecP w.T = z at *
  have m1 := mulB (b := a.X) (y := 48) u2 (by omega)
  have m2 := mulB (b := a.Y) (y := 48) u1 (by omega)
  have m3 := mulB (b := a.Y) (y := 48) w1 (by omega)
  have m4 := mulB (b := a.X) (y := 48) w2 (by omega)
  refine Exists.intro [0, 1, 2, 3, 4, 5, 2006, 2007, 8, 9] (And.intro (by kernel_rfl) (FzOb.no ?_))
  refine CallOb.pure c1 rfl rfl ?_
  refine CallOb.pure c2 rfl rfl ?_
  refine ⟨rfl, ⟨rfl, ?_⟩⟩
  refine ⟨inI64 (by omega) (by omega), ⟨inI64 (by omega) (by omega), ⟨inI64 (by omega) (by omega), ⟨inI64 (by omega) (by omega), ⟨inI64 (by omega) (by omega), ⟨inI64 (by omega) (by omega), ⟨inI64 (by omega) (by omega), ⟨inI64 (by omega) (by omega), ?_⟩⟩⟩⟩⟩⟩⟩⟩
  exact ⟨rtC (a := 4) rfl rfl rfl rfl rfl rfl (eqvs_refl _), rtB rfl rfl, trivial⟩
end Go.Pg
/-
  The law of wedges: in all of its half-planes exactly if in the wedge, or where it is seen from. Plain.
-/
set_option linter.all false
set_option maxRecDepth 100000
namespace Go.Pg
open Go.Proofs Go.RowKit

/-- A wedge, and the place from which it is seen. -/
structure Sn where
  w : Wdg
  a : Place
  deriving DecidableEq, Inhabited
def Sn.at (x : Sn) : Nat → D
  | 0 => I x.w.F
  | 1 => I x.w.T
  | 2 => I x.a.X
  | _ => I x.a.Y
abbrev slSn (l : List Sn) : V1 := .d (.slc 4 l.length fun i => (l.getD i default).at)
def sysL (l : List Sn) : List Half := l.flatMap fun x => [hvA x.w x.a, hvB x.w x.a]
def inW (l : List Sn) (p : Place) : Bool := l.all fun x => decide (p = x.a) || liesW x.w x.a p
theorem sysL_len (l : List Sn) : (sysL l).length = 2 * l.length := by
  unfold sysL
  rw [List.length_flatMap]
  induction l with
  | nil => rfl
  | cons x r ih => simp only [List.map_cons, List.sum_cons, List.length_cons, List.length_nil] at ih ⊢; omega
theorem sysL_mem {l : List Sn} {h : Half} : h ∈ sysL l ↔ ∃ x ∈ l, h = hvA x.w x.a ∨ h = hvB x.w x.a := by
  unfold sysL; simp [List.mem_flatMap]
theorem sysL_snoc (l : List Sn) (x : Sn) : sysL (l ++ [x]) = sysL l ++ [hvA x.w x.a, hvB x.w x.a] := by unfold sysL; simp
theorem halvesB_spec {w : Wdg} {a : Place} (h : halvesB w a = true) : validW w = true ∧ 1 ≤ openW w ∧ on a = true := by
  unfold halvesB at h
  simp only [Bool.and_eq_true, decide_eq_true_iff] at h
  exact ⟨h.1.1, h.1.2, h.2⟩
theorem fit_hv {w : Wdg} {a : Place} (h : halvesB w a = true) : fit (hvA w a) = true ∧ fit (hvB w a) = true := by
  obtain ⟨h1, h2, h3⟩ := halvesB_spec h
  obtain ⟨v1, v2, -, -⟩ := valid_spec h1
  obtain ⟨a1, a2⟩ := on_spec.1 h3
  obtain ⟨u1, u2, u3⟩ := vec_bd v1
  obtain ⟨z1, z2, z3⟩ := vec_bd v2
  unfold hvA hvB fit slope
  generalize vecP w.F = u at *
  generalize vecP w.T = z at *
  have m1 := mulB (b := a.X) (y := 48) u2 (by omega)
  have m2 := mulB (b := a.Y) (y := 48) u1 (by omega)
  have m3 := mulB (b := a.Y) (y := 48) z1 (by omega)
  have m4 := mulB (b := a.X) (y := 48) z2 (by omega)
  simp only [Bool.and_eq_true, Bool.or_eq_true, within_spec, bne_iff_ne, ne_eq]
  omega
theorem sys_ck {l : List Sn} (hl : ∀ x ∈ l, halvesB x.w x.a = true) (hn : l.length ≤ 6) : checkL (sysL l) = 0 := by
  unfold checkL
  rw [if_neg (by rw [sysL_len]; omega), if_pos]
  rw [List.all_eq_true]
  intro h hh
  obtain ⟨x, hx, rfl | rfl⟩ := sysL_mem.1 hh
  · exact (fit_hv (hl x hx)).1
  · exact (fit_hv (hl x hx)).2
theorem in_iff {w : Wdg} {a p : Place} (hh : halvesB w a = true) (hp : on p = true) : (ef (hvA w a) ⟨p.X, p.Y, 1⟩ ≤ 0 ∧ ef (hvB w a) ⟨p.X, p.Y, 1⟩ ≤ 0) ↔ (decide (p = a) || liesW w a p) = true := by
  obtain ⟨h1, h2, h3⟩ := halvesB_spec hh
  obtain ⟨v1, v2, v3, v4⟩ := valid_spec h1
  have e1 : ef (hvA w a) ⟨p.X, p.Y, 1⟩ = -((vecP w.F).X * (p.Y - a.Y) - (vecP w.F).Y * (p.X - a.X)) := by unfold ef hvA; grind
  have e2 : ef (hvB w a) ⟨p.X, p.Y, 1⟩ = (vecP w.T).X * (p.Y - a.Y) - (vecP w.T).Y * (p.X - a.X) := by unfold ef hvB; grind
  rw [e1, e2, Bool.or_eq_true, decide_eq_true_iff]
  by_cases e : p = a
  · subst e
    simp
  have ne : a ≠ p := fun h => e h.symm
  obtain ⟨hs, hd⟩ := bear_side (place_ne ne)
  have hb := bear_ok h3 hp ne
  rw [v3] at h2 v4
  have w1 := wedge_iff hs hd v1 v2 v4 h2
  have el : liesW w a p = true ↔ ((bearP (p.X - a.X) (p.Y - a.Y)).1 - w.F * (bearP (p.X - a.X) (p.Y - a.Y)).2) % (3600 * (bearP (p.X - a.X) (p.Y - a.Y)).2) ≤ (w.T - w.F) % 3600 * (bearP (p.X - a.X) (p.Y - a.Y)).2 := by
    unfold liesW
    rw [h1, h3, hp, decide_eq_false ne, v3]
    unfold bear
    dsimp only
    simp only [Bool.and_self, Bool.not_false, Bool.true_and, decide_eq_true_iff]
    rw [Int.sub_emod, Int.emod_emod, ← Int.sub_emod]
  rw [el, ← w1]
  constructor
  · intro h; exact .inr (by omega)
  · rintro (h | h)
    · exact absurd h e
    · omega
/-- Places of the map lie in the polygon exactly if they lie in all wedges. -/
theorem inP_iff {l : List Sn} (hl : ∀ x ∈ l, halvesB x.w x.a = true) {x y : Nat} (hx : x ≤ 48) (hy : y ≤ 48) : inP (allL (sysL l)) x y = inW l ⟨x, y⟩ := by
  have hp : on ⟨x, y⟩ = true := on_spec.2 (by dsimp only; omega)
  unfold inP inW
  rw [Bool.eq_iff_iff, beq_iff_eq, outside_fe, List.all_eq_true]
  constructor
  · intro h s hs
    exact (in_iff (hl s hs) hp).1 ⟨h _ (List.mem_append_left _ (sysL_mem.2 ⟨s, hs, .inl rfl⟩)), h _ (List.mem_append_left _ (sysL_mem.2 ⟨s, hs, .inr rfl⟩))⟩
  · intro h g hg
    rcases List.mem_append.1 hg with hg | hg
    · obtain ⟨s, hs, rfl | rfl⟩ := sysL_mem.1 hg
      · exact ((in_iff (hl s hs) hp).2 (h s hs)).1
      · exact ((in_iff (hl s hs) hp).2 (h s hs)).2
    · simp only [sidesL, List.mem_cons, List.not_mem_nil, or_false] at hg
      rcases hg with rfl | rfl | rfl | rfl <;> (unfold ef; dsimp only; omega)
/-! ### The places, one by one -/
theorem to_pre (L : List Num) {m n : Nat} (h : m ≤ n) : ∃ r, placesTo L n = placesTo L m ++ r := by
  induction n with
  | zero => obtain rfl : m = 0 := by omega
            exact ⟨[], by simp⟩
  | succ n ih =>
    by_cases e : m = n + 1
    · subst e; exact ⟨[], by simp⟩
    · obtain ⟨r, hr⟩ := ih (by omega)
      exact ⟨r ++ placesRow L n 49, by rw [placesTo_succ, hr, List.append_assoc]⟩
theorem row_pre (L : List Num) (y : Nat) {m n : Nat} (h : m ≤ n) : ∃ r, placesRow L y n = placesRow L y m ++ r := by
  induction n with
  | zero => obtain rfl : m = 0 := by omega
            exact ⟨[], by simp⟩
  | succ n ih =>
    by_cases e : m = n + 1
    · subst e; exact ⟨[], by simp⟩
    · obtain ⟨r, hr⟩ := ih (by omega)
      exact ⟨r ++ (if inP L n y = true then [⟨n, y⟩] else []), by rw [placesRow_succ, hr, List.append_assoc]⟩
theorem pl_get {L : List Num} {x y : Nat} (hx : x < 49) (hy : y < 49) (h : inP L x y = true) : (placesTo L y ++ placesRow L y x).length < (placesTo L 49).length ∧ (placesTo L 49).getD (placesTo L y ++ placesRow L y x).length default = ⟨x, y⟩ := by
  obtain ⟨r, hr⟩ := to_pre L (show y + 1 ≤ 49 by omega)
  obtain ⟨q, hq⟩ := row_pre L y (show x + 1 ≤ 49 by omega)
  have e : placesTo L 49 = (placesTo L y ++ placesRow L y x) ++ (⟨x, y⟩ :: (q ++ r)) := by
    rw [hr, placesTo_succ, hq, placesRow_succ, if_pos h]; simp
  rw [e]
  constructor
  · simp
  · rw [List.getD_eq_getElem?_getD, List.getElem?_append_right (Nat.le_refl _), Nat.sub_self]; rfl
theorem pl_none {S : List Half} (h1 : checkL S = 0) (h0 : cornersL S = []) {x y : Nat} : inP (allL S) x y = false := by
  rw [Bool.eq_false_iff]
  intro h
  unfold inP at h
  rw [beq_iff_eq, outside_fe] at h
  exact (nil_pt h1).1 h0 _ ⟨by show (0 : Int) < 1; decide, h⟩
theorem row_nil {L : List Num} (h : ∀ x y, inP L x y = false) (y : Nat) : ∀ x, placesRow L y x = []
  | 0 => placesRow_zero L y
  | x + 1 => by rw [placesRow_succ, row_nil h y x, if_neg (by rw [h]; decide)]; rfl
theorem to_nil {L : List Num} (h : ∀ x y, inP L x y = false) : ∀ y, placesTo L y = []
  | 0 => placesTo_zero L
  | y + 1 => by rw [placesTo_succ, to_nil h y, row_nil h]; rfl
theorem places_all {S : List Half} (h1 : checkL S = 0) : placesE S = (placesTo (allL S) 49, if cornersL S = [] then 9 else 0) := by
  unfold placesE
  rw [if_pos h1]
  by_cases h0 : cornersL S = []
  · rw [if_pos h0, if_pos h0, to_nil (fun x y => pl_none h1 h0)]
  · rw [if_neg h0, if_neg h0]
/-- The greatest value of a form is at least that of each place. -/
theorem best_place {S : List Half} {f : Form} (h1 : checkL S = 0) (hb : (bestE S f).2 = 0) {x y : Nat} (h : inP (allL S) x y = true) : slope f.X f.Y = true ∧ ((1 ≤ (bestE S f).1.V.Den ∧ (bestE S f).1.V.Den ≤ 2097152)) ∧ ¬ (bestE S f).1.V.Num < (f.X * x + f.Y * y) * (bestE S f).1.V.Den := by
  have hf : slope f.X f.Y = true := by
    by_cases hf : slope f.X f.Y = true
    · exact hf
    · rw [best_none h1 (by simpa using hf)] at hb; cases hb
  have h0 : cornersL S ≠ [] := fun h0 => by rw [pl_none h1 h0] at h; cases h
  obtain ⟨b, eb, ev⟩ := best_val h1 h0 hf
  obtain ⟨_, _, n3⟩ := checkL_ok h1
  unfold inP at h
  rw [beq_iff_eq, outside_fe] at h
  have hv := best_all h1 hf (q := ⟨x, y, 1⟩) ⟨by show (0 : Int) < 1; decide, h⟩
  have hq := ((cor_mem n3 _).1 (bestAt_mem f h0)).va
  obtain ⟨fr, g, hg, e1, e2⟩ := value_spec hf hq
  rw [eb]
  dsimp only
  rw [ev]
  unfold fraction at fr
  simp only [Bool.and_eq_true, within_spec] at fr
  refine ⟨hf, fr.1.1, ?_⟩
  unfold vle at hv
  rw [e1, e2] at hv
  unfold fv at hv
  dsimp only at hv
  generalize (value f (bestAt f (cornersL S))).Num = N at *
  generalize (value f (bestAt f (cornersL S))).Den = Q at *
  generalize f.X * (x : Int) + f.Y * (y : Int) = v at *
  intro hlt
  have := Int.mul_lt_mul_of_pos_left hlt hg
  rw [show v * (g * Q) = g * (v * Q) by grind] at hv
  omega
theorem void_of {S : List Half} (h1 : checkL S = 0) : emptyE S = (refL S, 0) ∧ (decide (0 < (refL S).length) = decide (cornersL S = [])) := by
  refine ⟨by unfold emptyE; rw [if_pos h1], ?_⟩
  have := ref_nil h1
  rw [decide_eq_decide, ← this, List.length_pos_iff]
end Go.Pg
/-
  The law TopWedgesAreHalves: walk.
-/
set_option linter.all false
set_option maxRecDepth 100000
namespace Go.Pg
open Go.Proofs Go.RowKit

theorem eqv_slH4 {f : Nat → Nat → D} {a b c d : Half} (h0 : ∀ j, j < 3 → D.eqv (f 0 j) (a.at j)) (h1 : ∀ j, j < 3 → D.eqv (f 1 j) (b.at j)) (h2 : ∀ j, j < 3 → D.eqv (f 2 j) (c.at j)) (h3 : ∀ j, j < 3 → D.eqv (f 3 j) (d.at j)) : eqV1s [.d (.slc 3 4 f)] [slH [a, b, c, d]] := by
  refine ⟨⟨rfl, .inr ⟨rfl, fun i hi j hj => ?_⟩⟩, trivial⟩
  match i, hi with
  | 0, _ => exact h0 j hj
  | 1, _ => exact h1 j hj
  | 2, _ => exact h2 j hj
  | 3, _ => exact h3 j hj
theorem at3 {f : Nat → D} {p : Half} (h0 : f 0 = I p.A) (h1 : f 1 = I p.B) (h2 : f 2 = I p.C) : ∀ j, j < 3 → D.eqv (f j) (p.at j)
  | 0, _ => by rw [h0]; exact ⟨rfl, rfl⟩
  | 1, _ => by rw [h1]; exact ⟨rfl, rfl⟩
  | 2, _ => by rw [h2]; exact ⟨rfl, rfl⟩
theorem wedged_1 : (halvesW ⟨449, 451⟩ ⟨0, 0⟩, halvesB ⟨449, 451⟩ ⟨0, 0⟩) = ((⟨449, -450, 0⟩, ⟨-450, 449, 0⟩), true) := by kernel_rfl
theorem wedged_2 : (halvesW ⟨1349, 1351⟩ ⟨20, 0⟩, halvesB ⟨1349, 1351⟩ ⟨20, 0⟩) = ((⟨450, 449, 9000⟩, ⟨-449, -450, -8980⟩), true) := by kernel_rfl
theorem wedged_3 : placesE [⟨449, -450, 0⟩, ⟨-450, 449, 0⟩, ⟨450, 449, 9000⟩, ⟨-449, -450, -8980⟩] = ([⟨10, 10⟩], 0) := by
  have h1 : checkL [⟨449, -450, 0⟩, ⟨-450, 449, 0⟩, ⟨450, 449, 9000⟩, ⟨-449, -450, -8980⟩] = 0 := by kernel_rfl
  rw [places_all h1, if_neg]
  · have h : placesTo (allL [⟨449, -450, 0⟩, ⟨-450, 449, 0⟩, ⟨450, 449, 9000⟩, ⟨-449, -450, -8980⟩]) 49 = [⟨10, 10⟩] := by kernel_rfl
    rw [h]
  · intro h0
    have h : inP (allL [⟨449, -450, 0⟩, ⟨-450, 449, 0⟩, ⟨450, 449, 9000⟩, ⟨-449, -450, -8980⟩]) 10 10 = true := by kernel_rfl
    rw [pl_none h1 h0] at h; cases h
theorem c_wedged : Spec PP 4 [] [B true] := by
  have c1 := c_Halves ⟨449, 451⟩ ⟨0, 0⟩
  have c2 := c_Halves ⟨1349, 1351⟩ ⟨20, 0⟩
  rw [(Prod.mk.inj wedged_1).1, (Prod.mk.inj wedged_1).2] at c1
  rw [(Prod.mk.inj wedged_2).1, (Prod.mk.inj wedged_2).2] at c2
  have c3 := s_Places [⟨449, -450, 0⟩, ⟨-450, 449, 0⟩, ⟨450, 449, 9000⟩, ⟨-449, -450, -8980⟩]
  rw [wedged_3] at c3
  refine spec_at Try.func4 rfl (by kernel_rfl) rfl ?_
  refine CallSt.pure c1 rfl rfl ?_
  refine CallSt.pure c2 rfl rfl ?_
  refine ⟨by decide, ⟨by decide, ⟨by decide, ⟨by decide, ?_⟩⟩⟩⟩
  refine CallSt.fzE [28] c3 rfl (eqv_slH4 (at3 rfl rfl rfl) (at3 rfl rfl rfl) (at3 rfl rfl rfl) (at3 rfl rfl rfl)) rfl ?_
  refine Split.tt ?_
  refine Split.tt ?_
  refine Split.tt ?_
  refine Split.tt ?_
  refine Split.tt ?_
  refine Split.tt ?_
  refine Split.tt ?_
  refine ⟨⟨rfl, by decide, by decide⟩, ?_⟩
  refine Split.tt ?_
  refine r1B rfl rfl
abbrev bxW (f : Form) : Ob := .box [.d (I f.X), .d (I f.Y)]
abbrev bxB (b : Bound) : Ob := .box [.d (I b.V.Num), .d (I b.V.Den), .d (I b.At.X), .d (I b.At.Y), .d (I b.At.Den), .d (I b.Scale), .d (.slc 2 b.Uses.length (rowU b.Uses))]
theorem obB {s : St} {ob : Nat → Option Ob} {b : Bound} {o : Option Ob} (g : o = some (bxB b)) : Oble s ob o (bxB b) := obD [I b.V.Num, I b.V.Den, I b.At.X, I b.At.Y, I b.At.Den, I b.Scale, .slc 2 b.Uses.length (rowU b.Uses)] g
theorem avBw {s : St} {ob : Nat → Option Ob} {v : AV} {a b : Bool} (h : v = .d (.bool a)) (e : a = b) : AVle s ob v (.d (.bool b)) := by subst h; subst e; exact D.eqv_refl _
@[irreducible] def inTw (l : List Sn) (p : Place) (i : Nat) : Bool := (l.take i).all fun x => decide (p = x.a) || liesW x.w x.a p
theorem inTw_zero (l : List Sn) (p : Place) : inTw l p 0 = true := by unfold inTw; rfl
theorem inTw_succ (l : List Sn) (p : Place) {i : Nat} (h : i < l.length) : inTw l p (i + 1) = (inTw l p i && (decide (p = (l.getD i default).a) || liesW (l.getD i default).w (l.getD i default).a p)) := by
  unfold inTw
  rw [take1 h default, List.all_append]; simp
theorem inTw_all (l : List Sn) (p : Place) : inTw l p l.length = inW l p := by unfold inTw inW; rw [List.take_length]
theorem obW {s : St} {ob : Nat → Option Ob} {p : Form} {o : Option Ob} (g : o = some (bxW p)) : Oble s ob o (bxW p) := obD [I p.X, I p.Y] g
set_option maxHeartbeats 4000000 in
theorem s_Top (l : List Sn) (f : Form) : Spec PP 3 [slSn l, f.v] [B true] := by
  refine spec_at Try.func3 rfl (by kernel_rfl) rfl ?_
  refine Split.by (fun h1 => ?_) (fun h1 => ?_)
  · refine CallSt.pure c_wedged rfl rfl ?_
    exact r1B rfl rfl
  have hn : l.length ≤ 6 := by have := dF h1; omega
  refine LoopOb.of (σ := Nat) (fun i => ([(0, avOf (slSn l)), (3, .box 3 0), (5, .own 5), (28, avOf (slSn l)), (29, .d (I l.length)), (30, .d (I i))], [(3, bxW f), (5, .row 33 3 (sysL (l.take i)).length (rowH (sysL (l.take i))))])) (fun i => i ≤ l.length ∧ ∀ x ∈ l.take i, halvesB x.w x.a = true) (fun i => l.length - i) 0
    ⟨rfl, ⟨obW rfl, obR rfl ⟨rfl, .inl rfl⟩, trivial⟩, avR _ rfl, avQ rfl, avQ rfl, avR _ rfl, avR _ rfl, avR _ rfl, trivial⟩ ⟨Nat.zero_le _, fun x hx => by simp at hx⟩ fun i hi => ?_
  · obtain ⟨hi, ha⟩ := hi
    refine Split.by (fun g1 => ?_) (fun g1 => ?_)
    · have g1 : i < l.length := by have := dT g1; omega
      have hlen : (sysL (l.take i)).length = 2 * i := by rw [sysL_len, List.length_take]; omega
      refine ⟨⟨rfl, by omega, by omega⟩, ?_⟩
      refine CallSt.pure (c_Halves (l.getD i default).w (l.getD i default).a) rfl rfl ?_
      refine Split.by (fun g2 => ?_) (fun g2 => ?_)
      · refine CallSt.pure c_wedged rfl rfl ?_
        exact r1B rfl rfl
      have g2 : halvesB (l.getD i default).w (l.getD i default).a = true := by simpa using g2
      have e2 : halvesW (l.getD i default).w (l.getD i default).a = (hvA (l.getD i default).w (l.getD i default).a, hvB (l.getD i default).w (l.getD i default).a) := by unfold halvesW; rw [g2]; rfl
      rw [e2]
      refine ⟨by decide, ⟨by decide, ?_⟩⟩
      refine ⟨⟨.inr rfl, by unfold maxLen; omega, by show ((sysL (l.take i)).length + 2) * 24 ≤ 140737488355328; omega⟩, ?_⟩
      refine ⟨inI64 (by omega) (by omega), ?_⟩
      refine ⟨i + 1, ⟨rfl, ⟨obW rfl, obR rfl ?_, trivial⟩, avR _ rfl, avQ rfl, avQ rfl, avR _ rfl, avR _ rfl, avI rfl rfl, trivial⟩, ⟨g1, fun x hx => ?_⟩, (show l.length - (i + 1) < l.length - i by omega)⟩
      · rw [take1 g1 default, sysL_snoc]
        refine app_row (at_ := Half.at) rfl rfl (fun i hi j hj => D.eqv_refl _) fun i hi j hj => ?_
        match i, hi with
        | 0, _ =>
          match j, hj with
          | 0, _ => exact ⟨rfl, rfl⟩
          | 1, _ => exact ⟨rfl, rfl⟩
          | 2, _ => exact ⟨rfl, rfl⟩
        | 1, _ =>
          match j, hj with
          | 0, _ => exact ⟨rfl, rfl⟩
          | 1, _ => exact ⟨rfl, rfl⟩
          | 2, _ => exact ⟨rfl, rfl⟩
      · rw [take1 g1 default] at hx
        rcases List.mem_append.1 hx with hx | hx
        · exact ha x hx
        · simp only [List.mem_singleton] at hx; subst hx; exact g2
    have g1 : i = l.length := by have := dF g1; omega
    subst g1
    rw [List.take_length] at *
    have hck := sys_ck ha hn
    have hS : (sysL l).length ≤ 12 := by rw [sysL_len]; omega
    have hin := fun {x y : Nat} (hx : x ≤ 48) (hy : y ≤ 48) => inP_iff ha hx hy
    obtain ⟨cE, cv⟩ := void_of hck
    have cP := s_Places (sysL l)
    have cQ := s_Empty (sysL l)
    rw [places_all hck] at cP
    rw [cE] at cQ
    dsimp only at cP cQ
    rw [cv] at cQ
    have hvoid : ∀ {x y : Nat}, inP (allL (sysL l)) x y = true → decide (cornersL (sysL l) = []) = false := fun h => decide_eq_false fun h0 => by rw [pl_none hck h0] at h; cases h
    have hbest := fun (hb : (bestE (sysL l) f).2 = 0) {x y : Nat} (h : inP (allL (sysL l)) x y = true) => best_place hck hb h
    have hget := fun {x y : Nat} (hx : x < 49) (hy : y < 49) (h : inP (allL (sysL l)) x y = true) => pl_get hx hy h
    have hp := placesTo_len (allL (sysL l)) 49
    refine CallSt.fz [5] cP rfl rfl ?_
    refine CallSt.ro cQ rfl rfl ?_
    refine Split.ff ?_
    have hne : (!(decide (cornersL (sysL l) = []) == ((if cornersL (sysL l) = [] then (9 : Int) else 0) == 9))) = false := by
      by_cases h0 : cornersL (sysL l) = []
      · rw [decide_eq_true h0, if_pos h0]; rfl
      · rw [decide_eq_false h0, if_neg h0]; rfl
    have hchk : decide (cornersL (sysL l) = []) = true → Spec PP 8 [slH (sysL l), slU (refL (sysL l))] [N 0] := fun hv => by
      have c := s_CheckEmpty (sysL l) (refL (sysL l))
      rw [prf_che hck (ref_prf (checkL_ok hck).2.2 ((ref_nil hck).2 (of_decide_eq_true hv)))] at c
      exact c
    have cB := s_Best (sysL l) f
    generalize decide (cornersL (sysL l) = []) = void at *
    generalize hP : placesTo (allL (sysL l)) 49 = P at *
    generalize bestE (sysL l) f = be at *
    obtain ⟨b, e⟩ := be
    dsimp only at hbest
    refine Split.ff ?_
    refine Split.no hne ?_
    refine Split.by (fun g3 => ?_) (fun g3 => ?_)
    · refine CallSt.ro (hchk g3) rfl rfl ?_
      refine Split.tt ?_
      refine Split.ff ?_
      refine Split.ff ?_
      refine CallSt.ro cB rfl rfl ?_
      refine LoopOb.of (σ := Nat) (fun y => ([(0, avOf (slSn l)), (3, .box 3 0), (10, avOf (slP P)), (13, .d (.bool void)), (15, .box 15 0), (16, .d (I e)), (17, .d (I (placesTo (allL (sysL l)) y).length)), (18, .d (I y))], [(3, bxW f), (15, bxB b)])) (fun y => y ≤ 49) (fun y => 49 - y) 0
        ⟨rfl, ⟨obW rfl, obB rfl, trivial⟩, avR _ rfl, avQ rfl, avR _ rfl, avBw rfl (by simp_all), avQ rfl, avR _ rfl, avI rfl (by rw [placesTo_zero]; rfl), avR _ rfl, trivial⟩ (Nat.zero_le _) fun y hy => ?_
      refine Split.by (fun g4 => ?_) (fun g4 => ?_)
      · have g4 : y < 49 := by have := dT g4; omega
        have ly := placesTo_len (allL (sysL l)) y
        refine LoopOb.of (σ := Nat) (fun x => ([(0, avOf (slSn l)), (3, .box 3 0), (10, avOf (slP P)), (13, .d (.bool void)), (15, .box 15 0), (16, .d (I e)), (17, .d (I (placesTo (allL (sysL l)) y ++ placesRow (allL (sysL l)) y x).length)), (18, .d (I y)), (19, .d (I x))], [(3, bxW f), (15, bxB b)])) (fun x => x ≤ 49) (fun x => 49 - x) 0
          ⟨rfl, ⟨obW rfl, obB rfl, trivial⟩, avR _ rfl, avQ rfl, avR _ rfl, avR _ rfl, avQ rfl, avR _ rfl, avI rfl (by rw [placesRow_zero, List.append_nil]), avR _ rfl, avR _ rfl, trivial⟩ (Nat.zero_le _) fun x hx => ?_
        refine Split.by (fun g5 => ?_) (fun g5 => ?_)
        · have g5 : x < 49 := by have := dT g5; omega
          have lx := placesRow_len (allL (sysL l)) y x
          have ll : (placesTo (allL (sysL l)) y ++ placesRow (allL (sysL l)) y x).length ≤ 5000 := by rw [List.length_append]; omega
          refine LoopOb.of (σ := Nat) (fun i => ([(0, avOf (slSn l)), (3, .box 3 0), (10, avOf (slP P)), (13, .d (.bool void)), (15, .box 15 0), (16, .d (I e)), (17, .d (I (placesTo (allL (sysL l)) y ++ placesRow (allL (sysL l)) y x).length)), (18, .d (I y)), (19, .d (I x)), (20, .box 20 0), (21, .d (.bool (inTw l ⟨x, y⟩ i))), (98, avOf (slSn l)), (99, .d (I l.length)), (100, .d (I i))], [(3, bxW f), (15, bxB b), (20, .box [.d (I x), .d (I y)])])) (fun i => i ≤ l.length) (fun i => l.length - i) 0
            ⟨rfl, ⟨obW rfl, obB rfl, obD [I x, I y] rfl, trivial⟩, avR _ rfl, avQ rfl, avR _ rfl, avR _ rfl, avQ rfl, avR _ rfl, avR _ rfl, avR _ rfl, avR _ rfl, avQ rfl, avBw rfl (inTw_zero _ _).symm, avR _ rfl, avR _ rfl, avR _ rfl, trivial⟩ (Nat.zero_le _) fun i hi => ?_
          refine Split.by (fun g6 => ?_) (fun g6 => ?_)
          · have g6 : i < l.length := by have := dT g6; omega
            have es := inTw_succ l ⟨x, y⟩ g6
            refine ⟨⟨rfl, by omega, by omega⟩, ?_⟩
            refine Split.by (fun g7 => ?_) (fun g7 => ?_)
            · rw [g7, Bool.true_and] at es
              refine Split.by (fun g8 => ?_) (fun g8 => ?_)
              · have g8 : Place.mk x y = (l.getD i default).a := of_decide_eq_true ((eqPW ⟨x, y⟩ (l.getD i default).a).symm.trans g8)
                rw [decide_eq_true g8, Bool.true_or] at es
                refine Split.tt ?_
                refine Split.tt ?_
                refine ⟨inI64 (by omega) (by omega), ?_⟩
                exact ⟨i + 1, ⟨rfl, ⟨obW rfl, obB rfl, obD [I x, I y] rfl, trivial⟩, avR _ rfl, avQ rfl, avR _ rfl, avR _ rfl, avQ rfl, avR _ rfl, avR _ rfl, avR _ rfl, avR _ rfl, avQ rfl, avBw rfl es.symm, avR _ rfl, avR _ rfl, avI rfl rfl, trivial⟩, g6, (show l.length - (i + 1) < l.length - i by omega)⟩
              · have g8 : Place.mk x y ≠ (l.getD i default).a := of_decide_eq_false ((eqPW ⟨x, y⟩ (l.getD i default).a).symm.trans g8)
                rw [decide_eq_false g8, Bool.false_or] at es
                refine CallSt.pure (c_Lies (l.getD i default).w (l.getD i default).a ⟨x, y⟩) rfl rfl ?_
                refine Split.ff ?_
                refine Split.tt ?_
                refine ⟨inI64 (by omega) (by omega), ?_⟩
                exact ⟨i + 1, ⟨rfl, ⟨obW rfl, obB rfl, obD [I x, I y] rfl, trivial⟩, avR _ rfl, avQ rfl, avR _ rfl, avR _ rfl, avQ rfl, avR _ rfl, avR _ rfl, avR _ rfl, avR _ rfl, avQ rfl, avBw rfl es.symm, avR _ rfl, avR _ rfl, avI rfl rfl, trivial⟩, g6, (show l.length - (i + 1) < l.length - i by omega)⟩
            · rw [g7, Bool.false_and] at es
              refine Split.ff ?_
              refine ⟨inI64 (by omega) (by omega), ?_⟩
              exact ⟨i + 1, ⟨rfl, ⟨obW rfl, obB rfl, obD [I x, I y] rfl, trivial⟩, avR _ rfl, avQ rfl, avR _ rfl, avR _ rfl, avQ rfl, avR _ rfl, avR _ rfl, avR _ rfl, avR _ rfl, avQ rfl, avBw rfl es.symm, avR _ rfl, avR _ rfl, avI rfl rfl, trivial⟩, g6, (show l.length - (i + 1) < l.length - i by omega)⟩
          have g6 : i = l.length := by have := dF g6; omega
          subst g6
          rw [inTw_all, ← hin (by omega) (by omega)]
          have hrow := placesRow_succ (allL (sysL l)) y x
          refine Split.by (fun g9 => ?_) (fun g9 => ?_)
          · have g9 : inP (allL (sysL l)) x y = false := by simpa using g9
            rw [g9, if_neg (by decide), List.append_nil] at hrow
            refine ⟨inI64 (by omega) (by omega), ?_⟩
            exact ⟨x + 1, ⟨rfl, ⟨obW rfl, obB rfl, trivial⟩, avR _ rfl, avQ rfl, avR _ rfl, avR _ rfl, avQ rfl, avR _ rfl, avI rfl (by rw [hrow]), avR _ rfl, avI rfl rfl, trivial⟩, g5, (show 49 - (x + 1) < 49 - x by omega)⟩
          have g9 : inP (allL (sysL l)) x y = true := by simpa using g9
          rw [g9, if_pos rfl] at hrow
          obtain ⟨k1, k2⟩ := hget g5 g4 g9
          have hk := hvoid g9
          refine Exists.intro (List.range 38) (And.intro (by kernel_rfl) (FzOb.no ?_))
          refine Split.no (decide_eq_false (by omega)) ?_
          refine ⟨⟨rfl, by omega, by omega⟩, ?_⟩
          refine Split.ff ?_
          have hk3 : (!((P.getD ((((placesTo (allL (sysL l)) y ++ placesRow (allL (sysL l)) y x).length : Nat) : Int)).toNat default).X == (x : Int) && ((P.getD ((((placesTo (allL (sysL l)) y ++ placesRow (allL (sysL l)) y x).length : Nat) : Int)).toNat default).Y == (y : Int) && true))) = false := by
            rw [Int.toNat_natCast, k2]; simp
          refine Split.no hk3 ?_
          refine Split.ff ?_
          refine Split.no hk ?_
          refine Split.by (fun g10 => ?_) (fun g10 => ?_)
          · have g10 : e = 0 := by simpa using g10
            obtain ⟨b1, b2, b3⟩ := hbest g10 g9
            unfold slope at b1
            simp only [Bool.and_eq_true, within_spec] at b1
            have m1 := mulB (a := f.X) (b := (x : Int)) (x := 1000) (y := 48) (by omega) (by omega)
            have m2 := mulB (a := f.Y) (b := (y : Int)) (x := 1000) (y := 48) (by omega) (by omega)
            have m3 := mulB (a := f.X * (x : Int) + f.Y * (y : Int)) (b := b.V.Den) (x := 96000) (y := 2097152) (by omega) (by omega)
            refine ⟨inI64 (by omega) (by omega), ⟨inI64 (by omega) (by omega), ⟨inI64 (by omega) (by omega), ⟨inI64 (by omega) (by omega), ?_⟩⟩⟩⟩
            refine Split.tt ?_
            refine Split.ff ?_
            refine Split.no (decide_eq_false b3) ?_
            refine ⟨inI64 (by omega) (by omega), ?_⟩
            refine ⟨inI64 (by omega) (by omega), ?_⟩
            exact ⟨x + 1, ⟨rfl, ⟨obW rfl, obB rfl, trivial⟩, avR _ rfl, avQ rfl, avR _ rfl, avR _ rfl, avQ rfl, avR _ rfl, avI rfl (by rw [hrow]; simp only [List.length_append, List.length_cons, List.length_nil]; omega), avR _ rfl, avI rfl rfl, trivial⟩, g5, (show 49 - (x + 1) < 49 - x by omega)⟩
          · refine Split.ff ?_
            refine Split.ff ?_
            refine Split.ff ?_
            refine ⟨inI64 (by omega) (by omega), ?_⟩
            refine ⟨inI64 (by omega) (by omega), ?_⟩
            exact ⟨x + 1, ⟨rfl, ⟨obW rfl, obB rfl, trivial⟩, avR _ rfl, avQ rfl, avR _ rfl, avR _ rfl, avQ rfl, avR _ rfl, avI rfl (by rw [hrow]; simp only [List.length_append, List.length_cons, List.length_nil]; omega), avR _ rfl, avI rfl rfl, trivial⟩, g5, (show 49 - (x + 1) < 49 - x by omega)⟩
        · have g5 : x = 49 := by have := dF g5; omega
          subst g5
          refine ⟨inI64 (by omega) (by omega), ?_⟩
          exact ⟨y + 1, ⟨rfl, ⟨obW rfl, obB rfl, trivial⟩, avR _ rfl, avQ rfl, avR _ rfl, avR _ rfl, avQ rfl, avR _ rfl, avI rfl (by rw [placesTo_succ]), avI rfl rfl, trivial⟩, g4, (show 49 - (y + 1) < 49 - y by omega)⟩
      · have g4 : y = 49 := by have := dF g4; omega
        subst g4
        rw [hP]
        refine CallSt.pure c_wedged rfl rfl ?_
        refine Split.tt ?_
        refine Split.tt ?_
        exact r1B rfl (by simp)
    · refine Split.ff ?_
      refine Split.ff ?_
      refine Split.ff ?_
      refine CallSt.ro cB rfl rfl ?_
      refine LoopOb.of (σ := Nat) (fun y => ([(0, avOf (slSn l)), (3, .box 3 0), (10, avOf (slP P)), (13, .d (.bool void)), (15, .box 15 0), (16, .d (I e)), (17, .d (I (placesTo (allL (sysL l)) y).length)), (18, .d (I y))], [(3, bxW f), (15, bxB b)])) (fun y => y ≤ 49) (fun y => 49 - y) 0
        ⟨rfl, ⟨obW rfl, obB rfl, trivial⟩, avR _ rfl, avQ rfl, avR _ rfl, avBw rfl (by simp_all), avQ rfl, avR _ rfl, avI rfl (by rw [placesTo_zero]; rfl), avR _ rfl, trivial⟩ (Nat.zero_le _) fun y hy => ?_
      refine Split.by (fun g4 => ?_) (fun g4 => ?_)
      · have g4 : y < 49 := by have := dT g4; omega
        have ly := placesTo_len (allL (sysL l)) y
        refine LoopOb.of (σ := Nat) (fun x => ([(0, avOf (slSn l)), (3, .box 3 0), (10, avOf (slP P)), (13, .d (.bool void)), (15, .box 15 0), (16, .d (I e)), (17, .d (I (placesTo (allL (sysL l)) y ++ placesRow (allL (sysL l)) y x).length)), (18, .d (I y)), (19, .d (I x))], [(3, bxW f), (15, bxB b)])) (fun x => x ≤ 49) (fun x => 49 - x) 0
          ⟨rfl, ⟨obW rfl, obB rfl, trivial⟩, avR _ rfl, avQ rfl, avR _ rfl, avR _ rfl, avQ rfl, avR _ rfl, avI rfl (by rw [placesRow_zero, List.append_nil]), avR _ rfl, avR _ rfl, trivial⟩ (Nat.zero_le _) fun x hx => ?_
        refine Split.by (fun g5 => ?_) (fun g5 => ?_)
        · have g5 : x < 49 := by have := dT g5; omega
          have lx := placesRow_len (allL (sysL l)) y x
          have ll : (placesTo (allL (sysL l)) y ++ placesRow (allL (sysL l)) y x).length ≤ 5000 := by rw [List.length_append]; omega
          refine LoopOb.of (σ := Nat) (fun i => ([(0, avOf (slSn l)), (3, .box 3 0), (10, avOf (slP P)), (13, .d (.bool void)), (15, .box 15 0), (16, .d (I e)), (17, .d (I (placesTo (allL (sysL l)) y ++ placesRow (allL (sysL l)) y x).length)), (18, .d (I y)), (19, .d (I x)), (20, .box 20 0), (21, .d (.bool (inTw l ⟨x, y⟩ i))), (98, avOf (slSn l)), (99, .d (I l.length)), (100, .d (I i))], [(3, bxW f), (15, bxB b), (20, .box [.d (I x), .d (I y)])])) (fun i => i ≤ l.length) (fun i => l.length - i) 0
            ⟨rfl, ⟨obW rfl, obB rfl, obD [I x, I y] rfl, trivial⟩, avR _ rfl, avQ rfl, avR _ rfl, avR _ rfl, avQ rfl, avR _ rfl, avR _ rfl, avR _ rfl, avR _ rfl, avQ rfl, avBw rfl (inTw_zero _ _).symm, avR _ rfl, avR _ rfl, avR _ rfl, trivial⟩ (Nat.zero_le _) fun i hi => ?_
          refine Split.by (fun g6 => ?_) (fun g6 => ?_)
          · have g6 : i < l.length := by have := dT g6; omega
            have es := inTw_succ l ⟨x, y⟩ g6
            refine ⟨⟨rfl, by omega, by omega⟩, ?_⟩
            refine Split.by (fun g7 => ?_) (fun g7 => ?_)
            · rw [g7, Bool.true_and] at es
              refine Split.by (fun g8 => ?_) (fun g8 => ?_)
              · have g8 : Place.mk x y = (l.getD i default).a := of_decide_eq_true ((eqPW ⟨x, y⟩ (l.getD i default).a).symm.trans g8)
                rw [decide_eq_true g8, Bool.true_or] at es
                refine Split.tt ?_
                refine Split.tt ?_
                refine ⟨inI64 (by omega) (by omega), ?_⟩
                exact ⟨i + 1, ⟨rfl, ⟨obW rfl, obB rfl, obD [I x, I y] rfl, trivial⟩, avR _ rfl, avQ rfl, avR _ rfl, avR _ rfl, avQ rfl, avR _ rfl, avR _ rfl, avR _ rfl, avR _ rfl, avQ rfl, avBw rfl es.symm, avR _ rfl, avR _ rfl, avI rfl rfl, trivial⟩, g6, (show l.length - (i + 1) < l.length - i by omega)⟩
              · have g8 : Place.mk x y ≠ (l.getD i default).a := of_decide_eq_false ((eqPW ⟨x, y⟩ (l.getD i default).a).symm.trans g8)
                rw [decide_eq_false g8, Bool.false_or] at es
                refine CallSt.pure (c_Lies (l.getD i default).w (l.getD i default).a ⟨x, y⟩) rfl rfl ?_
                refine Split.ff ?_
                refine Split.tt ?_
                refine ⟨inI64 (by omega) (by omega), ?_⟩
                exact ⟨i + 1, ⟨rfl, ⟨obW rfl, obB rfl, obD [I x, I y] rfl, trivial⟩, avR _ rfl, avQ rfl, avR _ rfl, avR _ rfl, avQ rfl, avR _ rfl, avR _ rfl, avR _ rfl, avR _ rfl, avQ rfl, avBw rfl es.symm, avR _ rfl, avR _ rfl, avI rfl rfl, trivial⟩, g6, (show l.length - (i + 1) < l.length - i by omega)⟩
            · rw [g7, Bool.false_and] at es
              refine Split.ff ?_
              refine ⟨inI64 (by omega) (by omega), ?_⟩
              exact ⟨i + 1, ⟨rfl, ⟨obW rfl, obB rfl, obD [I x, I y] rfl, trivial⟩, avR _ rfl, avQ rfl, avR _ rfl, avR _ rfl, avQ rfl, avR _ rfl, avR _ rfl, avR _ rfl, avR _ rfl, avQ rfl, avBw rfl es.symm, avR _ rfl, avR _ rfl, avI rfl rfl, trivial⟩, g6, (show l.length - (i + 1) < l.length - i by omega)⟩
          have g6 : i = l.length := by have := dF g6; omega
          subst g6
          rw [inTw_all, ← hin (by omega) (by omega)]
          have hrow := placesRow_succ (allL (sysL l)) y x
          refine Split.by (fun g9 => ?_) (fun g9 => ?_)
          · have g9 : inP (allL (sysL l)) x y = false := by simpa using g9
            rw [g9, if_neg (by decide), List.append_nil] at hrow
            refine ⟨inI64 (by omega) (by omega), ?_⟩
            exact ⟨x + 1, ⟨rfl, ⟨obW rfl, obB rfl, trivial⟩, avR _ rfl, avQ rfl, avR _ rfl, avR _ rfl, avQ rfl, avR _ rfl, avI rfl (by rw [hrow]), avR _ rfl, avI rfl rfl, trivial⟩, g5, (show 49 - (x + 1) < 49 - x by omega)⟩
          have g9 : inP (allL (sysL l)) x y = true := by simpa using g9
          rw [g9, if_pos rfl] at hrow
          obtain ⟨k1, k2⟩ := hget g5 g4 g9
          have hk := hvoid g9
          refine Exists.intro (List.range 38) (And.intro (by kernel_rfl) (FzOb.no ?_))
          refine Split.no (decide_eq_false (by omega)) ?_
          refine ⟨⟨rfl, by omega, by omega⟩, ?_⟩
          refine Split.ff ?_
          have hk3 : (!((P.getD ((((placesTo (allL (sysL l)) y ++ placesRow (allL (sysL l)) y x).length : Nat) : Int)).toNat default).X == (x : Int) && ((P.getD ((((placesTo (allL (sysL l)) y ++ placesRow (allL (sysL l)) y x).length : Nat) : Int)).toNat default).Y == (y : Int) && true))) = false := by
            rw [Int.toNat_natCast, k2]; simp
          refine Split.no hk3 ?_
          refine Split.ff ?_
          refine Split.no hk ?_
          refine Split.by (fun g10 => ?_) (fun g10 => ?_)
          · have g10 : e = 0 := by simpa using g10
            obtain ⟨b1, b2, b3⟩ := hbest g10 g9
            unfold slope at b1
            simp only [Bool.and_eq_true, within_spec] at b1
            have m1 := mulB (a := f.X) (b := (x : Int)) (x := 1000) (y := 48) (by omega) (by omega)
            have m2 := mulB (a := f.Y) (b := (y : Int)) (x := 1000) (y := 48) (by omega) (by omega)
            have m3 := mulB (a := f.X * (x : Int) + f.Y * (y : Int)) (b := b.V.Den) (x := 96000) (y := 2097152) (by omega) (by omega)
            refine ⟨inI64 (by omega) (by omega), ⟨inI64 (by omega) (by omega), ⟨inI64 (by omega) (by omega), ⟨inI64 (by omega) (by omega), ?_⟩⟩⟩⟩
            refine Split.tt ?_
            refine Split.ff ?_
            refine Split.no (decide_eq_false b3) ?_
            refine ⟨inI64 (by omega) (by omega), ?_⟩
            refine ⟨inI64 (by omega) (by omega), ?_⟩
            exact ⟨x + 1, ⟨rfl, ⟨obW rfl, obB rfl, trivial⟩, avR _ rfl, avQ rfl, avR _ rfl, avR _ rfl, avQ rfl, avR _ rfl, avI rfl (by rw [hrow]; simp only [List.length_append, List.length_cons, List.length_nil]; omega), avR _ rfl, avI rfl rfl, trivial⟩, g5, (show 49 - (x + 1) < 49 - x by omega)⟩
          · refine Split.ff ?_
            refine Split.ff ?_
            refine Split.ff ?_
            refine ⟨inI64 (by omega) (by omega), ?_⟩
            refine ⟨inI64 (by omega) (by omega), ?_⟩
            exact ⟨x + 1, ⟨rfl, ⟨obW rfl, obB rfl, trivial⟩, avR _ rfl, avQ rfl, avR _ rfl, avR _ rfl, avQ rfl, avR _ rfl, avI rfl (by rw [hrow]; simp only [List.length_append, List.length_cons, List.length_nil]; omega), avR _ rfl, avI rfl rfl, trivial⟩, g5, (show 49 - (x + 1) < 49 - x by omega)⟩
        · have g5 : x = 49 := by have := dF g5; omega
          subst g5
          refine ⟨inI64 (by omega) (by omega), ?_⟩
          exact ⟨y + 1, ⟨rfl, ⟨obW rfl, obB rfl, trivial⟩, avR _ rfl, avQ rfl, avR _ rfl, avR _ rfl, avQ rfl, avR _ rfl, avI rfl (by rw [placesTo_succ]), avI rfl rfl, trivial⟩, g4, (show 49 - (y + 1) < 49 - y by omega)⟩
      · have g4 : y = 49 := by have := dF g4; omega
        subst g4
        rw [hP]
        refine CallSt.pure c_wedged rfl rfl ?_
        refine Split.tt ?_
        refine Split.tt ?_
        exact r1B rfl (by simp)
end Go.Pg
/-
  The law TopWedgesAreHalves: its arguments as data.
-/
set_option linter.all false
namespace Go.Pg
open Go.Proofs Go.RowKit
theorem rep_slSn {w : World} {ok : Nat → Prop} {x : D} {v : Value} (hr : Rep1 w ok (.d x) v) (h : All2 Fits [.sl 4 (fun j => shSl.getD' [.int .i64, .int .i64, .int .i64, .int .i64] j)] [x]) : ∃ l : List Sn, Rep1 w ok (slSn l) v := by
  cases h with
  | cons h _ =>
  obtain ⟨l, _, _, hl⟩ := fitsL (at_ := Sn.at) (fun g => ⟨⟨g 0, g 1⟩, ⟨g 2, g 3⟩⟩) (fun j hj => by
    match j, hj with
    | 0, _ => rfl
    | 1, _ => rfl
    | 2, _ => rfl
    | 3, _ => rfl) (fun g j hj => by
    match j, hj with
    | 0, _ => rfl
    | 1, _ => rfl
    | 2, _ => rfl
    | 3, _ => rfl) h
  exact ⟨l, Rep.eqv hr hl⟩
end Go.Pg
