/-
  Library functions by the shelf's contracts: bits.Mul64, slices.Reverse on a row of structs of integers, slices.Delete on a row of integers. For every program.
-/
import Derived.Test.YtlmljmgappiehaaPgS
import Derived.Shelf.Bits.Mul64
import Derived.Shelf.SlicesG.Delete
import Derived.Shelf.SlicesQ.Reverse
set_option linter.all false
namespace Go.Pg
open Go.RowKit Go.Proofs Go.Shelf Go.Sort Go.Lib

theorem specD_mul64 {P : Program} {ρ : Ren} (L : Lays.n264 P ρ) (hent : Ent P (ρ.f 264)) (x y : Nat) (hx : x < 18446744073709551616) (hy : y < 18446744073709551616) :
    SpecD P (ρ.f 264) [.d (.int .u64 x), .d (.int .u64 y)] [.d (.int .u64 ((x * y / 18446744073709551616 : Nat) : Int)), .d (.int .u64 ((x * y % 18446744073709551616 : Nat) : Int))] := by
  refine ⟨hent, fun w ok vs hok h => ?_⟩
  cases h with
  | cons h1 h2 =>
  cases h2 with
  | cons h2 h3 =>
  cases h3
  rename_i u v
  have hu : u = .int .u64 x := h1
  have hv : v = .int .u64 y := h2
  subst hu; subst hv
  refine (Any.bits_Mul64 L x y hx hy w).mono ?_
  rintro e w' ⟨rfl, rfl⟩
  exact ⟨_, rfl, ⟨Below.refl _ _, fun _ => Nat.le_refl _⟩, [_, _], rfl, .cons rfl (.cons rfl .nil)⟩

section
variable {α : Type} [Inhabited α] {k : Nat} (A : Ints α k)
theorem grow_none (w : World) : grow w #[] = w := by simp [grow]
theorem putK_eq (w : World) (g n : Nat) (l : List α) : putRowK A.enc k (Sort.ahead w n) g 0 l.toArray = sortWorldK A.enc k w g 0 n l.toArray #[] := by
  unfold sortWorldK; rw [grow_none]
/-- slices.Reverse. -/
theorem specR_reverse {P : Program} {ρ : Ren} (L : SlLaysE0.n35 P ρ) (hent : Ent P (ρ.f 35)) (aE : ∀ w, (isAgg (ρ.t 23)).run P w = .ok true w) (zE : ∀ w, (Go.sizeOf (ρ.t 23)).run P w = .ok k w) (e : TypeId) (l : List α) (hn : l.length ≤ 1000000) :
    SpecR P (ρ.f 35) [] [] e k l.length (A.row l) (A.row l.reverse) [] := by
  refine ⟨hent, fun w ok vs us v xs hok h1 h2 hr => ?_⟩
  cases h1
  cases h2
  by_cases h0 : l = []
  · subst h0
    obtain ⟨p, cap, rfl⟩ : ∃ p cap, v = .slice p 0 cap := by
      rcases hr.own.2 with ⟨h3, _⟩ | ⟨q, cap, cur, h3, _⟩
      · exact ⟨_, _, h3⟩
      · exact ⟨_, _, h3⟩
    refine (AnyQ.slices_Reverse_empty L p cap w).mono ?_
    rintro en w' ⟨rfl, rfl⟩
    exact ⟨_, rfl, ⟨rfl, rfl, rfl, Nat.le_refl _, fun _ _ _ => rfl⟩, ⟨[], rfl, .nil⟩, xs, hr.own, hr.one, fun m hm => absurd hm (Nat.not_lt_zero _)⟩
  · rcases hr.own.2 with ⟨_, h4⟩ | ⟨q, cap, cur, rfl, _, hh, hnc, hcap, hcs, htk⟩
    · exact absurd (List.length_eq_zero_iff.1 h4) h0
    · have hH := A.holds (cap := cap) hh htk hr.rep
      have hrun := AnyQ.slices_Reverse L k aE zE A.enc A.enc_len A.enc_one q 0 cap l.toArray w hH (by simp; omega)
      simp only [List.size_toArray] at hrun
      refine hrun.mono ?_
      rintro en w' ⟨rfl, m, rfl⟩
      have hlen : l.reverse.length = l.length := by simp
      obtain ⟨p1, xs', p2, p3, p4⟩ := A.put m l.reverse #[] hh (by rw [hlen]; exact hnc) hcap hcs
      rw [hlen] at p2 p4
      rw [show l.toArray.reverse = l.reverse.toArray by simp, putK_eq A]
      exact ⟨_, rfl, p1, ⟨[], rfl, .nil⟩, xs', p2, p3, p4⟩
end
/-- Numbers. -/
def I1 : Ints Int 1 where
  lst x := [x]
  len _ := rfl
  at_ x j := .int .i64 x
  hat x j hj := by
    have : j = 0 := by omega
    subst this; rfl
theorem I1_flat (d : Array Int) : flatK I1.enc 1 d = d.map (Value.int .i64) := by
  apply Array.ext
  · rw [I1.flat_size]; simp
  · intro t h1 h2
    have h3 : t < d.size * 1 := by rw [I1.flat_size] at h1; exact h1
    have h4 : t < d.size := by omega
    have := I1.flat_get d h3
    rw [getElem!_pos _ t h1] at this
    rw [this]
    simp [I1, Nat.mod_one, h4]
theorem I1_holds {w : World} {g : Nat} {d : Array Int} : HoldsK I1.enc 1 w g 0 d ↔ Go.Sort.Holds (Value.int .i64) w g 0 d := by
  unfold HoldsK
  rw [I1_flat]
  unfold Go.Sort.Holds
  simp only [Array.size_map]
  refine forall_congr' fun j => forall_congr' fun hj => ?_
  rw [getElem!_pos (d.map _) j (by simpa using hj), getElem!_pos d j hj]
  simp
theorem I1_put (w : World) (g : Nat) (d : Array Int) : putRow (Value.int .i64) w g 0 d = putRowK I1.enc 1 w g 0 d := by
  unfold putRowK putRow
  rw [I1_flat]
  congr 1
  funext cur
  unfold putCells
  simp only [Array.size_map]
  congr 1
  funext i v
  split
  · rename_i h
    rw [getElem!_pos (d.map _) (i - 0) (by simp; omega), getElem!_pos d (i - 0) (by omega)]
    simp
  · rfl
/-- slices.Delete of one element. -/
theorem specT_delete {P : Program} {ρ : Ren} (L : SlLaysN.n45 P ρ) (hent : Ent P (ρ.f 45)) (e : TypeId) (l : List Int) (i j : Nat) (hij : i < j) (hj : j ≤ l.length) :
    SpecT P (ρ.f 45) [] [.d (.int .i64 i), .d (.int .i64 j)] e 1 l.length (I1.row l) (l.take i ++ l.drop j).length (I1.row (l.take i ++ l.drop j)) := by
  refine ⟨hent, fun w ok vs us v xs hok h1 h2 hr => ?_⟩
  cases h1
  cases h2 with
  | cons h2 h3 =>
  cases h3 with
  | cons h3 h4 =>
  cases h4
  rename_i a b
  have ha : a = .int .i64 i := h2
  have hb : b = .int .i64 j := h3
  subst ha; subst hb
  have hl2 : (l.take i ++ l.drop j).length = l.length - (j - i) := by simp; omega
  rcases hr.own.2 with ⟨h4, h5⟩ | ⟨q, cap, cur, rfl, _, hh, hnc, hcap, hcs, htk⟩
  · omega
  · have hH := I1_holds.1 (I1.holds (cap := cap) hh htk hr.rep)
    have hrun := AnyG.slices_Delete_int L q 0 cap i j l w hH hnc (by unfold maxLen at hcap; omega) (by omega) hj
    refine hrun.mono ?_
    rintro en w' ⟨rfl, m, rfl⟩
    have hlen : (l.take i ++ l.drop j ++ List.replicate (j - i) 0).length = l.length := by simp; omega
    obtain ⟨p1, xs', p2, p3, p4⟩ := I1.put m (l.take i ++ l.drop j ++ List.replicate (j - i) 0) #[] hh (by rw [hlen]; exact hnc) hcap hcs
    rw [hlen] at p2 p4
    rw [I1_put, putK_eq I1]
    rw [hl2]
    rcases p2.2 with ⟨h6, h7⟩ | ⟨q', cap', cur', h6, h7, h8, h9, h10, h11, h12⟩
    · cases h6
    · obtain ⟨rfl, rfl⟩ : q = q' ∧ cap = cap' := by simpa using h6
      refine ⟨_, rfl, p1, fun b hb => .inl hb, xs'.take ((l.length - (j - i)) * 1), ⟨by rw [List.length_take, p2.1]; omega, .inr ⟨q, cap, cur', rfl, h7, h8, by omega, h10, h11, by rw [← h12, List.take_take]; congr 1; omega⟩⟩, fun u hu => p3 u (List.mem_of_mem_take hu), fun m' hm' j' hj' => ?_⟩
      obtain ⟨u, hu, hrep⟩ := p4 m' (by omega) j' hj'
      refine ⟨u, by rw [List.getElem?_take, if_pos (by omega)]; exact hu, ?_⟩
      have : I1.row (l.take i ++ l.drop j ++ List.replicate (j - i) 0) m' j' = I1.row (l.take i ++ l.drop j) m' j' := by
        unfold Ints.row
        rw [List.getD_eq_getElem?_getD, List.getD_eq_getElem?_getD, List.getElem?_append_left (by rw [hl2]; exact hm')]
      rw [← this]; exact hrep
end Go.Pg
