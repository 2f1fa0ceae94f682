/-
  Plain geometry: the chain's hull of points in convex position goes around; so does the specification's way of finding the next one. No program in sight.
-/
import Derived.Test.YtlmljmgappiehaaPiA
set_option linter.all false
namespace Go.Pg

def negH (h : Half) : Half := ⟨-h.A, -h.B, -h.C⟩
theorem ef_neg (h : Half) (p : Corner) : ef (negH h) p = -ef h p := by unfold ef negH; grind
theorem Conv.rev {th : Corner → Half} {S : List Corner} (C : Conv th S) : Conv (fun q => negH (th q)) S.reverse where
  out q hq := by
    obtain ⟨φ, f0, ff⟩ := C.out q (List.mem_reverse.1 hq)
    exact ⟨φ, f0, fun p hp => ff p (List.mem_reverse.1 hp)⟩
  th0 q hq := by rw [ef_neg, C.th0 q (List.mem_reverse.1 hq)]; rfl
  ord := by
    rw [List.pairwise_reverse]
    refine C.ord.imp fun {p q} h => ?_
    unfold Bef at *
    rw [ef_neg, ef_neg]
    omega
  non p hp q hq r hr := C.non p (List.mem_reverse.1 hp) q (List.mem_reverse.1 hq) r (List.mem_reverse.1 hr)
  den q hq := C.den q (List.mem_reverse.1 hq)
/-- The hull but for its first corner. -/
def roundT (p0 m : Corner) (mid : List Corner) : List Corner := mid.filter (low p0 m) ++ m :: mid.reverse.filter (low m p0)
theorem Conv.hull {th : Corner → Half} {p0 m : Corner} {mid : List Corner} (C : Conv th (p0 :: (mid ++ [m]))) (hmid : mid ≠ []) : hullL (p0 :: (mid ++ [m])) = p0 :: roundT p0 m mid := by
  have hr : (p0 :: (mid ++ [m])).reverse = m :: (mid.reverse ++ [p0]) := by simp
  have C' := C.rev
  rw [hr] at C'
  have hl : ¬ (p0 :: (mid ++ [m])).length < 3 := by
    have := List.length_pos_iff.2 hmid
    simp; omega
  unfold hullL
  rw [if_neg hl, C.half, hr, C'.half]
  unfold roundT
  simp
theorem low_rev {p0 m q : Corner} : low m p0 q = true ↔ d3 p0 q m < 0 := by
  unfold low
  have h1 := d3_rot p0 m q
  have h2 := d3_swap' p0 q m
  simp only [decide_eq_true_eq]
  omega
theorem Conv.nodup {th : Corner → Half} {S : List Corner} (C : Conv th S) : S.Nodup :=
  List.Pairwise.imp_of_mem (fun {p q} hp hq h => C.ne hp h) C.ord
theorem Conv.round_mem {th : Corner → Half} {p0 m : Corner} {mid : List Corner} (C : Conv th (p0 :: (mid ++ [m]))) (q : Corner) : q ∈ roundT p0 m mid ↔ q ∈ mid ++ [m] := by
  unfold roundT
  have hlow : low m p0 q = true ↔ d3 p0 q m < 0 := low_rev
  rw [List.mem_append, List.mem_cons, List.mem_append, List.mem_filter, List.mem_filter, List.mem_reverse, hlow]
  simp only [List.mem_singleton]
  constructor
  · rintro (h | h | h)
    · exact .inl h.1
    · exact .inr h
    · exact .inl h.1
  · rintro (h | h)
    · have hnd := C.nodup
      have hn : d3 p0 q m ≠ 0 := by
        refine C.non p0 (by simp) q (by simp [h]) m (by simp) ?_ ?_ ?_
        · rintro rfl; exact (List.nodup_cons.1 hnd).1 (by simp [h])
        · rintro rfl; exact (List.nodup_cons.1 hnd).1 (by simp)
        · rintro rfl
          have := (List.nodup_cons.1 hnd).2
          have := (List.pairwise_append.1 this).2.2 q h q (by simp)
          exact this rfl
      rcases Int.lt_or_gt_of_ne hn with g | g
      · exact .inr (.inr ⟨h, g⟩)
      · exact .inl ⟨h, by unfold low; simpa using g⟩
    · exact .inr (.inl h)
theorem Conv.round_len {th : Corner → Half} {p0 m : Corner} {mid : List Corner} (C : Conv th (p0 :: (mid ++ [m]))) : (roundT p0 m mid).length = (mid ++ [m]).length := by
  have key : ∀ l : List Corner, (∀ q ∈ l, q ∈ mid) → (l.filter (low p0 m)).length + (l.filter (low m p0)).length = l.length := by
    intro l
    induction l with
    | nil => intro _; rfl
    | cons q l ih =>
      intro hl
      have ih := ih fun p hp => hl p (List.mem_cons_of_mem _ hp)
      have hq := hl q (by simp)
      have hnd := C.nodup
      have hn : d3 p0 q m ≠ 0 := by
        refine C.non p0 (by simp) q (by simp [hq]) m (by simp) ?_ ?_ ?_
        · rintro rfl; exact (List.nodup_cons.1 hnd).1 (by simp [hq])
        · rintro rfl; exact (List.nodup_cons.1 hnd).1 (by simp)
        · rintro rfl
          have := (List.nodup_cons.1 hnd).2
          have := (List.pairwise_append.1 this).2.2 q hq q (by simp)
          exact this rfl
      have h2 : low m p0 q = true ↔ d3 p0 q m < 0 := low_rev
      have h1 : low p0 m q = true ↔ 0 < d3 p0 q m := by unfold low; simp
      rcases Int.lt_or_gt_of_ne hn with g | g
      · rw [List.filter_cons_of_neg (by rw [h1]; omega), List.filter_cons_of_pos (by rw [h2]; omega)]
        simp only [List.length_cons]; omega
      · rw [List.filter_cons_of_pos (by rw [h1]; omega), List.filter_cons_of_neg (by rw [h2]; omega)]
        simp only [List.length_cons]; omega
  have := key mid fun q hq => hq
  unfold roundT
  rw [List.filter_reverse]
  simp only [List.length_append, List.length_cons, List.length_reverse, List.length_nil]
  omega
theorem Conv.round_ord {th : Corner → Half} {p0 m : Corner} {mid : List Corner} (C : Conv th (p0 :: (mid ++ [m]))) : (roundT p0 m mid).Pairwise fun a b => 0 < d3 p0 a b := by
  have g := C.ord
  rw [List.pairwise_cons] at g
  obtain ⟨g1, g2⟩ := g
  rw [List.pairwise_append] at g2
  obtain ⟨g3, _, g5⟩ := g2
  have hpm : Bef th p0 m := g1 m (by simp)
  have hP : ∀ q ∈ mid, q ∈ p0 :: (mid ++ [m]) ∧ Bef th p0 q ∧ Bef th q m := fun q hq => ⟨by simp [hq], g1 q (by simp [hq]), g5 q hq m (by simp)⟩
  have key : ∀ a ∈ mid, ∀ b ∈ mid, Bef th a b → (0 < d3 p0 a b ↔ 0 < d3 p0 a m) := fun a ha b hb hab => by
    obtain ⟨a1, a2, a3⟩ := hP a ha
    obtain ⟨b1, b2, b3⟩ := hP b hb
    exact C.low_iff (by simp) a1 b1 (by simp) a2 hab a3 b2 hpm
  have hl : ∀ q, low p0 m q = true ↔ 0 < d3 p0 q m := fun q => by unfold low; simp
  have hmm : ∀ q, low m p0 q = true → 0 < d3 p0 m q := fun q hq => by
    have := low_rev.1 hq
    have := d3_swap' p0 q m
    omega
  unfold roundT
  rw [List.pairwise_append]
  refine ⟨?_, ?_, ?_⟩
  · refine List.Pairwise.imp_of_mem ?_ (g3.filter _)
    intro a b ha hb hab
    obtain ⟨ha1, ha2⟩ := List.mem_filter.1 ha
    obtain ⟨hb1, hb2⟩ := List.mem_filter.1 hb
    exact (key a ha1 b hb1 hab).2 ((hl a).1 ha2)
  · rw [List.pairwise_cons]
    refine ⟨fun q hq => hmm q (List.mem_filter.1 hq).2, ?_⟩
    have : mid.reverse.Pairwise fun a b => Bef th b a := List.pairwise_reverse.2 g3
    refine List.Pairwise.imp_of_mem ?_ (this.filter _)
    intro a b ha hb hab
    obtain ⟨ha1, ha2⟩ := List.mem_filter.1 ha
    obtain ⟨hb1, hb2⟩ := List.mem_filter.1 hb
    rw [List.mem_reverse] at ha1 hb1
    have h1 := key b hb1 a ha1 hab
    have h2 := low_rev.1 hb2
    have h3 := d3_swap' p0 b a
    have hn : d3 p0 b a ≠ 0 := C.non p0 (by simp) b (by simp [hb1]) a (by simp [ha1]) (C.ne (by simp) (hP b hb1).2.1) (C.ne (by simp) (hP a ha1).2.1) (C.ne (by simp [hb1]) hab)
    omega
  · intro a ha b hb
    obtain ⟨ha1, ha2⟩ := List.mem_filter.1 ha
    rcases List.mem_cons.1 hb with rfl | hb
    · exact (hl a).1 ha2
    · obtain ⟨hb1, hb2⟩ := List.mem_filter.1 hb
      rw [List.mem_reverse] at hb1
      obtain ⟨φ, f0, ff⟩ := C.out p0 (by simp)
      obtain ⟨a1, a2, _⟩ := hP a ha1
      obtain ⟨b1, b2, _⟩ := hP b hb1
      exact four5 f0 (ff a a1 (C.ne (by simp) a2).symm) (ff m (by simp) (C.ne (by simp) hpm).symm) (ff b b1 (C.ne (by simp) b2).symm) ((hl a).1 ha2) (hmm b hb2)

/-! ### The specification's way around -/
def nextI (l out : List Corner) : Nat → Int
  | 0 => -1
  | i + 1 => if i = 0 then -1 else if l.getD i default ∈ out then nextI l out i else if nextI l out i < 0 ∨ turn (out.getD (out.length - 1) default) (l.getD (max (nextI l out i) 0).toNat default) (l.getD i default) < 0 then (i : Int) else nextI l out i
def aroundTo (l : List Corner) : Nat → List Corner
  | 0 => [l.getD 0 default]
  | n + 1 => aroundTo l n ++ [l.getD (max (nextI l (aroundTo l n) l.length) 0).toNat default]
def aroundL (l : List Corner) : List Corner := aroundTo l (l.length - 1)
theorem next_find {l out : List Corner} {t : Corner} {u : Corner} (hu : out.getD (out.length - 1) default = u) (hden : 0 < u.Den) (ht : t ∉ out)
    (hlt : ∀ i, 1 ≤ i → i < l.length → l.getD i default ∉ out → l.getD i default ≠ t → 0 < d3 u t (l.getD i default)) :
    ∀ i, i ≤ l.length → ((∀ j, 1 ≤ j → j < i → l.getD j default ≠ t) ∧ (nextI l out i = -1 ∨ ∃ j : Nat, nextI l out i = j ∧ 1 ≤ j ∧ j < i ∧ l.getD j default ∉ out)) ∨ (∃ j : Nat, nextI l out i = j ∧ l.getD j default = t)
  | 0, _ => .inl ⟨fun j h1 h2 => by omega, .inl rfl⟩
  | i + 1, hi => by
    have ih := next_find hu hden ht hlt i (by omega)
    by_cases h0 : i = 0
    · subst h0
      exact .inl ⟨fun j h1 h2 => by omega, .inl rfl⟩
    by_cases hin : l.getD i default ∈ out
    · have e : nextI l out (i + 1) = nextI l out i := by simp only [nextI, if_neg h0, if_pos hin]
      rw [e]
      rcases ih with ⟨i1, i2⟩ | i3
      · refine .inl ⟨fun j h1 h2 => ?_, ?_⟩
        · rcases Nat.lt_or_ge j i with h | h
          · exact i1 j h1 h
          · obtain rfl : j = i := by omega
            exact fun e => ht (e ▸ hin)
        · rcases i2 with i2 | ⟨j, h1, h2, h3, h4⟩
          · exact .inl i2
          · exact .inr ⟨j, h1, h2, by omega, h4⟩
      · exact .inr i3
    have e : nextI l out (i + 1) = if nextI l out i < 0 ∨ turn u (l.getD (max (nextI l out i) 0).toNat default) (l.getD i default) < 0 then (i : Int) else nextI l out i := by
      simp only [nextI, if_neg h0, if_neg hin, hu]
    rw [e]
    clear e
    by_cases hit : l.getD i default = t
    · refine .inr ?_
      rcases ih with ⟨i1, i2 | ⟨j, h1, h2, h3, h4⟩⟩ | ⟨j, h1, h2⟩
      · rw [if_pos (.inl (by omega))]
        exact ⟨i, rfl, hit⟩
      · have hj := hlt j h2 (by omega) h4 (i1 j h2 h3)
        have hs := d3_swap' u t (l.getD j default)
        have hc : nextI l out i < 0 ∨ turn u (l.getD (max (nextI l out i) 0).toNat default) (l.getD i default) < 0 := by
          refine .inr ?_
          rw [h1, show (max (j : Int) 0).toNat = j by omega, turn_neg hden, hit]
          omega
        rw [if_pos hc]
        exact ⟨i, rfl, hit⟩
      · by_cases hc : nextI l out i < 0 ∨ turn u (l.getD (max (nextI l out i) 0).toNat default) (l.getD i default) < 0
        · rw [if_pos hc]; exact ⟨i, rfl, hit⟩
        · rw [if_neg hc]; exact ⟨j, h1, h2⟩
    · rcases ih with ⟨i1, i2⟩ | ⟨j, h1, h2⟩
      · refine .inl ⟨fun j h1 h2 => ?_, ?_⟩
        · rcases Nat.lt_or_ge j i with h | h
          · exact i1 j h1 h
          · obtain rfl : j = i := by omega
            exact hit
        · by_cases hc : nextI l out i < 0 ∨ turn u (l.getD (max (nextI l out i) 0).toNat default) (l.getD i default) < 0
          · rw [if_pos hc]
            have a1 : 1 ≤ i := Nat.pos_of_ne_zero h0
            exact .inr ⟨i, rfl, a1, Nat.lt_succ_self i, hin⟩
          · rw [if_neg hc]
            rcases i2 with i2 | ⟨j, h1, h2, h3, h4⟩
            · exact .inl i2
            · exact .inr ⟨j, h1, h2, by omega, h4⟩
      · refine .inr ⟨j, ?_, h2⟩
        have hg := hlt i (by omega) (by omega) hin hit
        rw [if_neg, h1]
        rintro (h | h)
        · omega
        · rw [h1, show (max (j : Int) 0).toNat = j by omega, h2, turn_neg hden] at h
          omega
end Go.Pg
