/-
  The law HalfOrder: the system in another order, one half-plane's numbers doubled.
-/
import Derived.Test.YtlmljmgappiehaaKC
set_option linter.all false
set_option maxRecDepth 100000
namespace Go.Pg
open Go.Proofs Go.RowKit

def dbl (h : Half) : Half := ⟨2 * h.A, 2 * h.B, 2 * h.C⟩
theorem ef_dbl (h : Half) (q : Corner) : ef (dbl h) q = 2 * ef h q := by unfold dbl ef; grind
/-- A list turned, its first element another one. -/
def turnL (l : List Half) (k : Nat) (x : Half) : List Half := x :: (l.drop (k + 1) ++ l.take k)
theorem turnL_len {l : List Half} {k : Nat} (h : k < l.length) (x : Half) : (turnL l k x).length = l.length := by unfold turnL; simp; omega
theorem turnL_self {l : List Half} {k : Nat} (h : k < l.length) : turnL l k (l.getD k default) = l.drop k ++ l.take k := by
  unfold turnL
  rw [gdI h, List.drop_eq_getElem_cons h]; rfl
theorem turnL_mem {l : List Half} {k : Nat} (h : k < l.length) (x : Half) {y : Half} (hy : y ∈ turnL l k x) : y = x ∨ y ∈ l := by
  unfold turnL at hy
  rcases List.mem_cons.1 hy with hy | hy
  · exact .inl hy
  · rcases List.mem_append.1 hy with hy | hy
    · exact .inr (List.mem_of_mem_drop hy)
    · exact .inr (List.mem_of_mem_take hy)
theorem turnL_has {l : List Half} {k : Nat} (h : k < l.length) (x : Half) {y : Half} (hy : y ∈ l) : y = l.getD k default ∨ y ∈ turnL l k x := by
  have e : l = l.take k ++ l.getD k default :: l.drop (k + 1) := by rw [gdI h]; simp
  rw [e] at hy
  unfold turnL
  rcases List.mem_append.1 hy with hy | hy
  · exact .inr (List.mem_cons_of_mem _ (List.mem_append_right _ hy))
  · rcases List.mem_cons.1 hy with hy | hy
    · exact .inl hy
    · exact .inr (List.mem_cons_of_mem _ (List.mem_append_left _ hy))
theorem turnL_pt {l : List Half} {k : Nat} (h : k < l.length) {x : Half} (hx : ∀ q, ef x q ≤ 0 ↔ ef (l.getD k default) q ≤ 0) (q : Corner) : Pt (turnL l k x) q ↔ Pt l q := by
  have hm : turnL l k x ⊆ turnL l k x := fun _ h => h
  constructor
  · rintro ⟨hD, hq⟩
    refine ⟨hD, fun y hy => ?_⟩
    rcases List.mem_append.1 hy with hy | hy
    · rcases turnL_has h x hy with rfl | hy
      · exact (hx q).1 (hq x (List.mem_append_left _ (by unfold turnL; exact List.mem_cons_self)))
      · exact hq y (List.mem_append_left _ hy)
    · exact hq y (List.mem_append_right _ hy)
  · rintro ⟨hD, hq⟩
    refine ⟨hD, fun y hy => ?_⟩
    rcases List.mem_append.1 hy with hy | hy
    · rcases turnL_mem h x hy with rfl | hy
      · exact (hx q).2 (hq _ (List.mem_append_left _ (gd1 h default)))
      · exact hq y (List.mem_append_left _ hy)
    · exact hq y (List.mem_append_right _ hy)
/-! ### What depends on the points alone -/
theorem inP_pt {l m : List Half} (h : ∀ q, Pt l q ↔ Pt m q) (x y : Nat) : inP (allL l) x y = inP (allL m) x y := by
  unfold inP
  rw [Bool.eq_iff_iff, beq_iff_eq, beq_iff_eq, outside_fe, outside_fe]
  exact ⟨fun g => ((h _).1 ⟨by show (0 : Int) < 1; decide, g⟩).2, fun g => ((h _).2 ⟨by show (0 : Int) < 1; decide, g⟩).2⟩
theorem row_pt {l m : List Half} (h : ∀ q, Pt l q ↔ Pt m q) (y : Nat) : ∀ x, placesRow (allL l) y x = placesRow (allL m) y x
  | 0 => by rw [placesRow_zero, placesRow_zero]
  | x + 1 => by rw [placesRow_succ, placesRow_succ, row_pt h y x, inP_pt h]
theorem to_pt {l m : List Half} (h : ∀ q, Pt l q ↔ Pt m q) : ∀ y, placesTo (allL l) y = placesTo (allL m) y
  | 0 => by rw [placesTo_zero, placesTo_zero]
  | y + 1 => by rw [placesTo_succ, placesTo_succ, to_pt h y, row_pt h]
theorem placesE_pt {l m : List Half} (h1 : checkL l = 0) (h2 : checkL m = 0) (h : ∀ q, Pt l q ↔ Pt m q) : placesE l = placesE m := by
  unfold placesE
  rw [if_pos h1, if_pos h2, (cor_pt h1 h2).2 h, to_pt h]
theorem bestE_pt {l m : List Half} (f : Form) (h1 : checkL l = 0) (h2 : checkL m = 0) (h : ∀ q, Pt l q ↔ Pt m q) : (bestE l f).1.V = (bestE m f).1.V ∧ (bestE l f).2 = (bestE m f).2 := by
  have e := (cor_pt h1 h2).2 h
  by_cases hf : slope f.X f.Y = true
  · by_cases h0 : cornersL l = []
    · have g : ∀ l, checkL l = 0 → cornersL l = [] → bestE l f = (noBound, 9) := fun l h1 h0 => by unfold bestE; rw [if_pos h1, if_pos hf, if_pos h0]
      rw [g l h1 h0, g m h2 (by rw [← e]; exact h0)]
      exact ⟨rfl, rfl⟩
    · obtain ⟨b, e1, v1⟩ := best_val h1 h0 hf
      obtain ⟨c, e2, v2⟩ := best_val h2 (by rw [← e]; exact h0) hf
      rw [e1, e2, v1, v2, e]; exact ⟨rfl, rfl⟩
  · rw [best_none h1 (by simpa using hf), best_none h2 (by simpa using hf)]; exact ⟨rfl, rfl⟩
end Go.Pg
/-
  The law HalfOrder: walk.
-/
set_option linter.all false
set_option maxRecDepth 100000
namespace Go.Pg
open Go.Proofs Go.RowKit

theorem setH {m : List Half} {n k k' : Nat} {p q : Half} (hk : k < m.length) (e1 : k' = k) (e2 : q = p) : D.eqv (.slc 3 n (storeRow (rowH m) k' 0 [I q.A, I q.B, I q.C])) (.slc 3 n (rowH (m.set k p))) := by
  subst e1; subst e2
  refine ⟨rfl, .inr ⟨rfl, fun i _ j hj => ?_⟩⟩
  show D.eqv (storeRow (rowH m) k' 0 [I q.A, I q.B, I q.C] i j) (((m.set k' q).getD i default).at j)
  rw [getDl_set _ _ _ _ _ hk]
  unfold storeRow
  by_cases h : i = k'
  · subst h
    rw [if_pos rfl]
    match j, hj with
    | 0, _ => simp [getD', nth]; exact D.eqv_refl _
    | 1, _ => simp [getD', nth]; exact D.eqv_refl _
    | 2, _ => simp [getD', nth]; exact D.eqv_refl _
  · rw [if_neg h, if_neg (fun hh => h hh.1)]
    exact D.eqv_refl _
theorem turnL_set {l : List Half} {k : Nat} (x y : Half) : (turnL l k x).set 0 y = turnL l k y := by unfold turnL; rfl
theorem lit8 {a : Int} (h : (Lit.int .u8 a).wf = true) : 0 ≤ a ∧ a ≤ 255 := by
  unfold Lit.wf at h
  rw [Bool.and_eq_true, decide_eq_true_iff, decide_eq_true_iff] at h
  exact ⟨h.1, h.2⟩
theorem wrap8 {n : Int} (h : 0 ≤ n ∧ n ≤ 255) : IntKind.wrap .i64 n = n := by
  unfold IntKind.wrap
  have e : n % (2 ^ IntKind.bits .i64 : Int) = n := Int.emod_eq_of_lt h.1 (by show n < 18446744073709551616; omega)
  simp only [e]
  rw [if_neg]
  intro hh
  rw [Bool.and_eq_true, decide_eq_true_iff] at hh
  have : n ≥ (9223372036854775808 : Int) := hh.2
  omega
theorem placesE_len1 (l : List Half) : (placesE l).1.length ≤ 2401 := by
  unfold placesE
  split
  · split
    · simp
    · exact placesTo_len _ 49
  · simp
set_option maxHeartbeats 4000000 in
theorem s_HalfOrder (l : List Half) (by_ : Int) (w : 0 ≤ by_ ∧ by_ ≤ 255) (f : Form) : Spec PP 5 [slH l, .d (.int .u8 by_), f.v] [B true] := by
  refine specC_at [4, 5, 6, 8] Try.func5 rfl (by kernel_rfl) rfl ?_
  refine Split.by (fun h1 => ?_) (fun h1 => ?_)
  · refine Split.tt ?_
    refine Split.tt ?_
    refine Split.tt ?_
    refine Split.tt ?_
    refine CallSt.pure s_sanity rfl rfl ?_
    exact r1B rfl rfl
  have hn : l.length ≤ 12 := by have := dF h1; omega
  refine Split.ff ?_
  refine Split.by (fun h1 => ?_) (fun h1 => ?_)
  · refine Split.tt ?_
    refine Split.tt ?_
    refine CallSt.pure s_sanity rfl rfl ?_
    exact r1B rfl rfl
  have hp : 0 < l.length := by
    have : ¬ ((l.length : Nat) : Int) = 0 := by simpa using h1
    omega
  refine CallSt.pure (s_Check l) rfl rfl ?_
  refine Split.ff ?_
  refine Split.by (fun h1 => ?_) (fun h1 => ?_)
  · refine CallSt.pure s_sanity rfl rfl ?_
    exact r1B rfl rfl
  have h1 : checkL l = 0 := by simpa using h1
  obtain ⟨n1, n2, n3⟩ := checkL_ok h1
  obtain ⟨k, hk, ek⟩ : ∃ k : Nat, k < l.length ∧ (IntKind.wrap .i64 by_).tmod l.length = k := by
    rw [wrap8 w]
    have e : by_.tmod l.length = by_ % l.length := Int.tmod_eq_emod_of_nonneg w.1
    have q1 := Int.emod_nonneg by_ (show (l.length : Int) ≠ 0 by omega)
    have q2 := Int.emod_lt_of_pos by_ (show 0 < (l.length : Int) by omega)
    exact ⟨(by_ % l.length).toNat, by omega, by rw [e]; omega⟩
  refine ⟨(show ((l.length : Nat) : Int) ≠ 0 by omega), ?_⟩
  refine CutOb.at [(0, avOf (slH l)), (5, .box 5 0), (7, .d (I k))] [(5, bxF f)] ⟨rfl, ⟨obF rfl, trivial⟩, avR _ rfl, avQ rfl, avI rfl ek, trivial⟩ ?_
  refine Exists.intro [1, 2, 3, 1005, 1006, 1007, 0, 4, 8, 9] (And.intro (by kernel_rfl) (FzOb.no ?_))
  refine ⟨⟨.inr rfl, by omega, by omega⟩, ?_⟩
  refine ⟨rfl, ⟨rfl, ⟨rfl, ⟨rfl, ⟨rfl, ⟨⟨.inr rfl, by omega, by omega⟩, ⟨rfl, ?_⟩⟩⟩⟩⟩⟩⟩
  refine ⟨⟨.inr rfl, by unfold maxLen; show 0 + (l.length - (k : Int).toNat) ≤ _; omega, by show (0 + (l.length - (k : Int).toNat)) * 24 ≤ 140737488355328; omega⟩, ?_⟩
  refine ⟨⟨.inr rfl, by unfold maxLen; show 0 + (l.length - (k : Int).toNat) + (k : Int).toNat ≤ _; omega, by show (0 + (l.length - (k : Int).toNat) + (k : Int).toNat) * 24 ≤ 140737488355328; omega⟩, ?_⟩
  have tl := fun x => turnL_len hk x
  have hok := n3 _ (gd1 hk default)
  have ha := hok.a; have hb := hok.b; have hc := hok.c
  refine CutOb.at [(0, avOf (slH l)), (5, .box 5 0), (7, .d (I k)), (8, .own 40)] [(5, bxF f), (40, .row 43 3 (turnL l k (l.getD k default)).length (rowH (turnL l k (l.getD k default))))] ⟨rfl, ⟨obF rfl, obR rfl ?_, trivial⟩, avR _ rfl, avQ rfl, avR _ rfl, avQ rfl, trivial⟩ ?_
  · rw [turnL_self hk]
    refine app_row (a := l.drop k) (b := l.take k) (at_ := Half.at) (by show 0 + (l.length - (k : Int).toNat) = _; simp) (by show (k : Int).toNat = _; simp; omega) (fun i hi j hj => ?_) (fun i hi j hj => ?_)
    · unfold appRow
      rw [if_neg (Nat.not_lt_zero _)]
      show D.eqv ((l.getD ((k : Int).toNat + (i - 0)) default).at j) (((l.drop k).getD i default).at j)
      rw [List.getD_eq_getElem?_getD, List.getD_eq_getElem?_getD, List.getElem?_drop, Int.toNat_natCast, Nat.sub_zero]
      exact D.eqv_refl _
    · have hi : i < k := by have : i < (k : Int).toNat := hi; omega
      show D.eqv ((l.getD i default).at j) (((l.take k).getD i default).at j)
      rw [List.getD_eq_getElem?_getD, List.getD_eq_getElem?_getD, List.getElem?_take, if_pos hi]
      exact D.eqv_refl _
  have e0 : (turnL l k (l.getD k default)).getD 0 default = l.getD k default := rfl
  have hl := tl (l.getD k default)
  refine Exists.intro (List.range 19) (And.intro (by kernel_rfl) (FzOb.no ?_))
  have z0 : 0 < (turnL l k (l.getD k default)).length := by omega
  have r1 : inR .i64 (2 * (l.getD k default).A) := inI64 (by omega) (by omega)
  have r2 : inR .i64 (2 * (l.getD k default).B) := inI64 (by omega) (by omega)
  have r3 : inR .i64 (2 * (l.getD k default).C) := inI64 (by omega) (by omega)
  refine ⟨⟨by decide, by omega⟩, ⟨z0, ⟨r1, ?_⟩⟩⟩
  refine ⟨⟨by decide, by omega⟩, ⟨z0, ⟨r2, ?_⟩⟩⟩
  refine ⟨⟨by decide, by omega⟩, ⟨z0, ⟨r3, ?_⟩⟩⟩
  refine ⟨⟨by decide, by omega⟩, ⟨z0, ?_⟩⟩
  refine CutOb.at [(0, avOf (slH l)), (5, .box 5 0), (7, .d (I k)), (8, .own 40)] [(5, bxF f), (40, .row 43 3 (turnL l k (dbl (l.getD k default))).length (rowH (turnL l k (dbl (l.getD k default)))))] ⟨rfl, ⟨obF rfl, obR rfl ?_, trivial⟩, avR _ rfl, avQ rfl, avR _ rfl, avQ rfl, trivial⟩ ?_
  · have := setH (m := turnL l k (l.getD k default)) (n := (turnL l k (l.getD k default)).length) (k := 0) (k' := 0) (p := dbl (l.getD k default)) (q := dbl (l.getD k default)) z0 rfl rfl
    rw [turnL_set] at this
    rw [show (turnL l k (dbl (l.getD k default))).length = (turnL l k (l.getD k default)).length by rw [tl, tl]]
    exact this
  have td := tl (dbl (l.getD k default))
  refine CallSt.pure (s_Check (turnL l k (dbl (l.getD k default)))) rfl rfl ?_
  refine Split.by (fun g1 => ?_) (fun g1 => ?_)
  · refine ⟨⟨rfl, by omega, by omega⟩, ?_⟩
    refine ⟨⟨by decide, by omega⟩, ⟨by omega, ?_⟩⟩
    refine CutOb.at [(0, avOf (slH l)), (5, .box 5 0), (8, avOf (slH (turnL l k (l.getD k default))))] [(5, bxF f)] ⟨rfl, ⟨obF rfl, trivial⟩, avR _ rfl, avQ rfl, avOw rfl rfl rfl ?_, trivial⟩ ?_
    · have := setH (m := turnL l k (dbl (l.getD k default))) (n := (turnL l k (dbl (l.getD k default))).length) (k := 0) (k' := 0) (p := l.getD k default) (q := l.getD k default) (by omega) rfl rfl
      rw [turnL_set] at this
      rw [show (turnL l k (l.getD k default)).length = (turnL l k (dbl (l.getD k default))).length by rw [tl, tl]]
      exact this
    obtain ⟨T, hT, kT, pT⟩ : ∃ T, T = turnL l k (l.getD k default) ∧ checkL T = 0 ∧ ∀ q, Pt l q ↔ Pt T q := ⟨_, rfl, checkL_of h1 (fun y hy => by
      rcases turnL_mem hk _ hy with rfl | hy
      · exact gd1 hk default
      · exact hy) (by omega), fun q => (turnL_pt hk (fun q => Iff.rfl) q).symm⟩
    rw [← hT]
    have cC := corners_spec h1
    have cC2 := corners_spec kT
    rw [← (cor_pt h1 kT).2 pT] at cC2
    have cP := s_Places l
    have cP2 := s_Places T
    rw [← placesE_pt h1 kT pT] at cP2
    have cB := s_Best l f
    have cB2 := s_Best T f
    obtain ⟨bV, bE⟩ := bestE_pt f h1 kT pT
    have lc := cornersL_len (l := l) (by omega)
    have lp := placesE_len1 l
    rw [← bE] at cB2
    refine CallSt.ro cC rfl rfl ?_
    refine CallSt.ro cC2 rfl rfl ?_
    refine CallSt.ro cP rfl rfl ?_
    refine CallSt.ro cP2 rfl rfl ?_
    refine CallSt.ro cB rfl rfl ?_
    refine CallSt.ro cB2 rfl rfl ?_
    refine CallSt.pure s_sanity rfl rfl ?_
    refine Split.tt ?_
    refine Split.tt ?_
    refine Split.yes (ieq _) ?_
    refine CallSt.pure (r_SameCorners (cornersL l) (cornersL l) (by omega)) rfl rfl ?_
    refine Split.tt ?_
    refine Split.yes (decide_eq_true rfl) ?_
    refine Split.tt ?_
    refine Split.yes (ieq _) ?_
    refine CallSt.pure (r_SamePlaces (placesE l).1 (placesE l).1 (by omega)) rfl rfl ?_
    refine Split.tt ?_
    refine Split.yes (decide_eq_true rfl) ?_
    refine Split.tt ?_
    refine Split.yes (ieq _) ?_
    refine Split.tt ?_
    refine r1B rfl ?_
    show ((bestE l f).1.V.Num == (bestE T f).1.V.Num && ((bestE l f).1.V.Den == (bestE T f).1.V.Den && true)) = true
    rw [eqFr, bV]; simp
  · have g1 : checkL (turnL l k (dbl (l.getD k default))) = 0 := by simpa using g1
    refine CutOb.at [(0, avOf (slH l)), (5, .box 5 0), (8, avOf (slH (turnL l k (dbl (l.getD k default)))))] [(5, bxF f)] ⟨rfl, ⟨obF rfl, trivial⟩, avR _ rfl, avQ rfl, avOw rfl rfl rfl (D.eqv_refl _), trivial⟩ ?_
    obtain ⟨T, hT, kT, pT⟩ : ∃ T, T = turnL l k (dbl (l.getD k default)) ∧ checkL T = 0 ∧ ∀ q, Pt l q ↔ Pt T q := ⟨_, rfl, g1, fun q => (turnL_pt hk (fun q => by rw [ef_dbl]; omega) q).symm⟩
    rw [← hT]
    have cC := corners_spec h1
    have cC2 := corners_spec kT
    rw [← (cor_pt h1 kT).2 pT] at cC2
    have cP := s_Places l
    have cP2 := s_Places T
    rw [← placesE_pt h1 kT pT] at cP2
    have cB := s_Best l f
    have cB2 := s_Best T f
    obtain ⟨bV, bE⟩ := bestE_pt f h1 kT pT
    have lc := cornersL_len (l := l) (by omega)
    have lp := placesE_len1 l
    rw [← bE] at cB2
    refine CallSt.ro cC rfl rfl ?_
    refine CallSt.ro cC2 rfl rfl ?_
    refine CallSt.ro cP rfl rfl ?_
    refine CallSt.ro cP2 rfl rfl ?_
    refine CallSt.ro cB rfl rfl ?_
    refine CallSt.ro cB2 rfl rfl ?_
    refine CallSt.pure s_sanity rfl rfl ?_
    refine Split.tt ?_
    refine Split.tt ?_
    refine Split.yes (ieq _) ?_
    refine CallSt.pure (r_SameCorners (cornersL l) (cornersL l) (by omega)) rfl rfl ?_
    refine Split.tt ?_
    refine Split.yes (decide_eq_true rfl) ?_
    refine Split.tt ?_
    refine Split.yes (ieq _) ?_
    refine CallSt.pure (r_SamePlaces (placesE l).1 (placesE l).1 (by omega)) rfl rfl ?_
    refine Split.tt ?_
    refine Split.yes (decide_eq_true rfl) ?_
    refine Split.tt ?_
    refine Split.yes (ieq _) ?_
    refine Split.tt ?_
    refine r1B rfl ?_
    show ((bestE l f).1.V.Num == (bestE T f).1.V.Num && ((bestE l f).1.V.Den == (bestE T f).1.V.Den && true)) = true
    rw [eqFr, bV]; simp
end Go.Pg
