/-
  Plain numbers: digits of 2^30, the least first.
-/
import Derived.Test.YtlmljmgappiehaaGreatK9
set_option linter.all false
namespace Go.Pg
open Go.Proofs Go.RowKit

/-- The digits of a number, as many as it has (at most f). -/
def digF : Nat → Nat → List Int
  | 0, _ => []
  | f + 1, n => if n = 0 then [] else ((n % 1073741824 : Nat) : Int) :: digF f (n / 1073741824)
def digs (n : Nat) : List Int := digF 8 n
def valD' : List Int → Int
  | [] => 0
  | x :: r => x + 1073741824 * valD' r
/-- Digits, all in range. -/
def Dig (l : List Int) : Prop := ∀ x ∈ l, 0 ≤ x ∧ x < 1073741824
def Top (l : List Int) : Prop := ∀ h : l ≠ [], l.getLast h ≠ 0
theorem digF_dig : ∀ (f n : Nat), Dig (digF f n)
  | 0, _, x, hx => by cases hx
  | f + 1, n, x, hx => by
    simp only [digF] at hx
    split at hx
    · cases hx
    · rcases List.mem_cons.1 hx with rfl | hx
      · have := Nat.mod_lt n (show 0 < 1073741824 by decide)
        exact ⟨by omega, by omega⟩
      · exact digF_dig f (n / 1073741824) x hx
theorem digF_val : ∀ (f n : Nat), n < 1073741824 ^ f → valD' (digF f n) = n
  | 0, n, h => by simp at h; subst h; rfl
  | f + 1, n, h => by
    simp only [digF]
    split
    · rename_i h0; subst h0; rfl
    · have h1 : n / 1073741824 < 1073741824 ^ f := by
        rw [Nat.pow_succ] at h
        exact Nat.div_lt_of_lt_mul (by rw [Nat.mul_comm]; exact h)
      simp only [valD', digF_val f _ h1]
      have := Nat.div_add_mod n 1073741824
      omega
theorem digF_top : ∀ (f n : Nat), n < 1073741824 ^ f → Top (digF f n)
  | 0, n, _ => fun h => absurd rfl h
  | f + 1, n, h => by
    have h1 : n / 1073741824 < 1073741824 ^ f := by
      rw [Nat.pow_succ] at h
      exact Nat.div_lt_of_lt_mul (by rw [Nat.mul_comm]; exact h)
    have ih := digF_top f (n / 1073741824) h1
    intro hne
    simp only [digF] at hne ⊢
    split at hne
    · exact absurd rfl hne
    · rename_i h0
      simp only [h0, if_false]
      by_cases hr : digF f (n / 1073741824) = []
      · simp only [hr, List.getLast_singleton]
        have hv := digF_val f (n / 1073741824) h1
        rw [hr] at hv
        simp only [valD'] at hv
        have := Nat.div_add_mod n 1073741824
        omega
      · rw [List.getLast_cons hr]
        exact ih hr
theorem valD_nonneg : ∀ {l : List Int}, Dig l → 0 ≤ valD' l
  | [], _ => Int.le_refl _
  | x :: r, h => by
    have h1 := h x (by simp)
    have h2 := valD_nonneg (l := r) fun y hy => h y (List.mem_cons_of_mem _ hy)
    simp only [valD']
    omega
/-- The value tells the digits. -/
theorem dig_unique : ∀ {l m : List Int}, Dig l → Dig m → Top l → Top m → valD' l = valD' m → l = m
  | [], [], _, _, _, _, _ => rfl
  | [], y :: s, _, h2, _, t2, e => by
    exfalso
    have z : ∀ {l : List Int}, Dig l → valD' l = 0 → ∀ x ∈ l, x = 0 := by
      intro l
      induction l with
      | nil => intro _ _ x hx; cases hx
      | cons a r ih =>
        intro h e x hx
        have h1 := h a (by simp)
        have hr : Dig r := fun y hy => h y (List.mem_cons_of_mem _ hy)
        have h2 := valD_nonneg hr
        simp only [valD'] at e
        rcases List.mem_cons.1 hx with rfl | hx
        · omega
        · exact ih hr (by omega) x hx
    exact t2 (by simp) (z h2 e.symm _ (List.getLast_mem _))
  | x :: r, [], h1, _, t1, _, e => by
    exfalso
    have z : ∀ {l : List Int}, Dig l → valD' l = 0 → ∀ x ∈ l, x = 0 := by
      intro l
      induction l with
      | nil => intro _ _ x hx; cases hx
      | cons a r ih =>
        intro h e x hx
        have h1 := h a (by simp)
        have hr : Dig r := fun y hy => h y (List.mem_cons_of_mem _ hy)
        have h2 := valD_nonneg hr
        simp only [valD'] at e
        rcases List.mem_cons.1 hx with rfl | hx
        · omega
        · exact ih hr (by omega) x hx
    exact t1 (by simp) (z h1 e _ (List.getLast_mem _))
  | x :: r, y :: s, h1, h2, t1, t2, e => by
    have a1 := h1 x (by simp)
    have a2 := h2 y (by simp)
    simp only [valD'] at e
    have hxy : x = y := by omega
    have hv : valD' r = valD' s := by omega
    have tt : ∀ {a : Int} {l : List Int}, Top (a :: l) → Top l := fun {a l} h hne => by
      have := h (by simp)
      rwa [List.getLast_cons hne] at this
    rw [hxy, dig_unique (fun z hz => h1 z (List.mem_cons_of_mem _ hz)) (fun z hz => h2 z (List.mem_cons_of_mem _ hz)) (tt t1) (tt t2) hv]
theorem digF_more : ∀ (f n : Nat), n < 1073741824 ^ f → ∀ g, digF (f + g) n = digF f n := fun f n h g => by
  have h' : n < 1073741824 ^ (f + g) := Nat.lt_of_lt_of_le h (Nat.pow_le_pow_right (by decide) (Nat.le_add_right _ _))
  exact dig_unique (digF_dig _ _) (digF_dig _ _) (digF_top _ _ h') (digF_top _ _ h) (by rw [digF_val _ _ h', digF_val _ _ h])
theorem digF_len : ∀ (f n : Nat), (digF f n).length ≤ f
  | 0, _ => Nat.le_refl _
  | f + 1, n => by
    simp only [digF]
    split
    · simp
    · have := digF_len f (n / 1073741824); simp only [List.length_cons]; omega
theorem valD_append : ∀ (l m : List Int), valD' (l ++ m) = valD' l + 1073741824 ^ l.length * valD' m
  | [], m => by simp [valD']
  | x :: r, m => by
    simp only [List.cons_append, valD', valD_append r m, List.length_cons]
    rw [Int.pow_succ]
    grind
theorem valD_zeros (n : Nat) : valD' (List.replicate n 0) = 0 := by
  induction n with
  | zero => rfl
  | succ n ih => simp only [List.replicate_succ, valD', ih]; rfl
theorem valD_set : ∀ (l : List Int) (i : Nat) (x : Int), i < l.length → valD' (l.set i x) = valD' l + 1073741824 ^ i * (x - l.getD i 0)
  | y :: r, 0, x, _ => by simp only [List.set_cons_zero, valD']; simp [List.getD]; grind
  | y :: r, i + 1, x, h => by
    have ih := valD_set r i x (by simpa using h)
    have e : (y :: r).getD (i + 1) 0 = r.getD i 0 := rfl
    simp only [List.set_cons_succ, valD', ih, e, Int.pow_succ]
    grind
/-- Digits of as many places are compared from the top. -/
theorem valD_lt {l m : List Int} (hl : Dig l) (hm : Dig m) (hlen : l.length = m.length) {i : Nat} (hi : i < l.length) (hup : ∀ j, i < j → j < l.length → l.getD j 0 = m.getD j 0) (h : l.getD i 0 < m.getD i 0) : valD' l < valD' m := by
  induction l generalizing m i with
  | nil => exact absurd hi (Nat.not_lt_zero _)
  | cons x r ih =>
    match m, hlen with
    | y :: s, hlen =>
      have a1 := hl x (by simp)
      have a2 := hm y (by simp)
      have hr : Dig r := fun z hz => hl z (List.mem_cons_of_mem _ hz)
      have hs : Dig s := fun z hz => hm z (List.mem_cons_of_mem _ hz)
      simp only [valD']
      cases i with
      | zero =>
        have h : x < y := h
        have he : r = s := by
          refine List.ext_getElem (by simpa using hlen) fun j h1 h2 => ?_
          have := hup (j + 1) (by omega) (by simpa using h1)
          have e1 : (x :: r).getD (j + 1) 0 = r.getD j 0 := rfl
          have e2 : (y :: s).getD (j + 1) 0 = s.getD j 0 := rfl
          rw [e1, e2, gdI h1, gdI h2] at this
          exact this
        rw [he]; omega
      | succ i =>
        have := ih hr hs (by simpa using hlen) (i := i) (by simpa using hi) (fun j h1 h2 => hup (j + 1) (by omega) (by simpa using h2)) h
        omega
/-- More places: a greater value. -/
theorem valD_len {l m : List Int} (hl : Dig l) (hm : Dig m) (tm : Top m) (h : l.length < m.length) : valD' l < valD' m := by
  have up : ∀ {l : List Int}, Dig l → valD' l < 1073741824 ^ l.length := by
    intro l
    induction l with
    | nil => intro _; simp [valD']
    | cons a r ih =>
      intro h
      have h1 := h a (by simp)
      have h2 := ih fun y hy => h y (List.mem_cons_of_mem _ hy)
      simp only [valD', List.length_cons, Int.pow_succ]
      omega
  have lo : ∀ {m : List Int}, Dig m → Top m → m ≠ [] → (1073741824 : Int) ^ (m.length - 1) ≤ valD' m := by
    intro m
    induction m with
    | nil => intro _ _ h; exact absurd rfl h
    | cons a r ih =>
      intro h t _
      have h1 := h a (by simp)
      have hr : Dig r := fun y hy => h y (List.mem_cons_of_mem _ hy)
      by_cases h0 : r = []
      · subst h0
        have := t (by simp)
        simp only [List.getLast_singleton] at this
        simp [valD']
        omega
      · have tr : Top r := fun hne => by
          have := t (by simp)
          rwa [List.getLast_cons hne] at this
        have h2 := ih hr tr h0
        have hp := List.length_pos_iff.2 h0
        have e : (a :: r).length - 1 = (r.length - 1) + 1 := by simp; omega
        rw [e, Int.pow_succ]
        simp only [valD']
        omega
  have h1 := up hl
  have hm0 : m ≠ [] := by rintro rfl; simp at h
  have h2 := lo hm tm hm0
  have hpp : ∀ n : Nat, 0 < (1073741824 : Int) ^ n := fun n => by
    induction n with
    | zero => rw [Int.pow_zero]; omega
    | succ n ih => rw [Int.pow_succ]; exact Int.mul_pos ih (by omega)
  have h3 : (1073741824 : Int) ^ l.length ≤ (1073741824 : Int) ^ (m.length - 1) := by
    obtain ⟨d, hd⟩ := Nat.exists_eq_add_of_le (show l.length ≤ m.length - 1 by omega)
    rw [hd, Int.pow_add]
    have h4 := Int.mul_le_mul_of_nonneg_left (show 1 ≤ (1073741824 : Int) ^ d from hpp d) (Int.le_of_lt (hpp l.length))
    rw [Int.mul_one] at h4
    exact h4
  omega
end Go.Pg
/-
  Contracts: the specification's big numbers, and on which side of a line a corner lies.
-/
set_option linter.all false
set_option maxRecDepth 100000
namespace Go.Pg
open Go.Proofs Go.RowKit

abbrev rowB (n : Int) : Nat → Nat → D := rowI (digs n.natAbs)
abbrev vBig (n : Int) : V1 := .agg [.slc 1 (digs n.natAbs).length (rowI (digs n.natAbs)), .bool (decide (n < 0))]
theorem eqvBg {x : D} {b c : Bool} {l : List Int} (h : D.eqv x (.slc 1 l.length (rowI l))) (e : b = c) : eqvs [x, .bool b] [.slc 1 l.length (rowI l), .bool c] := ⟨h, e, trivial⟩
theorem p8 : (1073741824 : Nat) ^ 8 = 1766847064778384329583297500742918515827483896875618958121606201292619776 := by decide
theorem p4 : (1073741824 : Nat) ^ 4 = 1329227995784915872903807060280344576 := by decide
theorem eqR1 (n : Int) : rowOf 1 [I n] 0 0 = I n := rfl
theorem pushD {vs : List Int} {p : Int} {n : Nat} (hn : n = vs.length) : D.eqv (.slc 1 (n + 1) (appRow n (rowI vs) (rowOf 1 [I p]))) (.slc 1 (vs ++ [p]).length (rowI (vs ++ [p]))) := pushI hn rfl
theorem r_whole (n : Int) (hn : -9223372036854775807 ≤ n ∧ n ≤ 9223372036854775807) : Spec PP 156 [N n] [vBig n] := by
  have h8 := p8
  refine specC_at [6] Tryz.func156 rfl (by kernel_rfl) rfl ?_
  refine LoopOb.of (σ := Int × List Int × Nat) (fun x => ([(0, .d (I x.1)), (2, .box 2 0), (3, .box 3 0)], [(2, .box [.nilsl, .d (.bool false)]), (3, .box [.own 19, .d (.bool (decide (n < 0)))]), (19, .row 3 1 x.2.1.length (rowI x.2.1))]))
    (fun x => x.1.natAbs < 1073741824 ^ x.2.2 ∧ x.2.1 ++ digF x.2.2 x.1.natAbs = digs n.natAbs ∧ x.2.1.length + x.2.2 = 8 ∧ (-9223372036854775807 ≤ x.1 ∧ x.1 ≤ 9223372036854775807)) (fun x => x.1.natAbs) (n, [], 8)
    ⟨rfl, ⟨obX rfl, ⟨⟨rfl, _, _, _, rfl⟩, D.eqv_refl _, trivial⟩, obZ rfl rfl, trivial⟩, avR _ rfl, avQ rfl, avQ rfl, trivial⟩ ⟨by show n.natAbs < 1073741824 ^ 8; omega, rfl, rfl, hn⟩ fun x hx => ?_
  obtain ⟨x1, x2, x3, x4⟩ := hx
  refine Split.by (fun h1 => ?_) (fun h1 => ?_)
  · have h1 : x.1 ≠ 0 := by simpa using h1
    obtain ⟨f, hf⟩ : ∃ f, x.2.2 = f + 1 := by
      rcases Nat.eq_zero_or_pos x.2.2 with h | h
      · rw [h, Nat.pow_zero] at x1; omega
      · exact ⟨x.2.2 - 1, by omega⟩
    rw [hf] at x1 x2 x3
    have hm : (x.1.tmod 1073741824).natAbs = x.1.natAbs % 1073741824 := by rw [Int.natAbs_tmod]; rfl
    have hq : (x.1.tdiv 1073741824).natAbs = x.1.natAbs / 1073741824 := by rw [Int.natAbs_tdiv]; rfl
    have hlt := Nat.mod_lt x.1.natAbs (show 0 < 1073741824 by decide)
    refine ⟨by decide, ?_⟩
    refine ⟨inI64 (by omega) (by omega), ?_⟩
    refine ⟨⟨.inr rfl, by unfold maxLen; show x.2.1.length + 1 ≤ _; omega, by show (x.2.1.length + 1) * 8 ≤ 140737488355328; omega⟩, ?_⟩
    refine ⟨⟨by decide, inI64 (by omega) (by omega)⟩, ?_⟩
    refine ⟨(x.1.tdiv 1073741824, x.2.1 ++ [((x.1.natAbs % 1073741824 : Nat) : Int)], f), ⟨rfl, ⟨obX rfl, ⟨rfl, D.eqv_refl _, trivial⟩, obR rfl ?_, trivial⟩, avR _ rfl, avQ rfl, avQ rfl, trivial⟩, ⟨?_, ?_, ?_, ?_⟩, ?_⟩
    · have e : max (x.1.tmod 1073741824) (-(x.1.tmod 1073741824)) = ((x.1.natAbs % 1073741824 : Nat) : Int) := by omega
      rw [← e]; exact pushD rfl
    · show (x.1.tdiv 1073741824).natAbs < 1073741824 ^ f
      rw [hq]
      rw [Nat.pow_succ] at x1
      exact Nat.div_lt_of_lt_mul (by rw [Nat.mul_comm]; exact x1)
    · show (x.2.1 ++ [((x.1.natAbs % 1073741824 : Nat) : Int)]) ++ digF f (x.1.tdiv 1073741824).natAbs = digs n.natAbs
      have hne : ¬ x.1.natAbs = 0 := by omega
      rw [hq, ← x2, List.append_assoc]
      simp only [digF, if_neg hne, List.singleton_append]
    · show (x.2.1 ++ [((x.1.natAbs % 1073741824 : Nat) : Int)]).length + f = 8
      rw [List.length_append]; simp; omega
    · have : (x.1.tdiv 1073741824).natAbs ≤ x.1.natAbs := by rw [hq]; exact Nat.div_le_self _ _
      show -9223372036854775807 ≤ x.1.tdiv 1073741824 ∧ x.1.tdiv 1073741824 ≤ 9223372036854775807
      omega
    · show (x.1.tdiv 1073741824).natAbs < x.1.natAbs
      rw [hq]
      exact Nat.div_lt_self (by omega) (by decide)
  · have h1 : x.1 = 0 := by simpa using h1
    have hd : x.2.1 = digs n.natAbs := by
      rw [← x2, h1]
      cases x.2.2 <;> simp [digF]
    refine CutOb.at [(2, .box 2 0), (3, .box 3 0)] [(2, .box [.nilsl, .d (.bool false)]), (3, .box [.d (.slc 1 (digs n.natAbs).length (rowI (digs n.natAbs))), .d (.bool (decide (n < 0)))])] ⟨rfl, ⟨obX rfl, ⟨⟨rfl, _, _, _, _, rfl, ?_⟩, D.eqv_refl _, trivial⟩, trivial⟩, avQ rfl, avQ rfl, trivial⟩ ?_
    · rw [hd]; exact D.eqv_refl _
    exact r1C rfl rfl rfl rfl rfl rfl (eqvBg (D.eqv_refl _) rfl)
theorem r_sub (a b c d : Int) (h1 : -4611686018427387904 ≤ a * d ∧ a * d ≤ 4611686018427387903) (h2 : -4611686018427387904 ≤ c * b ∧ c * b ≤ 4611686018427387903) : Spec PP 140 [N a, N b, N c, N d] [vBig (a * d - c * b)] := by
  refine spec_at Tryz.func140 rfl (by kernel_rfl) rfl ?_
  refine ⟨inI64 (by omega) (by omega), ⟨inI64 (by omega) (by omega), ⟨inI64 (by omega) (by omega), ?_⟩⟩⟩
  refine CallSt.ro (r_whole (a * d - c * b) (by omega)) rfl rfl ?_
  exact r1C rfl rfl rfl rfl rfl rfl (eqvBg (D.eqv_refl _) rfl)
/-! ### Comparison -/
theorem ord_neg (a b : Int) : ord (-a) (-b) = -ord a b := by unfold ord; split <;> split <;> (try split) <;> (try split) <;> omega
theorem digs_dig (n : Nat) : Dig (digs n) := digF_dig 8 n
theorem digs_val {n : Nat} (h : n < 1073741824 ^ 8) : valD' (digs n) = n := digF_val 8 n h
theorem digs_top {n : Nat} (h : n < 1073741824 ^ 8) : Top (digs n) := digF_top 8 n h
theorem digs_len (n : Nat) : (digs n).length ≤ 8 := digF_len 8 n
theorem ord_lt {a b : Int} (h : a < b) : ord a b = -1 := by unfold ord; rw [if_pos h]
theorem ord_gt {a b : Int} (h : b < a) : ord a b = 1 := by unfold ord; rw [if_neg (by omega), if_pos h]
theorem ord_eq (a : Int) : ord a a = 0 := by unfold ord; rw [if_neg (Int.lt_irrefl a), if_neg (Int.lt_irrefl a)]
theorem r_compare (a b : Int) (ha : a.natAbs < 1073741824 ^ 8) (hb : b.natAbs < 1073741824 ^ 8) : Spec PP 141 [vBig a, vBig b] [N (ord a b)] := by
  have la := digs_len a.natAbs
  have lb := digs_len b.natAbs
  have da := digs_dig a.natAbs
  have db := digs_dig b.natAbs
  have ta := digs_top ha
  have tb := digs_top hb
  have va := digs_val ha
  have vb := digs_val hb
  refine spec_at Tryz.func141 rfl (by kernel_rfl) rfl ?_
  refine Split.by (fun h1 => ?_) (fun h1 => ?_)
  · have h1 : ¬ (decide (a < 0) = decide (b < 0)) := by simpa using h1
    refine Split.by (fun h2 => ?_) (fun h2 => ?_)
    · have h2 : a < 0 := dT h2
      have h3 : ¬ b < 0 := fun h => h1 (by rw [decide_eq_true h2, decide_eq_true h])
      exact r1I rfl (ord_lt (by omega)).symm
    · have h2 : ¬ a < 0 := dF h2
      have h3 : b < 0 := Classical.not_not.1 fun h => h1 (by rw [decide_eq_false h2, decide_eq_false h])
      exact r1I rfl (ord_gt (by omega)).symm
  have h1 : decide (a < 0) = decide (b < 0) := by simpa using h1
  refine ⟨inI64 (by omega) (by omega), ?_⟩
  refine CallSt.pure (r_sign _) rfl rfl ?_
  refine ⟨inI64 (by omega) (by omega), ?_⟩
  generalize hX : digs a.natAbs = X at *
  generalize hY : digs b.natAbs = Y at *
  refine LoopOb.of (σ := Nat × Int) (fun x => ([(2, .box 2 0), (3, .box 3 0), (5, .d (I x.2)), (6, .d (I ((x.1 : Int) - 1)))], [(2, .box [.d (.slc 1 X.length (rowI X)), .d (.bool (decide (a < 0)))]), (3, .box [.d (.slc 1 Y.length (rowI Y)), .d (.bool (decide (b < 0)))])]))
    (fun x => x.1 ≤ X.length ∧ ((x.2 = 0 ∧ X.length = Y.length ∧ ∀ j, x.1 ≤ j → j < X.length → X.getD j 0 = Y.getD j 0) ∨ (x.2 ≠ 0 ∧ x.2 = ord (valD' X) (valD' Y)))) (fun x => x.1) (X.length, ord ((X.length : Int) - Y.length) 0)
    ⟨rfl, ⟨obX rfl, obX rfl, trivial⟩, avQ rfl, avQ rfl, avR _ rfl, avR _ rfl, trivial⟩ ⟨Nat.le_refl _, ?_⟩ fun x hx => ?_
  · show (ord ((X.length : Int) - Y.length) 0 = 0 ∧ X.length = Y.length ∧ ∀ j, X.length ≤ j → j < X.length → X.getD j 0 = Y.getD j 0) ∨ (ord ((X.length : Int) - Y.length) 0 ≠ 0 ∧ ord ((X.length : Int) - Y.length) 0 = ord (valD' X) (valD' Y))
    rcases Nat.lt_trichotomy X.length Y.length with h | h | h
    · refine .inr ?_
      rw [ord_lt (show (X.length : Int) - Y.length < 0 by omega), ord_lt (valD_len da db tb h)]
      exact ⟨by decide, rfl⟩
    · exact .inl ⟨by rw [h, Int.sub_self]; exact ord_eq 0, h, fun j h1 h2 => by omega⟩
    · refine .inr ?_
      rw [ord_gt (show 0 < (X.length : Int) - Y.length by omega), ord_gt (valD_len db da ta h)]
      exact ⟨by decide, rfl⟩
  obtain ⟨x1, x2⟩ := hx
  have fin : (x.1 = 0 ∨ x.2 ≠ 0) → (decide (a < 0) = true → ord a b = -x.2) ∧ (decide (a < 0) = false → ord a b = x.2) := fun hh => by
    have e : x.2 = ord (valD' X) (valD' Y) := by
      rcases x2 with ⟨e1, e2, e3⟩ | ⟨_, e2⟩
      · have h0 : x.1 = 0 := by
          rcases hh with h | h
          · exact h
          · exact absurd e1 h
        have : X = Y := by
          refine List.ext_getElem e2 fun j g1 g2 => ?_
          have := e3 j (by omega) g1
          rwa [gdI g1, gdI g2] at this
        rw [e1, this, ord_eq]
      · exact e2
    rw [va, vb] at e
    constructor
    · intro hneg
      have h2 := hneg
      rw [h1] at h2
      have q1 : a < 0 := of_decide_eq_true hneg
      have q2 : b < 0 := of_decide_eq_true h2
      rw [e, ← ord_neg]
      congr 1 <;> omega
    · intro hneg
      have h2 := hneg
      rw [h1] at h2
      have q1 : ¬ a < 0 := of_decide_eq_false hneg
      have q2 : ¬ b < 0 := of_decide_eq_false h2
      rw [e]
      congr 1 <;> omega
  have hxb : -1 ≤ x.2 ∧ x.2 ≤ 1 := by
    rcases x2 with ⟨e, _⟩ | ⟨_, e⟩
    · omega
    · rw [e]; exact ord_bd _ _
  refine Split.by (fun g1 => ?_) (fun g1 => ?_)
  · have g1 : 0 < x.1 := by have := dT g1; omega
    refine Split.tt ?_
    refine Split.by (fun g2 => ?_) (fun g2 => ?_)
    · have g2 : x.2 = 0 := by simpa using g2
      rcases x2 with ⟨e1, e2, e3⟩ | ⟨e1, _⟩
      case inr => exact absurd g2 e1
      obtain ⟨k, hk⟩ : ∃ k, x.1 = k + 1 := ⟨x.1 - 1, by omega⟩
      have ek : ((x.1 : Int) - 1).toNat = k := by omega
      have mX := da _ (gd1 (show k < X.length by omega) 0)
      have mY := db _ (gd1 (show k < Y.length by omega) 0)
      refine Exists.intro (List.range 13) (And.intro (by kernel_rfl) (FzOb.no ?_))
      refine ⟨⟨rfl, by omega, by omega⟩, ⟨⟨rfl, by omega, by omega⟩, ?_⟩⟩
      refine ⟨inI64 (by rw [ek]; omega) (by rw [ek]; omega), ?_⟩
      refine CallOb.pure (r_sign _) rfl rfl ?_
      refine ⟨inI64 (by omega) (by omega), ?_⟩
      refine ⟨(k, ord (X.getD k 0 - Y.getD k 0) 0), ⟨rfl, ⟨obX rfl, obX rfl, trivial⟩, avQ rfl, avQ rfl, avI rfl (by rw [ek]), avI rfl (by show (x.1 : Int) - 1 - 1 = (k : Int) - 1; omega), trivial⟩, ⟨(show k ≤ X.length by omega), ?_⟩, (show k < x.1 by omega)⟩
      show (ord (X.getD k 0 - Y.getD k 0) 0 = 0 ∧ X.length = Y.length ∧ ∀ j, k ≤ j → j < X.length → X.getD j 0 = Y.getD j 0) ∨ (ord (X.getD k 0 - Y.getD k 0) 0 ≠ 0 ∧ ord (X.getD k 0 - Y.getD k 0) 0 = ord (valD' X) (valD' Y))
      rcases Int.lt_trichotomy (X.getD k 0) (Y.getD k 0) with h | h | h
      · refine .inr ?_
        rw [ord_lt (show X.getD k 0 - Y.getD k 0 < 0 by omega), ord_lt (valD_lt da db e2 (i := k) (by omega) (fun j q1 q2 => e3 j (by omega) q2) h)]
        exact ⟨by decide, rfl⟩
      · refine .inl ⟨by rw [h, Int.sub_self]; exact ord_eq 0, e2, fun j q1 q2 => ?_⟩
        rcases Nat.lt_or_ge k j with q | q
        · exact e3 j (by omega) q2
        · obtain rfl : j = k := by omega
          exact h
      · refine .inr ?_
        rw [ord_gt (show 0 < X.getD k 0 - Y.getD k 0 by omega), ord_gt (valD_lt db da e2.symm (i := k) (by omega) (fun j q1 q2 => (e3 j (by omega) (by omega)).symm) h)]
        exact ⟨by decide, rfl⟩
    · have g2 : x.2 ≠ 0 := by simpa using g2
      obtain ⟨f1, f2⟩ := fin (.inr g2)
      refine Split.by (fun g3 => ?_) (fun g3 => ?_)
      · refine ⟨inI64 (by omega) (by omega), ?_⟩
        exact r1I rfl (f1 g3).symm
      · exact r1I rfl (f2 g3).symm
  · have g1 : x.1 = 0 := by have := dF g1; omega
    obtain ⟨f1, f2⟩ := fin (.inl g1)
    refine Split.ff ?_
    refine Split.ff ?_
    refine Split.by (fun g3 => ?_) (fun g3 => ?_)
    · refine ⟨inI64 (by omega) (by omega), ?_⟩
      exact r1I rfl (f1 g3).symm
    · exact r1I rfl (f2 g3).symm
end Go.Pg
/-
  Contracts: the product of big numbers; on which side of a line a corner lies.
-/
set_option linter.all false
set_option maxRecDepth 100000
namespace Go.Pg
open Go.Proofs Go.RowKit

theorem digB {l : List Int} (h : Dig l) (i : Nat) : 0 ≤ l.getD i 0 ∧ l.getD i 0 < 1073741824 := by
  rcases Nat.lt_or_ge i l.length with hi | hi
  · exact h _ (gd1 hi 0)
  · rw [List.getD_eq_getElem?_getD, List.getElem?_eq_none hi]; decide
theorem dig_set {l : List Int} (h : Dig l) {i : Nat} {x : Int} (hx : 0 ≤ x ∧ x < 1073741824) : Dig (l.set i x) := fun y hy => by
  rcases List.mem_or_eq_of_mem_set hy with hy | hy
  · exact h y hy
  · rw [hy]; exact hx
theorem valD_take_succ {l : List Int} {i : Nat} (h : i < l.length) : valD' (l.take (i + 1)) = valD' (l.take i) + 1073741824 ^ i * l.getD i 0 := by
  rw [take1 h 0, valD_append, List.length_take, Nat.min_eq_left (by omega)]
  simp [valD']
/-- An element of a row of numbers is written over. -/
theorem setI {m : List Int} {n k k' : Nat} {p q : Int} (hk : k < m.length) (e1 : k' = k) (e2 : q = p) : D.eqv (.slc 1 n (storeRow (rowI m) k' 0 [I q])) (.slc 1 n (rowI (m.set k p))) := by
  subst e1; subst e2
  refine ⟨rfl, .inr ⟨rfl, fun i hi j hj => ?_⟩⟩
  obtain rfl : j = 0 := by omega
  show D.eqv (storeRow (rowI m) k' 0 [I q] i 0) (I ((m.set k' q).getD i 0))
  rw [getDl_set m k' i q 0 hk]
  unfold storeRow
  by_cases h : i = k'
  · rw [if_pos h, if_pos ⟨h, Nat.le_refl _, by simp⟩]
    exact ⟨rfl, rfl⟩
  · rw [if_neg h, if_neg fun hh => h hh.1]
    exact ⟨rfl, rfl⟩
theorem setI' {m : List Int} {k k' : Nat} {p q : Int} (hk : k < m.length) (e1 : k' = k) (e2 : q = p) : D.eqv (.slc 1 m.length (storeRow (rowI m) k' 0 [I q])) (.slc 1 (m.set k p).length (rowI (m.set k p))) := by
  rw [List.length_set]; exact setI hk e1 e2
/-- Zeros at the top count for nothing. -/
theorem valD_top {l : List Int} {n : Nat} (h : ∀ j, n ≤ j → j < l.length → l.getD j 0 = 0) : valD' (l.take n) = valD' l := by
  have z : ∀ {l : List Int}, (∀ x ∈ l, x = 0) → valD' l = 0 := by
    intro l
    induction l with
    | nil => intro _; rfl
    | cons x r ih =>
      intro h
      simp only [valD', h x (by simp), ih fun y hy => h y (List.mem_cons_of_mem _ hy)]
      rfl
  have e : valD' (l.drop n) = 0 := z fun x hx => by
    obtain ⟨j, hj, rfl⟩ := List.mem_iff_getElem.1 hx
    rw [List.length_drop] at hj
    rw [List.getElem_drop, ← gdI (by omega)]
    exact h _ (by omega) (by omega)
  conv => rhs; rw [← List.take_append_drop n l, valD_append, e]
  simp
theorem mulneg {a b : Int} (h : a * b ≠ 0) : (!(decide (a < 0) == decide (b < 0))) = decide (a * b < 0) := by
  have ha : a ≠ 0 := by rintro rfl; simp at h
  have hb : b ≠ 0 := by rintro rfl; simp at h
  by_cases h1 : a < 0 <;> by_cases h2 : b < 0
  · have := Int.mul_pos_of_neg_of_neg h1 h2
    simp [h1, h2]; omega
  · have := Int.mul_neg_of_neg_of_pos h1 (show 0 < b by omega)
    simp [h1, h2, this]
  · have := Int.mul_neg_of_pos_of_neg (show 0 < a by omega) h2
    simp [h1, h2, this]
  · have := Int.mul_pos (show 0 < a by omega) (show 0 < b by omega)
    simp [h1, h2]; omega
theorem takeD {l : List Int} {n : Nat} (h : n ≤ l.length) : D.eqv (.slc 1 n (rowI l)) (.slc 1 (l.take n).length (rowI (l.take n))) := by
  refine ⟨by rw [List.length_take]; omega, .inr ⟨rfl, fun i hi j hj => ?_⟩⟩
  show D.eqv (I (l.getD i 0)) (I ((l.take n).getD i 0))
  rw [gdI (show i < l.length by omega), gdI (show i < (l.take n).length by rw [List.length_take]; omega), List.getElem_take]
  exact ⟨rfl, rfl⟩
theorem zeros_row {n n' : Nat} (h : n' = n) : D.eqv (.slc 1 n' (fun _ j => getD' [I 0] j)) (.slc 1 (List.replicate n (0 : Int)).length (rowI (List.replicate n 0))) := by
  subst h
  refine ⟨by simp, .inr ⟨rfl, fun i hi j hj => ?_⟩⟩
  obtain rfl : j = 0 := by omega
  show D.eqv (I 0) (I ((List.replicate n' (0 : Int)).getD i 0))
  rw [List.getD_eq_getElem?_getD, List.getElem?_replicate]
  split <;> exact ⟨rfl, rfl⟩
/-- One step of the product: digit and carry. -/
theorem step_val {P : Int} {V c n o xi yk pw : Int} (hn : n = o + xi * yk + c) (hV : V + P * c = pw) (q r : Int) (hqr : n = 1073741824 * q + r) : V + P * (r - o) + P * 1073741824 * q = pw + P * (xi * yk) := by
  have : r - o + 1073741824 * q = xi * yk + c := by omega
  have e : P * (r - o) + P * 1073741824 * q = P * (xi * yk + c) := by rw [← this]; grind
  have e2 : P * (xi * yk + c) = P * (xi * yk) + P * c := by grind
  omega
theorem r_times (a b : Int) (ha : a.natAbs < 1073741824 ^ 4) (hb : b.natAbs < 1073741824 ^ 4) : Spec PP 142 [vBig a, vBig b] [vBig (a * b)] := by
  have h4 := p4
  have h8 := p8
  have la := digs_len a.natAbs
  have lb := digs_len b.natAbs
  have da := digs_dig a.natAbs
  have db := digs_dig b.natAbs
  have va := digs_val (n := a.natAbs) (by omega)
  have vb := digs_val (n := b.natAbs) (by omega)
  have hab : (a * b).natAbs < 1073741824 ^ 8 := by
    rw [Int.natAbs_mul]
    have : a.natAbs * b.natAbs < 1073741824 ^ 4 * 1073741824 ^ 4 := Nat.mul_lt_mul_of_lt_of_lt ha hb
    rw [← Nat.pow_add] at this
    exact this
  refine spec_at Tryz.func142 rfl (by kernel_rfl) rfl ?_
  refine ⟨inI64 (by omega) (by omega), ⟨inI64 (by omega) (by omega), ?_⟩⟩
  generalize hX : digs a.natAbs = X at *
  generalize hY : digs b.natAbs = Y at *
  have hN : ((X.length : Int) + Y.length + 1).toNat = X.length + Y.length + 1 := by omega
  refine ⟨⟨by omega, rfl, (by rw [hN]; show (X.length + Y.length + 1) * 1 ≤ _; omega), (by rw [hN]; show (X.length + Y.length + 1) * 8 ≤ _; omega)⟩, ?_⟩
  refine LoopOb.of (σ := Nat × List Int) (fun x => ([(2, .box 2 0), (3, .box 3 0), (4, .box 4 0), (5, .own 19), (6, .d (I x.1))], [(2, .box [.d (.slc 1 X.length (rowI X)), .d (.bool (decide (a < 0)))]), (3, .box [.d (.slc 1 Y.length (rowI Y)), .d (.bool (decide (b < 0)))]), (4, .box [.nilsl, .d (.bool false)]), (19, .row 3 1 x.2.length (rowI x.2))]))
    (fun x => x.1 ≤ X.length ∧ x.2.length = X.length + Y.length + 1 ∧ Dig x.2 ∧ valD' x.2 = valD' (X.take x.1) * valD' Y ∧ ∀ j, x.1 + Y.length ≤ j → x.2.getD j 0 = 0) (fun x => X.length - x.1) (0, List.replicate (X.length + Y.length + 1) 0)
    ⟨rfl, ⟨obX rfl, obX rfl, obX rfl, obR rfl (zeros_row hN), trivial⟩, avQ rfl, avQ rfl, avQ rfl, avQ rfl, avR _ rfl, trivial⟩ ⟨Nat.zero_le _, by simp, fun y hy => by rw [List.eq_of_mem_replicate hy]; decide, by simp [valD_zeros, valD'], fun j _ => ?_⟩ fun x hx => ?_
  · show (List.replicate (X.length + Y.length + 1) (0 : Int)).getD j 0 = 0
    rw [List.getD_eq_getElem?_getD, List.getElem?_replicate]; split <;> rfl
  obtain ⟨i, out0⟩ := x
  obtain ⟨x1, x2, x3, x4, x5⟩ := hx
  simp only at x1 x2 x3 x4 x5
  refine Split.by (fun h1 => ?_) (fun h1 => ?_)
  · have h1 : i < X.length := by have := dT h1; omega
    refine LoopOb.of (σ := Nat × Int × List Int) (fun x => ([(2, .box 2 0), (3, .box 3 0), (4, .box 4 0), (5, .own 19), (6, .d (I i)), (7, .d (I x.2.1)), (8, .d (I x.1))], [(2, .box [.d (.slc 1 X.length (rowI X)), .d (.bool (decide (a < 0)))]), (3, .box [.d (.slc 1 Y.length (rowI Y)), .d (.bool (decide (b < 0)))]), (4, .box [.nilsl, .d (.bool false)]), (19, .row 3 1 x.2.2.length (rowI x.2.2))]))
      (fun x => x.1 ≤ Y.length ∧ x.2.2.length = X.length + Y.length + 1 ∧ Dig x.2.2 ∧ (0 ≤ x.2.1 ∧ x.2.1 < 1073741824) ∧ valD' x.2.2 + 1073741824 ^ (i + x.1) * x.2.1 = valD' (X.take i) * valD' Y + 1073741824 ^ i * (X.getD i 0 * valD' (Y.take x.1)) ∧ ∀ j, i + Y.length ≤ j → x.2.2.getD j 0 = 0) (fun x => Y.length - x.1) (0, 0, out0)
      ⟨rfl, ⟨obX rfl, obX rfl, obX rfl, obR rfl (D.eqv_refl _), trivial⟩, avQ rfl, avQ rfl, avQ rfl, avQ rfl, avR _ rfl, avR _ rfl, avR _ rfl, trivial⟩ ⟨Nat.zero_le _, x2, x3, ⟨Int.le_refl 0, show (0:Int) < 1073741824 by decide⟩, by simp [valD', x4], x5⟩ fun x hx => ?_
    obtain ⟨k, c, out⟩ := x
    obtain ⟨y1, y2, y3, y4, y5, y6⟩ := hx
    simp only at y1 y2 y3 y4 y5 y6
    have mx := digB da i
    refine Split.by (fun h2 => ?_) (fun h2 => ?_)
    · have h2 : k < Y.length := by have := dT h2; omega
      have ek : ((i : Int) + k).toNat = i + k := by omega
      have mo := digB y3 (i + k)
      have my := digB db k
      have hmul := mulB (a := X.getD i 0) (x := 1073741823) (b := Y.getD k 0) (y := 1073741823) (by omega) (by omega)
      have hmul0 := Int.mul_nonneg mx.1 my.1
      refine Exists.intro (List.range 21) (And.intro (by kernel_rfl) (FzOb.no ?_))
      have hlen : out.length = X.length + Y.length + 1 := y2
      obtain ⟨n, hn⟩ : ∃ n, n = out.getD (i + k) 0 + X.getD i 0 * Y.getD k 0 + c := ⟨_, rfl⟩
      have hn0 : 0 ≤ n := by omega
      have eq1 : n.tdiv 1073741824 = n / 1073741824 := Int.tdiv_eq_ediv_of_nonneg hn0
      have er1 : n.tmod 1073741824 = n % 1073741824 := Int.tmod_eq_emod_of_nonneg hn0
      refine ⟨inI64 (by omega) (by omega), ⟨⟨by omega, by show (i : Int) + k < (out.length : Int); omega⟩, ⟨by show ((i : Int) + k).toNat < out.length; omega, ⟨⟨rfl, by omega, by omega⟩, ⟨⟨rfl, by show (0 : Int) ≤ k; omega, by show (k : Int) < Y.length; omega⟩, ?_⟩⟩⟩⟩⟩
      refine ⟨(show inR .i64 (X.getD i 0 * Y.getD k 0) from inI64 (by omega) (by omega)), ⟨(show inR .i64 (out.getD (i + k) 0 + X.getD i 0 * Y.getD k 0) from inI64 (by omega) (by omega)), ⟨(show inR .i64 (out.getD (i + k) 0 + X.getD i 0 * Y.getD k 0 + c) from inI64 (by omega) (by omega)), ?_⟩⟩⟩
      refine ⟨(show inR .i64 ((i : Int) + k) from inI64 (by omega) (by omega)), ⟨by decide, ⟨⟨(show 0 ≤ (i : Int) + k by omega), by show (i : Int) + k < (out.length : Int); omega⟩, ⟨by show ((i : Int) + k).toNat < out.length; omega, ?_⟩⟩⟩⟩
      refine ⟨⟨by decide, (show inR .i64 ((out.getD (i + k) 0 + X.getD i 0 * Y.getD k 0 + c).tdiv 1073741824) by rw [← hn, eq1]; exact inI64 (by omega) (by omega))⟩, ?_⟩
      refine ⟨(show inR .i64 ((k : Int) + 1) from inI64 (by omega) (by omega)), ?_⟩
      refine ⟨(k + 1, n / 1073741824, out.set (i + k) (n % 1073741824)), ⟨rfl, ⟨obX rfl, obX rfl, obX rfl, obR rfl (setI' (m := out) (k := i + k) (by omega) rfl (show (out.getD (i + k) 0 + X.getD i 0 * Y.getD k 0 + c).tmod 1073741824 = n % 1073741824 by rw [← hn, er1])), trivial⟩, avQ rfl, avQ rfl, avQ rfl, avQ rfl, avQ rfl, avI rfl (show (out.getD (i + k) 0 + X.getD i 0 * Y.getD k 0 + c).tdiv 1073741824 = n / 1073741824 by rw [← hn, eq1]), avI rfl (show (k : Int) + 1 = ((k + 1 : Nat) : Int) by omega), trivial⟩, ⟨?_, ?_, ?_, ?_, ?_, ?_⟩, (show Y.length - (k + 1) < Y.length - k by omega)⟩
      · show k + 1 ≤ Y.length; omega
      · show (out.set (i + k) (n % 1073741824)).length = _; rw [List.length_set]; exact hlen
      · exact dig_set y3 (by omega)
      · show 0 ≤ n / 1073741824 ∧ n / 1073741824 < 1073741824
        omega
      · show valD' (out.set (i + k) (n % 1073741824)) + 1073741824 ^ (i + (k + 1)) * (n / 1073741824) = valD' (X.take i) * valD' Y + 1073741824 ^ i * (X.getD i 0 * valD' (Y.take (k + 1)))
        have e1 : valD' (out.set (i + k) (n % 1073741824)) = valD' out + 1073741824 ^ (i + k) * (n % 1073741824 - out.getD (i + k) 0) := valD_set out (i + k) _ (by omega)
        rw [e1, valD_take_succ h2, ← Nat.add_assoc, Int.pow_succ]
        rw [step_val hn y5 (n / 1073741824) (n % 1073741824) (by omega)]
        rw [Int.pow_add]
        grind
      · intro j hj
        show (out.set (i + k) (n % 1073741824)).getD j 0 = 0
        have := y6 j hj
        rw [List.getD_eq_getElem?_getD, List.getElem?_set_ne (by omega), ← List.getD_eq_getElem?_getD]
        exact this
    · have h2 : k = Y.length := by have := dF h2; omega
      subst h2
      have hlen : out.length = X.length + Y.length + 1 := y2
      have mo := digB y3 (i + Y.length)
      have mo0 : out.getD (i + Y.length) 0 = 0 := y6 _ (Nat.le_refl _)
      refine Exists.intro (List.range 18) (And.intro (by kernel_rfl) (FzOb.no ?_))
      have b1 : inR .i64 ((i : Int) + Y.length) := inI64 (by omega) (by omega)
      have b2 : 0 ≤ (i : Int) + Y.length ∧ (i : Int) + Y.length < (out.length : Int) := ⟨by omega, by omega⟩
      have b3 : ((i : Int) + Y.length).toNat < out.length := by omega
      refine ⟨b1, ⟨b1, ⟨b2, ⟨b3, ⟨(show inR .i64 (out.getD (i + Y.length) 0 + c) from inI64 (by omega) (by omega)), ⟨b2, ⟨b3, ?_⟩⟩⟩⟩⟩⟩⟩
      refine ⟨inI64 (by omega) (by omega), ?_⟩
      refine ⟨(i + 1, out.set (i + Y.length) (out.getD (i + Y.length) 0 + c)), ⟨rfl, ⟨obX rfl, obX rfl, obX rfl, obR rfl (setI' (m := out) (k := i + Y.length) (by omega) rfl rfl), trivial⟩, avQ rfl, avQ rfl, avQ rfl, avQ rfl, avI rfl (show (i : Int) + 1 = ((i + 1 : Nat) : Int) by omega), trivial⟩, ⟨?_, ?_, ?_, ?_, ?_⟩, (show X.length - (i + 1) < X.length - i by omega)⟩
      · show i + 1 ≤ X.length; omega
      · show (out.set (i + Y.length) (out.getD (i + Y.length) 0 + c)).length = _; rw [List.length_set]; exact hlen
      · exact dig_set y3 (by omega)
      · show valD' (out.set (i + Y.length) (out.getD (i + Y.length) 0 + c)) = valD' (X.take (i + 1)) * valD' Y
        have e1 : valD' (out.set (i + Y.length) (out.getD (i + Y.length) 0 + c)) = valD' out + 1073741824 ^ (i + Y.length) * (out.getD (i + Y.length) 0 + c - out.getD (i + Y.length) 0) := valD_set out (i + Y.length) _ (by omega)
        have e2 : out.getD (i + Y.length) 0 + c - out.getD (i + Y.length) 0 = c := by omega
        rw [List.take_length] at y5
        rw [e1, e2, valD_take_succ h1, y5]
        grind
      · intro j hj
        show (out.set (i + Y.length) (out.getD (i + Y.length) 0 + c)).getD j 0 = 0
        have := y6 j (by omega)
        rw [List.getD_eq_getElem?_getD, List.getElem?_set_ne (by omega), ← List.getD_eq_getElem?_getD]
        exact this
  · have h1 : i = X.length := by have := dF h1; omega
    subst h1
    have hlen : out0.length = X.length + Y.length + 1 := x2
    rw [List.take_length, va, vb] at x4
    have hv : valD' out0 = ((a * b).natAbs : Nat) := by rw [x4, Int.natAbs_mul]; omega
    refine LoopOb.of (σ := Nat) (fun n => ([(4, .box 4 0), (10, .box 10 0)], [(4, .box [.nilsl, .d (.bool false)]), (10, .box [.d (.slc 1 n (rowI out0)), .d (.bool (!(decide (a < 0) == decide (b < 0))))])]))
      (fun n => n ≤ out0.length ∧ ∀ j, n ≤ j → j < out0.length → out0.getD j 0 = 0) (fun n => n) out0.length
      ⟨rfl, ⟨obX rfl, ⟨D.eqv_refl _, D.eqv_refl _, trivial⟩, trivial⟩, avQ rfl, avQ rfl, trivial⟩ ⟨Nat.le_refl _, fun j h1 h2 => by omega⟩ fun n hx => ?_
    obtain ⟨z1, z2⟩ := hx
    have hdg : Dig (out0.take n) := fun y hy => x3 y (List.mem_of_mem_take hy)
    have hvt : valD' (out0.take n) = ((a * b).natAbs : Nat) := by rw [valD_top z2, hv]
    have fin : (n = 0 ∨ out0.getD (n - 1) 0 ≠ 0) → out0.take n = digs (a * b).natAbs := fun hh => by
      refine dig_unique hdg (digs_dig _) (fun hne => ?_) (digs_top hab) (by rw [hvt, digs_val hab])
      have h0 : n ≠ 0 := by rintro rfl; simp at hne
      have h1 := hh.resolve_left h0
      have hl : (out0.take n).length = n := by rw [List.length_take]; omega
      rw [List.getLast_eq_getElem, List.getElem_take]
      rw [gdI (by omega)] at h1
      simpa only [hl] using h1
    refine Split.by (fun g1 => ?_) (fun g1 => ?_)
    · have g1 : 0 < n := by have := dT g1; omega
      obtain ⟨k, rfl⟩ : ∃ k, n = k + 1 := ⟨n - 1, by omega⟩
      have ek : (((k + 1 : Nat) : Int) - 1).toNat = k := by omega
      refine ⟨inI64 (by omega) (by omega), ⟨⟨rfl, by omega, by omega⟩, ?_⟩⟩
      refine Split.tt ?_
      refine Split.by (fun g2 => ?_) (fun g2 => ?_)
      · have g2 : out0.getD k 0 = 0 := by rw [← ek]; simpa using g2
        refine ⟨inI64 (by omega) (by omega), ⟨⟨.inr rfl, by omega, by omega⟩, ?_⟩⟩
        refine ⟨k, ⟨rfl, ⟨obX rfl, ⟨(show D.eqv (.slc 1 (((k + 1 : Nat) : Int) - 1).toNat (rowI out0)) (.slc 1 k (rowI out0)) by rw [ek]; exact D.eqv_refl _), D.eqv_refl _, trivial⟩, trivial⟩, avQ rfl, avQ rfl, trivial⟩, ⟨by omega, fun j h1 h2 => ?_⟩, by omega⟩
        rcases Nat.eq_or_lt_of_le h1 with h | h
        · rw [← h]; exact g2
        · exact z2 j h h2
      · have g2 : out0.getD k 0 ≠ 0 := by rw [← ek]; simpa using g2
        have hf := fin (.inr (by simpa using g2))
        refine Split.ff ?_
        have hl : (out0.take (k + 1)).length = k + 1 := by rw [List.length_take]; omega
        have hne : a * b ≠ 0 := fun h => by
          rw [h] at hf
          rw [hf] at hl
          simp [digs, digF] at hl
        refine r1C rfl rfl rfl rfl rfl rfl (eqvBg ?_ (mulneg hne))
        rw [← hf]
        exact takeD z1
    · have g1 : n = 0 := by have := dF g1; omega
      subst g1
      have hf := fin (.inl rfl)
      have h0 : a * b = 0 := by
        rw [List.take_zero] at hvt
        simp only [valD'] at hvt
        omega
      refine Split.ff ?_
      refine Split.ff ?_
      refine Split.tt ?_
      refine r1C rfl rfl rfl rfl rfl rfl (eqvBg ?_ (by rw [h0]; rfl))
      rw [← hf]
      exact takeD z1
end Go.Pg
/-
  Contracts: the specification's turn.
-/
set_option linter.all false
set_option maxRecDepth 100000
namespace Go.Pg
open Go.Proofs Go.RowKit

theorem nat4 {n : Int} (h : -4611686018427387904 ≤ n ∧ n ≤ 4611686018427387904) : n.natAbs < 1073741824 ^ 4 := by
  have := p4; omega
theorem r_turn (a b c : Corner) (ha : okC a) (hb : okC b) (hc : okC c) : Spec PP 112 [a.v, b.v, c.v] [N (turn a b c)] := by
  have da := ha.d
  have db := hb.d
  have dc := hc.d
  have h1 := mulB hb.x (b := a.Den) (y := 2097152) (by omega)
  have h2 := mulB ha.x (b := b.Den) (y := 2097152) (by omega)
  have h3 := mulB hb.y (b := a.Den) (y := 2097152) (by omega)
  have h4 := mulB ha.y (b := b.Den) (y := 2097152) (by omega)
  have h5 := mulB hc.x (b := a.Den) (y := 2097152) (by omega)
  have h6 := mulB ha.x (b := c.Den) (y := 2097152) (by omega)
  have h7 := mulB hc.y (b := a.Den) (y := 2097152) (by omega)
  have h8 := mulB ha.y (b := c.Den) (y := 2097152) (by omega)
  have g : ∀ x y : Int, x.natAbs < 1073741824 ^ 4 → y.natAbs < 1073741824 ^ 4 → (x * y).natAbs < 1073741824 ^ 8 := fun x y hx hy => by
    rw [Int.natAbs_mul]
    have : x.natAbs * y.natAbs < 1073741824 ^ 4 * 1073741824 ^ 4 := Nat.mul_lt_mul_of_lt_of_lt hx hy
    rw [← Nat.pow_add] at this
    exact this
  have k1 : (b.X * a.Den - a.X * b.Den).natAbs < 1073741824 ^ 4 := nat4 (by omega)
  have k2 : (b.Y * a.Den - a.Y * b.Den).natAbs < 1073741824 ^ 4 := nat4 (by omega)
  have k3 : (c.X * a.Den - a.X * c.Den).natAbs < 1073741824 ^ 4 := nat4 (by omega)
  have k4 : (c.Y * a.Den - a.Y * c.Den).natAbs < 1073741824 ^ 4 := nat4 (by omega)
  refine spec_at Tryz.func112 rfl (by kernel_rfl) rfl ?_
  refine CallSt.ro (r_sub b.X b.Den a.X a.Den (by omega) (by omega)) rfl rfl ?_
  refine CallSt.ro (r_sub b.Y b.Den a.Y a.Den (by omega) (by omega)) rfl rfl ?_
  refine CallSt.ro (r_sub c.X c.Den a.X a.Den (by omega) (by omega)) rfl rfl ?_
  refine CallSt.ro (r_sub c.Y c.Den a.Y a.Den (by omega) (by omega)) rfl rfl ?_
  refine Exists.intro (List.range 8) (And.intro (by kernel_rfl) (FzOb.no ?_))
  refine CallOb.ro (r_times _ _ k1 k4) rfl rfl ?_
  refine CallOb.ro (r_times _ _ k2 k3) rfl rfl ?_
  refine CallOb.pure (r_compare _ _ (g _ _ k1 k4) (g _ _ k2 k3)) rfl rfl ?_
  have e : turn a b c = ord ((b.X * a.Den - a.X * b.Den) * (c.Y * a.Den - a.Y * c.Den)) ((b.Y * a.Den - a.Y * b.Den) * (c.X * a.Den - a.X * c.Den)) := by unfold turn; rfl
  rw [e]
  exact r1I rfl rfl
end Go.Pg
/-
  Contracts: the specification's extreme points and its way around.
-/
set_option linter.all false
set_option maxRecDepth 100000
namespace Go.Pg
open Go.Proofs Go.RowKit

theorem r_extreme (l : List Corner) (a : Nat) (ha : a < l.length) (hl : ∀ q ∈ l, okC q) (hn : l.length ≤ 1000000) (hnon : ∀ i k, i < l.length → k < l.length → i ≠ k → i ≠ a → k ≠ a → turn (l.getD i default) (l.getD k default) (l.getD a default) ≠ 0) : Spec PP 58 [slC l, N a] [B true] := by
  refine spec_at Tryz.func58 rfl (by kernel_rfl) rfl ?_
  refine LoopOb.of (σ := Nat) (fun i => ([(0, avOf (slC l)), (1, .d (I a)), (5, .d (I i))], [])) (fun i => i ≤ l.length) (fun i => l.length - i) 0
    ⟨rfl, trivial, avR _ rfl, avR _ rfl, avR _ rfl, trivial⟩ (Nat.zero_le _) fun i hi => ?_
  refine Split.by (fun h1 => ?_) (fun h1 => ?_)
  · have h1 : i < l.length := by have := dT h1; omega
    refine LoopOb.of (σ := Nat) (fun k => ([(0, avOf (slC l)), (1, .d (I a)), (5, .d (I i)), (6, .d (I k))], [])) (fun k => k ≤ i) (fun k => i - k) 0
      ⟨rfl, trivial, avR _ rfl, avR _ rfl, avR _ rfl, avR _ rfl, trivial⟩ (Nat.zero_le _) fun k hk => ?_
    refine Split.by (fun h2 => ?_) (fun h2 => ?_)
    · have h2 : k < i := by have := dT h2; omega
      refine Exists.intro (List.range 49) (And.intro (by kernel_rfl) (FzOb.no ?_))
      refine Split.by (fun g1 => ?_) (fun g1 => ?_)
      · have g1 : i ≠ a := fun e => by subst e; simp at g1
        refine Split.tt ?_
        refine Split.by (fun g2 => ?_) (fun g2 => ?_)
        · have g2 : k ≠ a := fun e => by subst e; simp at g2
          have hne := hnon i k h1 (by omega) (by omega) g1 g2
          refine ⟨⟨rfl, by omega, by omega⟩, ⟨⟨rfl, by omega, by omega⟩, ⟨⟨rfl, by omega, by omega⟩, ?_⟩⟩⟩
          refine CallOb.pure (r_turn (l.getD i default) (l.getD k default) (l.getD a default) (hl _ (gd1 h1 default)) (hl _ (gd1 (by omega) default)) (hl _ (gd1 ha default))) rfl rfl ?_
          refine Split.tt ?_
          refine Split.no (by simpa using hne) ?_
          repeat refine Split.ff ?_
          refine ⟨inI64 (by omega) (by omega), ?_⟩
          exact ⟨k + 1, ⟨rfl, trivial, avR _ rfl, avR _ rfl, avR _ rfl, avI rfl rfl, trivial⟩, h2, (show i - (k + 1) < i - k by omega)⟩
        · repeat refine Split.ff ?_
          refine ⟨inI64 (by omega) (by omega), ?_⟩
          exact ⟨k + 1, ⟨rfl, trivial, avR _ rfl, avR _ rfl, avR _ rfl, avI rfl rfl, trivial⟩, h2, (show i - (k + 1) < i - k by omega)⟩
      · repeat refine Split.ff ?_
        refine ⟨inI64 (by omega) (by omega), ?_⟩
        exact ⟨k + 1, ⟨rfl, trivial, avR _ rfl, avR _ rfl, avR _ rfl, avI rfl rfl, trivial⟩, h2, (show i - (k + 1) < i - k by omega)⟩
    · refine ⟨inI64 (by omega) (by omega), ?_⟩
      exact ⟨i + 1, ⟨rfl, trivial, avR _ rfl, avR _ rfl, avI rfl rfl, trivial⟩, h1, (show l.length - (i + 1) < l.length - i by omega)⟩
  · exact r1B rfl rfl
theorem r_has (l : List Corner) (p : Corner) (hn : l.length ≤ 1000000) : Spec PP 113 [slC l, p.v] [B (decide (p ∈ l))] := by
  refine spec_at Tryz.func113 rfl (by kernel_rfl) rfl ?_
  refine LoopOb.of (σ := Nat) (fun i => ([(0, avOf (slC l)), (3, .box 3 0), (5, .d (I i))], [(3, .box [.d (I p.X), .d (I p.Y), .d (I p.Den)])])) (fun i => i ≤ l.length ∧ ∀ m, m < i → l.getD m default ≠ p) (fun i => l.length - i) 0
    ⟨rfl, ⟨obD [I p.X, I p.Y, I p.Den] rfl, trivial⟩, avR _ rfl, avQ rfl, avR _ rfl, trivial⟩ ⟨Nat.zero_le _, fun m hm => absurd hm (Nat.not_lt_zero _)⟩ fun i hi => ?_
  obtain ⟨i1, i2⟩ := hi
  refine Split.by (fun h1 => ?_) (fun h1 => ?_)
  · have h1 : i < l.length := by have := dT h1; omega
    refine Exists.intro (List.range 6) (And.intro (by kernel_rfl) (FzOb.no ?_))
    refine ⟨⟨rfl, by omega, by omega⟩, ?_⟩
    refine Split.by (fun h3 => ?_) (fun h3 => ?_)
    · have h3 : (l.getD i default == p) = true := by
        have h3 : (((l.getD i default).X == p.X && ((l.getD i default).Y == p.Y && ((l.getD i default).Den == p.Den && (true))))) = true := h3
        rw [eqCs] at h3
        exact h3
      have h3 : l.getD i default = p := by simpa using h3
      refine r1B rfl ?_
      exact (decide_eq_true (h3 ▸ gd1 h1 default)).symm
    · have h3 : (l.getD i default == p) = false := by
        have h3 : (((l.getD i default).X == p.X && ((l.getD i default).Y == p.Y && ((l.getD i default).Den == p.Den && (true))))) = false := h3
        rw [eqCs] at h3
        exact h3
      have h3 : l.getD i default ≠ p := by simpa using h3
      refine ⟨inI64 (by omega) (by omega), ?_⟩
      refine ⟨i + 1, ⟨rfl, ⟨obD [I p.X, I p.Y, I p.Den] rfl, trivial⟩, avR _ rfl, avQ rfl, avI rfl rfl, trivial⟩, ⟨h1, fun m hm => ?_⟩, (show l.length - (i + 1) < l.length - i by omega)⟩
      rcases Nat.lt_or_ge m i with h | h
      · exact i2 m h
      · obtain rfl : m = i := by omega
        exact h3
  · have h1 : i = l.length := by have := dF h1; omega
    refine r1B rfl ?_
    refine (decide_eq_false fun hp => ?_).symm
    obtain ⟨m, hm, e⟩ := List.mem_iff_getElem.1 hp
    exact i2 m (by omega) (by rw [gdI hm]; exact e)
end Go.Pg
/-
  Contracts: the specification's way around.
-/
set_option linter.all false
set_option maxRecDepth 100000
namespace Go.Pg
open Go.Proofs Go.RowKit

theorem around_len (l : List Corner) : ∀ n, (aroundTo l n).length = n + 1
  | 0 => rfl
  | n + 1 => by simp only [aroundTo, List.length_append, around_len l n, List.length_singleton]
theorem next_bd (l out : List Corner) : ∀ i, -1 ≤ nextI l out i ∧ nextI l out i < max (i : Int) 1
  | 0 => by simp only [nextI]; omega
  | i + 1 => by
    have := next_bd l out i
    simp only [nextI]
    split
    · omega
    · split
      · omega
      · split <;> omega
theorem around_mem {l : List Corner} (h : l ≠ []) : ∀ n, ∀ q ∈ aroundTo l n, q ∈ l
  | 0, q, hq => by
    simp only [aroundTo, List.mem_singleton] at hq
    rw [hq]; exact gd1 (List.length_pos_iff.2 h) default
  | n + 1, q, hq => by
    simp only [aroundTo, List.mem_append, List.mem_singleton] at hq
    rcases hq with hq | rfl
    · exact around_mem h n q hq
    · have := next_bd l (aroundTo l n) l.length
      have := List.length_pos_iff.2 h
      exact gd1 (by omega) default
/-- A corner is put behind a row of corners. -/
theorem pushC {vs : List Corner} {p : Corner} {n : Nat} (hn : n = vs.length) : D.eqv (.slc 3 (n + 1) (appRow n (rowC vs) (rowOf 3 [I p.X, I p.Y, I p.Den]))) (.slc 3 (vs ++ [p]).length (rowC (vs ++ [p]))) := by
  subst hn
  refine ⟨by simp, .inr ⟨rfl, fun i hi j hj => ?_⟩⟩
  show D.eqv (appRow vs.length (rowC vs) (rowOf 3 [I p.X, I p.Y, I p.Den]) i j) (((vs ++ [p]).getD i default).at j)
  unfold appRow
  by_cases h : i < vs.length
  · rw [if_pos h, gdI (show i < (vs ++ [p]).length by simp; omega), List.getElem_append_left h, ← gdI h default]
    exact D.eqv_refl _
  · obtain rfl : i = vs.length := by omega
    rw [if_neg h, gdI (show vs.length < (vs ++ [p]).length by simp), List.getElem_append_right (Nat.le_refl _)]
    simp only [Nat.sub_self, List.getElem_singleton]
    match j, hj with
    | 0, _ => exact D.eqv_refl _
    | 1, _ => exact D.eqv_refl _
    | 2, _ => exact D.eqv_refl _
theorem oneC (p : Corner) : D.eqv (.slc 3 1 (rowOf 3 [I p.X, I p.Y, I p.Den])) (.slc 3 [p].length (rowC [p])) := by
  refine ⟨rfl, .inr ⟨rfl, fun i hi j hj => ?_⟩⟩
  obtain rfl : i = 0 := by omega
  match j, hj with
  | 0, _ => exact D.eqv_refl _
  | 1, _ => exact D.eqv_refl _
  | 2, _ => exact D.eqv_refl _
theorem r_around (l : List Corner) (h0 : l ≠ []) (hl : ∀ q ∈ l, okC q) (hn : l.length ≤ 1000000) : Spec PP 59 [slC l] [slC (aroundL l)] := by
  have hp := List.length_pos_iff.2 h0
  refine spec_at Tryz.func59 rfl (by kernel_rfl) rfl ?_
  refine ⟨⟨rfl, by omega, by omega⟩, ?_⟩
  refine LoopOb.of (σ := Nat) (fun n => ([(0, avOf (slC l)), (3, .own 9)], [(9, .row 50 3 (aroundTo l n).length (rowC (aroundTo l n)))])) (fun n => n < l.length) (fun n => l.length - n) 0
    ⟨rfl, ⟨obR rfl (oneC _), trivial⟩, avR _ rfl, avQ rfl, trivial⟩ hp fun n hx => ?_
  have hlen := around_len l n
  have hmem := around_mem h0 n
  refine Split.by (fun h1 => ?_) (fun h1 => ?_)
  · have h1n : n + 1 < l.length := by have := dT h1; omega
    clear h1
    have hto : aroundTo l (n + 1) = aroundTo l n ++ [l.getD (max (nextI l (aroundTo l n) l.length) 0).toNat default] := rfl
    generalize hO : aroundTo l n = O at *
    refine LoopOb.of (σ := Nat) (fun i => ([(0, avOf (slC l)), (3, .own 9), (4, .d (I (nextI l O i))), (5, .d (I i))], [(9, .row 50 3 O.length (rowC O))])) (fun i => 1 ≤ i ∧ i ≤ l.length) (fun i => l.length - i) 1
      ⟨rfl, ⟨obR rfl (D.eqv_refl _), trivial⟩, avR _ rfl, avQ rfl, avR _ rfl, avR _ rfl, trivial⟩ ⟨Nat.le_refl _, hp⟩ fun i hi => ?_
    obtain ⟨i1, i2⟩ := hi
    have bd := next_bd l O i
    refine Split.by (fun h2 => ?_) (fun h2 => ?_)
    · have h2 : i < l.length := by have := dT h2; omega
      refine ⟨⟨rfl, by omega, by omega⟩, ?_⟩
      refine CallSt.pure (r_has O (l.getD i default) (by omega)) rfl rfl ?_
      refine Split.by (fun h3 => ?_) (fun h3 => ?_)
      · have h3 : l.getD i default ∈ O := by simpa using h3
        have e : nextI l O (i + 1) = nextI l O i := by simp only [nextI, if_neg (show ¬ i = 0 by omega), if_pos h3]
        refine ⟨inI64 (by omega) (by omega), ?_⟩
        exact ⟨i + 1, ⟨rfl, ⟨obR rfl (D.eqv_refl _), trivial⟩, avR _ rfl, avQ rfl, avI rfl e.symm, avI rfl rfl, trivial⟩, ⟨by omega, h2⟩, (show l.length - (i + 1) < l.length - i by omega)⟩
      · have h3 : l.getD i default ∉ O := by simpa using h3
        have e : nextI l O (i + 1) = if nextI l O i < 0 ∨ turn (O.getD (O.length - 1) default) (l.getD (max (nextI l O i) 0).toNat default) (l.getD i default) < 0 then (i : Int) else nextI l O i := by
          simp only [nextI, if_neg (show ¬ i = 0 by omega), if_neg h3]
        refine Exists.intro (List.range 21) (And.intro (by kernel_rfl) (FzOb.no ?_))
        refine Split.by (fun h4 => ?_) (fun h4 => ?_)
        · have h4 : nextI l O i < 0 := dT h4
          refine Split.tt ?_
          refine Split.tt ?_
          rw [if_pos (.inl h4)] at e
          refine ⟨inI64 (by omega) (by omega), ?_⟩
          exact ⟨i + 1, ⟨rfl, ⟨obR rfl (D.eqv_refl _), trivial⟩, avR _ rfl, avQ rfl, avI rfl e.symm, avI rfl rfl, trivial⟩, ⟨by omega, h2⟩, (show l.length - (i + 1) < l.length - i by omega)⟩
        · have h4 : ¬ nextI l O i < 0 := dF h4
          have eo : ((O.length : Int) - 1).toNat = O.length - 1 := by omega
          have hm : (max (nextI l O i) 0).toNat < l.length := by omega
          refine ⟨inI64 (by omega) (by omega), ⟨⟨by omega, by omega⟩, ⟨by omega, ⟨⟨rfl, (show 0 ≤ max (nextI l O i) 0 by omega), (show max (nextI l O i) 0 < (l.length : Int) by omega)⟩, ⟨⟨rfl, by omega, by omega⟩, ?_⟩⟩⟩⟩⟩
          refine CallOb.pure (r_turn (O.getD ((O.length : Int) - 1).toNat default) (l.getD (max (nextI l O i) 0).toNat default) (l.getD i default) (hl _ (hmem _ (gd1 (by omega) default))) (hl _ (gd1 hm default)) (hl _ (gd1 h2 default))) rfl rfl ?_
          refine Split.ff ?_
          rw [← eo] at e
          refine Split.by (fun h5 => ?_) (fun h5 => ?_)
          · rw [if_pos (.inr (dT h5))] at e
            refine ⟨inI64 (by omega) (by omega), ?_⟩
            exact ⟨i + 1, ⟨rfl, ⟨obR rfl (D.eqv_refl _), trivial⟩, avR _ rfl, avQ rfl, avI rfl e.symm, avI rfl rfl, trivial⟩, ⟨by omega, h2⟩, (show l.length - (i + 1) < l.length - i by omega)⟩
          · rw [if_neg (by rintro (h | h); exact h4 h; exact dF h5 h)] at e
            refine ⟨inI64 (by omega) (by omega), ?_⟩
            exact ⟨i + 1, ⟨rfl, ⟨obR rfl (D.eqv_refl _), trivial⟩, avR _ rfl, avQ rfl, avI rfl e.symm, avI rfl rfl, trivial⟩, ⟨by omega, h2⟩, (show l.length - (i + 1) < l.length - i by omega)⟩
    · have h2 : i = l.length := by have := dF h2; omega
      subst h2
      refine ⟨⟨rfl, (show 0 ≤ max (nextI l O l.length) 0 by omega), (show max (nextI l O l.length) 0 < (l.length : Int) by omega)⟩, ?_⟩
      refine ⟨⟨.inr rfl, by unfold maxLen; omega, by show (O.length + 1) * 24 ≤ 140737488355328; omega⟩, ?_⟩
      refine ⟨n + 1, ⟨rfl, ⟨obR rfl ?_, trivial⟩, avR _ rfl, avQ rfl, trivial⟩, h1n, (show l.length - (n + 1) < l.length - n by omega)⟩
      rw [hto]
      exact pushC rfl
  · have h1 : n = l.length - 1 := by have := dF h1; omega
    subst h1
    exact ⟨⟨_, _, _, _, rfl, D.eqv_refl _⟩, trivial⟩
end Go.Pg
/-
  Contracts: the specification's corners and places of a system.
-/
set_option linter.all false
set_option maxRecDepth 100000
namespace Go.Pg
open Go.Proofs Go.RowKit

abbrev vPts (x : List Corner × Int) : V1 := .agg [.slc 3 x.1.length (rowC x.1), I x.2]
abbrev vSpots (x : List Place × Int) : V1 := .agg [.slc 2 x.1.length (rowPl x.1), I x.2]
theorem eqvP {x y : D} {a b : Int} (h : D.eqv x y) (e : a = b) : eqvs [x, I a] [y, I b] := ⟨h, ⟨rfl, e⟩, trivial⟩
theorem avN {s : St} {ob : Nat → Option Ob} {v : AV} {j e k : Nat} {f : Nat → Nat → D} (h : v = .nilsl) (h1 : s.ob j = none) (h2 : ob j = some (.row e k 0 f)) : AVle s ob v (.own j) := by subst h; exact ⟨h1, e, k, f, h2⟩
theorem avN' {s : St} {ob : Nat → Option Ob} {v : AV} {j e k : Nat} {f : Nat → Nat → D} (h : v = .d .nil) (h1 : s.ob j = none) (h2 : ob j = some (.row e k 0 f)) : AVle s ob v (.own j) := by subst h; exact ⟨h1, e, k, f, h2⟩
theorem crs_valid {l : List Half} (hl : ∀ x ∈ l, okH x) : ∀ q ∈ crsL l, okC q := fun q hq => okC_of ((crs_iff hl q).1 hq).va
theorem turn_ne {a b c : Corner} (ha : 0 < a.Den) (h : d3 a b c ≠ 0) : turn a b c ≠ 0 := fun e => by
  have h1 := (turn_pos (b := b) (c := c) ha).1 (by omega)
  have h2 : ¬ d3 a b c < 0 := fun h => by have := (turn_neg (b := b) (c := c) ha).2 h; omega
  omega
theorem r_Corners (l : List Half) : Spec PP 14 [slH l] [vPts (cornersE l)] := by
  refine specC_at [14] Tryz.func14 rfl (by kernel_rfl) rfl ?_
  refine CallSt.pure (r_Check l) rfl rfl ?_
  refine Split.by (fun h1 => ?_) (fun h1 => ?_)
  · have h1 : checkL l ≠ 0 := by simpa using h1
    have e : cornersE l = ([], checkL l) := by unfold cornersE; rw [if_neg h1]
    rw [e]
    exact r1C rfl rfl rfl rfl rfl rfl (eqvP rfl rfl)
  have h1 : checkL l = 0 := by simpa using h1
  obtain ⟨n1, n2, n3⟩ := checkL_ok h1
  refine CallSt.ro (r_crossings l n3 (by omega)) rfl rfl ?_
  refine Split.by (fun h2 => ?_) (fun h2 => ?_)
  · have h2 : crsL l = [] := len_nil.1 h2
    have e : cornersE l = ([], 9) := by unfold cornersE; rw [if_pos h1, if_pos ((cor_nil n3).2 h2)]
    rw [e]
    exact r1C rfl rfl rfl rfl rfl rfl (eqvP rfl rfl)
  have h2 : crsL l ≠ [] := fun h => by rw [len_nil.2 h] at h2; cases h2
  have e : cornersE l = (aroundL (crsL l), 0) := by unfold cornersE; rw [if_pos h1, if_neg fun h => h2 ((cor_nil n3).1 h), cor_around n3 h2]
  have C := crs_conv n3
  have hnd := C.nodup
  have hlen := crsL_len n3 (by omega)
  have hok := crs_valid n3
  refine LoopOb.of (σ := Nat) (fun i => ([(2, .box 2 0), (4, avOf (slC (crsL l))), (5, .own 5), (6, .d (I i))], [(2, .box [.nilsl, .d (I 0)]), (5, .row 50 3 ((crsL l).take i).length (rowC ((crsL l).take i)))])) (fun i => i ≤ (crsL l).length) (fun i => (crsL l).length - i) 0
    ⟨rfl, ⟨obX rfl, obR rfl ⟨rfl, .inl rfl⟩, trivial⟩, avQ rfl, avR _ rfl, avQ rfl, avR _ rfl, trivial⟩ (Nat.zero_le _) fun i hi => ?_
  refine Split.by (fun h3 => ?_) (fun h3 => ?_)
  · have h3 : i < (crsL l).length := by have := dT h3; omega
    have dist : ∀ i k, i < (crsL l).length → k < (crsL l).length → i ≠ k → (crsL l).getD i default ≠ (crsL l).getD k default := fun i k hi hk hne e => by
      rw [gdI hi, gdI hk] at e
      have hp := List.pairwise_iff_getElem.1 hnd
      rcases Nat.lt_or_gt_of_ne hne with h | h
      · exact hp i k hi hk h e
      · exact hp k i hk hi h e.symm
    refine CallSt.pure (r_extreme (crsL l) i h3 hok (by omega) fun a k ha hk h4 h5 h6 => turn_ne (C.den _ (gd1 ha default)) (C.non _ (gd1 ha default) _ (gd1 hk default) _ (gd1 h3 default) (dist _ _ ha hk h4) (dist _ _ ha h3 h5) (dist _ _ hk h3 h6))) rfl rfl ?_
    refine Split.tt ?_
    have hl : ((crsL l).take i).length = i := by rw [List.length_take]; omega
    refine ⟨⟨rfl, by omega, by omega⟩, ?_⟩
    refine ⟨⟨.inr rfl, by unfold maxLen; omega, by show (((crsL l).take i).length + 1) * 24 ≤ 140737488355328; omega⟩, ?_⟩
    refine ⟨inI64 (by omega) (by omega), ?_⟩
    refine ⟨i + 1, ⟨rfl, ⟨obX rfl, obR rfl ?_, trivial⟩, avQ rfl, avR _ rfl, avQ rfl, avI rfl rfl, trivial⟩, h3, (show (crsL l).length - (i + 1) < (crsL l).length - i by omega)⟩
    rw [take1 h3 default]
    exact pushC rfl
  · have h3 : i = (crsL l).length := by have := dF h3; omega
    subst h3
    refine CutOb.at [(2, .box 2 0), (5, avOf (slC (crsL l)))] [(2, .box [.nilsl, .d (I 0)])] ⟨rfl, ⟨obX rfl, trivial⟩, avQ rfl, avOw rfl rfl rfl ?_, trivial⟩ ?_
    · rw [List.take_length]; exact D.eqv_refl _
    refine CallSt.ro (r_around (crsL l) h2 hok (by omega)) rfl rfl ?_
    rw [e]
    exact r1C rfl rfl rfl rfl rfl rfl (eqvP (D.eqv_refl _) rfl)
/-- A place of the map is in the polygon exactly if it lies in each of the system's halves. -/
theorem inP_lies (l : List Half) {x y : Nat} (hx : x ≤ 48) (hy : y ≤ 48) : (l.all fun h => lies h ⟨x, y, 1⟩) = inP (allL l) x y := by
  rw [Bool.eq_iff_iff]
  unfold inP
  rw [beq_iff_eq, outside_fe, List.all_eq_true]
  constructor
  · intro h g hg
    rcases List.mem_append.1 hg with hg | hg
    · exact (lies_ef g _).1 (h g hg)
    · simp only [sidesL, List.mem_cons, List.not_mem_nil, or_false] at hg
      rcases hg with rfl | rfl | rfl | rfl <;> simp only [ef] <;> omega
  · intro h g hg
    exact (lies_ef g _).2 (h g (List.mem_append_left _ hg))
theorem r_Places (l : List Half) : Spec PP 16 [slH l] [vSpots (placesE l)] := by
  refine specC_at [16] Tryz.func16 rfl (by kernel_rfl) rfl ?_
  refine CallSt.pure (r_Check l) rfl rfl ?_
  refine Split.by (fun h1 => ?_) (fun h1 => ?_)
  · have h1 : checkL l ≠ 0 := by simpa using h1
    have e : placesE l = ([], checkL l) := by unfold placesE; rw [if_neg h1]
    rw [e]
    exact r1C rfl rfl rfl rfl rfl rfl (eqvP rfl rfl)
  have h1 : checkL l = 0 := by simpa using h1
  obtain ⟨n1, n2, n3⟩ := checkL_ok h1
  refine CallSt.ro (r_crossings l n3 (by omega)) rfl rfl ?_
  refine Split.by (fun h2 => ?_) (fun h2 => ?_)
  · have h2 : crsL l = [] := len_nil.1 h2
    have e : placesE l = ([], 9) := by unfold placesE; rw [if_pos h1, if_pos ((cor_nil n3).2 h2)]
    rw [e]
    exact r1C rfl rfl rfl rfl rfl rfl (eqvP rfl rfl)
  have h2 : crsL l ≠ [] := fun h => by rw [len_nil.2 h] at h2; cases h2
  have e : placesE l = (placesTo (allL l) 49, 0) := by unfold placesE; rw [if_pos h1, if_neg fun h => h2 ((cor_nil n3).1 h)]
  refine LoopOb.of (σ := Nat) (fun y => ([(0, avOf (slH l)), (2, .box 2 0), (4, .box 4 0), (5, .d (I y))], [(2, .box [.nilsl, .d (I 0)]), (4, .box [.own 40, .d (I 0)]), (40, .row 93 2 (placesTo (allL l) y).length (rowPl (placesTo (allL l) y)))])) (fun y => y ≤ 49) (fun y => 49 - y) 0
    ⟨rfl, ⟨obX rfl, ⟨⟨rfl, 93, 2, rowPl [], (show some (Ob.row 93 2 (placesTo (allL l) 0).length (rowPl (placesTo (allL l) 0))) = some (Ob.row 93 2 0 (rowPl [])) by rw [placesTo_zero]; rfl)⟩, D.eqv_refl _, trivial⟩, obZ rfl (by rw [placesTo_zero]; rfl), trivial⟩, avR _ rfl, avQ rfl, avQ rfl, avR _ rfl, trivial⟩ (Nat.zero_le _) fun y hy => ?_
  refine Split.by (fun h3 => ?_) (fun h3 => ?_)
  · have h3 : y < 49 := by have := dT h3; omega
    have ht := placesTo_len (allL l) y
    refine LoopOb.of (σ := Nat) (fun x => ([(0, avOf (slH l)), (2, .box 2 0), (4, .box 4 0), (5, .d (I y)), (6, .d (I x))], [(2, .box [.nilsl, .d (I 0)]), (4, .box [.own 40, .d (I 0)]), (40, .row 93 2 (placesTo (allL l) y ++ placesRow (allL l) y x).length (rowPl (placesTo (allL l) y ++ placesRow (allL l) y x)))])) (fun x => x ≤ 49) (fun x => 49 - x) 0
      ⟨rfl, ⟨obX rfl, obX rfl, obR rfl (by rw [placesRow_zero, List.append_nil]; exact D.eqv_refl _), trivial⟩, avR _ rfl, avQ rfl, avQ rfl, avR _ rfl, avR _ rfl, trivial⟩ (Nat.zero_le _) fun x hx => ?_
    refine Split.by (fun h4 => ?_) (fun h4 => ?_)
    · have h4 : x < 49 := by have := dT h4; omega
      have hr := placesRow_len (allL l) y x
      have hb : (placesTo (allL l) y ++ placesRow (allL l) y x).length ≤ 5000 := by rw [List.length_append]; omega
      have c := r_lies l ⟨x, y, 1⟩ n3 (okC_xy (by omega) (by omega)) (by omega)
      rw [inP_lies l (by omega) (by omega)] at c
      refine CallSt.pure c rfl rfl ?_
      refine Split.by (fun h5 => ?_) (fun h5 => ?_)
      · have h5 : inP (allL l) x y = true := h5
        refine ⟨⟨.inr rfl, by unfold maxLen; omega, by show ((placesTo (allL l) y ++ placesRow (allL l) y x).length + 1) * 16 ≤ 140737488355328; omega⟩, ?_⟩
        refine ⟨inI64 (by omega) (by omega), ?_⟩
        refine ⟨x + 1, ⟨rfl, ⟨obX rfl, obX rfl, obR rfl ?_, trivial⟩, avR _ rfl, avQ rfl, avQ rfl, avR _ rfl, avI rfl rfl, trivial⟩, h4, (show 49 - (x + 1) < 49 - x by omega)⟩
        rw [placesRow_succ, if_pos h5, ← List.append_assoc]
        exact pushPl rfl (eqPl ⟨x, y⟩)
      · have h5 : inP (allL l) x y = false := h5
        refine ⟨inI64 (by omega) (by omega), ?_⟩
        refine ⟨x + 1, ⟨rfl, ⟨obX rfl, obX rfl, obR rfl ?_, trivial⟩, avR _ rfl, avQ rfl, avQ rfl, avR _ rfl, avI rfl rfl, trivial⟩, h4, (show 49 - (x + 1) < 49 - x by omega)⟩
        rw [placesRow_succ, if_neg (by rw [h5]; decide), List.append_nil]
        exact D.eqv_refl _
    · have h4 : x = 49 := by have := dF h4; omega
      subst h4
      refine ⟨inI64 (by omega) (by omega), ?_⟩
      refine ⟨y + 1, ⟨rfl, ⟨obX rfl, obX rfl, obR rfl ?_, trivial⟩, avR _ rfl, avQ rfl, avQ rfl, avI rfl rfl, trivial⟩, h3, (show 49 - (y + 1) < 49 - y by omega)⟩
      rw [placesTo_succ]
      exact D.eqv_refl _
  · have h3 : y = 49 := by have := dF h3; omega
    subst h3
    rw [e]
    refine CutOb.at [(2, .box 2 0), (4, .box 4 0)] [(2, .box [.nilsl, .d (I 0)]), (4, .box [avOf (slP (placesTo (allL l) 49)), .d (I 0)])] ⟨rfl, ⟨obX rfl, ⟨⟨rfl, _, _, _, _, rfl, D.eqv_refl _⟩, D.eqv_refl _, trivial⟩, trivial⟩, avQ rfl, avQ rfl, trivial⟩ ?_
    exact r1C rfl rfl rfl rfl rfl rfl (eqvP (D.eqv_refl _) rfl)
end Go.Pg
/-
  The law HalfCorners: walk.
-/
set_option linter.all false
set_option maxRecDepth 100000
namespace Go.Pg
open Go.Proofs Go.RowKit

theorem cornersE_len (l : List Half) : (cornersE l).1.length ≤ 8192 := by
  unfold cornersE
  split
  · rename_i h
    obtain ⟨n1, n2, n3⟩ := checkL_ok h
    split
    · simp
    · exact cornersL_len (by omega)
  · simp
theorem placesE_len (l : List Half) : (placesE l).1.length ≤ 2401 := by
  unfold placesE
  split
  · split
    · simp
    · exact placesTo_len _ 49
  · simp
theorem s_HalfCorners (l : List Half) : Spec PP 3 [slH l] [B true] := by
  refine spec_at Tryz.func3 rfl (by kernel_rfl) rfl ?_
  refine CallSt.pure (s_few l) rfl rfl ?_
  refine Split.by (fun h1 => ?_) (fun h1 => ?_)
  · refine CallSt.pure s_sanity rfl rfl ?_
    exact r1B rfl rfl
  have hc := cornersE_len l
  have hp := placesE_len l
  refine CallSt.ro (s_Corners l) rfl rfl ?_
  refine CallSt.ro (r_Corners l) rfl rfl ?_
  refine CallSt.ro (s_Places l) rfl rfl ?_
  refine CallSt.ro (r_Places l) rfl rfl ?_
  refine CallSt.pure s_sanity rfl rfl ?_
  refine Split.tt ?_
  refine Split.tt ?_
  refine Split.yes (ieq _) ?_
  refine CallSt.pure (r_SameCorners (cornersE l).1 (cornersE l).1 (by omega)) rfl rfl ?_
  refine Split.tt ?_
  refine Split.yes (decide_eq_true rfl) ?_
  refine Split.tt ?_
  refine Split.yes (ieq _) ?_
  refine CallSt.pure (r_SamePlaces (placesE l).1 (placesE l).1 (by omega)) rfl rfl ?_
  refine Split.tt ?_
  exact r1B rfl (decide_eq_true rfl)
end Go.Pg
