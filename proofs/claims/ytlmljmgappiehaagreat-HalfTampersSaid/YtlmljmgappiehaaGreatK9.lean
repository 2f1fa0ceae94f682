/-
  Contracts: the specification's points (Holds, Compare, Less, Cross, Value, Back); the law HalfPoints: walk.
-/
import Derived.Test.YtlmljmgappiehaaGreatK7
import Derived.Test.YtlmljmgappiehaaGreatK8
set_option linter.all false
set_option maxRecDepth 100000
namespace Go.Pg
open Go.Proofs Go.RowKit

theorem r2CB {T : TT} {s : St} {a t i u : Nat} {ti : TI} {cs : List AV} {xs ys : List D} (h1 : s.sl a = .box i 0) (h2 : T t = some ti) (h3 : s.ob i = some (.box cs)) (h4 : Nat.beq cs.length ti.size = true) (h5 : ti.agg = true) (h6 : allD cs = some xs) {b c : Bool} (h7 : s.sl u = .d (.bool b)) (he : eqvs xs ys) (e : b = c) :
    RetAll T s [.cell a t, .tmp u] [.agg ys, .d (.bool c)] := ⟨rtC (a := a) h1 h2 h3 h4 h5 h6 he, rtB h7 e, trivial⟩
theorem r_Holds (h : Half) (p : Corner) : Spec PP 29 [h.v, p.v] [B (fit h && valid p && lies h p)] := by
  refine spec_at Tryz.func29 rfl (by kernel_rfl) rfl ?_
  repeat' first
    | refine Split.tt ?_
    | refine Split.ff ?_
    | refine Split.by (fun _ => ?_) (fun _ => ?_)
    | refine CallSt.pure (r_right h) rfl rfl ?_
    | refine CallSt.pure (r_Valid p) rfl rfl ?_
    | refine CallSt.pure (r_holds h p ?_ ?_) rfl rfl ?_
    | refine r1B rfl ?_
  · exact okH_of ‹_›
  · exact okC_of ‹_›
  all_goals simp_all
theorem r_sign (n : Int) : Spec PP 84 [N n] [N (ord n 0)] := by
  refine spec_at Tryz.func84 rfl (by kernel_rfl) rfl ?_
  refine Split.by (fun h1 => ?_) (fun h1 => ?_)
  · have h1 : n < 0 := dT h1
    refine r1I rfl ?_
    unfold ord; rw [if_pos h1]
  have h1 : ¬ n < 0 := dF h1
  refine Split.by (fun h2 => ?_) (fun h2 => ?_)
  · have h2 : 0 < n := dT h2
    refine r1I rfl ?_
    unfold ord; rw [if_neg h1, if_pos h2]
  · have h2 : ¬ 0 < n := dF h2
    refine r1I rfl ?_
    unfold ord; rw [if_neg h1, if_neg h2]
theorem ord_sub (a b : Int) : ord (a - b) 0 = ord a b := by unfold ord; split <;> split <;> (try split) <;> (try split) <;> omega
theorem r_Compare (p q : Corner) : Spec PP 31 [p.v, q.v] [N (cmpC p q)] := by
  refine spec_at Tryz.func31 rfl (by kernel_rfl) rfl ?_
  refine CallSt.pure (r_Valid p) rfl rfl ?_
  refine CallSt.pure (r_Valid q) rfl rfl ?_
  refine Split.by (fun h1 => ?_) (fun h1 => ?_)
  · have h1 : ¬ valid p = true := by simpa using h1
    refine Split.tt (Split.tt (r1I rfl ?_))
    unfold cmpC; rw [if_neg fun h => h1 h.1]
  have hp : valid p = true := by simpa using h1
  refine Split.ff ?_
  refine Split.by (fun h2 => ?_) (fun h2 => ?_)
  · have h2 : ¬ valid q = true := by simpa using h2
    refine r1I rfl ?_
    unfold cmpC; rw [if_neg fun h => h2 h.2]
  have hq : valid q = true := by simpa using h2
  have gp := okC_of hp
  have gq := okC_of hq
  have h1 := mulB gp.x (b := q.Den) (y := 2097152) (by have := gq.d; omega)
  have h2 := mulB gq.x (b := p.Den) (y := 2097152) (by have := gp.d; omega)
  have h3 := mulB gp.y (b := q.Den) (y := 2097152) (by have := gq.d; omega)
  have h4 := mulB gq.y (b := p.Den) (y := 2097152) (by have := gp.d; omega)
  refine ⟨inI64 (by omega) (by omega), ⟨inI64 (by omega) (by omega), ?_⟩⟩
  have e : cmpC p q = orL [ord (p.X * q.Den) (q.X * p.Den), ord (p.Y * q.Den) (q.Y * p.Den)] := by unfold cmpC; rw [if_pos ⟨hp, hq⟩]
  refine Split.by (fun h5 => ?_) (fun h5 => ?_)
  · have h5 : p.X * q.Den ≠ q.X * p.Den := by simpa using h5
    refine ⟨inI64 (by omega) (by omega), ⟨inI64 (by omega) (by omega), ⟨inI64 (by omega) (by omega), ?_⟩⟩⟩
    refine CallSt.pure (r_sign _) rfl rfl ?_
    refine r1I rfl ?_
    rw [e, ord_sub]
    simp only [orL]
    rw [if_neg]
    rcases ord_spec (p.X * q.Den) (q.X * p.Den) with h | h | h <;> omega
  · have h5 : p.X * q.Den = q.X * p.Den := by simpa using h5
    refine ⟨inI64 (by omega) (by omega), ⟨inI64 (by omega) (by omega), ⟨inI64 (by omega) (by omega), ?_⟩⟩⟩
    refine CallSt.pure (r_sign _) rfl rfl ?_
    refine r1I rfl ?_
    rw [e, ord_sub]
    have e0 : ord (p.X * q.Den) (q.X * p.Den) = 0 := by
      rcases ord_spec (p.X * q.Den) (q.X * p.Den) with h | h | h <;> omega
    simp only [orL, e0, if_true]
    split
    · rename_i h; rw [h]
    · rfl
theorem r_fraction (f : Frac) : Spec PP 86 [f.v] [B (fraction f)] := by
  refine spec_at Tryz.func86 rfl (by kernel_rfl) rfl ?_
  repeat' first
    | refine Split.tt ?_
    | refine Split.ff ?_
    | refine Split.by (fun _ => ?_) (fun _ => ?_)
    | refine CallSt.pure (r_in _ _ _) rfl rfl ?_
    | refine CallSt.pure (r_divisor f.Num f.Den ?_ ?_) rfl rfl ?_
    | refine r1B rfl ?_
  · simp only [within_spec] at *; omega
  · simp only [within_spec] at *; omega
  all_goals (unfold fraction; simp_all [gcdL])
theorem r_Less (a b : Frac) : Spec PP 33 [a.v, b.v] [N (less a b)] := by
  refine spec_at Tryz.func33 rfl (by kernel_rfl) rfl ?_
  refine CallSt.pure (r_fraction a) rfl rfl ?_
  refine CallSt.pure (r_fraction b) rfl rfl ?_
  refine Split.by (fun h1 => ?_) (fun h1 => ?_)
  · have h1 : ¬ fraction a = true := by simpa using h1
    refine Split.tt (Split.tt (Split.tt (Split.tt (r1I rfl ?_))))
    unfold less; rw [if_neg fun h => h1 h.1]
  have hp : fraction a = true := by simpa using h1
  refine Split.ff ?_
  refine Split.by (fun h2 => ?_) (fun h2 => ?_)
  · have h2 : ¬ fraction b = true := by simpa using h2
    refine Split.tt (Split.tt (r1I rfl ?_))
    unfold less; rw [if_neg fun h => h2 h.2]
  have hq : fraction b = true := by simpa using h2
  have ga := fraction_bd hp
  have gb := fraction_bd hq
  have h1 := mulB ga.2 (b := b.Den) (y := 2097152) (by omega)
  have h2 := mulB gb.2 (b := a.Den) (y := 2097152) (by omega)
  refine ⟨inI64 (by omega) (by omega), ⟨inI64 (by omega) (by omega), ?_⟩⟩
  have e : less a b = ord (a.Num * b.Den) (b.Num * a.Den) := by unfold less; rw [if_pos ⟨hp, hq⟩]
  refine Split.ff ?_
  refine Split.by (fun h3 => ?_) (fun h3 => ?_)
  · have h3 : a.Num * b.Den = b.Num * a.Den := by simpa using h3
    refine r1I rfl ?_
    rw [e, h3]; unfold ord; simp
  have h3 : a.Num * b.Den ≠ b.Num * a.Den := by simpa using h3
  refine ⟨inI64 (by omega) (by omega), ⟨inI64 (by omega) (by omega), ?_⟩⟩
  refine Split.by (fun h4 => ?_) (fun h4 => ?_)
  · have h4 : a.Num * b.Den < b.Num * a.Den := dT h4
    refine r1I rfl ?_
    rw [e]; unfold ord; rw [if_pos h4]
  · have h4 : ¬ a.Num * b.Den < b.Num * a.Den := dF h4
    refine r1I rfl ?_
    rw [e]; unfold ord; rw [if_neg h4, if_pos (by omega)]
/-! ### Crossings -/
theorem gcd_perm2 (a b c : Nat) : Nat.gcd (Nat.gcd a c) b = Nat.gcd (Nat.gcd a b) c := by rw [Nat.gcd_assoc, Nat.gcd_assoc, Nat.gcd_comm c b]
/-- In lowest terms, the divisor above 0. -/
theorem lowest_pos {x y d : Int} (hd : 0 < d) : lowest x y d = ⟨x.tdiv (Nat.gcd (Nat.gcd x.natAbs d.natAbs) y.natAbs), y.tdiv (Nat.gcd (Nat.gcd x.natAbs d.natAbs) y.natAbs), d.tdiv (Nat.gcd (Nat.gcd x.natAbs d.natAbs) y.natAbs)⟩ := by
  unfold lowest
  rw [if_neg (by omega), gcd3, gcd_perm2 x.natAbs y.natAbs d.natAbs]
theorem lowest_neg {x y d : Int} (hd : d < 0) : lowest x y d = lowest (-x) (-y) (-d) := by
  unfold lowest
  rw [if_pos hd, if_neg (by omega), gcd3, gcd3, Int.natAbs_neg, Int.natAbs_neg, Int.natAbs_neg]
  simp only [Int.tdiv_neg, Int.neg_tdiv]
theorem r_cross (g h : Half) (hg : okH g) (hh : okH h) : Spec PP 73 [g.v, h.v] [(if det g h = 0 then (⟨0, 0, 0⟩ : Corner) else crossing g h).v, B (decide (det g h ≠ 0))] := by
  have m1 := mulB hg.a hh.b
  have m2 := mulB hh.a hg.b
  have m3 := mulB hg.c hh.b
  have m4 := mulB hh.c hg.b
  have m5 := mulB hg.a hh.c
  have m6 := mulB hh.a hg.c
  have ed : det g h = g.A * h.B - h.A * g.B := det_def g h
  have ec : crossing g h = lowest (g.C * h.B - h.C * g.B) (g.A * h.C - h.A * g.C) (g.A * h.B - h.A * g.B) := by unfold crossing; rw [ed]
  refine spec_at Tryz.func73 rfl (by kernel_rfl) rfl ?_
  refine ⟨inI64 (by omega) (by omega), ⟨inI64 (by omega) (by omega), ⟨inI64 (by omega) (by omega), ?_⟩⟩⟩
  refine Split.by (fun h1 => ?_) (fun h1 => ?_)
  · have h1 : g.A * h.B - h.A * g.B = 0 := by simpa using h1
    have h2 : det g h = 0 := by rw [ed]; exact h1
    rw [if_pos h2]
    exact r2CB rfl rfl rfl rfl rfl rfl rfl (eqvs3 rfl rfl rfl) (by simp [h2])
  have h1 : g.A * h.B - h.A * g.B ≠ 0 := by simpa using h1
  have h2 : det g h ≠ 0 := by rw [ed]; exact h1
  have hdec : decide (det g h ≠ 0) = true := decide_eq_true h2
  rw [if_neg h2, hdec, ec]
  refine ⟨inI64 (by omega) (by omega), ⟨inI64 (by omega) (by omega), ⟨inI64 (by omega) (by omega), ?_⟩⟩⟩
  refine ⟨inI64 (by omega) (by omega), ⟨inI64 (by omega) (by omega), ⟨inI64 (by omega) (by omega), ?_⟩⟩⟩
  generalize hx : g.C * h.B - h.C * g.B = x at *
  generalize hy : g.A * h.C - h.A * g.C = y at *
  generalize hd : g.A * h.B - h.A * g.B = d at *
  refine Split.by (fun h3 => ?_) (fun h3 => ?_)
  · have h3 : d < 0 := dT h3
    have gp : 0 < Nat.gcd (Nat.gcd (-x).natAbs (-d).natAbs) (-y).natAbs := Nat.gcd_pos_of_pos_left _ (Nat.gcd_pos_of_pos_right _ (by omega))
    have gl : Nat.gcd (-x).natAbs (-d).natAbs ≤ (-d).natAbs := Nat.gcd_le_right _ (by omega)
    refine ⟨inI64 (by omega) (by omega), ?_⟩
    refine ⟨inI64 (by omega) (by omega), ?_⟩
    refine ⟨inI64 (by omega) (by omega), ?_⟩
    refine CallSt.pure (r_divisor (-x) (-d) (by omega) (by omega)) rfl rfl ?_
    refine CallSt.pure (r_divisor (Nat.gcd (-x).natAbs (-d).natAbs) (-y) (by omega) (by omega)) rfl rfl ?_
    have b1 := fun g => tdiv_bd (g := g) (a := -x) (b := 1073741824) (by omega)
    have b2 := fun g => tdiv_bd (g := g) (a := -y) (b := 1073741824) (by omega)
    have b3 := fun g => tdiv_bd (g := g) (a := -d) (b := 1073741824) (by omega)
    rw [lowest_neg h3, lowest_pos (by omega)]
    rw [Int.natAbs_natCast]
    refine Exists.intro (List.range 12) (And.intro (by kernel_rfl) (FzOb.no ?_))
    refine ⟨⟨by omega, inI30 (b1 _)⟩, ⟨⟨by omega, inI30 (b2 _)⟩, ⟨⟨by omega, inI30 (b3 _)⟩, ?_⟩⟩⟩
    exact r2CB rfl rfl rfl rfl rfl rfl rfl (eqvs3 rfl rfl rfl) rfl
  · have h3 : ¬ d < 0 := dF h3
    have gp : 0 < Nat.gcd (Nat.gcd x.natAbs d.natAbs) y.natAbs := Nat.gcd_pos_of_pos_left _ (Nat.gcd_pos_of_pos_right _ (by omega))
    have gl : Nat.gcd x.natAbs d.natAbs ≤ d.natAbs := Nat.gcd_le_right _ (by omega)
    refine CallSt.pure (r_divisor x d (by omega) (by omega)) rfl rfl ?_
    refine CallSt.pure (r_divisor (Nat.gcd x.natAbs d.natAbs) y (by omega) (by omega)) rfl rfl ?_
    have b1 := fun g => tdiv_bd (g := g) (a := x) (b := 1073741824) (by omega)
    have b2 := fun g => tdiv_bd (g := g) (a := y) (b := 1073741824) (by omega)
    have b3 := fun g => tdiv_bd (g := g) (a := d) (b := 1073741824) (by omega)
    rw [lowest_pos (by omega)]
    rw [Int.natAbs_natCast]
    refine Exists.intro (List.range 12) (And.intro (by kernel_rfl) (FzOb.no ?_))
    refine ⟨⟨by omega, inI30 (b1 _)⟩, ⟨⟨by omega, inI30 (b2 _)⟩, ⟨⟨by omega, inI30 (b3 _)⟩, ?_⟩⟩⟩
    exact r2CB rfl rfl rfl rfl rfl rfl rfl (eqvs3 rfl rfl rfl) rfl
theorem r_Cross (g h : Half) : Spec PP 23 [g.v, h.v] [(cross g h).1.v, N (cross g h).2] := by
  refine spec_at Tryz.func23 rfl (by kernel_rfl) rfl ?_
  refine CallSt.pure (r_right g) rfl rfl ?_
  refine CallSt.pure (r_right h) rfl rfl ?_
  refine Split.by (fun h1 => ?_) (fun h1 => ?_)
  · have h1 : ¬ fit g = true := by simpa using h1
    have e : cross g h = (⟨0, 0, 0⟩, 1) := by unfold cross; rw [if_neg fun h => h1 h.1]
    rw [e]
    exact Split.tt (Split.tt (r2CI rfl rfl rfl rfl rfl rfl rfl (eqvs3 rfl rfl rfl) rfl))
  have hp : fit g = true := by simpa using h1
  refine Split.ff ?_
  refine Split.by (fun h2 => ?_) (fun h2 => ?_)
  · have h2 : ¬ fit h = true := by simpa using h2
    have e : cross g h = (⟨0, 0, 0⟩, 1) := by unfold cross; rw [if_neg fun h => h2 h.2]
    rw [e]
    exact r2CI rfl rfl rfl rfl rfl rfl rfl (eqvs3 rfl rfl rfl) rfl
  have hq : fit h = true := by simpa using h2
  have c := r_cross g h (okH_of hp) (okH_of hq)
  by_cases h3 : det g h = 0
  · have e : cross g h = (⟨0, 0, 0⟩, 5) := by unfold cross; rw [if_pos ⟨hp, hq⟩, if_pos h3]
    rw [if_pos h3, decide_eq_false (by simpa using h3)] at c
    refine CallSt.pure c rfl rfl ?_
    refine Split.tt ?_
    rw [e]
    exact r2CI rfl rfl rfl rfl rfl rfl rfl (eqvs3 rfl rfl rfl) rfl
  · have e : cross g h = (crossing g h, 0) := by unfold cross; rw [if_pos ⟨hp, hq⟩, if_neg h3]
    rw [if_neg h3, decide_eq_true h3] at c
    refine CallSt.pure c rfl rfl ?_
    refine Split.ff ?_
    rw [e]
    exact r2CI rfl rfl rfl rfl rfl rfl rfl (eqvs3 rfl rfl rfl) rfl
theorem r_form (f : Form) : Spec PP 77 [f.v] [B (slope f.X f.Y)] := by
  refine spec_at Tryz.func77 rfl (by kernel_rfl) rfl ?_
  repeat' first
    | refine Split.tt ?_
    | refine Split.ff ?_
    | refine Split.by (fun _ => ?_) (fun _ => ?_)
    | refine CallSt.pure (r_in _ _ _) rfl rfl ?_
    | refine r1B rfl ?_
  all_goals (unfold slope; simp_all)
theorem r_value (f : Form) (p : Corner) (hf : okF f) (hp : okC p) : Spec PP 79 [f.v, p.v] [(value f p).v] := by
  have h1 := mulB hf.x hp.x
  have h2 := mulB hf.y hp.y
  have hd := hp.d
  have hg : 0 < Nat.gcd (f.X * p.X + f.Y * p.Y).natAbs p.Den.natAbs := Nat.gcd_pos_of_pos_right _ (by omega)
  have b1 := fun g => tdiv_bd (g := g) (a := f.X * p.X + f.Y * p.Y) (b := 2147483648000) (by omega)
  have b2 := fun g => tdiv_bd (g := g) (a := p.Den) (b := 1073741824) (by omega)
  have e : value f p = ⟨(f.X * p.X + f.Y * p.Y).tdiv (Nat.gcd (f.X * p.X + f.Y * p.Y).natAbs p.Den.natAbs), p.Den.tdiv (Nat.gcd (f.X * p.X + f.Y * p.Y).natAbs p.Den.natAbs)⟩ := by
    unfold value
    simp only [gcdL, List.foldl_cons, List.foldl_nil, Nat.gcd_zero_left]
  refine spec_at Tryz.func79 rfl (by kernel_rfl) rfl ?_
  refine ⟨inI64 (by omega) (by omega), ⟨inI64 (by omega) (by omega), ⟨inI64 (by omega) (by omega), ?_⟩⟩⟩
  refine CallSt.pure (r_divisor (f.X * p.X + f.Y * p.Y) p.Den (by omega) (by omega)) rfl rfl ?_
  refine Exists.intro (List.range 9) (And.intro (by kernel_rfl) (FzOb.no ?_))
  refine ⟨⟨by omega, inI64 (by have := b1 (Nat.gcd (f.X * p.X + f.Y * p.Y).natAbs p.Den.natAbs); omega) (by have := b1 (Nat.gcd (f.X * p.X + f.Y * p.Y).natAbs p.Den.natAbs); omega)⟩, ⟨⟨by omega, inI30 (b2 _)⟩, ?_⟩⟩
  rw [e]
  exact r1C rfl rfl rfl rfl rfl rfl (eqvs2 rfl rfl)
theorem r_Value (f : Form) (p : Corner) : Spec PP 25 [f.v, p.v] [(valueE f p).1.v, N (valueE f p).2] := by
  refine spec_at Tryz.func25 rfl (by kernel_rfl) rfl ?_
  refine CallSt.pure (r_form f) rfl rfl ?_
  refine CallSt.pure (r_Valid p) rfl rfl ?_
  refine Split.by (fun h1 => ?_) (fun h1 => ?_)
  · have h1 : ¬ slope f.X f.Y = true := by simpa using h1
    have e : valueE f p = (⟨0, 0⟩, 1) := by unfold valueE; rw [if_neg fun h => h1 h.1]
    rw [e]
    exact Split.tt (Split.tt (r2CI rfl rfl rfl rfl rfl rfl rfl (eqvs2 rfl rfl) rfl))
  have hp : slope f.X f.Y = true := by simpa using h1
  refine Split.ff ?_
  refine Split.by (fun h2 => ?_) (fun h2 => ?_)
  · have h2 : ¬ valid p = true := by simpa using h2
    have e : valueE f p = (⟨0, 0⟩, 1) := by unfold valueE; rw [if_neg fun h => h2 h.2]
    rw [e]
    exact r2CI rfl rfl rfl rfl rfl rfl rfl (eqvs2 rfl rfl) rfl
  have hq : valid p = true := by simpa using h2
  have e : valueE f p = (value f p, 0) := by unfold valueE; rw [if_pos ⟨hp, hq⟩]
  refine CallSt.pure (r_value f p (okF_of hp) (okC_of hq)) rfl rfl ?_
  rw [e]
  exact r2CI rfl rfl rfl rfl rfl rfl rfl (eqvs2 rfl rfl) rfl
theorem r_Back (h : Half) : Spec PP 27 [h.v] [(back h).1.v, N (back h).2] := by
  refine spec_at Tryz.func27 rfl (by kernel_rfl) rfl ?_
  refine CallSt.pure (r_right h) rfl rfl ?_
  refine Split.by (fun h1 => ?_) (fun h1 => ?_)
  · have h1 : ¬ fit h = true := by simpa using h1
    have e : back h = (⟨0, 0, 0⟩, 1) := by unfold back; rw [if_neg h1]
    rw [e]
    exact r2CI rfl rfl rfl rfl rfl rfl rfl (eqvs3 rfl rfl rfl) rfl
  have hp : fit h = true := by simpa using h1
  have e : back h = (⟨-h.A, -h.B, -h.C⟩, 0) := by unfold back; rw [if_pos hp]
  have ho := okH_of hp
  have h1 := ho.a
  have h2 := ho.b
  have h3 := ho.c
  refine ⟨inI64 (by omega) (by omega), ⟨inI64 (by omega) (by omega), ⟨inI64 (by omega) (by omega), ?_⟩⟩⟩
  rw [e]
  exact r2CI rfl rfl rfl rfl rfl rfl rfl (eqvs3 rfl rfl rfl) rfl
end Go.Pg
/-
  Contracts: the specification's crossings.
-/
set_option linter.all false
set_option maxRecDepth 100000
namespace Go.Pg
open Go.Proofs Go.RowKit

theorem r_lies (hs : List Half) (p : Corner) (hh : ∀ h ∈ hs, okH h) (hp : okC p) (hn : hs.length ≤ 1000000) : Spec PP 62 [slH hs, p.v] [B (hs.all fun h => lies h p)] := by
  refine spec_at Tryz.func62 rfl (by kernel_rfl) rfl ?_
  refine LoopOb.of (σ := Nat) (fun i => ([(0, avOf (slH hs)), (3, .box 3 0), (5, .d (I i))], [(3, .box [.d (I p.X), .d (I p.Y), .d (I p.Den)])])) (fun i => i ≤ hs.length ∧ (hs.take i).all (fun h => lies h p) = true) (fun i => hs.length - i) 0
    ⟨rfl, ⟨obD [I p.X, I p.Y, I p.Den] rfl, trivial⟩, avR _ rfl, avQ rfl, avR _ rfl, trivial⟩ ⟨Nat.zero_le _, rfl⟩ fun i hi => ?_
  obtain ⟨i1, i2⟩ := hi
  refine Split.by (fun h1 => ?_) (fun h1 => ?_)
  · have h1 : i < hs.length := by simpa using h1
    refine Exists.intro (List.range 7) (And.intro (by kernel_rfl) (FzOb.no ?_))
    refine ⟨⟨rfl, by omega, by omega⟩, ?_⟩
    refine CallOb.pure (r_holds (hs.getD i default) p (hh _ (gd1 h1 default)) hp) rfl rfl ?_
    refine Split.by (fun h2 => ?_) (fun h2 => ?_)
    · have h2 : lies (hs.getD i default) p = false := by simpa using h2
      refine r1B rfl ?_
      refine (List.all_eq_false.2 ⟨_, gd1 h1 default, ?_⟩).symm
      rw [h2]; decide
    · have h2 : lies (hs.getD i default) p = true := by simpa using h2
      refine ⟨inI64 (by omega) (by omega), ?_⟩
      refine ⟨i + 1, ⟨rfl, ⟨obD [I p.X, I p.Y, I p.Den] rfl, trivial⟩, avR _ rfl, avQ rfl, avI rfl rfl, trivial⟩, ⟨h1, ?_⟩, ?_⟩
      · rw [take1 h1 default, List.all_append, i2]; simp only [List.all_cons, h2]; rfl
      · show hs.length - (i + 1) < hs.length - i
        omega
  · have h1 : i = hs.length := by
      have : ¬ i < hs.length := by simpa using h1
      omega
    refine r1B rfl ?_
    rw [h1, List.take_length] at i2
    exact i2.symm
/-! ### The points, one after the other -/
def ptR (hs : List Half) (i k : Nat) : Option Corner := if det (hs.getD i default) (hs.getD k default) = 0 then none else if hs.all (fun h => lies h (crossing (hs.getD i default) (hs.getD k default))) = true then some (crossing (hs.getD i default) (hs.getD k default)) else none
@[irreducible] def rowR (hs : List Half) (i k : Nat) : List Corner := (List.range k).filterMap (ptR hs i)
@[irreducible] def upR (hs : List Half) (i : Nat) : List Corner := (List.range i).flatMap fun i => rowR hs i i
theorem rowR_zero (hs : List Half) (i : Nat) : rowR hs i 0 = [] := by unfold rowR; rfl
theorem rowR_no {hs : List Half} {i k : Nat} (h : ptR hs i k = none) : rowR hs i (k + 1) = rowR hs i k := by
  unfold rowR
  rw [List.range_succ, List.filterMap_append, List.filterMap_cons_none h]; simp
theorem rowR_yes {hs : List Half} {i k : Nat} {p : Corner} (h : ptR hs i k = some p) : rowR hs i (k + 1) = rowR hs i k ++ [p] := by
  unfold rowR
  rw [List.range_succ, List.filterMap_append, List.filterMap_cons_some h]; simp
theorem upR_zero (hs : List Half) : upR hs 0 = [] := by unfold upR; rfl
theorem upR_succ (hs : List Half) (i : Nat) : upR hs (i + 1) = upR hs i ++ rowR hs i i := by
  unfold upR
  rw [List.range_succ, List.flatMap_append]; simp
theorem rowR_len (hs : List Half) (i k : Nat) : (rowR hs i k).length ≤ k := by
  unfold rowR
  exact Nat.le_trans (List.length_filterMap_le _ _) (by simp)
theorem upR_len (hs : List Half) (m : Nat) : ∀ i, i ≤ m → (upR hs i).length ≤ m * i
  | 0, _ => by rw [upR_zero]; simp
  | i + 1, h => by
    rw [upR_succ, List.length_append, Nat.mul_succ]
    have := upR_len hs m i (by omega)
    have := rowR_len hs i i
    omega
theorem insL_append (a b out : List Corner) : insL (a ++ b) out = insL b (insL a out) := by unfold insL; rw [List.foldl_append]
theorem insC_len (p : Corner) : ∀ out : List Corner, (insC p out).length ≤ out.length + 1
  | [] => by simp [insC]
  | q :: r => by
    simp only [insC]
    split
    · have := insC_len p r; simp only [List.length_cons]; omega
    · split <;> simp
theorem insL_len : ∀ (l out : List Corner), (insL l out).length ≤ out.length + l.length
  | [], out => by simp [insL]
  | p :: l, out => by
    have h1 := insL_len l (insC p out)
    have h2 := insC_len p out
    show (insL l (insC p out)).length ≤ _
    simp only [List.length_cons]; omega
theorem insL_one (p : Corner) (out : List Corner) : insL [p] out = insC p out := rfl
/-- Where a point is put in. -/
theorem insC_at {p : Corner} : ∀ {out : List Corner} {n : Nat}, n ≤ out.length → (∀ m, m < n → cmpC (out.getD m default) p < 0) → (n < out.length → ¬ cmpC (out.getD n default) p < 0) →
    insC p out = if n < out.length ∧ out.getD n default = p then out else out.take n ++ [p] ++ out.drop n
  | [], n, h1, h2, h3 => by
    obtain rfl : n = 0 := by simpa using h1
    simp [insC]
  | q :: r, 0, h1, h2, h3 => by
    have h3 : ¬ cmpC q p < 0 := h3 (by simp)
    simp only [insC, if_neg h3]
    by_cases hq : q = p
    · rw [if_pos hq, if_pos ⟨by simp, hq⟩]
    · rw [if_neg hq, if_neg fun h => hq h.2]
      rfl
  | q :: r, n + 1, h1, h2, h3 => by
    have h0 : cmpC q p < 0 := h2 0 (by omega)
    have ih := insC_at (p := p) (out := r) (n := n) (by simpa using h1) (fun m hm => h2 (m + 1) (by omega)) (fun h => h3 (by simpa using h))
    simp only [insC, if_pos h0, ih]
    have e : (q :: r).getD (n + 1) default = r.getD n default := rfl
    rw [e]
    by_cases hc : n < r.length ∧ r.getD n default = p
    · rw [if_pos hc, if_pos ⟨by simpa using hc.1, hc.2⟩]
    · rw [if_neg hc, if_neg fun h => hc ⟨by simpa using h.1, h.2⟩]
      rfl
theorem all_fe {hs : List Half} {p : Corner} : hs.all (fun h => lies h p) = true ↔ Fe hs p := by
  rw [List.all_eq_true]
  unfold Fe
  exact forall_congr' fun h => forall_congr' fun _ => lies_ef h p
theorem upR_mem {hs : List Half} {i : Nat} {p : Corner} : p ∈ upR hs i ↔ ∃ a, a < i ∧ ∃ b, b < a ∧ ptR hs a b = some p := by
  unfold upR rowR
  simp only [List.mem_flatMap, List.mem_filterMap, List.mem_range]
theorem ptR_some {hs : List Half} {a b : Nat} {p : Corner} (h : ptR hs a b = some p) : det (hs.getD a default) (hs.getD b default) ≠ 0 ∧ Fe hs p ∧ p = crossing (hs.getD a default) (hs.getD b default) := by
  unfold ptR at h
  split at h
  · cases h
  · rename_i hd
    split at h
    · rename_i ha
      cases h
      exact ⟨hd, all_fe.1 ha, rfl⟩
    · cases h
theorem upR_vt {l : List Half} (hl : ∀ x ∈ l, okH x) (p : Corner) : p ∈ upR (hsL l) (hsL l).length ↔ Vt (hsL l) p := by
  have hok := hsL_ok hl
  rw [upR_mem]
  constructor
  · rintro ⟨a, ha, b, hb, h⟩
    obtain ⟨h1, h2, rfl⟩ := ptR_some h
    have ma := gd1 ha (default : Half)
    have mb := gd1 (show b < (hsL l).length by omega) (default : Half)
    obtain ⟨t1, t2⟩ := crossing_tight h1
    exact ⟨h2, crossing_valid (hok _ ma) (hok _ mb) h1, _, ma, _, mb, h1, t1, t2⟩
  · rintro ⟨h1, h2, g, hg, h, hh, hd, t1, t2⟩
    have hv := crossing_valid (hok g hg) (hok h hh) hd
    obtain ⟨c1, c2⟩ := crossing_tight hd
    have e : crossing g h = p := tight_unique hv h2 hd c1 c2 t1 t2
    obtain ⟨a, ha, rfl⟩ := List.getElem_of_mem hg
    obtain ⟨b, hb, rfl⟩ := List.getElem_of_mem hh
    rw [← gdI ha default, ← gdI hb default] at hd e
    rcases Nat.lt_trichotomy a b with q | q | q
    · refine ⟨b, hb, a, q, ?_⟩
      have hd' : det ((hsL l).getD b default) ((hsL l).getD a default) ≠ 0 := by rw [det_swap]; omega
      have e' : crossing ((hsL l).getD b default) ((hsL l).getD a default) = p := by rw [crossing_comm (hok _ (gd1 ha default)) (hok _ (gd1 hb default)) hd, e]
      unfold ptR
      rw [if_neg hd', e', if_pos (all_fe.2 h1)]
    · subst q
      exact absurd (show det ((hsL l).getD a default) ((hsL l).getD a default) = 0 by rw [det_def]; grind) hd
    · refine ⟨a, ha, b, q, ?_⟩
      unfold ptR
      rw [if_neg hd, e, if_pos (all_fe.2 h1)]
theorem upR_valid {l : List Half} (hl : ∀ x ∈ l, okH x) : ∀ p ∈ upR (hsL l) (hsL l).length, valid p = true := fun p hp => ((upR_vt hl p).1 hp).va
theorem upR_crs {l : List Half} (hl : ∀ x ∈ l, okH x) : insL (upR (hsL l) (hsL l).length) [] = crsL l := by
  have h := insL_ok (upR (hsL l) (hsL l).length) [] (upR_valid hl) (fun q hq => by cases hq) List.Pairwise.nil
  refine strict_unique h.1 (crsL_strict hl) fun q => ?_
  rw [h.2 q, crs_iff hl, ← upR_vt hl]
  simp
end Go.Pg
/-
  Contracts: the specification's crossings (walk), Void, Core.
-/
set_option linter.all false
set_option maxRecDepth 100000
namespace Go.Pg
open Go.Proofs Go.RowKit

theorem crsL_len {l : List Half} (hl : ∀ x ∈ l, okH x) (hn : l.length ≤ 60) : (crsL l).length ≤ 4096 := by
  have h := insL_len (ptsL l) []
  have h2 : (ptsL l).length ≤ (pairsL (allL l)).length := by unfold ptsL; exact List.length_filterMap_le _ _
  have h3 := pairsL_len (allL l)
  have h4 := allL_len l
  have h5 : (allL l).length * (allL l).length ≤ 64 * 64 := Nat.mul_le_mul (by omega) (by omega)
  unfold crsL
  simp only [List.length_nil] at h
  omega
theorem take_drop_row {out : List Corner} {p : Corner} {n : Nat} (hn : n ≤ out.length) : D.eqv (.slc 3 (0 + n + 1 + (out.length - n)) (appRow (0 + n + 1) (appRow (0 + n) (appRow 0 (fun _ _ => dflt) (rowC out)) (rowOf 3 [I p.X, I p.Y, I p.Den])) (fun i => rowC out (n + i)))) (.slc 3 (out.take n ++ [p] ++ out.drop n).length (rowC (out.take n ++ [p] ++ out.drop n))) := by
  refine app_row (a := out.take n ++ [p]) (b := out.drop n) (at_ := Corner.at) (by simp; omega) (by simp) (fun i hi j hj => ?_) (fun i hi j hj => ?_)
  · unfold appRow
    by_cases h : i < n
    · rw [if_pos (by omega), if_neg (Nat.not_lt_zero _), List.getD_eq_getElem?_getD, List.getElem?_append_left (by simp; omega), List.getElem?_take, if_pos h, ← List.getD_eq_getElem?_getD]
      exact D.eqv_refl _
    · obtain rfl : i = n := by omega
      rw [if_neg (by omega), List.getD_eq_getElem?_getD, List.getElem?_append_right (by simp; omega)]
      have e : i - (out.take i).length = 0 := by simp; omega
      have e2 : i - (0 + i) = 0 := by omega
      rw [e, e2]
      exact eqAt p j hj
  · show D.eqv ((out.getD (n + i) default).at j) (((out.drop n).getD i default).at j)
    rw [List.getD_eq_getElem?_getD, List.getD_eq_getElem?_getD, List.getElem?_drop]
    exact D.eqv_refl _
theorem r_crossings (l : List Half) (hl : ∀ x ∈ l, okH x) (hn : l.length ≤ 60) : Spec PP 57 [slH l] [slC (crsL l)] := by
  have hok := hsL_ok hl
  have hlen : (hsL l).length = l.length + 4 := by simp [hsL, sidesL]
  have hval := upR_valid hl
  have hsub : ∀ i, i ≤ (hsL l).length → ∀ p ∈ upR (hsL l) i, valid p = true := fun i hi p hp => by
    obtain ⟨a, ha, b, hb, h⟩ := upR_mem.1 hp
    exact hval p (upR_mem.2 ⟨a, by omega, b, hb, h⟩)
  have hrow : ∀ i k, i < (hsL l).length → k ≤ i → ∀ p ∈ rowR (hsL l) i k, valid p = true := fun i k hi hk p hp => by
    unfold rowR at hp
    obtain ⟨b, hb, h⟩ := List.mem_filterMap.1 hp
    have hb := List.mem_range.1 hb
    exact hval p (upR_mem.2 ⟨i, hi, b, by omega, h⟩)
  refine spec_at Tryz.func57 rfl (by kernel_rfl) rfl ?_
  refine CallSt.ro (r_All l (by omega)) rfl rfl ?_
  refine LoopOb.of (σ := Nat) (fun i => ([(3, avOf (slH (hsL l))), (4, avOf (slC (insL (upR (hsL l) i) []))), (5, .d (I i))], [])) (fun i => i ≤ (hsL l).length) (fun i => (hsL l).length - i) 0
    ⟨rfl, trivial, avR _ rfl, avOw rfl rfl rfl ⟨by rw [upR_zero]; rfl, .inl rfl⟩, avR _ rfl, trivial⟩ (Nat.zero_le _) fun i hi => ?_
  refine Split.by (fun h1 => ?_) (fun h1 => ?_)
  · have h1 : i < (hsL l).length := by have := dT h1; omega
    refine LoopOb.of (σ := Nat) (fun k => ([(3, avOf (slH (hsL l))), (4, avOf (slC (insL (upR (hsL l) i ++ rowR (hsL l) i k) []))), (5, .d (I i)), (6, .d (I k))], [])) (fun k => k ≤ i) (fun k => i - k) 0
      ⟨rfl, trivial, avR _ rfl, avE rfl (by rw [rowR_zero, List.append_nil]; exact D.eqv_refl _), avR _ rfl, avR _ rfl, trivial⟩ (Nat.zero_le _) fun k hk => ?_
    have hol := insL_len (upR (hsL l) i ++ rowR (hsL l) i k) []
    have hul := upR_len (hsL l) 64 i (by omega)
    have hrl := rowR_len (hsL l) i k
    have h64 : 64 * i ≤ 64 * 64 := Nat.mul_le_mul_left 64 (by omega)
    rw [List.length_append, List.length_nil] at hol
    refine Split.by (fun h2 => ?_) (fun h2 => ?_)
    · have h2 : k < i := by have := dT h2; omega
      have mi := gd1 h1 (default : Half)
      have mk := gd1 (show k < (hsL l).length by omega) (default : Half)
      have oi := hok _ mi
      have ok := hok _ mk
      have c := r_cross _ _ oi ok
      refine Exists.intro (List.range 15) (And.intro (by kernel_rfl) (FzOb.no ?_))
      refine ⟨⟨rfl, by omega, by omega⟩, ⟨⟨rfl, by omega, by omega⟩, ?_⟩⟩
      by_cases hd : det ((hsL l).getD i default) ((hsL l).getD k default) = 0
      · have hp : ptR (hsL l) i k = none := by unfold ptR; rw [if_pos hd]
        rw [if_pos hd, decide_eq_false (by simpa using hd)] at c
        refine CallOb.pure c rfl rfl ?_
        refine Split.tt ?_
        refine Split.tt ?_
        refine Split.tt ?_
        refine ⟨inI64 (by omega) (by omega), ?_⟩
        refine ⟨k + 1, ⟨rfl, trivial, avR _ rfl, avE rfl (by rw [rowR_no hp]; exact D.eqv_refl _), avR _ rfl, avI rfl rfl, trivial⟩, h2, ?_⟩
        show i - (k + 1) < i - k
        omega
      rw [if_neg hd, decide_eq_true hd] at c
      have hv := crossing_valid oi ok hd
      generalize hP : crossing ((hsL l).getD i default) ((hsL l).getD k default) = P at *
      refine CallOb.pure c rfl rfl ?_
      refine Split.ff ?_
      refine CallSt.pure (r_lies (hsL l) P hok (okC_of hv) (by omega)) rfl rfl ?_
      refine Split.ff ?_
      refine Split.by (fun h3 => ?_) (fun h3 => ?_)
      · have h3 : (hsL l).all (fun h => lies h P) = false := by simpa using h3
        have hp : ptR (hsL l) i k = none := by unfold ptR; rw [if_neg hd, hP, if_neg (by rw [h3]; decide)]
        refine ⟨inI64 (by omega) (by omega), ?_⟩
        refine ⟨k + 1, ⟨rfl, trivial, avR _ rfl, avE rfl (by rw [rowR_no hp]; exact D.eqv_refl _), avR _ rfl, avI rfl rfl, trivial⟩, h2, ?_⟩
        show i - (k + 1) < i - k
        omega
      have h3 : (hsL l).all (fun h => lies h P) = true := by simpa using h3
      have hp : ptR (hsL l) i k = some P := by unfold ptR; rw [if_neg hd, hP, if_pos h3]
      have hnew : insL (upR (hsL l) i ++ rowR (hsL l) i (k + 1)) [] = insC P (insL (upR (hsL l) i ++ rowR (hsL l) i k) []) := by
        rw [rowR_yes hp, ← List.append_assoc, insL_append _ [P], insL_one]
      have hov : ∀ q ∈ insL (upR (hsL l) i ++ rowR (hsL l) i k) [], valid q = true := fun q hq => by
        have := (insL_ok (upR (hsL l) i ++ rowR (hsL l) i k) [] (fun q hq => by
          rcases List.mem_append.1 hq with hq | hq
          · exact hsub i (by omega) q hq
          · exact hrow i k h1 (by omega) q hq) (fun q hq => by cases hq) List.Pairwise.nil).2 q
        rcases this.1 hq with hq | hq
        · rcases List.mem_append.1 hq with hq | hq
          · exact hsub i (by omega) q hq
          · exact hrow i k h1 (by omega) q hq
        · cases hq
      generalize hO : insL (upR (hsL l) i ++ rowR (hsL l) i k) [] = O at *
      refine LoopOb.of (σ := Nat) (fun n => ([(3, avOf (slH (hsL l))), (4, avOf (slC O)), (5, .d (I i)), (6, .d (I k)), (7, .box 7 0), (9, .d (I n))], [(7, .box [.d (I P.X), .d (I P.Y), .d (I P.Den)])])) (fun n => n ≤ O.length ∧ ∀ m, m < n → cmpC (O.getD m default) P < 0) (fun n => O.length - n) 0
        ⟨rfl, ⟨obD [I P.X, I P.Y, I P.Den] rfl, trivial⟩, avR _ rfl, avR _ rfl, avR _ rfl, avR _ rfl, avQ rfl, avR _ rfl, trivial⟩ ⟨Nat.zero_le _, fun m hm => absurd hm (Nat.not_lt_zero _)⟩ fun n hx => ?_
      obtain ⟨x1, x2⟩ := hx
      refine Exists.intro (List.range 13) (And.intro (by kernel_rfl) (FzOb.no ?_))
      have fin : (n < O.length → ¬ cmpC (O.getD n default) P < 0) → insL (upR (hsL l) i ++ rowR (hsL l) i (k + 1)) [] = if n < O.length ∧ O.getD n default = P then O else O.take n ++ [P] ++ O.drop n := fun h => by
        rw [hnew]; exact insC_at x1 x2 h
      refine Split.by (fun g1 => ?_) (fun g1 => ?_)
      · have g1 : n < O.length := by have := dT g1; omega
        refine ⟨⟨rfl, by omega, by omega⟩, ?_⟩
        refine CallOb.pure (r_Compare (O.getD n default) P) rfl rfl ?_
        refine Split.tt ?_
        refine Split.by (fun g2 => ?_) (fun g2 => ?_)
        · have g2 : cmpC (O.getD n default) P < 0 := dT g2
          refine ⟨inI64 (by omega) (by omega), ?_⟩
          refine ⟨n + 1, ⟨rfl, ⟨obD [I P.X, I P.Y, I P.Den] rfl, trivial⟩, avR _ rfl, avR _ rfl, avR _ rfl, avR _ rfl, avQ rfl, avI rfl rfl, trivial⟩, ⟨g1, fun m hm => ?_⟩, ?_⟩
          · rcases Nat.lt_or_ge m n with h | h
            · exact x2 m h
            · obtain rfl : m = n := by omega
              exact g2
          · show O.length - (n + 1) < O.length - n
            omega
        · have g2 : ¬ cmpC (O.getD n default) P < 0 := dF g2
          have fin := fin fun _ => g2
          refine Exists.intro (List.range 12) (And.intro (by kernel_rfl) (FzOb.no ?_))
          refine Split.yes (decide_eq_true (by omega)) ?_
          refine ⟨⟨rfl, by omega, by omega⟩, ?_⟩
          refine Split.tt ?_
          refine Split.by (fun g3 => ?_) (fun g3 => ?_)
          · have g3 : O.getD n default = P := by
              have g3 : ((O.getD n default).X == P.X && ((O.getD n default).Y == P.Y && ((O.getD n default).Den == P.Den && (true)))) = true := g3
              rw [eqCs] at g3
              simpa using g3
            rw [if_pos ⟨g1, g3⟩] at fin
            refine ⟨inI64 (by omega) (by omega), ?_⟩
            refine ⟨k + 1, ⟨rfl, trivial, avR _ rfl, avE rfl (by rw [fin]; exact D.eqv_refl _), avR _ rfl, avI rfl rfl, trivial⟩, h2, ?_⟩
            show i - (k + 1) < i - k
            omega
          have g3 : ¬ O.getD n default = P := by
            have g3 : ((O.getD n default).X == P.X && ((O.getD n default).Y == P.Y && ((O.getD n default).Den == P.Den && (true)))) = false := g3
            rw [eqCs] at g3
            simpa using g3
          rw [if_neg fun h => g3 h.2] at fin
          refine ⟨⟨.inr rfl, by omega, by omega⟩, ?_⟩
          refine ⟨⟨.inr rfl, by unfold maxLen; show 0 + (n : Int).toNat ≤ _; omega, by show (0 + (n : Int).toNat) * 24 ≤ 140737488355328; omega⟩, ?_⟩
          refine ⟨⟨.inr rfl, by unfold maxLen; show 0 + (n : Int).toNat + 1 ≤ _; omega, by show (0 + (n : Int).toNat + 1) * 24 ≤ 140737488355328; omega⟩, ?_⟩
          refine ⟨⟨.inr rfl, by omega, by omega⟩, ?_⟩
          refine ⟨⟨.inr rfl, by unfold maxLen; show 0 + (n : Int).toNat + 1 + (O.length - (n : Int).toNat) ≤ _; omega, by show (0 + (n : Int).toNat + 1 + (O.length - (n : Int).toNat)) * 24 ≤ 140737488355328; omega⟩, ?_⟩
          refine ⟨inI64 (by omega) (by omega), ?_⟩
          refine ⟨k + 1, ⟨rfl, trivial, avR _ rfl, avOw rfl rfl rfl (by rw [fin]; exact take_drop_row x1), avR _ rfl, avI rfl rfl, trivial⟩, h2, ?_⟩
          show i - (k + 1) < i - k
          omega
      · have g1 : n = O.length := by have := dF g1; omega
        have fin := fin fun h => absurd h (by omega)
        refine Split.ff ?_
        refine Split.ff ?_
        refine Exists.intro (List.range 12) (And.intro (by kernel_rfl) (FzOb.no ?_))
        refine Split.no (decide_eq_false (by omega)) ?_
        refine Split.ff ?_
        refine Split.ff ?_
        rw [if_neg fun h => absurd h.1 (by omega)] at fin
        refine ⟨⟨.inr rfl, by omega, by omega⟩, ?_⟩
        refine ⟨⟨.inr rfl, by unfold maxLen; show 0 + (n : Int).toNat ≤ _; omega, by show (0 + (n : Int).toNat) * 24 ≤ 140737488355328; omega⟩, ?_⟩
        refine ⟨⟨.inr rfl, by unfold maxLen; show 0 + (n : Int).toNat + 1 ≤ _; omega, by show (0 + (n : Int).toNat + 1) * 24 ≤ 140737488355328; omega⟩, ?_⟩
        refine ⟨⟨.inr rfl, by omega, by omega⟩, ?_⟩
        refine ⟨⟨.inr rfl, by unfold maxLen; show 0 + (n : Int).toNat + 1 + (O.length - (n : Int).toNat) ≤ _; omega, by show (0 + (n : Int).toNat + 1 + (O.length - (n : Int).toNat)) * 24 ≤ 140737488355328; omega⟩, ?_⟩
        refine ⟨inI64 (by omega) (by omega), ?_⟩
        refine ⟨k + 1, ⟨rfl, trivial, avR _ rfl, avOw rfl rfl rfl (by rw [fin]; exact take_drop_row x1), avR _ rfl, avI rfl rfl, trivial⟩, h2, ?_⟩
        show i - (k + 1) < i - k
        omega
    · have h2 : k = i := by have := dF h2; omega
      subst h2
      refine ⟨inI64 (by omega) (by omega), ?_⟩
      refine ⟨k + 1, ⟨rfl, trivial, avR _ rfl, avE rfl (by rw [upR_succ]; exact D.eqv_refl _), avI rfl rfl, trivial⟩, h1, ?_⟩
      show (hsL l).length - (k + 1) < (hsL l).length - k
      omega
  · have h1 : i = (hsL l).length := by have := dF h1; omega
    subst h1
    have e := upR_crs hl
    rw [← e]
    exact ⟨D.eqv_refl _, trivial⟩
end Go.Pg
/-
  Contracts: the specification's Void, Core; few; the law HalfCores: walk.
-/
set_option linter.all false
set_option maxRecDepth 100000
namespace Go.Pg
open Go.Proofs Go.RowKit

/-- Rows of numbers, put together. -/
theorem app_rowI {n m : Nat} {a b : List Int} {f g : Nat → Nat → D} (hn : n = a.length) (hm : m = b.length) (hf : ∀ i, i < n → f i 0 = I (a.getD i 0)) (hg : ∀ i, i < m → g i 0 = I (b.getD i 0)) : D.eqv (.slc 1 (n + m) (appRow n f g)) (.slc 1 (a ++ b).length (rowI (a ++ b))) := by
  subst hn; subst hm
  refine ⟨by simp, .inr ⟨rfl, fun i hi j hj => ?_⟩⟩
  obtain rfl : j = 0 := by omega
  show D.eqv (appRow a.length f g i 0) (I ((a ++ b).getD i 0))
  unfold appRow
  by_cases h : i < a.length
  · rw [if_pos h, hf i h, List.getD_eq_getElem?_getD, List.getD_eq_getElem?_getD, List.getElem?_append_left h]
    exact ⟨rfl, rfl⟩
  · rw [if_neg h, hg (i - a.length) (by omega), List.getD_eq_getElem?_getD, List.getD_eq_getElem?_getD, List.getElem?_append_right (by omega)]
    exact ⟨rfl, rfl⟩
theorem r_less (l : List Int) (i : Nat) (hi : i < l.length) (hn : l.length ≤ 1000000) : Spec PP 67 [slI l, N i] [slI (rmL l i)] := by
  refine spec_at Tryz.func67 rfl (by kernel_rfl) rfl ?_
  refine ⟨⟨.inr rfl, by omega, by omega⟩, ?_⟩
  refine ⟨⟨.inr rfl, by unfold maxLen; show 0 + (i : Int).toNat ≤ _; omega, by show (0 + (i : Int).toNat) * 8 ≤ 140737488355328; omega⟩, ?_⟩
  refine ⟨inI64 (by omega) (by omega), ?_⟩
  refine ⟨⟨.inr rfl, by omega, by omega⟩, ?_⟩
  refine ⟨⟨.inr rfl, by unfold maxLen; show 0 + (i : Int).toNat + (l.length - ((i : Int) + 1).toNat) ≤ _; omega, by show (0 + (i : Int).toNat + (l.length - ((i : Int) + 1).toNat)) * 8 ≤ 140737488355328; omega⟩, ?_⟩
  refine ⟨⟨_, _, _, _, rfl, ?_⟩, trivial⟩
  have e : rmL l i = l.take i ++ l.drop (i + 1) := by unfold rmL; rfl
  rw [e]
  have et : ((i : Int) + 1).toNat = i + 1 := by omega
  refine app_rowI (a := l.take i) (b := l.drop (i + 1)) (by show 0 + (i : Int).toNat = _; simp; omega) (by rw [et]; simp) (fun m hm => ?_) (fun m hm => ?_)
  · have hm : m < 0 + (i : Int).toNat := hm
    show appRow 0 _ (rowI l) m 0 = _
    unfold appRow
    rw [if_neg (Nat.not_lt_zero _), List.getD_eq_getElem?_getD, List.getElem?_take, if_pos (by omega), ← List.getD_eq_getElem?_getD]
    rfl
  · show I (l.getD (((i : Int) + 1).toNat + m) 0) = _
    rw [et, List.getD_eq_getElem?_getD, List.getD_eq_getElem?_getD, List.getElem?_drop]
theorem r_every (l : List Half) (hn : l.length ≤ 1000000) : Spec PP 66 [slH l] [slI (upTo l.length)] := by
  refine spec_at Tryz.func66 rfl (by kernel_rfl) rfl ?_
  refine LoopOb.of (σ := Nat) (fun i => ([(0, avOf (slH l)), (3, .own 3), (4, .d (I i))], [(3, .row 3 1 (upTo i).length (rowI (upTo i)))])) (fun i => i ≤ l.length) (fun i => l.length - i) 0 ⟨rfl, ⟨obR rfl ⟨(by rw [upTo_len]), .inl rfl⟩, trivial⟩, avR _ rfl, avQ rfl, avR _ rfl, trivial⟩ (Nat.zero_le _) fun i hi => ?_
  have hl := upTo_len i
  refine Split.by (fun h1 => ?_) (fun h1 => ?_)
  · have h1 : i < l.length := by simpa using h1
    refine ⟨⟨.inr rfl, by unfold maxLen; omega, by show ((upTo i).length + 1) * 8 ≤ 140737488355328; omega⟩, ?_⟩
    refine ⟨inI64 (by omega) (by omega), ?_⟩
    refine ⟨i + 1, ⟨rfl, ⟨obR rfl ?_, trivial⟩, avR _ rfl, avQ rfl, avI rfl rfl, trivial⟩, h1, ?_⟩
    · rw [upTo_succ]; exact pushI rfl rfl
    · show l.length - (i + 1) < l.length - i
      omega
  · have h1 : i = l.length := by
      have : ¬ i < l.length := by simpa using h1
      omega
    subst h1
    exact ⟨⟨_, _, _, _, rfl, D.eqv_refl _⟩, trivial⟩
theorem r_Some (l : List Half) (js : List Int) (hj : ∀ j ∈ js, 0 ≤ j ∧ j < l.length) (hn : js.length ≤ 1000000) : Spec PP 68 [slH l, slI js] [slH (pickL l js)] := by
  refine spec_at Tryz.func68 rfl (by kernel_rfl) rfl ?_
  refine LoopOb.of (σ := Nat) (fun i => ([(0, avOf (slH l)), (1, avOf (slI js)), (5, .own 5), (6, .d (I i))], [(5, .row 48 3 (pickL l (js.take i)).length (rowH (pickL l (js.take i))))])) (fun i => i ≤ js.length) (fun i => js.length - i) 0 ⟨rfl, ⟨obR rfl ⟨(by rw [pickL_len]; rfl), .inl rfl⟩, trivial⟩, avR _ rfl, avR _ rfl, avQ rfl, avR _ rfl, trivial⟩ (Nat.zero_le _) fun i hi => ?_
  have hl := pickL_len l (js.take i)
  rw [List.length_take] at hl
  refine Split.by (fun h1 => ?_) (fun h1 => ?_)
  · have h1 : i < js.length := by simpa using h1
    have hm := hj _ (gd1 h1 0)
    have hm' : 0 ≤ js.getD (i : Int).toNat 0 ∧ js.getD (i : Int).toNat 0 < l.length := by rw [Int.toNat_natCast]; exact hm
    refine ⟨⟨rfl, by omega, by omega⟩, ?_⟩
    refine ⟨⟨rfl, by omega, by omega⟩, ?_⟩
    refine ⟨⟨.inr rfl, by unfold maxLen; omega, by show ((pickL l (js.take i)).length + 1) * 24 ≤ 140737488355328; omega⟩, ?_⟩
    refine ⟨inI64 (by omega) (by omega), ?_⟩
    refine ⟨i + 1, ⟨rfl, ⟨obR rfl ?_, trivial⟩, avR _ rfl, avR _ rfl, avQ rfl, avI rfl rfl, trivial⟩, h1, ?_⟩
    · rw [take1 h1 0, pickL_snoc]; exact pushH rfl (eqAtH _)
    · show js.length - (i + 1) < js.length - i
      omega
  · have h1 : i = js.length := by
      have : ¬ i < js.length := by simpa using h1
      omega
    have e : pickL l (js.take i) = pickL l js := by rw [h1, List.take_length]
    rw [← e]
    exact ⟨⟨_, _, _, _, rfl, D.eqv_refl _⟩, trivial⟩
@[irreducible] def voidE (l : List Half) : Bool × Int := if checkL l = 0 then (decide (crsL l = []), 0) else (false, checkL l)
theorem len_nil {α : Type} {l : List α} : ((l.length : Int) == 0) = true ↔ l = [] := by
  rw [beq_iff_eq]
  constructor
  · intro h; exact List.length_eq_zero_iff.1 (by omega)
  · rintro rfl; rfl
theorem r_Void (l : List Half) : Spec PP 37 [slH l] [B (voidE l).1, N (voidE l).2] := by
  refine spec_at Tryz.func37 rfl (by kernel_rfl) rfl ?_
  refine CallSt.pure (r_Check l) rfl rfl ?_
  refine Split.by (fun h1 => ?_) (fun h1 => ?_)
  · have h1 : checkL l ≠ 0 := by simpa using h1
    have e : voidE l = (false, checkL l) := by unfold voidE; rw [if_neg h1]
    rw [e]
    exact ⟨rtB rfl rfl, rtI rfl rfl, trivial⟩
  have h1 : checkL l = 0 := by simpa using h1
  obtain ⟨n1, n2, n3⟩ := checkL_ok h1
  have e : voidE l = (decide (crsL l = []), 0) := by unfold voidE; rw [if_pos h1]
  refine CallSt.ro (r_crossings l n3 (by omega)) rfl rfl ?_
  rw [e]
  refine ⟨rtB rfl ?_, rtI rfl rfl, trivial⟩
  rw [Bool.eq_iff_iff, decide_eq_true_iff]
  exact len_nil
/-- Numbers, or an error. -/
abbrev vInts (x : List Int × Int) : V1 := .agg [.slc 1 x.1.length (rowI x.1), I x.2]
theorem eqvI {x : D} {a b : Int} {l : List Int} (h : D.eqv x (.slc 1 l.length (rowI l))) (e : a = b) : eqvs [x, I a] [.slc 1 l.length (rowI l), I b] := ⟨h, ⟨rfl, e⟩, trivial⟩
theorem r_Core (l : List Half) : Spec PP 20 [slH l] [vInts (coreE l)] := by
  refine spec_at Tryz.func20 rfl (by kernel_rfl) rfl ?_
  by_cases h1 : checkL l = 0
  case neg =>
    have ev : voidE l = (false, checkL l) := by unfold voidE; rw [if_neg h1]
    have e : coreE l = ([], checkL l) := by unfold coreE; rw [if_neg h1]
    have c := r_Void l
    rw [ev] at c
    refine CallSt.pure c rfl rfl ?_
    refine Split.yes (by simpa using h1) ?_
    rw [e]
    exact r1C rfl rfl rfl rfl rfl rfl (eqvI (l := []) rfl rfl)
  obtain ⟨n1, n2, n3⟩ := checkL_ok h1
  have ev : voidE l = (decide (crsL l = []), 0) := by unfold voidE; rw [if_pos h1]
  have c := r_Void l
  rw [ev] at c
  refine CallSt.pure c rfl rfl ?_
  refine Split.ff ?_
  refine Split.by (fun h2 => ?_) (fun h2 => ?_)
  · have h2 : crsL l ≠ [] := by simpa using h2
    have e : coreE l = ([], 5) := by unfold coreE; rw [if_pos h1, if_neg fun h => h2 ((cor_nil n3).1 h)]
    rw [e]
    exact r1C rfl rfl rfl rfl rfl rfl (eqvI (l := []) rfl rfl)
  have h2 : crsL l = [] := by simpa using h2
  have e : coreE l = (coreL l, 0) := by unfold coreE; rw [if_pos h1, if_pos ((cor_nil n3).2 h2)]
  have eC : coreL l = coreRunC l l.length (upTo l.length) 0 := by unfold coreL; exact coreRun_eq n3 _ _ _
  have hu := upTo_len l.length
  refine CallSt.ro (r_every l (by omega)) rfl rfl ?_
  refine LoopOb.of (σ := List Int × Nat) (fun x => ([(0, avOf (slH l)), (2, .box 2 0), (5, avOf (slI x.1)), (6, .d (I x.2))], [(2, .box [.nilsl, .d (I 0)])])) (fun x => x.2 ≤ x.1.length ∧ x.1.length ≤ 40 ∧ (∀ j ∈ x.1, 0 ≤ j ∧ j < l.length) ∧ coreRunC l (x.1.length - x.2) x.1 x.2 = coreL l) (fun x => x.1.length - x.2) (upTo l.length, 0)
    ⟨rfl, ⟨obX rfl, trivial⟩, avR _ rfl, avQ rfl, avR _ rfl, avR _ rfl, trivial⟩ ⟨Nat.zero_le _, (show (upTo l.length).length ≤ 40 by omega), fun j hj => upTo_mem hj, ?_⟩ fun x hx => ?_
  · show coreRunC l ((upTo l.length).length - 0) (upTo l.length) 0 = coreL l
    rw [hu, eC]; rfl
  obtain ⟨x1, x2, x3, x4⟩ := hx
  refine Split.by (fun g1 => ?_) (fun g1 => ?_)
  · have g1 : x.2 < x.1.length := by have := dT g1; omega
    have hrl := rmL_len x.1 g1
    have hrm : ∀ j ∈ rmL x.1 x.2, 0 ≤ j ∧ j < l.length := fun j hj => x3 j (rmL_mem hj)
    have hpl := pickL_len l (rmL x.1 x.2)
    obtain ⟨n, hn⟩ : ∃ n, x.1.length - x.2 = n + 1 := ⟨x.1.length - x.2 - 1, by omega⟩
    rw [hn] at x4
    refine CallSt.ro (r_less x.1 x.2 g1 (by omega)) rfl rfl ?_
    refine CallSt.ro (r_Some l (rmL x.1 x.2) hrm (by omega)) rfl rfl ?_
    refine CallSt.ro (r_crossings (pickL l (rmL x.1 x.2)) (fun y hy => n3 y (pickL_mem hrm y hy)) (by omega)) rfl rfl ?_
    refine Split.by (fun g2 => ?_) (fun g2 => ?_)
    · have g2 : crsL (pickL l (rmL x.1 x.2)) = [] := len_nil.1 g2
      refine ⟨(rmL x.1 x.2, x.2), ⟨rfl, ⟨obX rfl, trivial⟩, avR _ rfl, avQ rfl, avR _ rfl, avR _ rfl, trivial⟩, ⟨(show x.2 ≤ (rmL x.1 x.2).length by omega), (show (rmL x.1 x.2).length ≤ 40 by omega), hrm, ?_⟩, ?_⟩
      · show coreRunC l ((rmL x.1 x.2).length - x.2) (rmL x.1 x.2) x.2 = coreL l
        rw [← x4, coreRunC, if_pos g2]
        congr 1; omega
      · show (rmL x.1 x.2).length - x.2 < x.1.length - x.2
        omega
    · have g2 : crsL (pickL l (rmL x.1 x.2)) ≠ [] := fun hh => by rw [len_nil.2 hh] at g2; cases g2
      refine ⟨inI64 (by omega) (by omega), ?_⟩
      refine ⟨(x.1, x.2 + 1), ⟨rfl, ⟨obX rfl, trivial⟩, avR _ rfl, avQ rfl, avR _ rfl, avI rfl rfl, trivial⟩, ⟨g1, x2, x3, ?_⟩, ?_⟩
      · show coreRunC l (x.1.length - (x.2 + 1)) x.1 (x.2 + 1) = coreL l
        rw [← x4, coreRunC, if_neg g2]
        congr 1; omega
      · show x.1.length - (x.2 + 1) < x.1.length - x.2
        omega
  · have g1 : x.1.length - x.2 = 0 := by have := dF g1; omega
    rw [g1] at x4
    rw [e, ← x4]
    exact r1C rfl rfl rfl rfl rfl rfl (eqvI (D.eqv_refl _) rfl)
def fewL (n : Nat) : Bool := decide (n ≤ 12 ∨ 40 < n ∧ n ≤ 60)
theorem s_few (l : List Half) : Spec PP 11 [slH l] [B (fewL l.length)] := by
  refine spec_at Tryz.func11 rfl (by kernel_rfl) rfl ?_
  unfold fewL
  refine Split.by (fun h1 => ?_) (fun h1 => ?_)
  · have h1 : l.length ≤ 12 := by have := dT h1; omega
    refine Split.tt ?_
    exact r1B rfl (decide_eq_true (.inl h1)).symm
  have h1 : ¬ l.length ≤ 12 := by have := dF h1; omega
  refine Split.by (fun h2 => ?_) (fun h2 => ?_)
  · have h2 : 40 < l.length := by have := dT h2; omega
    refine Split.tt ?_
    refine Split.ff ?_
    refine r1B rfl ?_
    exact decide_eq_decide.2 (by omega)
  · have h2 : ¬ 40 < l.length := by have := dF h2; omega
    refine Split.ff ?_
    refine Split.ff ?_
    exact r1B rfl (decide_eq_false (by omega)).symm
theorem fewL_len {n : Nat} (h : fewL n = true) : n ≤ 60 := by
  unfold fewL at h
  have := of_decide_eq_true h
  omega
theorem coreRun_len (l : List Half) : ∀ (n : Nat) (left : List Int) (i : Nat), (coreRun l n left i).length ≤ left.length
  | 0, _, _ => Nat.le_refl _
  | n + 1, left, i => by
    simp only [coreRun]
    split
    · have h := coreRun_len l n (rmL left i) i
      have : (rmL left i).length ≤ left.length := by unfold rmL; simp; omega
      omega
    · exact coreRun_len l n left (i + 1)
theorem coreE_len (l : List Half) : (coreE l).1.length ≤ l.length := by
  unfold coreE
  split
  · split
    · show (coreL l).length ≤ _
      unfold coreL
      have := coreRun_len l l.length (upTo l.length) 0
      rw [upTo_len] at this
      exact this
    · simp
  · simp
theorem s_HalfCores (l : List Half) : Spec PP 4 [slH l] [B true] := by
  refine spec_at Tryz.func4 rfl (by kernel_rfl) rfl ?_
  refine CallSt.pure (s_few l) rfl rfl ?_
  refine Split.by (fun h1 => ?_) (fun h1 => ?_)
  · refine CallSt.pure s_sanity rfl rfl ?_
    exact r1B rfl rfl
  have h1 : fewL l.length = true := by simpa using h1
  have hl := fewL_len h1
  have hc := coreE_len l
  refine CallSt.ro (s_Core l) rfl rfl ?_
  refine CallSt.ro (r_Core l) rfl rfl ?_
  refine CallSt.pure s_sanity rfl rfl ?_
  refine Split.tt ?_
  refine Split.tt ?_
  refine Split.yes (ieq _) ?_
  refine CallSt.pure (r_SameInts (coreE l).1 (coreE l).1 (by omega)) rfl rfl ?_
  refine Split.tt ?_
  exact r1B rfl (decide_eq_true rfl)
end Go.Pg
