/-
  Contracts: products in two words; on which side of a line a corner lies.
-/
import Derived.Test.YtlmljmgappiehaaPhD
import Derived.Test.YtlmljmgappiehaaPrD
import Derived.Test.YtlmljmgappiehaaPgL1
set_option linter.all false
set_option maxRecDepth 100000
namespace Go.Pg
open Go.Proofs Go.RowKit

abbrev U (n : Int) : D := .int .u64 n
abbrev NU (n : Int) : V1 := .d (U n)
theorem d_isNaNU (a : Int) : SpecD PP 129 [NU a] [B false] := by
  refine specD_at Try.func129 rfl (by kernel_rfl) rfl ?_
  refine r1B rfl ?_
  simp
theorem d_cmpU (a b : Int) : SpecD PP 123 [NU a, NU b] [N (ord a b)] := by
  refine specD_at Try.func123 rfl (by kernel_rfl) rfl ?_
  repeat' first
    | refine Split.tt ?_
    | refine Split.ff ?_
    | refine Split.by (fun _ => ?_) (fun _ => ?_)
    | refine CallSt.pure (d_isNaNU _) rfl rfl ?_
    | refine r1I rfl ?_
  all_goals (unfold ord; simp_all)
  all_goals omega
theorem d_orderU (a b : Int) : SpecD PP 109 [NU a, NU b] [N (ord a b)] := by
  refine specD_at Try.func109 rfl (by kernel_rfl) rfl ?_
  refine CallSt.pure (d_cmpU a b) rfl rfl ?_
  exact r1I rfl rfl
theorem s_orderU (a b : Int) : Spec PP 109 [NU a, NU b] [N (ord a b)] := (d_orderU a b).of
theorem d_Mul64 (x y : Nat) (hx : x < 18446744073709551616) (hy : y < 18446744073709551616) : SpecD PP 108 [NU x, NU y] [NU ((x * y / 18446744073709551616 : Nat) : Int), NU ((x * y % 18446744073709551616 : Nat) : Int)] :=
  specD_mul64 Try.mul64 ⟨_, Try.func108, by kernel_rfl, by kernel_rfl⟩ x y hx hy
/-- A product's sign, and its size in two words. -/
def hiW (n : Int) : Int := ((n.natAbs / 18446744073709551616 : Nat) : Int)
def loW (n : Int) : Int := ((n.natAbs % 18446744073709551616 : Nat) : Int)
abbrev wide (n : Int) : V1 := .agg [I (ord n 0), U (hiW n), U (loW n)]
theorem ord_mul (a b : Int) : ord a 0 * ord b 0 = ord (a * b) 0 := by
  unfold ord
  rcases Int.lt_trichotomy a 0 with h | h | h <;> rcases Int.lt_trichotomy b 0 with g | g | g
  · have := Int.mul_pos_of_neg_of_neg h g; rw [if_pos h, if_pos g, if_neg (by omega), if_pos this]; rfl
  · subst g; simp
  · have := Int.mul_neg_of_neg_of_pos h g; rw [if_pos h, if_neg (by omega), if_pos g, if_pos this]; rfl
  · subst h; simp
  · subst h; simp
  · subst h; simp
  · have := Int.mul_neg_of_pos_of_neg h g; rw [if_neg (by omega), if_pos h, if_pos g, if_pos this]; rfl
  · subst g; simp
  · have := Int.mul_pos h g; rw [if_neg (by omega), if_pos h, if_neg (by omega), if_pos g, if_neg (by omega), if_pos this]; rfl
theorem absW {a : Int} (h : -9223372036854775807 ≤ a ∧ a ≤ 9223372036854775807) : IntKind.u64.wrap (max a (-a)) = (a.natAbs : Int) := by
  have e : max a (-a) = (a.natAbs : Int) := by omega
  rw [e]
  show ((a.natAbs : Int) % 2 ^ 64) = _
  omega
theorem ord_bd (a b : Int) : -1 ≤ ord a b ∧ ord a b ≤ 1 := by
  unfold ord; split
  · omega
  · split <;> omega
theorem s_times (a b : Int) (ha : -9223372036854775807 ≤ a ∧ a ≤ 9223372036854775807) (hb : -9223372036854775807 ≤ b ∧ b ≤ 9223372036854775807) : Spec PP 87 [N a, N b] [wide (a * b)] := by
  refine spec_at Try.func87 rfl (by kernel_rfl) rfl ?_
  refine ⟨inI64 (by omega) (by omega), ⟨inI64 (by omega) (by omega), ?_⟩⟩
  refine CallSt.pureE (d_Mul64 a.natAbs b.natAbs (by omega) (by omega)).of rfl ⟨⟨rfl, absW ha⟩, ⟨rfl, absW hb⟩, trivial⟩ rfl ?_
  refine CallSt.pure (s_order a 0) rfl rfl ?_
  refine CallSt.pure (s_order b 0) rfl rfl ?_
  have h1 := ord_bd a 0
  have h2 := ord_bd b 0
  have h3 := mulB h1 h2
  refine ⟨inI64 (by omega) (by omega), ?_⟩
  refine r1C rfl rfl rfl rfl rfl rfl (eqvs3 (ord_mul a b) ?_ ?_)
  · unfold hiW; rw [Int.natAbs_mul]
  · unfold loW; rw [Int.natAbs_mul]
theorem ord_lex (a b c d : Nat) (hb : b < 18446744073709551616) (hd : d < 18446744073709551616) : orL [ord a c, ord b d] = ord (18446744073709551616 * a + b) (18446744073709551616 * c + d) := by
  simp only [orL]
  unfold ord
  rcases Nat.lt_trichotomy a c with h | h | h
  · rw [if_pos (show (a : Int) < c by omega), if_neg (by decide), if_pos (by omega)]
  · subst h
    rw [if_neg (show ¬ (a : Int) < a by omega), if_neg (show ¬ (a : Int) < a by omega), if_pos rfl]
    rcases Nat.lt_trichotomy b d with g | g | g
    · rw [if_pos (show (b : Int) < d by omega), if_neg (by decide), if_pos (by omega)]
    · subst g; simp
    · rw [if_neg (show ¬ (b : Int) < d by omega), if_pos (show (d : Int) < b by omega), if_neg (by decide), if_neg (by omega), if_pos (by omega)]
  · rw [if_neg (show ¬ (a : Int) < c by omega), if_pos (show (c : Int) < a by omega), if_neg (by decide), if_neg (by omega), if_pos (by omega)]
theorem ord_abs (m n : Int) : orL [ord (hiW m) (hiW n), ord (loW m) (loW n)] = ord m.natAbs n.natAbs := by
  have h1 := Nat.div_add_mod m.natAbs 18446744073709551616
  have h2 := Nat.div_add_mod n.natAbs 18446744073709551616
  unfold hiW loW
  rw [ord_lex _ _ _ _ (Nat.mod_lt _ (by decide)) (Nat.mod_lt _ (by decide))]
  congr 1 <;> omega
theorem ord_wide (m n : Int) : (if ord m 0 = ord n 0 then ord m 0 * orL [ord (hiW m) (hiW n), ord (loW m) (loW n)] else ord (ord m 0) (ord n 0)) = ord m n := by
  rw [ord_abs]
  rcases Int.lt_trichotomy m 0 with h | h | h <;> rcases Int.lt_trichotomy n 0 with g | g | g
  all_goals
    first
      | have e1 : ord m 0 = -1 := by unfold ord; rw [if_pos h]
      | have e1 : ord m 0 = 0 := by subst h; unfold ord; rfl
      | have e1 : ord m 0 = 1 := by unfold ord; rw [if_neg (by omega), if_pos h]
    first
      | have e2 : ord n 0 = -1 := by unfold ord; rw [if_pos g]
      | have e2 : ord n 0 = 0 := by subst g; unfold ord; rfl
      | have e2 : ord n 0 = 1 := by unfold ord; rw [if_neg (by omega), if_pos g]
    rw [e1, e2]
    unfold ord
    (repeat' split) <;> omega
theorem s_than (m n : Int) : Spec PP 88 [wide m, wide n] [N (ord m n)] := by
  refine spec_at Try.func88 rfl (by kernel_rfl) rfl ?_
  refine Split.by (fun h1 => ?_) (fun h1 => ?_)
  · have h1 : ord m 0 ≠ ord n 0 := by simpa using h1
    refine CallSt.pure (s_order _ _) rfl rfl ?_
    refine r1I rfl ?_
    rw [← ord_wide m n, if_neg h1]
  · have h1 : ord m 0 = ord n 0 := by simpa using h1
    refine Exists.intro (List.range 16) (And.intro (by kernel_rfl) (FzOb.no ?_))
    refine CallOb.pure (s_orderU _ _) rfl rfl ?_
    refine CallOb.pure (s_orderU _ _) rfl rfl ?_
    refine CallOb.pureE (s_or [_, _] ?_) rfl (eqv_slI2 rfl rfl) rfl ?_
    · exact Nat.le_of_ble_eq_true rfl
    have hb : ∀ x y : Int, (-1 ≤ x ∧ x ≤ 1) → (-1 ≤ y ∧ y ≤ 1) → -1 ≤ orL [x, y] ∧ orL [x, y] ≤ 1 := fun x y hx hy => by
      simp only [orL]; split
      · split <;> omega
      · omega
    have h3 := mulB (ord_bd m 0) (hb _ _ (ord_bd (hiW m) (hiW n)) (ord_bd (loW m) (loW n)))
    refine ⟨inI64 (by omega) (by omega), ?_⟩
    refine r1I rfl ?_
    rw [← ord_wide m n, if_pos h1]
/-- On which side of the line from a to b the point c lies. -/
def dX (a b : Corner) : Int := b.X * a.Den - a.X * b.Den
def dY (a b : Corner) : Int := b.Y * a.Den - a.Y * b.Den
@[irreducible] def turn (a b c : Corner) : Int := ord (dX a b * dY a c) (dY a b * dX a c)
theorem s_turn (a b c : Corner) (ha : okC a) (hb : okC b) (hc : okC c) : Spec PP 94 [a.v, b.v, c.v] [N (turn a b c)] := by
  have da := ha.d
  have db := hb.d
  have dc := hc.d
  have h1 := mulB hb.x (b := a.Den) (y := 2097152) (by omega)
  have h2 := mulB ha.x (b := b.Den) (y := 2097152) (by omega)
  have h3 := mulB hb.y (b := a.Den) (y := 2097152) (by omega)
  have h4 := mulB ha.y (b := b.Den) (y := 2097152) (by omega)
  have h5 := mulB hc.x (b := a.Den) (y := 2097152) (by omega)
  have h6 := mulB ha.x (b := c.Den) (y := 2097152) (by omega)
  have h7 := mulB hc.y (b := a.Den) (y := 2097152) (by omega)
  have h8 := mulB ha.y (b := c.Den) (y := 2097152) (by omega)
  refine spec_at Try.func94 rfl (by kernel_rfl) rfl ?_
  refine Exists.intro (List.range 24) (And.intro (by kernel_rfl) (FzOb.no ?_))
  refine ⟨inI64 (by omega) (by omega), ⟨inI64 (by omega) (by omega), ⟨inI64 (by omega) (by omega), ⟨inI64 (by omega) (by omega), ⟨inI64 (by omega) (by omega), ⟨inI64 (by omega) (by omega), ?_⟩⟩⟩⟩⟩⟩
  refine Exists.intro (List.range 24) (And.intro (by kernel_rfl) (FzOb.no ?_))
  refine ⟨inI64 (by omega) (by omega), ⟨inI64 (by omega) (by omega), ⟨inI64 (by omega) (by omega), ⟨inI64 (by omega) (by omega), ⟨inI64 (by omega) (by omega), ⟨inI64 (by omega) (by omega), ?_⟩⟩⟩⟩⟩⟩
  refine CallSt.pure (s_times (b.X * a.Den - a.X * b.Den) (c.Y * a.Den - a.Y * c.Den) (by omega) (by omega)) rfl rfl ?_
  refine CallSt.pure (s_times (b.Y * a.Den - a.Y * b.Den) (c.X * a.Den - a.X * c.Den) (by omega) (by omega)) rfl rfl ?_
  refine CallSt.pure (s_than _ _) rfl rfl ?_
  refine r1I rfl ?_
  unfold turn dX dY; rfl
end Go.Pg
