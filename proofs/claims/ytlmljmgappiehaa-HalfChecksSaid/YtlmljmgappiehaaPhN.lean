/-
  Contracts: Hull.
-/
import Derived.Test.YtlmljmgappiehaaPhM
set_option linter.all false
set_option maxRecDepth 100000
namespace Go.Pg
open Go.Proofs Go.RowKit Go.Sort

@[irreducible] def edgeL (p q : Place) : Half := ⟨q.Y - p.Y, p.X - q.X, (q.Y - p.Y) * p.X + (p.X - q.X) * p.Y⟩
structure okP (p : Place) : Prop where
  x : -1073741824 ≤ p.X ∧ p.X ≤ 1073741824
  y : -1073741824 ≤ p.Y ∧ p.Y ≤ 1073741824
theorem s_leftOf (p q : Place) (hp : okP p) (hq : okP q) : Spec PP 60 [p.v, q.v] [(edgeL p q).v] := by
  have p1 := hp.x
  have p2 := hp.y
  have q1 := hq.x
  have q2 := hq.y
  have b1 := mulB (a := q.Y - p.Y) (x := 2147483648) (by omega) hp.x
  have b2 := mulB (a := p.X - q.X) (x := 2147483648) (by omega) hp.y
  refine spec_at Try.func60 rfl (by kernel_rfl) rfl ?_
  refine Exists.intro (List.range 12) (And.intro (by kernel_rfl) (FzOb.no ?_))
  refine ⟨inI64 (by omega) (by omega), ⟨inI64 (by omega) (by omega), ?_⟩⟩
  refine ⟨inI64 (by omega) (by omega), ⟨inI64 (by omega) (by omega), ⟨inI64 (by omega) (by omega), ?_⟩⟩⟩
  refine r1C rfl rfl rfl rfl rfl rfl (eqvs3 ?_ ?_ ?_) <;> (unfold edgeL; rfl)
/-- The i-th corner, around, as a place. -/
@[irreducible] def atP (c : List Corner) (i : Nat) : Place := ⟨(c.getD (i % c.length) default).X, (c.getD (i % c.length) default).Y⟩
abbrev ptrC (c : List Corner) : V1 := .d (.ptr 1 fun _ => .slc 3 c.length fun i => (c.getD i default).at)
theorem s_at (c : List Corner) (i : Nat) (h0 : 0 < c.length) (hi : i ≤ 1000000) (hn : c.length ≤ 1000000) : Spec PP 59 [N i, ptrC c] [(atP c i).v] := by
  have hm : ((i : Int).tmod (c.length : Int)) = ((i % c.length : Nat) : Int) := rfl
  have hlt := Nat.mod_lt i h0
  refine spec_at Try.func59 rfl (by kernel_rfl) rfl ?_
  refine Exists.intro (List.range 18) (And.intro (by kernel_rfl) (FzOb.no ?_))
  refine ⟨by omega, ?_⟩
  refine ⟨⟨rfl, by rw [hm]; omega, by rw [hm]; omega⟩, ?_⟩
  refine ⟨by omega, ?_⟩
  refine ⟨⟨rfl, by rw [hm]; omega, by rw [hm]; omega⟩, ?_⟩
  refine r1C rfl rfl rfl rfl rfl rfl (eqvs2 ?_ ?_) <;> (unfold atP; rfl)
theorem popR_ne (p : Corner) : ∀ st : List Corner, st ≠ [] → popR p st ≠ []
  | [b], _ => by simp [popR]
  | b :: a :: r, _ => by
    simp only [popR]
    split
    · exact popR_ne p (a :: r) (by simp)
    · simp
theorem chainR_two (l : List Corner) : ∀ i, i ≤ l.length → min i 2 ≤ (chainR (l.take i)).length
  | 0, _ => by simp
  | i + 1, h => by
    rw [chainR_take l (by omega)]
    have ih := chainR_two l i (by omega)
    show _ ≤ (popR _ _).length + 1
    rcases Nat.eq_zero_or_pos i with h0 | h0
    · subst h0; simp
    · have : popR (l.getD i default) (chainR (l.take i)) ≠ [] := popR_ne _ _ fun hh => by rw [hh] at ih; simp at ih; omega
      have := List.length_pos_iff.2 this
      omega
theorem halfL_pos {l : List Corner} (h : 2 ≤ l.length) : 0 < (halfL l).length := by
  have := chainR_two l l.length (Nat.le_refl _)
  rw [List.take_length] at this
  unfold halfL
  rw [List.length_reverse, List.length_tail]
  omega
theorem hullL_pos {l : List Corner} (h : 0 < l.length) : 0 < (hullL l).length := by
  unfold hullL
  split
  · exact h
  · rw [List.length_append]
    have := halfL_pos (l := l) (by omega)
    omega
theorem compL_pos {l : List Corner} (h : 0 < l.length) : 0 < (compL l).length := by
  have : l.getD 0 default ∈ compL l := by
    unfold compL compP
    exact List.mem_map.2 ⟨0, List.mem_filter.2 ⟨List.mem_range.2 h, keep0 l (by omega)⟩, rfl⟩
  exact List.length_pos_of_mem this
theorem hullL_mem {m : List Corner} {q : Corner} (h : q ∈ hullL m) : q ∈ m := by
  unfold hullL at h
  have hh : ∀ {m : List Corner} {q : Corner}, q ∈ halfL m → q ∈ m := fun {m q} h => by
    unfold halfL at h
    have := (chainR_mem m m.length (Nat.le_refl _)).1 q
    rw [List.take_length] at this
    exact this (List.mem_of_mem_tail (List.mem_reverse.1 h))
  split at h
  · exact h
  · rcases List.mem_append.1 h with h | h
    · exact hh h
    · exact List.mem_reverse.1 (hh h)
theorem hullL_len (l : List Corner) : (hullL l).length ≤ 2 * l.length := by
  have h3 := halfL_len l
  have h4 := halfL_len l.reverse
  rw [List.length_reverse] at h4
  unfold hullL
  split
  · omega
  · rw [List.length_append]; omega
/-! ### The places as corners -/
theorem on_bd {p : Place} (h : on p = true) : (0 ≤ p.X ∧ p.X ≤ 48) ∧ (0 ≤ p.Y ∧ p.Y ≤ 48) := by
  unfold on at h
  simp only [Bool.and_eq_true, within_spec] at h
  exact h
theorem ofP_valid {p : Place} (h : on p = true) : valid (ofP p) = true := by
  have hb := on_bd h
  have e : ofP p = ⟨p.X, p.Y, 1⟩ := by unfold ofP; rw [if_pos h]
  rw [e]
  unfold valid
  simp only [Bool.and_eq_true, within_spec, beq_iff_eq]
  refine ⟨⟨⟨by omega, by omega⟩, by omega⟩, ?_⟩
  rw [gcd3]
  simp
@[irreducible] def ofV (p : Place) : VC := if h : valid (ofP p) = true then ⟨ofP p, h⟩ else default
theorem ofV_eq {p : Place} (h : on p = true) : ofV p = ⟨ofP p, ofP_valid h⟩ := by unfold ofV; rw [dif_pos (ofP_valid h)]
@[irreducible] def ptsO (l : List Place) (i : Nat) : List VC := (l.take i).map ofV
theorem ptsO_zero (l : List Place) : ptsO l 0 = [] := by unfold ptsO; simp
theorem ptsO_len (l : List Place) {i : Nat} (h : i ≤ l.length) : (ptsO l i).length = i := by unfold ptsO; simp; omega
theorem ptsO_succ (l : List Place) {i : Nat} (h : i < l.length) : ptsO l (i + 1) = ptsO l i ++ [ofV (l.getD i default)] := by unfold ptsO; rw [take1 h default, List.map_append]; rfl
@[irreducible] def cycL (l : List Place) : List Corner := hullL (compL ((sortV (ptsO l l.length)).map fun p : VC => p.1))
@[irreducible] def edges1 (p : Place) : List Half := [⟨-1, 0, -p.X⟩, ⟨1, 0, p.X⟩, ⟨0, -1, -p.Y⟩, ⟨0, 1, p.Y⟩]
@[irreducible] def edges2 (p q : Place) : List Half := [edgeL p q, edgeL q p, ⟨-(q.X - p.X), -(q.Y - p.Y), -(q.X - p.X) * p.X - (q.Y - p.Y) * p.Y⟩, ⟨q.X - p.X, q.Y - p.Y, (q.X - p.X) * q.X + (q.Y - p.Y) * q.Y⟩]
@[irreducible] def edgesTo (c : List Corner) (i : Nat) : List Half := (List.range i).map fun i => edgeL (atP c i) (atP c (i + 1))
theorem edgesTo_zero (c : List Corner) : edgesTo c 0 = [] := by unfold edgesTo; rfl
theorem edgesTo_succ (c : List Corner) (i : Nat) : edgesTo c (i + 1) = edgesTo c i ++ [edgeL (atP c i) (atP c (i + 1))] := by unfold edgesTo; rw [List.range_succ, List.map_append]; rfl
theorem edgesTo_len (c : List Corner) (i : Nat) : (edgesTo c i).length = i := by unfold edgesTo; simp
@[irreducible] def hullE (l : List Place) : List Half × Int :=
  if l = [] then ([], 5) else if l.all on = true then
    (if (cycL l).length = 1 then edges1 (atP (cycL l) 0) else if (cycL l).length = 2 then edges2 (atP (cycL l) 0) (atP (cycL l) 1) else edgesTo (cycL l) (cycL l).length, 0)
  else ([], 1)
theorem eqH4 {a0 a1 a2 a3 a4 a5 a6 a7 a8 a9 b0 b1 : Int} : D.eqv (.slc 3 4 (rowOf 3 [I a0, I a1, I a2, I a3, I a4, I a5, I a6, I a7, I a8, I a9, I b0, I b1])) (.slc 3 [(⟨a0, a1, a2⟩ : Half), ⟨a3, a4, a5⟩, ⟨a6, a7, a8⟩, ⟨a9, b0, b1⟩].length fun i => (([(⟨a0, a1, a2⟩ : Half), ⟨a3, a4, a5⟩, ⟨a6, a7, a8⟩, ⟨a9, b0, b1⟩]).getD i default).at) := by
  refine ⟨rfl, .inr ⟨rfl, fun i hi j hj => ?_⟩⟩
  match i, j, hi, hj with
  | 0, 0, _, _ => exact ⟨rfl, rfl⟩
  | 0, 1, _, _ => exact ⟨rfl, rfl⟩
  | 0, 2, _, _ => exact ⟨rfl, rfl⟩
  | 1, 0, _, _ => exact ⟨rfl, rfl⟩
  | 1, 1, _, _ => exact ⟨rfl, rfl⟩
  | 1, 2, _, _ => exact ⟨rfl, rfl⟩
  | 2, 0, _, _ => exact ⟨rfl, rfl⟩
  | 2, 1, _, _ => exact ⟨rfl, rfl⟩
  | 2, 2, _, _ => exact ⟨rfl, rfl⟩
  | 3, 0, _, _ => exact ⟨rfl, rfl⟩
  | 3, 1, _, _ => exact ⟨rfl, rfl⟩
  | 3, 2, _, _ => exact ⟨rfl, rfl⟩
theorem s_Hull (l : List Place) (hn : l.length ≤ 100) : Spec PP 20 [slP l] [slH (hullE l).1, N (hullE l).2] := by
  refine spec_at Try.func20 rfl (by kernel_rfl) rfl ?_
  refine Split.by (fun h1 => ?_) (fun h1 => ?_)
  · have h1 : l = [] := by
      have : l.length = 0 := by simpa using h1
      exact List.length_eq_zero_iff.1 this
    have e : hullE l = ([], 5) := by unfold hullE; rw [if_pos h1]
    rw [e]
    exact ⟨⟨_, _, _, _, rfl, rfl, .inl rfl⟩, rtI rfl rfl, trivial⟩
  have h1 : l ≠ [] := fun hh => by rw [hh] at h1; cases h1
  have hpos := List.length_pos_iff.2 h1
  refine LoopOb.of (σ := Nat) (fun i => ([(4, .own 4), (18, avOf (slP l)), (19, .d (I l.length)), (20, .d (I i))], [(4, .row 24 3 (ptsO l i).length (VI.row (ptsO l i)))])) (fun i => i ≤ l.length ∧ ∀ m, m < i → on (l.getD m default) = true) (fun i => l.length - i) 0
    ⟨rfl, ⟨obR rfl ⟨by rw [ptsO_zero]; rfl, .inl rfl⟩, trivial⟩, avQ rfl, avR _ rfl, avR _ rfl, avR _ rfl, trivial⟩ ⟨Nat.zero_le _, fun m hm => absurd hm (Nat.not_lt_zero _)⟩ fun i hi => ?_
  obtain ⟨i1, i2⟩ := hi
  have hl := ptsO_len l i1
  refine Split.by (fun h2 => ?_) (fun h2 => ?_)
  · have h2 : i < l.length := by simpa using h2
    refine ⟨⟨rfl, by omega, by omega⟩, ?_⟩
    refine CallSt.pure (s_on (l.getD i default)) rfl rfl ?_
    refine Split.by (fun h3 => ?_) (fun h3 => ?_)
    · have h3 : on (l.getD i default) = false := by simpa using h3
      have e : hullE l = ([], 1) := by
        unfold hullE
        rw [if_neg h1, if_neg fun hh => by rw [List.all_eq_true.1 hh _ (gd1 h2 default)] at h3; cases h3]
      rw [e]
      exact ⟨⟨_, _, _, _, rfl, rfl, .inl rfl⟩, rtI rfl rfl, trivial⟩
    · have h3 : on (l.getD i default) = true := by simpa using h3
      refine CallSt.pure (s_Of (l.getD i default)) rfl rfl ?_
      refine ⟨⟨.inr rfl, by unfold maxLen; omega, by show ((ptsO l i).length + 1) * 24 ≤ 140737488355328; omega⟩, ?_⟩
      refine ⟨inI64 (by omega) (by omega), ?_⟩
      refine ⟨i + 1, ⟨rfl, ⟨obR rfl ?_, trivial⟩, avQ rfl, avR _ rfl, avR _ rfl, avI rfl rfl, trivial⟩, ⟨h2, fun m hm => ?_⟩, ?_⟩
      · rw [ptsO_succ l h2, ofV_eq h3]; exact pushV (eqAt _)
      · rcases Nat.lt_or_ge m i with h | h
        · exact i2 m h
        · obtain rfl : m = i := by omega
          exact h3
      · show l.length - (i + 1) < l.length - i
        omega
  have h2 : i = l.length := by
    have : ¬ i < l.length := by simpa using h2
    omega
  subst h2
  have hall : l.all on = true := List.all_eq_true.2 fun p hp => by
    obtain ⟨m, hm, he⟩ := List.getElem_of_mem hp
    have := i2 m hm
    rw [List.getD_eq_getElem?_getD, List.getElem?_eq_getElem hm] at this
    rw [← he]; exact this
  have hcl := compL_len ((sortV (ptsO l l.length)).map fun p : VC => p.1)
  rw [List.length_map, sortV_len, hl] at hcl
  have hcp : 0 < (compL ((sortV (ptsO l l.length)).map fun p : VC => p.1)).length := compL_pos (by rw [List.length_map, sortV_len, hl]; exact hpos)
  have hcv : ∀ q ∈ (compL ((sortV (ptsO l l.length)).map fun p : VC => p.1)), valid q = true := fun q hq => by
    obtain ⟨p, _, rfl⟩ := List.mem_map.1 (compL_mem hq)
    exact p.2
  have hull : Spec PP 57 [slC (compL ((sortV (ptsO l l.length)).map fun p : VC => p.1))] [slC (cycL l)] := by
    have := s_hull (compL ((sortV (ptsO l l.length)).map fun p : VC => p.1)) (fun q hq => okC_of (hcv q hq)) (by omega)
    unfold cycL
    exact this
  have c0 : 0 < (cycL l).length := by unfold cycL; exact hullL_pos hcp
  have c1 : (cycL l).length ≤ 200 := by
    have := hullL_len (compL ((sortV (ptsO l l.length)).map fun p : VC => p.1))
    unfold cycL
    omega
  have c2 : ∀ i, okP (atP (cycL l) i) := fun i => by
    have hm : (cycL l).getD (i % (cycL l).length) default ∈ cycL l := gd1 (Nat.mod_lt i c0) default
    have hm' : (cycL l).getD (i % (cycL l).length) default ∈ (compL ((sortV (ptsO l l.length)).map fun p : VC => p.1)) := by
      have := hm
      unfold cycL at this ⊢
      exact hullL_mem this
    have := okC_of (hcv _ hm')
    unfold atP
    exact ⟨this.x, this.y⟩
  have e : hullE l = (if (cycL l).length = 1 then edges1 (atP (cycL l) 0) else if (cycL l).length = 2 then edges2 (atP (cycL l) 0) (atP (cycL l) 1) else edgesTo (cycL l) (cycL l).length, 0) := by
    unfold hullE; rw [if_neg h1, if_pos hall]
  rw [e]
  refine CallSt.rw' rfl (r_sortV (ptsO l l.length) (by omega)) ⟨⟨[], .tmp 33, [.func 56], [], rfl, rfl, rfl, rfl, rfl, rfl, rfl⟩⟩ rfl ?_
  refine CallSt.tk rfl (t_compactS (ptsO l l.length) (by omega)) ⟨⟨[], .tmp 35, [], [], rfl, rfl, rfl, rfl, rfl, rfl, rfl⟩⟩ rfl ?_
  refine CallSt.fz [4] hull rfl rfl ?_
  have p0 := c2 0
  have p1 := c2 1
  have x0 := p0.x
  have y0 := p0.y
  have x1 := p1.x
  have y1 := p1.y
  refine CallSt.fzE [7] (s_at (cycL l) 0 c0 (by omega) (by omega)) rfl ⟨⟨rfl, rfl⟩, ⟨rfl, fun j hj => ?_⟩, trivial⟩ rfl ?_
  · obtain rfl : j = 0 := Nat.lt_one_iff.1 hj
    exact D.eqv_refl _
  refine CallSt.pureE (s_at (cycL l) 1 c0 (by omega) (by omega)) rfl ⟨⟨rfl, rfl⟩, ⟨rfl, fun j hj => ?_⟩, trivial⟩ rfl ?_
  · obtain rfl : j = 0 := Nat.lt_one_iff.1 hj
    exact D.eqv_refl _
  refine Split.by (fun h3 => ?_) (fun h3 => ?_)
  · have h3 : (cycL l).length = 1 := by
      have : ((cycL l).length : Int) = 1 := by simpa using h3
      omega
    rw [if_pos h3]
    refine ⟨inI64 (by omega) (by omega), ⟨inI64 (by omega) (by omega), ?_⟩⟩
    refine ⟨⟨_, _, _, _, rfl, ?_⟩, rtI rfl rfl, trivial⟩
    unfold edges1
    exact eqH4
  have h3 : (cycL l).length ≠ 1 := fun hh => by rw [hh] at h3; cases h3
  rw [if_neg h3]
  refine Split.by (fun h4 => ?_) (fun h4 => ?_)
  · have h4 : (cycL l).length = 2 := by
      have : ((cycL l).length : Int) = 2 := by simpa using h4
      omega
    rw [if_pos h4]
    have b1 := mulB (a := -((atP (cycL l) 1).X - (atP (cycL l) 0).X)) (x := 2147483648) (by omega) p0.x
    have b2 := mulB (a := (atP (cycL l) 1).Y - (atP (cycL l) 0).Y) (x := 2147483648) (by omega) p0.y
    have b3 := mulB (a := (atP (cycL l) 1).X - (atP (cycL l) 0).X) (x := 2147483648) (by omega) p1.x
    have b4 := mulB (a := (atP (cycL l) 1).Y - (atP (cycL l) 0).Y) (x := 2147483648) (by omega) p1.y
    refine Exists.intro (List.range 12) (And.intro (by kernel_rfl) (FzOb.no ?_))
    refine ⟨inI64 (by omega) (by omega), ⟨inI64 (by omega) (by omega), ?_⟩⟩
    refine Exists.intro (List.range 36) (And.intro (by kernel_rfl) (FzOb.no ?_))
    refine CallOb.pure (s_leftOf (atP (cycL l) 0) (atP (cycL l) 1) p0 p1) rfl rfl ?_
    refine CallOb.pure (s_leftOf (atP (cycL l) 1) (atP (cycL l) 0) p1 p0) rfl rfl ?_
    refine ⟨inI64 (by omega) (by omega), ⟨inI64 (by omega) (by omega), ⟨inI64 (by omega) (by omega), ?_⟩⟩⟩
    refine ⟨inI64 (by omega) (by omega), ⟨inI64 (by omega) (by omega), ⟨inI64 (by omega) (by omega), ?_⟩⟩⟩
    refine ⟨inI64 (by omega) (by omega), ⟨inI64 (by omega) (by omega), ⟨inI64 (by omega) (by omega), ?_⟩⟩⟩
    unfold edges2
    exact ⟨eqH4, rtI rfl rfl, trivial⟩
  have h4 : (cycL l).length ≠ 2 := fun hh => by rw [hh] at h4; cases h4
  rw [if_neg h4]
  refine LoopOb.of (σ := Nat) (fun i => ([(7, .roe 1 fun _ => .slc 3 (cycL l).length fun i => ((cycL l).getD i default).at), (8, .clo 59 [.dat (.ptr 1 fun _ => .slc 3 (cycL l).length fun i => ((cycL l).getD i default).at)]), (13, .own 13), (109, .d (I (cycL l).length)), (110, .d (I i))], [(13, .row 43 3 (edgesTo (cycL l) i).length fun m => ((edgesTo (cycL l) i).getD m default).at)])) (fun i => i ≤ (cycL l).length) (fun i => (cycL l).length - i) 0
    ⟨rfl, ⟨obR rfl ⟨by rw [edgesTo_zero]; rfl, .inl rfl⟩, trivial⟩, avRo rfl ⟨rfl, fun j hj => ?_⟩, ⟨rfl, ⟨rfl, fun j hj => ?_⟩, trivial⟩, avQ rfl, avR _ rfl, avR _ rfl, trivial⟩ (Nat.zero_le _) fun i hi => ?_
  · obtain rfl : j = 0 := Nat.lt_one_iff.1 hj
    exact D.eqv_refl _
  · obtain rfl : j = 0 := Nat.lt_one_iff.1 hj
    exact D.eqv_refl _
  have hel := edgesTo_len (cycL l) i
  refine Split.by (fun h5 => ?_) (fun h5 => ?_)
  · have h5 : i < (cycL l).length := by have := dT h5; omega
    refine CallSt.pure (s_at (cycL l) i c0 (by omega) (by omega)) rfl rfl ?_
    refine ⟨inI64 (by omega) (by omega), ?_⟩
    refine CallSt.pureE (s_at (cycL l) (i + 1) c0 (by omega) (by omega)) rfl ⟨⟨rfl, rfl⟩, D.eqv_refl _, trivial⟩ rfl ?_
    refine CallSt.pure (s_leftOf (atP (cycL l) i) (atP (cycL l) (i + 1)) (c2 i) (c2 (i + 1))) rfl rfl ?_
    refine ⟨⟨.inr rfl, by unfold maxLen; omega, by show ((edgesTo (cycL l) i).length + 1) * 24 ≤ 140737488355328; omega⟩, ?_⟩
    refine ⟨inI64 (by omega) (by omega), ?_⟩
    refine ⟨i + 1, ⟨rfl, ⟨obR rfl ?_, trivial⟩, avRo rfl (D.eqv_refl _), avQ rfl, avQ rfl, avR _ rfl, avI rfl rfl, trivial⟩, h5, ?_⟩
    · rw [edgesTo_succ]
      exact pushH rfl (eqAtH _)
    · show (cycL l).length - (i + 1) < (cycL l).length - i
      omega
  · have h5 : i = (cycL l).length := by
      have := dF h5
      omega
    subst h5
    exact ⟨⟨_, _, _, _, rfl, D.eqv_refl _⟩, rtI rfl rfl, trivial⟩
end Go.Pg
