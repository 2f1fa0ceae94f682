/-
  From the rows' side to the calculus: structs that hold structs, and slices of structs of integers. For every program. And the seat's types of that kind.
-/
import Derived.Test.YtlmljmgappiehaaGreatK4
import Derived.Test.YtlmljmgappiehaaGreatK6
import Derived.Test.YtlmljmgappiehaaGreatKN
set_option linter.all false
namespace Go.Pg
open Go.RowKit Go.ChangeShapes Go.WideShapes Go.Deep

/-- What a cell holds: an int, or a slice of structs of k ints. -/
inductive Ck where
  | int
  | sl (k : Nat)
def Gd (w : World) : Ck → Value → Prop
  | .int, v => ∃ n : Int, (-9223372036854775808 ≤ n ∧ n ≤ 9223372036854775807) ∧ v = .int .i64 n
  | .sl k, v => ∃ (a : Option Addr) (len cap : Nat) (g : Nat → Nat → Int), v = .slice a len cap ∧ (∀ i j, i < len → j < k → -9223372036854775808 ≤ g i j ∧ g i j ≤ 9223372036854775807) ∧ Rep w (fun b => b < w.heap.size) (.slc k len fun i j => I (g i j)) v
def intB (P : Program) (fs : Array Field) : Bool := fs.toList.all fun f => match P.underlying f.type with | some (.int .i64) => true | _ => false
def shapeFs (cells : TypeId → Nat) (g : TypeId → Option (List Ck)) : Nat → List Field → Option (List Ck)
  | _, [] => some []
  | off, f :: r => (g f.type).bind fun a => bif f.offset == off && a.length == cells f.type then (shapeFs cells g (off + a.length) r).map fun b => a ++ b else none
def shapeSl (P : Program) (e : TypeId) : Option (List Ck) := match P.underlying e with
  | some (.struct fs) => bif oneCellFields P fs && P.cellsOf e == fs.size && intB P fs && Nat.blt 0 fs.size then some [.sl fs.size] else none
  | _ => none
def shapeSt (P : Program) (g : TypeId → Option (List Ck)) (t : TypeId) (fs : Array Field) : Option (List Ck) := (shapeFs P.cellsOf g 0 fs.toList).bind fun ks => bif ks.length == P.cellsOf t then some ks else none
/-- The cells of a type. -/
def shapeOf (P : Program) : Nat → TypeId → Option (List Ck)
  | 0, _ => none
  | n + 1, t => match P.underlying t with
    | some (.int .i64) => some [.int]
    | some (.slice e) => shapeSl P e
    | some (.struct fs) => shapeSt P (shapeOf P n) t fs
    | _ => none
theorem All2.app {α β : Type} {R : α → β → Prop} {a c : List α} {b d : List β} (h1 : All2 R a b) (h2 : All2 R c d) : All2 R (a ++ c) (b ++ d) := by
  induction h1 with
  | nil => exact h2
  | cons h _ ih => exact .cons h ih
section
variable {H : Type} {enc : TypeId × Value → H} {P : Program} {w : World} {base : Nat} {spare : Nat → Bool} {held : Bool}
theorem shapeFs_good {g : TypeId → Option (List Ck)} {n : Nat} {cs : List Value}
    (ih : ∀ t ks, g t = some ks → ∀ cs x, DataW.trod enc P w base spare held n t cs = some x → All2 (Gd w) ks cs) :
    ∀ (r : List Field) (off : Nat) (ks : List Ck), shapeFs P.cellsOf g off r = some ks → (∀ f ∈ r, ∃ x, DataW.trod enc P w base spare held n f.type ((cs.drop f.offset).take (P.cellsOf f.type)) = some x) → All2 (Gd w) ks ((cs.drop off).take ks.length)
  | [], off, ks, h, _ => by
    simp only [shapeFs, Option.some.injEq] at h
    subst h
    exact .nil
  | f :: r, off, ks, h, hx => by
    unfold shapeFs at h
    obtain ⟨a, ha, h⟩ := Option.bind_eq_some_iff.1 h
    cases hc : f.offset == off && a.length == P.cellsOf f.type with
    | false => rw [hc] at h; cases h
    | true =>
      rw [hc] at h
      obtain ⟨b, hb, rfl⟩ := Option.map_eq_some_iff.1 (show (shapeFs P.cellsOf g (off + a.length) r).map (fun b => a ++ b) = some ks from h)
      simp only [Bool.and_eq_true, beq_iff_eq] at hc
      obtain ⟨x, h1⟩ := hx f (List.mem_cons_self ..)
      rw [hc.1, ← hc.2] at h1
      have g1 := ih _ _ ha _ _ h1
      have g2 := shapeFs_good ih r (off + a.length) b hb fun f hf => hx f (List.mem_cons_of_mem _ hf)
      rw [List.length_append, List.take_add, List.drop_drop]
      exact g1.app g2
theorem shape_good : ∀ (n : Nat) (t : TypeId) (ks : List Ck), shapeOf P n t = some ks → ∀ (fuel : Nat) (cs : List Value) (x : DataW H × List MemPlace), DataW.trod enc P w base spare held fuel t cs = some x → All2 (Gd w) ks cs
  | 0, _, _, h, _, _, _, _ => by cases h
  | n + 1, t, ks, h, fuel, cs, x, ht => by
    unfold shapeOf at h
    split at h
    · rename_i hu
      simp only [Option.some.injEq] at h
      subst h
      obtain ⟨m, rfl, _, hw⟩ := DataW.trod_int hu ht
      exact .cons ⟨m, wf_i64 hw, rfl⟩ .nil
    · rename_i e hu
      unfold shapeSl at h
      split at h
      · rename_i fs he
        cases hc : oneCellFields P fs && P.cellsOf e == fs.size && intB P fs && Nat.blt 0 fs.size with
        | false => rw [hc] at h; cases h
        | true =>
          rw [hc] at h
          simp only [cond_true, Option.some.injEq] at h
          subst h
          simp only [Bool.and_eq_true, beq_iff_eq, Nat.blt_eq] at hc
          obtain ⟨⟨⟨c1, c2⟩, c3⟩, c4⟩ := hc
          have key : ∃ a len cap, cs = [.slice a len cap] := by
            rcases open_slice hu ht with ⟨rfl, _⟩ | ⟨a, len, cap, _, _, _, _, rfl, _⟩
            · exact ⟨_, _, _, rfl⟩
            · exact ⟨_, _, _, rfl⟩
          obtain ⟨a, len, cap, rfl⟩ := key
          obtain ⟨g, bd, hr⟩ := open_slI hu he c1 c2 (intFs_of c3) c4 ht
          exact .cons ⟨a, len, cap, g, rfl, bd, hr⟩ .nil
      · cases h
    · rename_i fs hu
      unfold shapeSt at h
      obtain ⟨ks', hk, h⟩ := Option.bind_eq_some_iff.1 h
      cases hc : ks'.length == P.cellsOf t with
      | false => rw [hc] at h; cases h
      | true =>
        rw [hc] at h
        simp only [cond_true, Option.some.injEq] at h
        subst h
        obtain ⟨xs, m, rfl, _, hl, hlen, hf⟩ := DataW.trod_struct hu ht
        have key := shapeFs_good (cs := cs) (n := m) (fun t ks h cs x hx => shape_good n t ks h m cs x hx) fs.toList 0 ks' hk fun f hf' => by
          obtain ⟨i, hi, rfl⟩ := List.getElem_of_mem hf'
          have hi' : i < fs.size := by simpa using hi
          have h1 := hf i fs[i] (Array.getElem?_eq_getElem hi')
          rw [List.getElem?_eq_getElem (show i < xs.length by omega)] at h1
          exact ⟨_, by simpa using h1⟩
        rw [List.drop_zero, List.take_of_length_le (by have := beq_iff_eq.1 hc; omega)] at key
        exact key
    · cases h
/-- A struct, by value. -/
theorem open_shape {r : Reach} {b0 n : Nat} {t : TypeId} {fs : Array Field} {ks : List Ck} {v : Value} {d : DataW H} {p : List MemPlace} (hs : P.underlying t = some (.struct fs)) (hk : shapeOf P n t = some ks)
    (hv : Value.okWide P w r b0 t v) (h : DataW.Trod enc P w base spare held t v d p) : ∃ cs : List Value, v = .agg cs.toArray ∧ All2 (Gd w) ks cs := by
  obtain ⟨cs, rfl, hsz⟩ := okWide_struct hs hv
  obtain ⟨fuel, hf⟩ := h
  exact ⟨cs.toList, by simp, shape_good n t ks hk fuel _ _ (by simpa [Value.cells] using hf)⟩
end
/-! ### The seat's types -/
/-- How a bound is changed. -/
structure Bend where
  What : Int
  At : Int
  By : Int
  U : Use
section
variable {w : World}
theorem rep_bound {cs : List Value} (h : All2 (Gd w) [.int, .int, .int, .int, .int, .int, .sl 2] cs) :
    ∃ b : Bound, (∀ u ∈ b.Uses, (-9223372036854775808 ≤ u.H ∧ u.H ≤ 9223372036854775807) ∧ (-9223372036854775808 ≤ u.T ∧ u.T ≤ 9223372036854775807)) ∧ Rep1 w (fun b => b < w.heap.size) b.v (.agg cs.toArray) := by
  cases h with | cons h0 h =>
  cases h with | cons h1 h =>
  cases h with | cons h2 h =>
  cases h with | cons h3 h =>
  cases h with | cons h4 h =>
  cases h with | cons h5 h =>
  cases h with | cons h6 h =>
  cases h
  obtain ⟨n0, b0, rfl⟩ := h0
  obtain ⟨n1, b1, rfl⟩ := h1
  obtain ⟨n2, b2, rfl⟩ := h2
  obtain ⟨n3, b3, rfl⟩ := h3
  obtain ⟨n4, b4, rfl⟩ := h4
  obtain ⟨n5, b5, rfl⟩ := h5
  obtain ⟨a, len, cap, g, rfl, bd, hr⟩ := h6
  obtain ⟨U, hU, rU⟩ := rep_slU bd hr
  exact ⟨⟨⟨n0, n1⟩, ⟨n2, n3, n4⟩, n5, U⟩, hU, _, rfl, .cons rfl (.cons rfl (.cons rfl (.cons rfl (.cons rfl (.cons rfl (.cons rU .nil))))))⟩
theorem rep_bend {cs : List Value} (h : All2 (Gd w) [.int, .int, .int, .int, .int] cs) :
    ∃ x : Bend, ((-9223372036854775808 ≤ x.U.H ∧ x.U.H ≤ 9223372036854775807) ∧ (-9223372036854775808 ≤ x.U.T ∧ x.U.T ≤ 9223372036854775807)) ∧ Rep1 w (fun b => b < w.heap.size) (.agg [I x.What, I x.At, I x.By, I x.U.H, I x.U.T]) (.agg cs.toArray) := by
  cases h with | cons h0 h =>
  cases h with | cons h1 h =>
  cases h with | cons h2 h =>
  cases h with | cons h3 h =>
  cases h with | cons h4 h =>
  cases h
  obtain ⟨n0, b0, rfl⟩ := h0
  obtain ⟨n1, b1, rfl⟩ := h1
  obtain ⟨n2, b2, rfl⟩ := h2
  obtain ⟨n3, b3, rfl⟩ := h3
  obtain ⟨n4, b4, rfl⟩ := h4
  exact ⟨⟨n0, n1, n2, ⟨n3, n4⟩⟩, ⟨b3, b4⟩, _, rfl, .cons rfl (.cons rfl (.cons rfl (.cons rfl (.cons rfl .nil))))⟩
end
end Go.Pg
/-
  The law HalfTampers: the law's own bent; walk.
-/
set_option linter.all false
set_option maxRecDepth 100000
namespace Go.Pg
open Go.Proofs Go.RowKit

abbrev Bend.v (x : Bend) : V1 := .agg [I x.What, I x.At, I x.By, I x.U.H, I x.U.T]
abbrev wr (n : Int) : Int := IntKind.i64.wrap n
theorem wr_bd (n : Int) : -9223372036854775808 ≤ wr n ∧ wr n ≤ 9223372036854775807 := by
  simp only [wr, IntKind.wrap, IntKind.bits, IntKind.signed]
  simp
  split <;> omega
theorem wr_small {n : Int} (h1 : -9223372036854775808 ≤ n) (h2 : n ≤ 9223372036854775807) : wr n = n := wrap_inR (inI64 h1 h2)
theorem u64_bd (n : Int) : 0 ≤ IntKind.u64.wrap n := by
  simp only [IntKind.wrap, IntKind.bits, IntKind.signed]
  simp
  omega
theorem u64_len {n : Nat} (h : n ≤ 1000) : IntKind.u64.wrap (n : Int) = n := by
  simp only [IntKind.wrap, IntKind.bits, IntKind.signed]
  simp
  omega
/-- The place that is bent. -/
theorem bent_at (a : Int) {n : Nat} (h0 : 0 < n) (hn : n ≤ 1000) : ∃ k : Nat, k < n ∧ IntKind.i64.wrap ((IntKind.u64.wrap a).tmod (IntKind.u64.wrap (n : Int))) = k := by
  rw [u64_len hn]
  have h1 := Int.tmod_nonneg (n : Int) (u64_bd a)
  have h2 := Int.tmod_lt_of_pos (IntKind.u64.wrap a) (show 0 < (n : Int) by omega)
  refine ⟨((IntKind.u64.wrap a).tmod n).toNat, by omega, ?_⟩
  have := wr_small (n := (IntKind.u64.wrap a).tmod n) (by omega) (by omega)
  rw [show IntKind.i64.wrap ((IntKind.u64.wrap a).tmod n) = (IntKind.u64.wrap a).tmod n from this]
  omega
theorem app0U (f0 : Nat → Nat → D) (U : List Use) : D.eqv (.slc 2 (0 + U.length) (appRow 0 f0 (rowU U))) (.slc 2 U.length (rowU U)) := by
  refine ⟨by omega, .inr ⟨rfl, fun i hi j hj => ?_⟩⟩
  unfold appRow
  rw [if_neg (Nat.not_lt_zero _)]
  exact D.eqv_refl _
theorem app1U (U : List Use) (u : Use) : D.eqv (.slc 2 (U.length + 1) (appRow U.length (rowU U) (rowOf 2 [I u.H, I u.T]))) (.slc 2 (U ++ [u]).length (rowU (U ++ [u]))) := by
  refine app_row (at_ := Use.at) rfl rfl (fun i hi j hj => D.eqv_refl _) (fun i hi j hj => ?_)
  match i, j, hi, hj with
  | 0, 0, _, _ => exact D.eqv_refl _
  | 0, 1, _, _ => exact D.eqv_refl _
theorem setUs {U : List Use} {k : Nat} (hk : k < U.length) (c : Nat) {y : D} {u : Use} (h : ∀ j, j < 2 → D.eqv (if c ≤ j ∧ j < c + 1 then getD' [y] (j - c) else (U.getD k default).at j) (u.at j)) : D.eqv (.slc 2 U.length (storeRow (rowU U) k c [y])) (.slc 2 (U.set k u).length (rowU (U.set k u))) := by
  refine ⟨by rw [List.length_set], .inr ⟨rfl, fun i hi j hj => ?_⟩⟩
  show D.eqv (storeRow (rowU U) k c [y] i j) (((U.set k u).getD i default).at j)
  unfold storeRow
  have e : (U.set k u).getD i default = if i = k then u else U.getD i default := by
    rw [List.getD_eq_getElem?_getD, List.getElem?_set]
    by_cases z : k = i
    · subst z; rw [if_pos rfl, if_pos rfl, if_pos hk]; rfl
    · rw [if_neg z, if_neg (fun e => z e.symm), ← List.getD_eq_getElem?_getD]
  rw [e]
  by_cases z : i = k
  · rw [if_pos z]
    have := h j hj
    by_cases q : c ≤ j ∧ j < c + 1
    · rw [if_pos q] at this
      rw [if_pos ⟨z, q.1, q.2⟩]; exact this
    · rw [if_neg q] at this
      rw [if_neg fun e => q ⟨e.2.1, e.2.2⟩, z]; exact this
  · rw [if_neg z, if_neg fun e => z e.1]
    exact D.eqv_refl _
theorem cutU {U : List Use} {k lo n' : Nat} (hk : k < U.length) (hlo : lo = k + 1) (hn : lo + n' = U.length) : D.eqv (.slc 2 (k + n') (cutRow (rowU U) k lo)) (.slc 2 (U.take k ++ U.drop (k + 1)).length (rowU (U.take k ++ U.drop (k + 1)))) := by
  subst hlo
  refine app_row (at_ := Use.at) (by rw [List.length_take]; omega) (by rw [List.length_drop]; omega) (fun i hi j hj => ?_) (fun i hi j hj => ?_)
  · show D.eqv ((U.getD i default).at j) (((U.take k).getD i default).at j)
    rw [List.getD_eq_getElem?_getD, List.getD_eq_getElem?_getD, List.getElem?_take, if_pos hi]
    exact D.eqv_refl _
  · show D.eqv ((U.getD (k + 1 + i) default).at j) (((U.drop (k + 1)).getD i default).at j)
    rw [List.getD_eq_getElem?_getD, List.getD_eq_getElem?_getD, List.getElem?_drop]
    exact D.eqv_refl _
abbrev bxBd (b : Bound) : Ob := .box [.d (I b.V.Num), .d (I b.V.Den), .d (I b.At.X), .d (I b.At.Y), .d (I b.At.Den), .d (I b.Scale), .d (.slc 2 b.Uses.length (rowU b.Uses))]
abbrev bxZ : Ob := .box [.d (I 0), .d (I 0), .d (I 0), .d (I 0), .d (I 0), .d (I 0), .nilsl]
abbrev bxBe (x : Bend) : Ob := .box [.d (I x.What), .d (I x.At), .d (I x.By), .d (I x.U.H), .d (I x.U.T)]
abbrev bxOw (b : Bound) (i : Nat) : Ob := .box [.d (I b.V.Num), .d (I b.V.Den), .d (I b.At.X), .d (I b.At.Y), .d (I b.At.Den), .d (I b.Scale), .own i]
@[irreducible] def dblTo (U : List Use) (i : Nat) : List Use := (U.take i).map (fun u => ⟨u.H, wr (u.T * 2)⟩) ++ U.drop i
theorem dblTo_zero (U : List Use) : dblTo U 0 = U := by unfold dblTo; simp
theorem dblTo_len (U : List Use) {i : Nat} : (dblTo U i).length = U.length := by unfold dblTo; simp; omega
theorem dblTo_get (U : List Use) {i j : Nat} (hi : i ≤ U.length) (hj : j < U.length) : (dblTo U i).getD j default = if j < i then ⟨(U.getD j default).H, wr ((U.getD j default).T * 2)⟩ else U.getD j default := by
  unfold dblTo
  rw [List.getD_eq_getElem?_getD, gdI hj]
  by_cases z : j < i
  · rw [if_pos z, List.getElem?_append_left (by simp; omega), List.getElem?_map, List.getElem?_take, if_pos z, List.getElem?_eq_getElem hj]; rfl
  · rw [if_neg z, List.getElem?_append_right (by simp; omega), List.getElem?_drop]
    simp only [List.length_map, List.length_take]
    rw [show i + (j - min i U.length) = j by omega, List.getElem?_eq_getElem hj]; rfl
theorem dblTo_succ (U : List Use) {i : Nat} (hi : i < U.length) : dblTo U (i + 1) = (dblTo U i).set i ⟨((dblTo U i).getD i default).H, wr (((dblTo U i).getD i default).T * 2)⟩ := by
  have e4 : (⟨((dblTo U i).getD i default).H, wr (((dblTo U i).getD i default).T * 2)⟩ : Use) = ⟨(U.getD i default).H, wr ((U.getD i default).T * 2)⟩ := by
    rw [dblTo_get U (i := i) (by omega) hi, if_neg (Nat.lt_irrefl i)]
  rw [e4]
  refine List.ext_getElem (by rw [List.length_set, dblTo_len, dblTo_len]) fun j h1 h2 => ?_
  rw [dblTo_len] at h1
  have e1 := dblTo_get U (i := i + 1) (by omega) h1
  have e2 := dblTo_get U (i := i) (by omega) h1
  rw [gdI (by rw [dblTo_len]; exact h1)] at e1 e2
  rw [e1, List.getElem_set]
  by_cases z : i = j
  · subst z; rw [if_pos rfl, if_pos (by omega)]
  · rw [if_neg z, e2]
    by_cases y : j < i
    · rw [if_pos y, if_pos (by omega)]
    · rw [if_neg y, if_neg (by omega)]
def UB1 (u : Use) : Prop := (-9223372036854775808 ≤ u.H ∧ u.H ≤ 9223372036854775807) ∧ (-9223372036854775808 ≤ u.T ∧ u.T ≤ 9223372036854775807)
theorem UB_set {U : List Use} {k : Nat} {u : Use} (h : UB U) (hu : UB1 u) : UB (U.set k u) := fun v hv => by
  rcases List.mem_or_eq_of_mem_set hv with hv | rfl
  · exact h v hv
  · exact hu
set_option maxHeartbeats 4000000 in
theorem v_bent0 (b : Bound) (x : Bend) (hU : UB b.Uses) (hn : b.Uses.length ≤ 20) (hx : UB1 x.U) (h0 : b.Uses.length = 0) : ∃ b' : Bound, UB b'.Uses ∧ Spec PP 50 [b.v, x.v] [b'.v] := by
  obtain ⟨kk, hkk⟩ : ∃ kk : Nat, (0 : Int) = (kk : Int) := ⟨0, rfl⟩
  by_cases h1 : x.What = 1
  · refine ⟨⟨b.V, b.At, wr (b.Scale + x.By), b.Uses⟩, hU, ?_⟩
    refine specC_at [5, 28, 1000000007] Tryz.func50 rfl (by kernel_rfl) rfl ?_
    refine ⟨⟨.inr rfl, by unfold maxLen; show 0 + b.Uses.length ≤ _; omega, by show (0 + b.Uses.length) * 16 ≤ 140737488355328; omega⟩, ?_⟩
    refine Split.no (decide_eq_false (show ¬ 0 < ((0 + b.Uses.length : Nat) : Int) by omega)) ?_
    refine CutOb.at [(2, .box 2 0), (3, .box 3 0), (4, .box 4 0), (5, .d (I (kk : Int)))] [(2, bxOw b 7), (3, bxBe x), (4, bxZ), (7, .row 85 2 b.Uses.length (rowU b.Uses))] ⟨rfl, ⟨obX rfl, obX rfl, obX rfl, obR rfl (app0U _ _), trivial⟩, avQ rfl, avQ rfl, avQ rfl, avI rfl hkk, trivial⟩ ?_
    refine Split.yes (by simpa using h1) ?_
    refine CutOb.at [(2, .box 2 0), (4, .box 4 0)] [(2, bxBd ⟨b.V, b.At, wr (b.Scale + x.By), b.Uses⟩), (4, bxZ)] ⟨rfl, ⟨ob7 rfl rfl rfl (D.eqv_refl _), obX rfl, trivial⟩, avQ rfl, avQ rfl, trivial⟩ ?_
    exact r1C rfl rfl rfl rfl rfl rfl (eqvB (D.eqv_refl _))
  by_cases h2 : x.What = 2
  · refine ⟨⟨⟨wr (b.V.Num + x.By), b.V.Den⟩, b.At, b.Scale, b.Uses⟩, hU, ?_⟩
    refine specC_at [5, 28, 1000000007] Tryz.func50 rfl (by kernel_rfl) rfl ?_
    refine ⟨⟨.inr rfl, by unfold maxLen; show 0 + b.Uses.length ≤ _; omega, by show (0 + b.Uses.length) * 16 ≤ 140737488355328; omega⟩, ?_⟩
    refine Split.no (decide_eq_false (show ¬ 0 < ((0 + b.Uses.length : Nat) : Int) by omega)) ?_
    refine CutOb.at [(2, .box 2 0), (3, .box 3 0), (4, .box 4 0), (5, .d (I (kk : Int)))] [(2, bxOw b 7), (3, bxBe x), (4, bxZ), (7, .row 85 2 b.Uses.length (rowU b.Uses))] ⟨rfl, ⟨obX rfl, obX rfl, obX rfl, obR rfl (app0U _ _), trivial⟩, avQ rfl, avQ rfl, avQ rfl, avI rfl hkk, trivial⟩ ?_
    refine Split.no (by simpa using h1) ?_
    refine Split.yes (by simpa using h2) ?_
    refine CutOb.at [(2, .box 2 0), (4, .box 4 0)] [(2, bxBd ⟨⟨wr (b.V.Num + x.By), b.V.Den⟩, b.At, b.Scale, b.Uses⟩), (4, bxZ)] ⟨rfl, ⟨ob7 rfl rfl rfl (D.eqv_refl _), obX rfl, trivial⟩, avQ rfl, avQ rfl, trivial⟩ ?_
    exact r1C rfl rfl rfl rfl rfl rfl (eqvB (D.eqv_refl _))
  by_cases h3 : x.What = 3
  · refine ⟨⟨b.V, ⟨wr (b.At.X + x.By), b.At.Y, b.At.Den⟩, b.Scale, b.Uses⟩, hU, ?_⟩
    refine specC_at [5, 28, 1000000007] Tryz.func50 rfl (by kernel_rfl) rfl ?_
    refine ⟨⟨.inr rfl, by unfold maxLen; show 0 + b.Uses.length ≤ _; omega, by show (0 + b.Uses.length) * 16 ≤ 140737488355328; omega⟩, ?_⟩
    refine Split.no (decide_eq_false (show ¬ 0 < ((0 + b.Uses.length : Nat) : Int) by omega)) ?_
    refine CutOb.at [(2, .box 2 0), (3, .box 3 0), (4, .box 4 0), (5, .d (I (kk : Int)))] [(2, bxOw b 7), (3, bxBe x), (4, bxZ), (7, .row 85 2 b.Uses.length (rowU b.Uses))] ⟨rfl, ⟨obX rfl, obX rfl, obX rfl, obR rfl (app0U _ _), trivial⟩, avQ rfl, avQ rfl, avQ rfl, avI rfl hkk, trivial⟩ ?_
    refine Split.no (by simpa using h1) ?_
    refine Split.no (by simpa using h2) ?_
    refine Split.yes (by simpa using h3) ?_
    refine CutOb.at [(2, .box 2 0), (4, .box 4 0)] [(2, bxBd ⟨b.V, ⟨wr (b.At.X + x.By), b.At.Y, b.At.Den⟩, b.Scale, b.Uses⟩), (4, bxZ)] ⟨rfl, ⟨ob7 rfl rfl rfl (D.eqv_refl _), obX rfl, trivial⟩, avQ rfl, avQ rfl, trivial⟩ ?_
    exact r1C rfl rfl rfl rfl rfl rfl (eqvB (D.eqv_refl _))
  by_cases h4 : x.What = 4
  · refine ⟨b, hU, ?_⟩
    refine specC_at [5, 28, 1000000007] Tryz.func50 rfl (by kernel_rfl) rfl ?_
    refine ⟨⟨.inr rfl, by unfold maxLen; show 0 + b.Uses.length ≤ _; omega, by show (0 + b.Uses.length) * 16 ≤ 140737488355328; omega⟩, ?_⟩
    refine Split.no (decide_eq_false (show ¬ 0 < ((0 + b.Uses.length : Nat) : Int) by omega)) ?_
    refine CutOb.at [(2, .box 2 0), (3, .box 3 0), (4, .box 4 0), (5, .d (I (kk : Int)))] [(2, bxOw b 7), (3, bxBe x), (4, bxZ), (7, .row 85 2 b.Uses.length (rowU b.Uses))] ⟨rfl, ⟨obX rfl, obX rfl, obX rfl, obR rfl (app0U _ _), trivial⟩, avQ rfl, avQ rfl, avQ rfl, avI rfl hkk, trivial⟩ ?_
    refine Split.no (by simpa using h1) ?_
    refine Split.no (by simpa using h2) ?_
    refine Split.no (by simpa using h3) ?_
    refine Split.yes (by simpa using h4) ?_
    repeat first | refine Split.tt ?_ | refine Split.ff ?_
    refine Split.no (decide_eq_false (show ¬ 0 < (b.Uses.length : Int) by omega)) ?_
    repeat first | refine Split.tt ?_ | refine Split.ff ?_
    refine Split.no (show (x.What == (5 : Int)) = false by rw [h4]; rfl) ?_
    repeat first | refine Split.tt ?_ | refine Split.ff ?_
    refine Split.no (show (x.What == (6 : Int)) = false by rw [h4]; rfl) ?_
    refine Split.no (show (x.What == (7 : Int)) = false by rw [h4]; rfl) ?_
    repeat first | refine Split.tt ?_ | refine Split.ff ?_
    refine Split.no (show (x.What == (8 : Int)) = false by rw [h4]; rfl) ?_
    refine Split.no (show (x.What == (9 : Int)) = false by rw [h4]; rfl) ?_
    refine CutOb.at [(2, .box 2 0), (4, .box 4 0)] [(2, bxBd b), (4, bxZ)] ⟨rfl, ⟨ob7 rfl rfl rfl (D.eqv_refl _), obX rfl, trivial⟩, avQ rfl, avQ rfl, trivial⟩ ?_
    exact r1C rfl rfl rfl rfl rfl rfl (eqvB (D.eqv_refl _))
  by_cases h5 : x.What = 5
  · refine ⟨b, hU, ?_⟩
    refine specC_at [5, 28, 1000000007] Tryz.func50 rfl (by kernel_rfl) rfl ?_
    refine ⟨⟨.inr rfl, by unfold maxLen; show 0 + b.Uses.length ≤ _; omega, by show (0 + b.Uses.length) * 16 ≤ 140737488355328; omega⟩, ?_⟩
    refine Split.no (decide_eq_false (show ¬ 0 < ((0 + b.Uses.length : Nat) : Int) by omega)) ?_
    refine CutOb.at [(2, .box 2 0), (3, .box 3 0), (4, .box 4 0), (5, .d (I (kk : Int)))] [(2, bxOw b 7), (3, bxBe x), (4, bxZ), (7, .row 85 2 b.Uses.length (rowU b.Uses))] ⟨rfl, ⟨obX rfl, obX rfl, obX rfl, obR rfl (app0U _ _), trivial⟩, avQ rfl, avQ rfl, avQ rfl, avI rfl hkk, trivial⟩ ?_
    refine Split.no (by simpa using h1) ?_
    refine Split.no (by simpa using h2) ?_
    refine Split.no (by simpa using h3) ?_
    refine Split.no (by simpa using h4) ?_
    repeat first | refine Split.tt ?_ | refine Split.ff ?_
    refine Split.yes (by simpa using h5) ?_
    repeat first | refine Split.tt ?_ | refine Split.ff ?_
    refine Split.no (decide_eq_false (show ¬ 0 < (b.Uses.length : Int) by omega)) ?_
    repeat first | refine Split.tt ?_ | refine Split.ff ?_
    refine Split.no (show (x.What == (6 : Int)) = false by rw [h5]; rfl) ?_
    refine Split.no (show (x.What == (7 : Int)) = false by rw [h5]; rfl) ?_
    repeat first | refine Split.tt ?_ | refine Split.ff ?_
    refine Split.no (show (x.What == (8 : Int)) = false by rw [h5]; rfl) ?_
    refine Split.no (show (x.What == (9 : Int)) = false by rw [h5]; rfl) ?_
    refine CutOb.at [(2, .box 2 0), (4, .box 4 0)] [(2, bxBd b), (4, bxZ)] ⟨rfl, ⟨ob7 rfl rfl rfl (D.eqv_refl _), obX rfl, trivial⟩, avQ rfl, avQ rfl, trivial⟩ ?_
    exact r1C rfl rfl rfl rfl rfl rfl (eqvB (D.eqv_refl _))
  by_cases h6 : x.What = 6
  · refine ⟨⟨b.V, b.At, b.Scale, b.Uses ++ [x.U]⟩, (fun u hu => by rcases List.mem_append.1 hu with hu | hu; exact hU u hu; rw [List.mem_singleton.1 hu]; exact hx), ?_⟩
    refine specC_at [5, 28, 1000000007] Tryz.func50 rfl (by kernel_rfl) rfl ?_
    refine ⟨⟨.inr rfl, by unfold maxLen; show 0 + b.Uses.length ≤ _; omega, by show (0 + b.Uses.length) * 16 ≤ 140737488355328; omega⟩, ?_⟩
    refine Split.no (decide_eq_false (show ¬ 0 < ((0 + b.Uses.length : Nat) : Int) by omega)) ?_
    refine CutOb.at [(2, .box 2 0), (3, .box 3 0), (4, .box 4 0), (5, .d (I (kk : Int)))] [(2, bxOw b 7), (3, bxBe x), (4, bxZ), (7, .row 85 2 b.Uses.length (rowU b.Uses))] ⟨rfl, ⟨obX rfl, obX rfl, obX rfl, obR rfl (app0U _ _), trivial⟩, avQ rfl, avQ rfl, avQ rfl, avI rfl hkk, trivial⟩ ?_
    refine Split.no (by simpa using h1) ?_
    refine Split.no (by simpa using h2) ?_
    refine Split.no (by simpa using h3) ?_
    refine Split.no (by simpa using h4) ?_
    repeat first | refine Split.tt ?_ | refine Split.ff ?_
    refine Split.no (by simpa using h5) ?_
    repeat first | refine Split.tt ?_ | refine Split.ff ?_
    refine Split.yes (by simpa using h6) ?_
    refine ⟨⟨.inr rfl, by unfold maxLen; omega, by show (b.Uses.length + 1) * 16 ≤ 140737488355328; omega⟩, ?_⟩
    refine CutOb.at [(2, .box 2 0), (4, .box 4 0)] [(2, bxBd ⟨b.V, b.At, b.Scale, b.Uses ++ [x.U]⟩), (4, bxZ)] ⟨rfl, ⟨ob7 rfl rfl rfl (app1U _ _), obX rfl, trivial⟩, avQ rfl, avQ rfl, trivial⟩ ?_
    exact r1C rfl rfl rfl rfl rfl rfl (eqvB (D.eqv_refl _))
  by_cases h7 : x.What = 7
  · refine ⟨b, hU, ?_⟩
    refine specC_at [5, 28, 1000000007] Tryz.func50 rfl (by kernel_rfl) rfl ?_
    refine ⟨⟨.inr rfl, by unfold maxLen; show 0 + b.Uses.length ≤ _; omega, by show (0 + b.Uses.length) * 16 ≤ 140737488355328; omega⟩, ?_⟩
    refine Split.no (decide_eq_false (show ¬ 0 < ((0 + b.Uses.length : Nat) : Int) by omega)) ?_
    refine CutOb.at [(2, .box 2 0), (3, .box 3 0), (4, .box 4 0), (5, .d (I (kk : Int)))] [(2, bxOw b 7), (3, bxBe x), (4, bxZ), (7, .row 85 2 b.Uses.length (rowU b.Uses))] ⟨rfl, ⟨obX rfl, obX rfl, obX rfl, obR rfl (app0U _ _), trivial⟩, avQ rfl, avQ rfl, avQ rfl, avI rfl hkk, trivial⟩ ?_
    refine Split.no (by simpa using h1) ?_
    refine Split.no (by simpa using h2) ?_
    refine Split.no (by simpa using h3) ?_
    refine Split.no (by simpa using h4) ?_
    repeat first | refine Split.tt ?_ | refine Split.ff ?_
    refine Split.no (by simpa using h5) ?_
    repeat first | refine Split.tt ?_ | refine Split.ff ?_
    refine Split.no (by simpa using h6) ?_
    refine Split.yes (by simpa using h7) ?_
    repeat first | refine Split.tt ?_ | refine Split.ff ?_
    refine Split.no (decide_eq_false (show ¬ 0 < (b.Uses.length : Int) by omega)) ?_
    repeat first | refine Split.tt ?_ | refine Split.ff ?_
    refine Split.no (show (x.What == (8 : Int)) = false by rw [h7]; rfl) ?_
    refine Split.no (show (x.What == (9 : Int)) = false by rw [h7]; rfl) ?_
    refine CutOb.at [(2, .box 2 0), (4, .box 4 0)] [(2, bxBd b), (4, bxZ)] ⟨rfl, ⟨ob7 rfl rfl rfl (D.eqv_refl _), obX rfl, trivial⟩, avQ rfl, avQ rfl, trivial⟩ ?_
    exact r1C rfl rfl rfl rfl rfl rfl (eqvB (D.eqv_refl _))
  by_cases h8 : x.What = 8
  · refine ⟨⟨⟨b.V.Num, wr (b.V.Den + x.By)⟩, b.At, b.Scale, b.Uses⟩, hU, ?_⟩
    refine specC_at [5, 28, 1000000007] Tryz.func50 rfl (by kernel_rfl) rfl ?_
    refine ⟨⟨.inr rfl, by unfold maxLen; show 0 + b.Uses.length ≤ _; omega, by show (0 + b.Uses.length) * 16 ≤ 140737488355328; omega⟩, ?_⟩
    refine Split.no (decide_eq_false (show ¬ 0 < ((0 + b.Uses.length : Nat) : Int) by omega)) ?_
    refine CutOb.at [(2, .box 2 0), (3, .box 3 0), (4, .box 4 0), (5, .d (I (kk : Int)))] [(2, bxOw b 7), (3, bxBe x), (4, bxZ), (7, .row 85 2 b.Uses.length (rowU b.Uses))] ⟨rfl, ⟨obX rfl, obX rfl, obX rfl, obR rfl (app0U _ _), trivial⟩, avQ rfl, avQ rfl, avQ rfl, avI rfl hkk, trivial⟩ ?_
    refine Split.no (by simpa using h1) ?_
    refine Split.no (by simpa using h2) ?_
    refine Split.no (by simpa using h3) ?_
    refine Split.no (by simpa using h4) ?_
    repeat first | refine Split.tt ?_ | refine Split.ff ?_
    refine Split.no (by simpa using h5) ?_
    repeat first | refine Split.tt ?_ | refine Split.ff ?_
    refine Split.no (by simpa using h6) ?_
    refine Split.no (by simpa using h7) ?_
    repeat first | refine Split.tt ?_ | refine Split.ff ?_
    refine Split.yes (by simpa using h8) ?_
    refine CutOb.at [(2, .box 2 0), (4, .box 4 0)] [(2, bxBd ⟨⟨b.V.Num, wr (b.V.Den + x.By)⟩, b.At, b.Scale, b.Uses⟩), (4, bxZ)] ⟨rfl, ⟨ob7 rfl rfl rfl (D.eqv_refl _), obX rfl, trivial⟩, avQ rfl, avQ rfl, trivial⟩ ?_
    exact r1C rfl rfl rfl rfl rfl rfl (eqvB (D.eqv_refl _))
  by_cases h9 : x.What = 9
  · refine ⟨⟨b.V, b.At, wr (b.Scale * 2), dblTo b.Uses b.Uses.length⟩, (fun u hu => by
      obtain ⟨j, hj, rfl⟩ := List.getElem_of_mem hu
      rw [dblTo_len] at hj
      have e := dblTo_get b.Uses (Nat.le_refl _) hj
      rw [gdI (by rw [dblTo_len]; exact hj), if_pos hj] at e
      rw [e]
      exact ⟨(hU _ (gd1 hj default)).1, wr_bd _⟩), ?_⟩
    refine specC_at [5, 28, 1000000007] Tryz.func50 rfl (by kernel_rfl) rfl ?_
    refine ⟨⟨.inr rfl, by unfold maxLen; show 0 + b.Uses.length ≤ _; omega, by show (0 + b.Uses.length) * 16 ≤ 140737488355328; omega⟩, ?_⟩
    refine Split.no (decide_eq_false (show ¬ 0 < ((0 + b.Uses.length : Nat) : Int) by omega)) ?_
    refine CutOb.at [(2, .box 2 0), (3, .box 3 0), (4, .box 4 0), (5, .d (I (kk : Int)))] [(2, bxOw b 7), (3, bxBe x), (4, bxZ), (7, .row 85 2 b.Uses.length (rowU b.Uses))] ⟨rfl, ⟨obX rfl, obX rfl, obX rfl, obR rfl (app0U _ _), trivial⟩, avQ rfl, avQ rfl, avQ rfl, avI rfl hkk, trivial⟩ ?_
    refine Split.no (by simpa using h1) ?_
    refine Split.no (by simpa using h2) ?_
    refine Split.no (by simpa using h3) ?_
    refine Split.no (by simpa using h4) ?_
    repeat first | refine Split.tt ?_ | refine Split.ff ?_
    refine Split.no (by simpa using h5) ?_
    repeat first | refine Split.tt ?_ | refine Split.ff ?_
    refine Split.no (by simpa using h6) ?_
    refine Split.no (by simpa using h7) ?_
    repeat first | refine Split.tt ?_ | refine Split.ff ?_
    refine Split.no (by simpa using h8) ?_
    refine Split.yes (by simpa using h9) ?_
    refine LoopOb.of (σ := Nat) (fun i => ([(2, .box 2 0), (4, .box 4 0), (155, .d (I b.Uses.length)), (156, .d (I i))], [(2, bxOw ⟨b.V, b.At, wr (b.Scale * 2), b.Uses⟩ 7), (4, bxZ), (7, .row 85 2 (dblTo b.Uses i).length (rowU (dblTo b.Uses i)))])) (fun i => i ≤ b.Uses.length) (fun i => b.Uses.length - i) 0
      ⟨rfl, ⟨obX rfl, obX rfl, obR rfl (by rw [dblTo_zero]; exact D.eqv_refl _), trivial⟩, avQ rfl, avQ rfl, avR _ rfl, avR _ rfl, trivial⟩ (Nat.zero_le _) fun i hi => ?_
    have dl := dblTo_len b.Uses (i := i)
    refine Split.by (fun g1 => ?_) (fun g1 => ?_)
    · have g1 : i < b.Uses.length := by have := dT g1; omega
      have g2 : i < (dblTo b.Uses i).length := by omega
      have ew : wr ((i : Int) + 1) = ((i + 1 : Nat) : Int) := by rw [wr_small (by omega) (by omega)]; omega
      refine ⟨⟨by omega, by omega⟩, ⟨(show i < (dblTo b.Uses i).length from g2), ⟨⟨by omega, by omega⟩, ⟨(show i < (dblTo b.Uses i).length from g2), ?_⟩⟩⟩⟩
      exact ⟨i + 1, ⟨rfl, ⟨obX rfl, obX rfl, obR rfl (by rw [dblTo_succ b.Uses g1]; exact setUs g2 1 (fun j hj => by match j, hj with | 0, _ => exact D.eqv_refl _ | 1, _ => exact D.eqv_refl _)), trivial⟩, avQ rfl, avQ rfl, avR _ rfl, avI rfl ew, trivial⟩, g1, (show b.Uses.length - (i + 1) < b.Uses.length - i by omega)⟩
    · have g1 : i = b.Uses.length := by have := dF g1; omega
      subst g1
      refine CutOb.at [(2, .box 2 0), (4, .box 4 0)] [(2, bxBd ⟨b.V, b.At, wr (b.Scale * 2), dblTo b.Uses b.Uses.length⟩), (4, bxZ)] ⟨rfl, ⟨ob7 rfl rfl rfl (D.eqv_refl _), obX rfl, trivial⟩, avQ rfl, avQ rfl, trivial⟩ ?_
      exact r1C rfl rfl rfl rfl rfl rfl (eqvB (D.eqv_refl _))
  refine ⟨b, hU, ?_⟩
  refine specC_at [5, 28, 1000000007] Tryz.func50 rfl (by kernel_rfl) rfl ?_
  refine ⟨⟨.inr rfl, by unfold maxLen; show 0 + b.Uses.length ≤ _; omega, by show (0 + b.Uses.length) * 16 ≤ 140737488355328; omega⟩, ?_⟩
  refine Split.no (decide_eq_false (show ¬ 0 < ((0 + b.Uses.length : Nat) : Int) by omega)) ?_
  refine CutOb.at [(2, .box 2 0), (3, .box 3 0), (4, .box 4 0), (5, .d (I (kk : Int)))] [(2, bxOw b 7), (3, bxBe x), (4, bxZ), (7, .row 85 2 b.Uses.length (rowU b.Uses))] ⟨rfl, ⟨obX rfl, obX rfl, obX rfl, obR rfl (app0U _ _), trivial⟩, avQ rfl, avQ rfl, avQ rfl, avI rfl hkk, trivial⟩ ?_
  refine Split.no (by simpa using h1) ?_
  refine Split.no (by simpa using h2) ?_
  refine Split.no (by simpa using h3) ?_
  refine Split.no (by simpa using h4) ?_
  repeat first | refine Split.tt ?_ | refine Split.ff ?_
  refine Split.no (by simpa using h5) ?_
  repeat first | refine Split.tt ?_ | refine Split.ff ?_
  refine Split.no (by simpa using h6) ?_
  refine Split.no (by simpa using h7) ?_
  repeat first | refine Split.tt ?_ | refine Split.ff ?_
  refine Split.no (by simpa using h8) ?_
  refine Split.no (by simpa using h9) ?_
  refine CutOb.at [(2, .box 2 0), (4, .box 4 0)] [(2, bxBd b), (4, bxZ)] ⟨rfl, ⟨ob7 rfl rfl rfl (D.eqv_refl _), obX rfl, trivial⟩, avQ rfl, avQ rfl, trivial⟩ ?_
  exact r1C rfl rfl rfl rfl rfl rfl (eqvB (D.eqv_refl _))
set_option maxHeartbeats 4000000 in
theorem v_bent1 (b : Bound) (x : Bend) (hU : UB b.Uses) (hn : b.Uses.length ≤ 20) (hx : UB1 x.U) (h0 : 0 < b.Uses.length) : ∃ b' : Bound, UB b'.Uses ∧ Spec PP 50 [b.v, x.v] [b'.v] := by
  obtain ⟨kk, hk, hkk⟩ := bent_at x.At h0 (show b.Uses.length ≤ 1000 by omega)
  by_cases h1 : x.What = 1
  · refine ⟨⟨b.V, b.At, wr (b.Scale + x.By), b.Uses⟩, hU, ?_⟩
    refine specC_at [5, 28, 1000000007] Tryz.func50 rfl (by kernel_rfl) rfl ?_
    refine ⟨⟨.inr rfl, by unfold maxLen; show 0 + b.Uses.length ≤ _; omega, by show (0 + b.Uses.length) * 16 ≤ 140737488355328; omega⟩, ?_⟩
    refine Split.yes (decide_eq_true (show 0 < ((0 + b.Uses.length : Nat) : Int) by omega)) ?_
    refine ⟨(show IntKind.u64.wrap ((0 + b.Uses.length : Nat) : Int) ≠ 0 by rw [Nat.zero_add, u64_len (by omega)]; omega), ?_⟩
    refine CutOb.at [(2, .box 2 0), (3, .box 3 0), (4, .box 4 0), (5, .d (I (kk : Int)))] [(2, bxOw b 7), (3, bxBe x), (4, bxZ), (7, .row 85 2 b.Uses.length (rowU b.Uses))] ⟨rfl, ⟨obX rfl, obX rfl, obX rfl, obR rfl (app0U _ _), trivial⟩, avQ rfl, avQ rfl, avQ rfl, avI rfl (by rw [Nat.zero_add]; exact hkk), trivial⟩ ?_
    refine Split.yes (by simpa using h1) ?_
    refine CutOb.at [(2, .box 2 0), (4, .box 4 0)] [(2, bxBd ⟨b.V, b.At, wr (b.Scale + x.By), b.Uses⟩), (4, bxZ)] ⟨rfl, ⟨ob7 rfl rfl rfl (D.eqv_refl _), obX rfl, trivial⟩, avQ rfl, avQ rfl, trivial⟩ ?_
    exact r1C rfl rfl rfl rfl rfl rfl (eqvB (D.eqv_refl _))
  by_cases h2 : x.What = 2
  · refine ⟨⟨⟨wr (b.V.Num + x.By), b.V.Den⟩, b.At, b.Scale, b.Uses⟩, hU, ?_⟩
    refine specC_at [5, 28, 1000000007] Tryz.func50 rfl (by kernel_rfl) rfl ?_
    refine ⟨⟨.inr rfl, by unfold maxLen; show 0 + b.Uses.length ≤ _; omega, by show (0 + b.Uses.length) * 16 ≤ 140737488355328; omega⟩, ?_⟩
    refine Split.yes (decide_eq_true (show 0 < ((0 + b.Uses.length : Nat) : Int) by omega)) ?_
    refine ⟨(show IntKind.u64.wrap ((0 + b.Uses.length : Nat) : Int) ≠ 0 by rw [Nat.zero_add, u64_len (by omega)]; omega), ?_⟩
    refine CutOb.at [(2, .box 2 0), (3, .box 3 0), (4, .box 4 0), (5, .d (I (kk : Int)))] [(2, bxOw b 7), (3, bxBe x), (4, bxZ), (7, .row 85 2 b.Uses.length (rowU b.Uses))] ⟨rfl, ⟨obX rfl, obX rfl, obX rfl, obR rfl (app0U _ _), trivial⟩, avQ rfl, avQ rfl, avQ rfl, avI rfl (by rw [Nat.zero_add]; exact hkk), trivial⟩ ?_
    refine Split.no (by simpa using h1) ?_
    refine Split.yes (by simpa using h2) ?_
    refine CutOb.at [(2, .box 2 0), (4, .box 4 0)] [(2, bxBd ⟨⟨wr (b.V.Num + x.By), b.V.Den⟩, b.At, b.Scale, b.Uses⟩), (4, bxZ)] ⟨rfl, ⟨ob7 rfl rfl rfl (D.eqv_refl _), obX rfl, trivial⟩, avQ rfl, avQ rfl, trivial⟩ ?_
    exact r1C rfl rfl rfl rfl rfl rfl (eqvB (D.eqv_refl _))
  by_cases h3 : x.What = 3
  · refine ⟨⟨b.V, ⟨wr (b.At.X + x.By), b.At.Y, b.At.Den⟩, b.Scale, b.Uses⟩, hU, ?_⟩
    refine specC_at [5, 28, 1000000007] Tryz.func50 rfl (by kernel_rfl) rfl ?_
    refine ⟨⟨.inr rfl, by unfold maxLen; show 0 + b.Uses.length ≤ _; omega, by show (0 + b.Uses.length) * 16 ≤ 140737488355328; omega⟩, ?_⟩
    refine Split.yes (decide_eq_true (show 0 < ((0 + b.Uses.length : Nat) : Int) by omega)) ?_
    refine ⟨(show IntKind.u64.wrap ((0 + b.Uses.length : Nat) : Int) ≠ 0 by rw [Nat.zero_add, u64_len (by omega)]; omega), ?_⟩
    refine CutOb.at [(2, .box 2 0), (3, .box 3 0), (4, .box 4 0), (5, .d (I (kk : Int)))] [(2, bxOw b 7), (3, bxBe x), (4, bxZ), (7, .row 85 2 b.Uses.length (rowU b.Uses))] ⟨rfl, ⟨obX rfl, obX rfl, obX rfl, obR rfl (app0U _ _), trivial⟩, avQ rfl, avQ rfl, avQ rfl, avI rfl (by rw [Nat.zero_add]; exact hkk), trivial⟩ ?_
    refine Split.no (by simpa using h1) ?_
    refine Split.no (by simpa using h2) ?_
    refine Split.yes (by simpa using h3) ?_
    refine CutOb.at [(2, .box 2 0), (4, .box 4 0)] [(2, bxBd ⟨b.V, ⟨wr (b.At.X + x.By), b.At.Y, b.At.Den⟩, b.Scale, b.Uses⟩), (4, bxZ)] ⟨rfl, ⟨ob7 rfl rfl rfl (D.eqv_refl _), obX rfl, trivial⟩, avQ rfl, avQ rfl, trivial⟩ ?_
    exact r1C rfl rfl rfl rfl rfl rfl (eqvB (D.eqv_refl _))
  by_cases h4 : x.What = 4
  · refine ⟨⟨b.V, b.At, b.Scale, b.Uses.set kk ⟨(b.Uses.getD kk default).H, wr ((b.Uses.getD kk default).T + x.By)⟩⟩, UB_set hU ⟨(hU _ (gd1 hk default)).1, wr_bd _⟩, ?_⟩
    refine specC_at [5, 28, 1000000007] Tryz.func50 rfl (by kernel_rfl) rfl ?_
    refine ⟨⟨.inr rfl, by unfold maxLen; show 0 + b.Uses.length ≤ _; omega, by show (0 + b.Uses.length) * 16 ≤ 140737488355328; omega⟩, ?_⟩
    refine Split.yes (decide_eq_true (show 0 < ((0 + b.Uses.length : Nat) : Int) by omega)) ?_
    refine ⟨(show IntKind.u64.wrap ((0 + b.Uses.length : Nat) : Int) ≠ 0 by rw [Nat.zero_add, u64_len (by omega)]; omega), ?_⟩
    refine CutOb.at [(2, .box 2 0), (3, .box 3 0), (4, .box 4 0), (5, .d (I (kk : Int)))] [(2, bxOw b 7), (3, bxBe x), (4, bxZ), (7, .row 85 2 b.Uses.length (rowU b.Uses))] ⟨rfl, ⟨obX rfl, obX rfl, obX rfl, obR rfl (app0U _ _), trivial⟩, avQ rfl, avQ rfl, avQ rfl, avI rfl (by rw [Nat.zero_add]; exact hkk), trivial⟩ ?_
    refine Split.no (by simpa using h1) ?_
    refine Split.no (by simpa using h2) ?_
    refine Split.no (by simpa using h3) ?_
    refine Split.yes (by simpa using h4) ?_
    repeat first | refine Split.tt ?_ | refine Split.ff ?_
    refine Split.yes (decide_eq_true (show 0 < (b.Uses.length : Int) by omega)) ?_
    repeat first | refine Split.tt ?_ | refine Split.ff ?_
    refine Exists.intro (List.range 12) (And.intro (by kernel_rfl) (FzOb.no ?_))
    refine ⟨⟨by omega, by omega⟩, ⟨(show kk < b.Uses.length from hk), ⟨⟨by omega, by omega⟩, ⟨(show kk < b.Uses.length from hk), ?_⟩⟩⟩⟩
    refine CutOb.at [(2, .box 2 0), (4, .box 4 0)] [(2, bxBd ⟨b.V, b.At, b.Scale, b.Uses.set kk ⟨(b.Uses.getD kk default).H, wr ((b.Uses.getD kk default).T + x.By)⟩⟩), (4, bxZ)] ⟨rfl, ⟨ob7 rfl rfl rfl (setUs hk 1 (fun j hj => by match j, hj with | 0, _ => exact D.eqv_refl _ | 1, _ => exact D.eqv_refl _)), obX rfl, trivial⟩, avQ rfl, avQ rfl, trivial⟩ ?_
    exact r1C rfl rfl rfl rfl rfl rfl (eqvB (D.eqv_refl _))
  by_cases h5 : x.What = 5
  · refine ⟨⟨b.V, b.At, b.Scale, b.Uses.set kk ⟨wr ((b.Uses.getD kk default).H + x.By), (b.Uses.getD kk default).T⟩⟩, UB_set hU ⟨wr_bd _, (hU _ (gd1 hk default)).2⟩, ?_⟩
    refine specC_at [5, 28, 1000000007] Tryz.func50 rfl (by kernel_rfl) rfl ?_
    refine ⟨⟨.inr rfl, by unfold maxLen; show 0 + b.Uses.length ≤ _; omega, by show (0 + b.Uses.length) * 16 ≤ 140737488355328; omega⟩, ?_⟩
    refine Split.yes (decide_eq_true (show 0 < ((0 + b.Uses.length : Nat) : Int) by omega)) ?_
    refine ⟨(show IntKind.u64.wrap ((0 + b.Uses.length : Nat) : Int) ≠ 0 by rw [Nat.zero_add, u64_len (by omega)]; omega), ?_⟩
    refine CutOb.at [(2, .box 2 0), (3, .box 3 0), (4, .box 4 0), (5, .d (I (kk : Int)))] [(2, bxOw b 7), (3, bxBe x), (4, bxZ), (7, .row 85 2 b.Uses.length (rowU b.Uses))] ⟨rfl, ⟨obX rfl, obX rfl, obX rfl, obR rfl (app0U _ _), trivial⟩, avQ rfl, avQ rfl, avQ rfl, avI rfl (by rw [Nat.zero_add]; exact hkk), trivial⟩ ?_
    refine Split.no (by simpa using h1) ?_
    refine Split.no (by simpa using h2) ?_
    refine Split.no (by simpa using h3) ?_
    refine Split.no (by simpa using h4) ?_
    repeat first | refine Split.tt ?_ | refine Split.ff ?_
    refine Split.yes (by simpa using h5) ?_
    repeat first | refine Split.tt ?_ | refine Split.ff ?_
    refine Split.yes (decide_eq_true (show 0 < (b.Uses.length : Int) by omega)) ?_
    repeat first | refine Split.tt ?_ | refine Split.ff ?_
    refine Exists.intro (List.range 12) (And.intro (by kernel_rfl) (FzOb.no ?_))
    refine ⟨⟨by omega, by omega⟩, ⟨(show kk < b.Uses.length from hk), ⟨⟨by omega, by omega⟩, ⟨(show kk < b.Uses.length from hk), ?_⟩⟩⟩⟩
    refine CutOb.at [(2, .box 2 0), (4, .box 4 0)] [(2, bxBd ⟨b.V, b.At, b.Scale, b.Uses.set kk ⟨wr ((b.Uses.getD kk default).H + x.By), (b.Uses.getD kk default).T⟩⟩), (4, bxZ)] ⟨rfl, ⟨ob7 rfl rfl rfl (setUs hk 0 (fun j hj => by match j, hj with | 0, _ => exact D.eqv_refl _ | 1, _ => exact D.eqv_refl _)), obX rfl, trivial⟩, avQ rfl, avQ rfl, trivial⟩ ?_
    exact r1C rfl rfl rfl rfl rfl rfl (eqvB (D.eqv_refl _))
  by_cases h6 : x.What = 6
  · refine ⟨⟨b.V, b.At, b.Scale, b.Uses ++ [x.U]⟩, (fun u hu => by rcases List.mem_append.1 hu with hu | hu; exact hU u hu; rw [List.mem_singleton.1 hu]; exact hx), ?_⟩
    refine specC_at [5, 28, 1000000007] Tryz.func50 rfl (by kernel_rfl) rfl ?_
    refine ⟨⟨.inr rfl, by unfold maxLen; show 0 + b.Uses.length ≤ _; omega, by show (0 + b.Uses.length) * 16 ≤ 140737488355328; omega⟩, ?_⟩
    refine Split.yes (decide_eq_true (show 0 < ((0 + b.Uses.length : Nat) : Int) by omega)) ?_
    refine ⟨(show IntKind.u64.wrap ((0 + b.Uses.length : Nat) : Int) ≠ 0 by rw [Nat.zero_add, u64_len (by omega)]; omega), ?_⟩
    refine CutOb.at [(2, .box 2 0), (3, .box 3 0), (4, .box 4 0), (5, .d (I (kk : Int)))] [(2, bxOw b 7), (3, bxBe x), (4, bxZ), (7, .row 85 2 b.Uses.length (rowU b.Uses))] ⟨rfl, ⟨obX rfl, obX rfl, obX rfl, obR rfl (app0U _ _), trivial⟩, avQ rfl, avQ rfl, avQ rfl, avI rfl (by rw [Nat.zero_add]; exact hkk), trivial⟩ ?_
    refine Split.no (by simpa using h1) ?_
    refine Split.no (by simpa using h2) ?_
    refine Split.no (by simpa using h3) ?_
    refine Split.no (by simpa using h4) ?_
    repeat first | refine Split.tt ?_ | refine Split.ff ?_
    refine Split.no (by simpa using h5) ?_
    repeat first | refine Split.tt ?_ | refine Split.ff ?_
    refine Split.yes (by simpa using h6) ?_
    refine ⟨⟨.inr rfl, by unfold maxLen; omega, by show (b.Uses.length + 1) * 16 ≤ 140737488355328; omega⟩, ?_⟩
    refine CutOb.at [(2, .box 2 0), (4, .box 4 0)] [(2, bxBd ⟨b.V, b.At, b.Scale, b.Uses ++ [x.U]⟩), (4, bxZ)] ⟨rfl, ⟨ob7 rfl rfl rfl (app1U _ _), obX rfl, trivial⟩, avQ rfl, avQ rfl, trivial⟩ ?_
    exact r1C rfl rfl rfl rfl rfl rfl (eqvB (D.eqv_refl _))
  by_cases h7 : x.What = 7
  · refine ⟨⟨b.V, b.At, b.Scale, b.Uses.take kk ++ b.Uses.drop (kk + 1)⟩, (fun u hu => by rcases List.mem_append.1 hu with hu | hu; exact hU u (List.mem_of_mem_take hu); exact hU u (List.mem_of_mem_drop hu)), ?_⟩
    refine specC_at [5, 28, 1000000007] Tryz.func50 rfl (by kernel_rfl) rfl ?_
    refine ⟨⟨.inr rfl, by unfold maxLen; show 0 + b.Uses.length ≤ _; omega, by show (0 + b.Uses.length) * 16 ≤ 140737488355328; omega⟩, ?_⟩
    refine Split.yes (decide_eq_true (show 0 < ((0 + b.Uses.length : Nat) : Int) by omega)) ?_
    refine ⟨(show IntKind.u64.wrap ((0 + b.Uses.length : Nat) : Int) ≠ 0 by rw [Nat.zero_add, u64_len (by omega)]; omega), ?_⟩
    refine CutOb.at [(2, .box 2 0), (3, .box 3 0), (4, .box 4 0), (5, .d (I (kk : Int)))] [(2, bxOw b 7), (3, bxBe x), (4, bxZ), (7, .row 85 2 b.Uses.length (rowU b.Uses))] ⟨rfl, ⟨obX rfl, obX rfl, obX rfl, obR rfl (app0U _ _), trivial⟩, avQ rfl, avQ rfl, avQ rfl, avI rfl (by rw [Nat.zero_add]; exact hkk), trivial⟩ ?_
    refine Split.no (by simpa using h1) ?_
    refine Split.no (by simpa using h2) ?_
    refine Split.no (by simpa using h3) ?_
    refine Split.no (by simpa using h4) ?_
    repeat first | refine Split.tt ?_ | refine Split.ff ?_
    refine Split.no (by simpa using h5) ?_
    repeat first | refine Split.tt ?_ | refine Split.ff ?_
    refine Split.no (by simpa using h6) ?_
    refine Split.yes (by simpa using h7) ?_
    repeat first | refine Split.tt ?_ | refine Split.ff ?_
    refine Split.yes (decide_eq_true (show 0 < (b.Uses.length : Int) by omega)) ?_
    repeat first | refine Split.tt ?_ | refine Split.ff ?_
    have ew : wr ((kk : Int) + 1) = (kk : Int) + 1 := wr_small (by omega) (by omega)
    have el : (wr ((kk : Int) + 1)).toNat = kk + 1 := by rw [ew]; omega
    refine Exists.intro (List.range 12) (And.intro (by kernel_rfl) (FzOb.no ?_))
    refine ⟨⟨rfl, by omega, by omega, h0⟩, ?_⟩
    refine ⟨⟨rfl, (show 0 ≤ wr ((kk : Int) + 1) by rw [ew]; omega), (show wr ((kk : Int) + 1) ≤ (b.Uses.length : Int) by rw [ew]; omega)⟩, ?_⟩
    refine ⟨⟨⟨(show kk ≤ (wr ((kk : Int) + 1)).toNat by omega), (show (wr ((kk : Int) + 1)).toNat + (b.Uses.length - (wr ((kk : Int) + 1)).toNat) = b.Uses.length by omega)⟩, (show kk + (b.Uses.length - (wr ((kk : Int) + 1)).toNat) ≤ maxLen by unfold maxLen; omega), (show (kk + (b.Uses.length - (wr ((kk : Int) + 1)).toNat)) * 16 ≤ 140737488355328 by omega)⟩, ?_⟩
    refine CutOb.at [(2, .box 2 0), (4, .box 4 0)] [(2, bxBd ⟨b.V, b.At, b.Scale, b.Uses.take kk ++ b.Uses.drop (kk + 1)⟩), (4, bxZ)] ⟨rfl, ⟨ob7 rfl rfl rfl (cutU (k := kk) (lo := (wr ((kk : Int) + 1)).toNat) (n' := b.Uses.length - (wr ((kk : Int) + 1)).toNat) hk el (by omega)), obX rfl, trivial⟩, avQ rfl, avQ rfl, trivial⟩ ?_
    exact r1C rfl rfl rfl rfl rfl rfl (eqvB (D.eqv_refl _))
  by_cases h8 : x.What = 8
  · refine ⟨⟨⟨b.V.Num, wr (b.V.Den + x.By)⟩, b.At, b.Scale, b.Uses⟩, hU, ?_⟩
    refine specC_at [5, 28, 1000000007] Tryz.func50 rfl (by kernel_rfl) rfl ?_
    refine ⟨⟨.inr rfl, by unfold maxLen; show 0 + b.Uses.length ≤ _; omega, by show (0 + b.Uses.length) * 16 ≤ 140737488355328; omega⟩, ?_⟩
    refine Split.yes (decide_eq_true (show 0 < ((0 + b.Uses.length : Nat) : Int) by omega)) ?_
    refine ⟨(show IntKind.u64.wrap ((0 + b.Uses.length : Nat) : Int) ≠ 0 by rw [Nat.zero_add, u64_len (by omega)]; omega), ?_⟩
    refine CutOb.at [(2, .box 2 0), (3, .box 3 0), (4, .box 4 0), (5, .d (I (kk : Int)))] [(2, bxOw b 7), (3, bxBe x), (4, bxZ), (7, .row 85 2 b.Uses.length (rowU b.Uses))] ⟨rfl, ⟨obX rfl, obX rfl, obX rfl, obR rfl (app0U _ _), trivial⟩, avQ rfl, avQ rfl, avQ rfl, avI rfl (by rw [Nat.zero_add]; exact hkk), trivial⟩ ?_
    refine Split.no (by simpa using h1) ?_
    refine Split.no (by simpa using h2) ?_
    refine Split.no (by simpa using h3) ?_
    refine Split.no (by simpa using h4) ?_
    repeat first | refine Split.tt ?_ | refine Split.ff ?_
    refine Split.no (by simpa using h5) ?_
    repeat first | refine Split.tt ?_ | refine Split.ff ?_
    refine Split.no (by simpa using h6) ?_
    refine Split.no (by simpa using h7) ?_
    repeat first | refine Split.tt ?_ | refine Split.ff ?_
    refine Split.yes (by simpa using h8) ?_
    refine CutOb.at [(2, .box 2 0), (4, .box 4 0)] [(2, bxBd ⟨⟨b.V.Num, wr (b.V.Den + x.By)⟩, b.At, b.Scale, b.Uses⟩), (4, bxZ)] ⟨rfl, ⟨ob7 rfl rfl rfl (D.eqv_refl _), obX rfl, trivial⟩, avQ rfl, avQ rfl, trivial⟩ ?_
    exact r1C rfl rfl rfl rfl rfl rfl (eqvB (D.eqv_refl _))
  by_cases h9 : x.What = 9
  · refine ⟨⟨b.V, b.At, wr (b.Scale * 2), dblTo b.Uses b.Uses.length⟩, (fun u hu => by
      obtain ⟨j, hj, rfl⟩ := List.getElem_of_mem hu
      rw [dblTo_len] at hj
      have e := dblTo_get b.Uses (Nat.le_refl _) hj
      rw [gdI (by rw [dblTo_len]; exact hj), if_pos hj] at e
      rw [e]
      exact ⟨(hU _ (gd1 hj default)).1, wr_bd _⟩), ?_⟩
    refine specC_at [5, 28, 1000000007] Tryz.func50 rfl (by kernel_rfl) rfl ?_
    refine ⟨⟨.inr rfl, by unfold maxLen; show 0 + b.Uses.length ≤ _; omega, by show (0 + b.Uses.length) * 16 ≤ 140737488355328; omega⟩, ?_⟩
    refine Split.yes (decide_eq_true (show 0 < ((0 + b.Uses.length : Nat) : Int) by omega)) ?_
    refine ⟨(show IntKind.u64.wrap ((0 + b.Uses.length : Nat) : Int) ≠ 0 by rw [Nat.zero_add, u64_len (by omega)]; omega), ?_⟩
    refine CutOb.at [(2, .box 2 0), (3, .box 3 0), (4, .box 4 0), (5, .d (I (kk : Int)))] [(2, bxOw b 7), (3, bxBe x), (4, bxZ), (7, .row 85 2 b.Uses.length (rowU b.Uses))] ⟨rfl, ⟨obX rfl, obX rfl, obX rfl, obR rfl (app0U _ _), trivial⟩, avQ rfl, avQ rfl, avQ rfl, avI rfl (by rw [Nat.zero_add]; exact hkk), trivial⟩ ?_
    refine Split.no (by simpa using h1) ?_
    refine Split.no (by simpa using h2) ?_
    refine Split.no (by simpa using h3) ?_
    refine Split.no (by simpa using h4) ?_
    repeat first | refine Split.tt ?_ | refine Split.ff ?_
    refine Split.no (by simpa using h5) ?_
    repeat first | refine Split.tt ?_ | refine Split.ff ?_
    refine Split.no (by simpa using h6) ?_
    refine Split.no (by simpa using h7) ?_
    repeat first | refine Split.tt ?_ | refine Split.ff ?_
    refine Split.no (by simpa using h8) ?_
    refine Split.yes (by simpa using h9) ?_
    refine LoopOb.of (σ := Nat) (fun i => ([(2, .box 2 0), (4, .box 4 0), (155, .d (I b.Uses.length)), (156, .d (I i))], [(2, bxOw ⟨b.V, b.At, wr (b.Scale * 2), b.Uses⟩ 7), (4, bxZ), (7, .row 85 2 (dblTo b.Uses i).length (rowU (dblTo b.Uses i)))])) (fun i => i ≤ b.Uses.length) (fun i => b.Uses.length - i) 0
      ⟨rfl, ⟨obX rfl, obX rfl, obR rfl (by rw [dblTo_zero]; exact D.eqv_refl _), trivial⟩, avQ rfl, avQ rfl, avR _ rfl, avR _ rfl, trivial⟩ (Nat.zero_le _) fun i hi => ?_
    have dl := dblTo_len b.Uses (i := i)
    refine Split.by (fun g1 => ?_) (fun g1 => ?_)
    · have g1 : i < b.Uses.length := by have := dT g1; omega
      have g2 : i < (dblTo b.Uses i).length := by omega
      have ew : wr ((i : Int) + 1) = ((i + 1 : Nat) : Int) := by rw [wr_small (by omega) (by omega)]; omega
      refine ⟨⟨by omega, by omega⟩, ⟨(show i < (dblTo b.Uses i).length from g2), ⟨⟨by omega, by omega⟩, ⟨(show i < (dblTo b.Uses i).length from g2), ?_⟩⟩⟩⟩
      exact ⟨i + 1, ⟨rfl, ⟨obX rfl, obX rfl, obR rfl (by rw [dblTo_succ b.Uses g1]; exact setUs g2 1 (fun j hj => by match j, hj with | 0, _ => exact D.eqv_refl _ | 1, _ => exact D.eqv_refl _)), trivial⟩, avQ rfl, avQ rfl, avR _ rfl, avI rfl ew, trivial⟩, g1, (show b.Uses.length - (i + 1) < b.Uses.length - i by omega)⟩
    · have g1 : i = b.Uses.length := by have := dF g1; omega
      subst g1
      refine CutOb.at [(2, .box 2 0), (4, .box 4 0)] [(2, bxBd ⟨b.V, b.At, wr (b.Scale * 2), dblTo b.Uses b.Uses.length⟩), (4, bxZ)] ⟨rfl, ⟨ob7 rfl rfl rfl (D.eqv_refl _), obX rfl, trivial⟩, avQ rfl, avQ rfl, trivial⟩ ?_
      exact r1C rfl rfl rfl rfl rfl rfl (eqvB (D.eqv_refl _))
  refine ⟨b, hU, ?_⟩
  refine specC_at [5, 28, 1000000007] Tryz.func50 rfl (by kernel_rfl) rfl ?_
  refine ⟨⟨.inr rfl, by unfold maxLen; show 0 + b.Uses.length ≤ _; omega, by show (0 + b.Uses.length) * 16 ≤ 140737488355328; omega⟩, ?_⟩
  refine Split.yes (decide_eq_true (show 0 < ((0 + b.Uses.length : Nat) : Int) by omega)) ?_
  refine ⟨(show IntKind.u64.wrap ((0 + b.Uses.length : Nat) : Int) ≠ 0 by rw [Nat.zero_add, u64_len (by omega)]; omega), ?_⟩
  refine CutOb.at [(2, .box 2 0), (3, .box 3 0), (4, .box 4 0), (5, .d (I (kk : Int)))] [(2, bxOw b 7), (3, bxBe x), (4, bxZ), (7, .row 85 2 b.Uses.length (rowU b.Uses))] ⟨rfl, ⟨obX rfl, obX rfl, obX rfl, obR rfl (app0U _ _), trivial⟩, avQ rfl, avQ rfl, avQ rfl, avI rfl (by rw [Nat.zero_add]; exact hkk), trivial⟩ ?_
  refine Split.no (by simpa using h1) ?_
  refine Split.no (by simpa using h2) ?_
  refine Split.no (by simpa using h3) ?_
  refine Split.no (by simpa using h4) ?_
  repeat first | refine Split.tt ?_ | refine Split.ff ?_
  refine Split.no (by simpa using h5) ?_
  repeat first | refine Split.tt ?_ | refine Split.ff ?_
  refine Split.no (by simpa using h6) ?_
  refine Split.no (by simpa using h7) ?_
  repeat first | refine Split.tt ?_ | refine Split.ff ?_
  refine Split.no (by simpa using h8) ?_
  refine Split.no (by simpa using h9) ?_
  refine CutOb.at [(2, .box 2 0), (4, .box 4 0)] [(2, bxBd b), (4, bxZ)] ⟨rfl, ⟨ob7 rfl rfl rfl (D.eqv_refl _), obX rfl, trivial⟩, avQ rfl, avQ rfl, trivial⟩ ?_
  exact r1C rfl rfl rfl rfl rfl rfl (eqvB (D.eqv_refl _))
/-! ### The law HalfTampers -/
theorem v_bent (b : Bound) (x : Bend) (hU : UB b.Uses) (hn : b.Uses.length ≤ 20) (hx : UB1 x.U) : ∃ b' : Bound, UB b'.Uses ∧ Spec PP 50 [b.v, x.v] [b'.v] := by
  rcases Nat.eq_zero_or_pos b.Uses.length with h | h
  · exact v_bent0 b x hU hn hx h
  · exact v_bent1 b x hU hn hx h
theorem best_UB {l : List Half} {f : Form} : UB (bestE l f).1.Uses ∧ (bestE l f).1.Uses.length ≤ 20 := by
  by_cases h : (bestE l f).2 = 0
  · obtain ⟨c1, c2, c3⟩ := cb_bst (best_ok h)
    obtain ⟨n1, _, _⟩ := checkL_ok c1
    refine ⟨bst_UB c3 (by omega), ?_⟩
    have hs := c3.sm
    unfold sumE at hs
    split at hs
    case isFalse => cases hs
    rename_i hf
    unfold formedL at hf
    rw [Bool.and_eq_true, decide_eq_true_iff] at hf
    omega
  · rw [best_err h]
    exact ⟨fun u hu => (by cases hu), Nat.zero_le _⟩
set_option maxHeartbeats 4000000 in
theorem s_HalfTampers (l : List Half) (f : Form) (x : Bend) (hx : (-9223372036854775808 ≤ x.U.H ∧ x.U.H ≤ 9223372036854775807) ∧ (-9223372036854775808 ≤ x.U.T ∧ x.U.T ≤ 9223372036854775807)) (o : Bound) (ho : ∀ u ∈ o.Uses, (-9223372036854775808 ≤ u.H ∧ u.H ≤ 9223372036854775807) ∧ (-9223372036854775808 ≤ u.T ∧ u.T ≤ 9223372036854775807)) : Spec PP 10 [slH l, f.v, x.v, o.v] [B true] := by
  refine spec_at Tryz.func10 rfl (by kernel_rfl) rfl ?_
  refine CallSt.pure (s_few l) rfl rfl ?_
  refine Split.by (fun h1 => ?_) (fun h1 => ?_)
  · repeat first | refine Split.tt ?_ | refine Split.ff ?_
    refine CallSt.pure s_sanity rfl rfl ?_
    exact r1B rfl rfl
  repeat first | refine Split.tt ?_ | refine Split.ff ?_
  refine Split.by (fun h2 => ?_) (fun h2 => ?_)
  · refine CallSt.pure s_sanity rfl rfl ?_
    exact r1B rfl rfl
  obtain ⟨b1, b2⟩ := best_UB (l := l) (f := f)
  obtain ⟨b', hb', cB⟩ := v_bent (bestE l f).1 x b1 b2 hx
  refine CallSt.ro (s_Best l f) rfl rfl ?_
  refine CallSt.ro cB rfl rfl ?_
  refine Exists.intro (List.range 24) (And.intro (by kernel_rfl) (FzOb.no ?_))
  refine CallOb.pure s_sanity rfl rfl ?_
  repeat first | refine Split.tt ?_ | refine Split.ff ?_
  refine CallOb.pure (s_CheckBest l f b') rfl rfl ?_
  repeat first | refine Split.tt ?_ | refine Split.ff ?_
  refine CallOb.pure (r_CheckBest l f b' hb') rfl rfl ?_
  repeat first | refine Split.tt ?_ | refine Split.ff ?_
  refine Split.yes (by simp) ?_
  repeat first | refine Split.tt ?_ | refine Split.ff ?_
  refine CallOb.pure (s_CheckBest l f o) rfl rfl ?_
  repeat first | refine Split.tt ?_ | refine Split.ff ?_
  refine CallOb.pure (r_CheckBest l f o ho) rfl rfl ?_
  repeat first | refine Split.tt ?_ | refine Split.ff ?_
  exact r1B rfl (by simp)
end Go.Pg
