/-
  From the rows' side to the calculus: arguments opened to data (structs of integers, slices of structs of integers). For every program.
-/
import Derived.Test.YtlmljmgappiehaaPgU
import Derived.Deep.Slices
import Derived.Deep.Fields
import Derived.ChangeSame
import Derived.OpenShut
import Derived.ProofKit
import Derived.ChangeOld
import Derived.Below
set_option linter.all false
namespace Go.Pg
open Go.RowKit Go.ChangeShapes Go.WideShapes Go.Deep
section
variable {H : Type} {enc : TypeId × Value → H} {P : Program} {w : World} {base : Nat} {spare : Nat → Bool} {held : Bool}
theorem wf_i64 {n : Int} (h : (Lit.int .i64 n).wf = true) : -9223372036854775808 ≤ n ∧ n ≤ 9223372036854775807 := by
  have h : (decide (IntKind.min .i64 ≤ n) && decide (n ≤ IntKind.max .i64)) = true := h
  simp only [Bool.and_eq_true, decide_eq_true_eq] at h
  exact h
/-- Every field of a struct is an int. -/
def IntFs (P : Program) (fs : Array Field) : Prop := ∀ (j : Nat) (f : Field), fs[j]? = some f → P.underlying f.type = some (.int .i64)
theorem intFs_of {fs : Array Field} (h : (fs.toList.all fun f => match P.underlying f.type with | some (.int .i64) => true | _ => false) = true) : IntFs P fs := fun j f hj => by
  have := List.all_eq_true.1 h f (by simpa using Array.mem_of_getElem? hj)
  cases hu : P.underlying f.type with
  | none => simp [hu] at this
  | some d =>
    cases d with
    | int k => cases k <;> simp [hu] at this ⊢
    | _ => simp [hu] at this
/-- A struct of ints, by value. -/
theorem open_aggI {r : Reach} {b0 : Nat} {t : TypeId} {fs : Array Field} {v : Value} {d : DataW H} {p : List MemPlace} (hs : P.underlying t = some (.struct fs)) (hone : oneCellFields P fs = true) (hC : P.cellsOf t = fs.size) (hI : IntFs P fs)
    (hv : Value.okWide P w r b0 t v) (h : DataW.Trod enc P w base spare held t v d p) :
    ∃ ns : List Int, ns.length = fs.size ∧ (∀ n ∈ ns, -9223372036854775808 ≤ n ∧ n ≤ 9223372036854775807) ∧ v = .agg (ns.map (Value.int .i64)).toArray := by
  obtain ⟨cs, rfl, hsz⟩ := okWide_struct hs hv
  obtain ⟨l⟩ := cs
  have hl : l.length = fs.size := by simpa [hC] using hsz
  obtain ⟨fuel, hf⟩ := h
  obtain ⟨xs, n, _, hx, _, hlen, hg⟩ := DataW.trod_struct hs hf
  have key : ∀ j, j < l.length → ∃ n : Int, l[j]? = some (.int .i64 n) ∧ (Lit.int .i64 n).wf = true := fun j hj => by
    have hjf : fs[j]? = some (fs[j]'(by omega)) := Array.getElem?_eq_getElem (by omega)
    obtain ⟨o0, k0⟩ := hone_of hone j _ hjf
    have h1 := hg j _ hjf
    rw [o0, k0] at h1
    have hxs : xs[j]? = some (xs[j]'(by omega)) := List.getElem?_eq_getElem (by omega)
    rw [hxs] at h1
    obtain ⟨n, hc, _, hw⟩ := DataW.trod_int (hI j _ hjf) h1
    refine ⟨n, ?_, hw⟩
    have : (l.drop j).take 1 = [.int .i64 n] := by simpa [Value.cells] using hc
    rw [List.drop_eq_getElem_cons hj] at this
    have h3 : l[j] = Value.int .i64 n := (List.cons.inj this).1
    rw [List.getElem?_eq_getElem hj, h3]
  have : ∀ l : List Value, (∀ j, j < l.length → ∃ n : Int, l[j]? = some (.int .i64 n) ∧ (Lit.int .i64 n).wf = true) → ∃ ns : List Int, ns.length = l.length ∧ (∀ n ∈ ns, -9223372036854775808 ≤ n ∧ n ≤ 9223372036854775807) ∧ l = ns.map (Value.int .i64) := by
    intro l
    induction l with
    | nil => intro _; exact ⟨[], rfl, by simp, rfl⟩
    | cons u r ih =>
      intro hk
      obtain ⟨n, h1, h2⟩ := hk 0 (by simp)
      obtain ⟨ns, h3, h4, h5⟩ := ih fun j hj => by simpa using hk (j + 1) (by simpa using hj)
      refine ⟨n :: ns, by simp [h3], fun m hm => ?_, ?_⟩
      · rcases List.mem_cons.1 hm with rfl | hm
        · exact wf_i64 h2
        · exact h4 m hm
      · simp only [List.getElem?_cons_zero, Option.some.injEq] at h1
        rw [h1, h5]; rfl
  obtain ⟨ns, h1, h2, h3⟩ := this l key
  exact ⟨ns, by omega, h2, by rw [h3]⟩
theorem all2I {ok : Nat → Prop} (ns : List Int) : All2 (Rep w ok) (ns.map I) (ns.map (Value.int .i64)) := by
  induction ns with
  | nil => exact .nil
  | cons n r ih => exact .cons rfl ih
/-- A slice of structs of ints. -/
theorem open_slI {t e : TypeId} {fs : Array Field} {fuel : Nat} {x : DataW H × List MemPlace} (ht : P.underlying t = some (.slice e)) (he : P.underlying e = some (.struct fs)) (hone : oneCellFields P fs = true) (hC : P.cellsOf e = fs.size) (hI : IntFs P fs)
    (hp : 0 < fs.size) {a : Option Addr} {len cap : Nat} (h : DataW.trod enc P w base spare held fuel t [.slice a len cap] = some x) :
    ∃ g : Nat → Nat → Int, (∀ i j, i < len → j < fs.size → -9223372036854775808 ≤ g i j ∧ g i j ≤ 9223372036854775807) ∧ Rep w (fun b => b < w.heap.size) (.slc fs.size len fun i j => I (g i j)) (.slice a len cap) := by
  obtain ⟨hcs, _⟩ | ⟨ad, n, c, m, n', D, Pl, hcs, hb, hl, hm, hmm, hx, hi⟩ := open_slice ht h
  · simp at hcs
    obtain ⟨rfl, rfl, rfl⟩ := hcs
    exact ⟨fun _ _ => 0, fun i _ hi => absurd hi (Nat.not_lt_zero _), .inl ⟨rfl, rfl⟩⟩
  · simp at hcs
    obtain ⟨rfl, rfl, rfl⟩ := hcs
    have key : ∀ i, i < len → ∀ j, j < fs.size → ∃ z : Int, w.cell? (ad.add (i * fs.size + j)) = some (.int .i64 z) ∧ (Lit.int .i64 z).wf = true := fun i him j hjl => by
      obtain ⟨cs', hc, ht'⟩ := hi i (by rw [hmm]; split <;> omega)
      rw [hC] at hc
      obtain ⟨ys, n2, hn', hy, hlen, hyl, hf⟩ := DataW.trod_struct he ht'
      obtain ⟨_, hcl, hat⟩ := World.cells?_some hc
      have hjf : fs[j]? = some (fs[j]'hjl) := Array.getElem?_eq_getElem hjl
      obtain ⟨ho, hk⟩ := hone_of hone j _ hjf
      have hcell := hat j hjl
      have hv : cs'[j]? = some (cs'[j]'(by omega)) := List.getElem?_eq_getElem (by omega)
      have h1 := hf j _ hjf
      rw [ho, hk] at h1
      have hone' : (cs'.drop j).take 1 = [cs'[j]'(by omega)] := by
        rw [List.drop_eq_getElem_cons (by omega)]
        rfl
      have hys : ys[j]? = some (ys[j]'(by omega)) := List.getElem?_eq_getElem (by omega)
      rw [hone', hys] at h1
      obtain ⟨z, hz, _, hw⟩ := DataW.trod_int (hI j _ hjf) h1
      simp at hz
      refine ⟨z, ?_, hw⟩
      rw [← Go.Deep.add_add, hcell, hv, hz]
    refine ⟨fun i j => if h : i < len ∧ j < fs.size then Classical.choose (key i h.1 j h.2) else 0, fun i j hi hj => ?_, .inr ⟨ad, cap, rfl, hl, hm, fun i hi j hj => ?_⟩⟩
    · simp only [dif_pos (show i < len ∧ j < fs.size from ⟨hi, hj⟩)]
      exact wf_i64 (Classical.choose_spec (key i hi j hj)).2
    · have hs := Classical.choose_spec (key i hi j hj)
      refine ⟨?_, _, hs.1, ?_⟩
      · have : (ad.add (i * fs.size + j)).block = ad.block := add_block _ _
        have h2 := hs.1
        rw [← this]
        rcases Nat.lt_or_ge (ad.add (i * fs.size + j)).block w.heap.size with h | h
        · exact h
        · simp only [World.cell?, Array.getElem?_eq_none h] at h2
          cases h2
      · show Value.int .i64 _ = Value.int .i64 _
        simp only [dif_pos (show i < len ∧ j < fs.size from ⟨hi, hj⟩)]
end
end Go.Pg
