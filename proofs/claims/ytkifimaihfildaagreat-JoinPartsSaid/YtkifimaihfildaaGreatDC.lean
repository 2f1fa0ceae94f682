/- Texts joined and shortened by program. -/
import Derived.Test.YtkifimaihfildaaGreatDB
import Derived.Test.YtkifimaihfildaaGreatDA
import Derived.Test.YtkifimaihfildaaGreatD7
import Derived.Deep.Slices
import Derived.Deep.Fields
import Derived.ChangeSame
import Derived.OpenShut
import Derived.ProofKit
import Derived.ChangeOld
import Derived.Below
set_option maxHeartbeats 4000000
set_option linter.all false
set_option maxRecDepth 100000
namespace Go.Pg
open Go.Proofs Go.RowKit
abbrev Hz.ds (x : Hz) : List D := [I x.From, I x.To, I x.Far]
end Go.Pg
namespace Go.Pg
open Go.Proofs Go.RowKit Go.Sort Go.Shelf
theorem zlk {g : Int -> Int -> Int} (hg : ∀ x y, g x y = 0) (a b c d k : Int) : crsH g a b c d k = 0 := by
 unfold crsH
 simp only [hg, Int.mul_zero, Int.add_zero, ite_self]
theorem zfI {m : Mp} (hm : ∀ p, grd m p = 0) (a b : Place) : ∀ (n : Nat) (k0 k1 : Int), ∀ p ∈ ptsF m a b n k0 k1, p.hi = 0
 | 0, _, _, p, hp => by cases hp
 | n + 1, k0, k1, p, hp => by
  unfold ptsF at hp
  split at hp
  ·split at hp
   ·rcases List.mem_cons.1 hp with rfl | hp
    ·exact zlk (g := fun y x => grd m ⟨x, y⟩) (fun _ _ => hm _) _ _ _ _ _
    ·exact zfI hm a b n _ _ p hp
   ·rcases List.mem_cons.1 hp with rfl | hp
    ·exact zlk (g := fun x y => grd m ⟨x, y⟩) (fun _ _ => hm _) _ _ _ _ _
    ·exact zfI hm a b n _ _ p hp
  ·cases hp
theorem zfb {m : Mp} (hm : ∀ p, grd m p = 0) (hv : validM m = true) {a b : Place} (ha : onM m a = true) (hb : onM m b = true) {ta tb : Int} (h1 : 0 <= ta) (h2 : 0 <= tb) : freeB m a ta b tb = true := by
 unfold freeB
 rw [Bool.not_eq_true', List.any_eq_false]
 intro p hp
 have ok := zk7 hv ha hb p hp
 have h3 := zfI hm a b _ _ _ p hp
 unfold ovrB abvI
 rw [h3, hm, hm]
 have k1 := Int.mul_nonneg (show 0 <= p.n - p.k by have := ok.k; omega) (show 0 <= 0 + ta by omega)
 have k2 := Int.mul_nonneg ok.k.1 (show 0 <= 0 + tb by omega)
 simp only [decide_eq_true_eq]
 omega
end Go.Pg
namespace Go.Pg
open Go.RowKit Go.ChangeShapes Go.WideShapes Go.Deep
section
variable {H : Type} {enc : TypeId × Value -> H} {P : Program} {w : World} {base : Nat} {spare : Nat -> Bool} {held : Bool}
def IntFs (P : Program) (fs : Array Field) : Prop := ∀ (j : Nat) (f : Field), fs[j]? = some f -> P.underlying f.type = some (.int .i64)
end
inductive Sh where
  | int (k : IntKind)
  | sl (k : Nat) (f : Nat -> Sh)
def Fits : Sh -> D -> Prop
 | .int k, x => ∃ n : Int, (k.min <= n /\ n <= k.max) /\ x = .int k n
 | .sl k s, x => ∃ (n : Nat) (f : Nat -> Nat -> D), x = .slc k n f /\ n <= maxLen /\ ∀ i, i < n -> ∀ j, j < k -> Fits (s j) (f i j)
def GdS (w : World) (s : Sh) (v : Value) : Prop := ∃ x : D, Rep w (fun b => b < w.heap.size) x v /\ Fits s x
def shFs (cells : TypeId -> Nat) (g : TypeId -> Option (List Sh)) : Nat -> List Field -> Option (List Sh)
 | _, [] => some []
 | off, f :: r => (g f.type).bind fun a => bif f.offset == off && a.length == cells f.type then (shFs cells g (off + a.length) r).map fun b => a ++ b else none
def shSt (P : Program) (g : TypeId -> Option (List Sh)) (t : TypeId) (fs : Array Field) : Option (List Sh) := (shFs P.cellsOf g 0 fs.toList).bind fun ks => bif ks.length == P.cellsOf t then some ks else none
def shSl (P : Program) (g : TypeId -> Option (List Sh)) (e : TypeId) : Option (List Sh) := (g e).bind fun ks => bif ks.length == P.cellsOf e then some [.sl ks.length fun j => getD' ks j] else none
where getD' : List Sh -> Nat -> Sh
 | [], _ => .int .i64
 | x :: _, 0 => x
 | _ :: r, j + 1 => getD' r j
def shOf (P : Program) : Nat -> TypeId -> Option (List Sh)
 | 0, _ => none
 | n + 1, t => match P.underlying t with
  | some (.int k) => some [.int k]
  | some (.slice e) => shSl P (shOf P n) e
  | some (.struct fs) => shSt P (shOf P n) t fs
  | _ => none
theorem zjR {l : List Sh} {j : Nat} (h : j < l.length) : l[j]? = some (shSl.getD' l j) := by
 induction l generalizing j with
 | nil => cases h
 | cons x r ih => cases j with
  | zero => rfl
  | succ j => simpa [shSl.getD'] using ih (by simpa using h)
theorem All2.app' {α β : Type} {R : α -> β -> Prop} {a c : List α} {b d : List β} (h1 : All2 R a b) (h2 : All2 R c d) : All2 R (a ++ c) (b ++ d) := by
 induction h1 with
 | nil => exact h2
 | cons h _ ih => exact .cons h ih
theorem zmB {w : World} {a : Addr} {v : Value} (h : w.cell? a = some v) : a.block < w.heap.size := by
 rcases Nat.lt_or_ge a.block w.heap.size with h1 | h1
 ·exact h1
 ·simp only [World.cell?, Array.getElem?_eq_none h1] at h
  cases h
theorem wf_kind {k : IntKind} {n : Int} (h : (Lit.int k n).wf = true) : k.min <= n /\ n <= k.max := by
 have h : (decide (IntKind.min k <= n) && decide (n <= IntKind.max k)) = true := h
 simp only [Bool.and_eq_true, decide_eq_true_eq] at h
 exact h
section
variable {H : Type} {enc : TypeId × Value -> H} {P : Program} {w : World} {base : Nat} {spare : Nat -> Bool} {held : Bool}
theorem zeQ {g : TypeId -> Option (List Sh)} {n : Nat} {cs : List Value}
  (ih : ∀ t ks, g t = some ks -> ∀ cs x, DataW.trod enc P w base spare held n t cs = some x -> All2 (GdS w) ks cs) :
  ∀ (r : List Field) (off : Nat) (ks : List Sh), shFs P.cellsOf g off r = some ks -> (∀ f ∈ r, ∃ x, DataW.trod enc P w base spare held n f.type ((cs.drop f.offset).take (P.cellsOf f.type)) = some x) -> All2 (GdS w) ks ((cs.drop off).take ks.length)
 | [], off, ks, h, _ => by
  simp only [shFs, Option.some.injEq] at h
  subst h
  exact .nil
 | f :: r, off, ks, h, hx => by
  unfold shFs at h
  obtain ⟨a, ha, h⟩ := Option.bind_eq_some_iff.1 h
  cases hc : f.offset == off && a.length == P.cellsOf f.type with
  | false => rw [hc] at h; cases h
  | true =>
   rw [hc] at h
   obtain ⟨b, hb, rfl⟩ := Option.map_eq_some_iff.1 (show (shFs P.cellsOf g (off + a.length) r).map (fun b => a ++ b) = some ks from h)
   simp only [Bool.and_eq_true, beq_iff_eq] at hc
   obtain ⟨x, h1⟩ := hx f (List.mem_cons_self ..)
   rw [hc.1, <- hc.2] at h1
   have g1 := ih _ _ ha _ _ h1
   have g2 := zeQ ih r (off + a.length) b hb fun f hf => hx f (List.mem_cons_of_mem _ hf)
   rw [List.length_append, List.take_add, List.drop_drop]
   exact g1.app' g2
theorem zd8 : ∀ (n : Nat) (t : TypeId) (ks : List Sh), shOf P n t = some ks -> ∀ (fuel : Nat) (cs : List Value) (x : DataW H × List MemPlace), DataW.trod enc P w base spare held fuel t cs = some x -> All2 (GdS w) ks cs
 | 0, _, _, h, _, _, _, _ => by cases h
 | n + 1, t, ks, h, fuel, cs, x, ht => by
  unfold shOf at h
  split at h
  ·rename_i k hu
   simp only [Option.some.injEq] at h
   subst h
   obtain ⟨m, rfl, _, hw⟩ := DataW.trod_int hu ht
   exact .cons ⟨.int k m, rfl, m, wf_kind hw, rfl⟩ .nil
  ·rename_i e hu
   unfold shSl at h
   obtain ⟨ks', hk, h⟩ := Option.bind_eq_some_iff.1 h
   cases hc : ks'.length == P.cellsOf e with
   | false => rw [hc] at h; cases h
   | true =>
    rw [hc] at h
    simp only [cond_true, Option.some.injEq] at h
    subst h
    have hc := beq_iff_eq.1 hc
    obtain ⟨v, rfl⟩ : ∃ v, cs = [v] := by
     rcases open_slice hu ht with ⟨rfl, _⟩ | ⟨ad, len, cap, m, n', D, Pl, rfl, _⟩
     ·exact ⟨_, rfl⟩
     ·exact ⟨_, rfl⟩
    refine .cons ?_ .nil
    rcases open_slice hu ht with ⟨h1, _⟩ | ⟨ad, len, cap, m, n', D, Pl, h1, hb, hl, hm, hmm, hx, hi⟩
    ·cases h1
     exact ⟨.slc ks'.length 0 fun _ _ => .nil, .inl ⟨rfl, rfl⟩, 0, _, rfl, by unfold maxLen; omega, fun i hi => absurd hi (Nat.not_lt_zero _)⟩
    ·cases h1
     have key : ∀ i, i < len -> ∀ j, j < ks'.length -> ∃ v, w.cell? (ad.add (i * ks'.length + j)) = some v /\ GdS w (shSl.getD' ks' j) v := fun i him j hjl => by
      obtain ⟨cs', hcc, ht'⟩ := hi i (by rw [hmm]; split <;> omega)
      have hg := zd8 n e ks' hk _ _ _ ht'
      obtain ⟨_, hcl, hat⟩ := World.cells?_some hcc
      obtain ⟨v, hv, hgv⟩ := hg.get j _ (zjR hjl)
      refine ⟨v, ?_, hgv⟩
      rw [<- Go.Deep.add_add, hc]
      rw [hat j (by omega)]; exact hv
     refine ⟨.slc ks'.length len fun i j => if h : i < len /\ j < ks'.length then Classical.choose (Classical.choose_spec (key i h.1 j h.2)).2 else .nil, .inr ⟨ad, cap, rfl, hl, hm, fun i hi j hj => ?_⟩, len, _, rfl, by omega, fun i hi j hj => ?_⟩
     ·have hs := Classical.choose_spec (key i hi j hj)
      have hs2 := Classical.choose_spec hs.2
      refine ⟨?_, _, hs.1, ?_⟩
      ·have := zmB hs.1
       rwa [zaz] at this
      ·dsimp only; rw [dif_pos ⟨hi, hj⟩]; exact hs2.1
     ·dsimp only; rw [dif_pos ⟨hi, hj⟩]
      exact (Classical.choose_spec (Classical.choose_spec (key i hi j hj)).2).2
  ·rename_i fs hu
   unfold shSt at h
   obtain ⟨ks', hk, h⟩ := Option.bind_eq_some_iff.1 h
   cases hc : ks'.length == P.cellsOf t with
   | false => rw [hc] at h; cases h
   | true =>
    rw [hc] at h
    simp only [cond_true, Option.some.injEq] at h
    subst h
    obtain ⟨xs, m, rfl, _, hl, hlen, hf⟩ := DataW.trod_struct hu ht
    have key := zeQ (cs := cs) (n := m) (fun t ks h cs x hx => zd8 n t ks h m cs x hx) fs.toList 0 ks' hk fun f hf' => by
     obtain ⟨i, hi, rfl⟩ := List.getElem_of_mem hf'
     have hi' : i < fs.size := by simpa using hi
     have h1 := hf i fs[i] (Array.getElem?_eq_getElem hi')
     rw [gqe (show i < xs.length by omega)] at h1
     exact ⟨_, by simpa using h1⟩
    rw [List.drop_zero, List.take_of_length_le (by have := beq_iff_eq.1 hc; omega)] at key
    exact key
  ·cases h
theorem zc9 : ∀ {ks : List Sh} {cs : List Value}, All2 (GdS w) ks cs -> ∃ xs : List D, All2 (Rep w (fun b => b < w.heap.size)) xs cs /\ All2 Fits ks xs
 | [], [], .nil => ⟨[], .nil, .nil⟩
 | _ :: _, _ :: _, .cons ⟨x, h1, h2⟩ h => by
  obtain ⟨xs, h3, h4⟩ := zc9 h
  exact ⟨x :: xs, .cons h1 h3, .cons h2 h4⟩
theorem openS {r : Reach} {b0 : Nat} (n : Nat) {t : TypeId} {fs : Array Field} {ks : List Sh} {v : Value} {d : DataW H} {p : List MemPlace} (hs : P.underlying t = some (.struct fs)) (hk : shOf P n t = some ks)
  (hv : Value.okWide P w r b0 t v) (h : DataW.Trod enc P w base spare held t v d p) : ∃ xs : List D, Rep1 w (fun b => b < w.heap.size) (.agg xs) v /\ All2 Fits ks xs := by
 obtain ⟨cs, rfl, hsz⟩ := okWide_struct hs hv
 obtain ⟨fuel, hf⟩ := h
 obtain ⟨xs, h1, h2⟩ := zc9 (zd8 n t ks hk fuel _ _ (by simpa [Value.cells] using hf))
 exact ⟨xs, ⟨cs.toList, by simp, h1⟩, h2⟩
theorem openL {r : Reach} {b0 : Nat} (n : Nat) {t e : TypeId} {ks : List Sh} {v : Value} {d : DataW H} {p : List MemPlace} (hs : P.underlying t = some (.slice e)) (hk : shOf P (n + 1) t = some ks)
  (hv : Value.okWide P w r b0 t v) (h : DataW.Trod enc P w base spare held t v d p) : ∃ x : D, Rep1 w (fun b => b < w.heap.size) (.d x) v /\ All2 Fits ks [x] := by
 obtain ⟨a, len, cap, rfl⟩ := okWide_slice hs hv
 obtain ⟨fuel, hf⟩ := h
 obtain ⟨xs, h1, h2⟩ := zc9 (zd8 (n + 1) t ks hk fuel _ _ (by simpa [Value.cells] using hf))
 cases h1 with
 | cons h h' => cases h'; exact ⟨_, h, h2⟩
end
theorem fitsL {α : Type} [Inhabited α] {k : Nat} {at_ : α -> Nat -> D} {s : Nat -> Sh} {x : D} (mkα : (Nat -> Int) -> α) (hi : ∀ j, j < k -> s j = .int .i64) (hk : ∀ g : Nat -> Int, ∀ j, j < k -> at_ (mkα g) j = I (g j)) (h : Fits (.sl k s) x) :
  ∃ l : List α, l.length <= maxLen /\ (∀ a ∈ l, ∃ g : Nat -> Int, a = mkα g /\ ∀ j, j < k -> -9223372036854775808 <= g j /\ g j <= 9223372036854775807) /\ D.eqv x (.slc k l.length fun i => at_ (l.getD i default)) := by
 obtain ⟨n, f, rfl, hn, hf⟩ := h
 have key : ∀ i, i < n -> ∀ j, j < k -> ∃ z : Int, (-9223372036854775808 <= z /\ z <= 9223372036854775807) /\ f i j = I z := fun i hi' j hj => by
  have h1 := hf i hi' j hj
  rw [hi j hj] at h1
  exact h1
 let g : Nat -> Nat -> Int := fun i j => if h : i < n /\ j < k then Classical.choose (key i h.1 j h.2) else 0
 have hg : ∀ i, i < n -> ∀ j, j < k -> (-9223372036854775808 <= g i j /\ g i j <= 9223372036854775807) /\ f i j = I (g i j) := fun i hi' j hj => by
  have e : g i j = Classical.choose (key i hi' j hj) := dif_pos ⟨hi', hj⟩
  rw [e]
  exact Classical.choose_spec (key i hi' j hj)
 refine ⟨(List.range n).map fun i => mkα (g i), by simpa using hn, fun a ha => ?_, by simp, .inr ⟨rfl, fun i hi' j hj => ?_⟩⟩
 ·obtain ⟨i, hi', rfl⟩ := List.mem_map.1 ha
  exact ⟨g i, rfl, fun j hj => (hg i (List.mem_range.1 hi') j hj).1⟩
 ·have e : ((List.range n).map fun i => mkα (g i)).getD i default = mkα (g i) := by
   rw [gdq, List.getElem?_map, List.getElem?_range hi']; rfl
  show D.eqv (f i j) (at_ (((List.range n).map fun i => mkα (g i)).getD i default) j)
  rw [e, hk _ j hj, (hg i hi' j hj).2]
  exact ⟨rfl, rfl⟩
end Go.Pg
namespace Go.Pg
open Go.Proofs Go.RowKit
theorem zlX {s : Svc} {b : Brn} {l : List Rpt} : (plcR s b l).1.length <= 1000000 := by
 unfold plcR
 split
 ·simp
 ·rename_i h0
  have h0 : givE s b l = 0 := Classical.byContradiction h0
  obtain ⟨bw, bh, -, -⟩ := zah (ze7 h0).s.c.m
  have hn : s.n <= 49 * 49 := Nat.mul_le_mul (by show s.c.M.W.toNat <= 49; omega) (by show s.c.M.H.toNat <= 49; omega)
  have := zee s.c.M (metP (l.map (alwP s b))) (s.c.M.w * s.c.M.h)
  show (plsK s.c.M (metP (l.map (alwP s b))) (s.c.M.w * s.c.M.h)).length <= 1000000
  have hn : s.c.M.w * s.c.M.h <= 49 * 49 := hn
  omega
end Go.Pg
namespace Go.Pg
open Go.Proofs Go.RowKit Go.Sort Go.Shelf
abbrev leI (x y : Int) : Bool := decide (x <= y)
def Srt (l : List Int) : Prop := l.Pairwise fun x y => leI x y = true
theorem zhX {l m : List Int} (h1 : Srt l) (h2 : Srt m) (hp : l.Perm m) : l = m :=
 List.Perm.eq_of_pairwise (le := fun x y => leI x y = true) (fun a b _ _ h3 h4 => by
  have h3 := of_decide_eq_true h3
  have h4 := of_decide_eq_true h4
  omega) h1 h2 hp
theorem zgj (l : List Rpt) : Srt (sigL l) :=
 List.pairwise_mergeSort (le := fun x y => decide (x <= y)) (fun a b c h1 h2 => by
  have h1 := of_decide_eq_true h1
  have h2 := of_decide_eq_true h2
  exact decide_eq_true (by omega)) (fun a b => by
  rw [Bool.or_eq_true, decide_eq_true_iff, decide_eq_true_iff]
  omega) _
def insK (l : List Int) (x : Int) (k : Nat) : List Int := l.take k ++ x :: l.drop k
theorem zc4 (l : List Int) (x : Int) (k : Nat) : (insK l x k).Perm (l ++ [x]) := by
 unfold insK
 have h1 : (l.take k ++ x :: l.drop k).Perm (x :: (l.take k ++ l.drop k)) := List.perm_middle
 rw [List.take_append_drop] at h1
 exact h1.trans (List.perm_append_comm (l₁ := [x]) (l₂ := l))
theorem zgJ {l : List Int} {x : Int} {k : Nat} (hk : k <= l.length) (hs : Srt l) (h1 : ∀ j, k <= j -> j < l.length -> x < l.getD j 0) (h2 : 0 < k -> l.getD (k - 1) 0 <= x) : Srt (insK l x k) := by
 have hd := hs
 unfold Srt at hd
 rw [<- List.take_append_drop k l, List.pairwise_append] at hd
 obtain ⟨d1, d2, d3⟩ := hd
 have g : ∀ i j, i < j -> j < l.length -> l.getD i 0 <= l.getD j 0 := fun i j hij hj => by
  have := List.pairwise_iff_getElem.1 hs i j (by omega) hj hij
  have := of_decide_eq_true this
  rw [gdq, gdq, gqe hj, gqe (by omega)]
  exact this
 have lo : ∀ y ∈ l.take k, y <= x := fun y hy => by
  obtain ⟨j, hj, rfl⟩ := List.getElem_of_mem hy
  rw [List.length_take] at hj
  rw [List.getElem_take]
  have e : l[j]'(by omega) = l.getD j 0 := by rw [gdq, gqe (by omega)]; rfl
  rw [e]
  have h3 := h2 (by omega)
  by_cases q : j = k - 1
  ·rw [q]; exact h3
  ·have := g j (k - 1) (by omega) (by omega); omega
 have hi : ∀ y ∈ l.drop k, x <= y := fun y hy => by
  obtain ⟨j, hj, rfl⟩ := List.getElem_of_mem hy
  rw [List.length_drop] at hj
  rw [List.getElem_drop]
  have e : l[k + j]'(by omega) = l.getD (k + j) 0 := by rw [gdq, gqe (by omega)]; rfl
  rw [e]
  have := h1 (k + j) (by omega) (by omega)
  omega
 unfold Srt insK
 rw [List.pairwise_append]
 refine ⟨d1, List.pairwise_cons.2 ⟨fun y hy => decide_eq_true (hi y hy), d2⟩, fun a ha c hc => ?_⟩
 rcases List.mem_cons.1 hc with rfl | hc
 ·exact decide_eq_true (lo a ha)
 ·have := lo a ha
  have := hi c hc
  exact decide_eq_true (by omega)
theorem zky (l : List Int) (x : Int) {k : Nat} (hk : k <= l.length) (m : Nat) : (insK l x k).getD m 0 = if m < k then l.getD m 0 else if m = k then x else l.getD (m - 1) 0 := by
 unfold insK
 rw [gdq]
 by_cases h1 : m < k
 ·rw [if_pos h1, List.getElem?_append_left (by rw [List.length_take]; omega), List.getElem?_take, if_pos h1, <- gdq]
 ·rw [if_neg h1, List.getElem?_append_right (by rw [List.length_take]; omega), List.length_take]
  rw [show min k l.length = k by omega]
  by_cases h2 : m = k
  ·rw [if_pos h2, h2, Nat.sub_self]; rfl
  ·rw [if_neg h2]
   obtain ⟨d, hd⟩ : ∃ d, m - k = d + 1 := ⟨m - k - 1, by omega⟩
   rw [hd, List.getElem?_cons_succ, List.getElem?_drop, show k + d = m - 1 by omega, <- gdq]
theorem zgK {l : List Int} {x : Int} {k : Nat} (hk : k <= l.length) {n n' : Nat} {F f : Nat -> Nat -> D} (hn : n = k) (hn' : n' = k) (hF : ∀ a, a < k -> F a 0 = I (l.getD a 0)) (h : f 0 0 = I x) :
  D.eqv (.slc 1 (n + 1 + (l.length - n')) (appRow (n + 1) (appRow n F f) fun a _ => I (l.getD (n' + a) 0))) (lI (insK l x k)) := by
 subst hn
 subst hn'
 refine ⟨by rw [(zc4 l x n').length_eq, List.length_append, List.length_singleton]; omega, .inr ⟨rfl, fun m hm j hj => ?_⟩⟩
 obtain rfl : j = 0 := by omega
 show D.eqv (appRow (n' + 1) (appRow n' F f) (fun a _ => I (l.getD (n' + a) 0)) m 0) (I ((insK l x n').getD m 0))
 rw [zky l x hk]
 unfold appRow
 by_cases h1 : m < n'
 ·rw [if_pos (by omega), if_pos h1, if_pos h1, hF m h1]; exact dE _
 ·by_cases h2 : m = n'
  ·rw [if_pos (by omega), if_neg h1, if_neg h1, if_pos h2, h2, Nat.sub_self, h]; exact dE _
  ·rw [if_neg (by omega), if_neg h1, if_neg h2]
   show D.eqv (I (l.getD (n' + (m - (n' + 1))) 0)) _
   rw [show n' + (m - (n' + 1)) = m - 1 by omega]; exact dE _
theorem zne (d : Day) (hn : d.R.length <= 1000000) : Spec PP 34 [d.v] [.d (lI (sigL d.R))] := by
 refine sA Tryz.func34 ?_
 refine LoopOb.of (σ := List Int × Nat) (fun x => ([(1, .box 1 0), (3, .d (lI x.1)), (4, .d (I x.2))], [(1, .box (d.ds.map AV.d))])) (fun x => x.2 <= d.R.length /\ Srt x.1 /\ x.1.Perm (sigK (d.R.take x.2))) (fun x => d.R.length - x.2) ([], 0)
  ⟨rfl, ⟨obD d.ds rfl, trivial⟩, avQ rfl, avOw rfl rfl rfl ⟨rfl, .inl rfl⟩, avQ rfl, trivial⟩ ⟨Nat.zero_le _, List.Pairwise.nil, List.Perm.refl _⟩ fun ⟨U, i⟩ ⟨hi, hs, hp⟩ => ?_
 have hi : i <= d.R.length := hi
 have hs : Srt U := hs
 have hp : U.Perm (sigK (d.R.take i)) := hp
 have hU : U.length <= i := by
  rw [hp.length_eq]
  have := zbU (d.R.take i)
  rw [List.length_take] at this; omega
 apply bY <;> intro h1
 ·have h1 : i < d.R.length := by have : (i : Int) < d.R.length := dT h1; omega
  refine ⟨⟨rfl, by omega, by show (i : Int) < d.R.length; omega⟩, ?_⟩
  apply bY <;> intro h2
  ·have h2 : isSg (d.R.getD i default) = false := by simpa [isSg] using h2
   refine ⟨i6, ?_⟩
   refine ⟨(U, i + 1), ⟨rfl, ⟨obD d.ds rfl, trivial⟩, wq rfl⟩, ⟨h1, hs, by rw [zhZ h1 h2]; exact hp⟩, msr h1⟩
  have h2 : isSg (d.R.getD i default) = true := by simpa [isSg] using h2
  refine LoopOb.of (σ := Nat) (fun k => ([(1, .box 1 0), (3, .d (lI U)), (4, .d (I i)), (5, .d (I k))], [(1, .box (d.ds.map AV.d))])) (fun k => k <= U.length /\ ∀ j, k <= j -> j < U.length -> (d.R.getD i default).ID < U.getD j 0) (fun k => k) U.length
   ⟨rfl, ⟨obD d.ds rfl, trivial⟩, wq rfl⟩ ⟨Nat.le_refl _, fun j h3 h4 => absurd h4 (by omega)⟩ fun k hk => ?_
  obtain ⟨hk, ha⟩ := hk
  refine oL (List.range 16) (FzOb.no ?_)
  apply bY <;> intro h3
  ·have h3 : 0 < k := by have := dT h3; omega
   refine ⟨i6, ?_⟩
   refine ⟨⟨rfl, by omega, by omega⟩, ?_⟩
   refine ⟨⟨rfl, by omega, by show (i : Int) < d.R.length; omega⟩, ?_⟩
   have ek : ((k : Int) - 1).toNat = k - 1 := by omega
   repeat first | apply sT | apply sF
   apply bY <;> intro h4
   ·have h4 : (d.R.getD i default).ID < U.getD (k - 1) 0 := by have h4 := dT h4; rw [ek] at h4; exact h4
    refine ⟨i6, ?_⟩
    refine ⟨k - 1, ⟨rfl, ⟨obD d.ds rfl, trivial⟩, avQ rfl, avQ rfl, avQ rfl, avI rfl (by omega), trivial⟩, ⟨by omega, fun j h5 h6 => ?_⟩, by omega⟩
    by_cases e : j = k - 1
    ·rw [e]; exact h4
    ·exact ha j (by omega) h6
   ·have h4 : U.getD (k - 1) 0 <= (d.R.getD i default).ID := by have h4 := dF h4; rw [ek] at h4; have : ¬ (d.R.getD i default).ID < U.getD (k - 1) 0 := h4; omega
    refine ⟨⟨.inr rfl, by omega, by omega⟩, ?_⟩
    refine ⟨⟨.inr rfl, by simp only [maxLen]; omega, by dsimp only; omega⟩, ?_⟩
    refine ⟨⟨rfl, by omega, by show (i : Int) < d.R.length; omega⟩, ?_⟩
    refine ⟨⟨.inr rfl, by simp only [maxLen]; omega, by dsimp only; omega⟩, ?_⟩
    refine ⟨⟨.inr rfl, by omega, by omega⟩, ?_⟩
    refine ⟨⟨.inr rfl, by simp only [maxLen]; omega, by dsimp only; omega⟩, ?_⟩
    refine ⟨i6, ?_⟩
    refine ⟨(insK U (d.R.getD i default).ID k, i + 1), ⟨rfl, ⟨obD d.ds rfl, trivial⟩, avQ rfl, avOw rfl rfl rfl ?_, avQ rfl, trivial⟩, ⟨h1, zgJ hk hs ha (fun _ => h4), ?_⟩, msr h1⟩
    ·exact zgK hk (by omega) (by omega) (fun a _ => rfl) rfl
    ·rw [zd6 h1 h2]
     exact (zc4 _ _ _).trans (hp.append_right _)
  ·have h3 : k = 0 := by have := dF h3; omega
   repeat first | apply sT | apply sF
   refine ⟨⟨.inr rfl, by omega, by omega⟩, ?_⟩
   refine ⟨⟨.inr rfl, by simp only [maxLen]; omega, by dsimp only; omega⟩, ?_⟩
   refine ⟨⟨rfl, by omega, by show (i : Int) < d.R.length; omega⟩, ?_⟩
   refine ⟨⟨.inr rfl, by simp only [maxLen]; omega, by dsimp only; omega⟩, ?_⟩
   refine ⟨⟨.inr rfl, by omega, by omega⟩, ?_⟩
   refine ⟨⟨.inr rfl, by simp only [maxLen]; omega, by dsimp only; omega⟩, ?_⟩
   refine ⟨i6, ?_⟩
   refine ⟨(insK U (d.R.getD i default).ID k, i + 1), ⟨rfl, ⟨obD d.ds rfl, trivial⟩, avQ rfl, avOw rfl rfl rfl ?_, avQ rfl, trivial⟩, ⟨h1, zgJ hk hs ha (fun h => by omega), ?_⟩, msr h1⟩
   ·exact zgK hk (by omega) (by omega) (fun a _ => rfl) rfl
   ·rw [zd6 h1 h2]
    exact (zc4 _ _ _).trans (hp.append_right _)
 have h1 : i = d.R.length := by have : ¬ (i : Int) < d.R.length := dF h1; omega
 subst h1
 rw [List.take_length] at hp
 rw [zhX (zgj d.R) hs ((List.mergeSort_perm _ _).trans hp.symm)]
 exact ⟨dE _, trivial⟩
theorem zlq {d : Day} {ids : List Int} (h : askE d ids = 0) : DayOk d := by
 unfold askE at h
 split at h
 ·rename_i h1; exact absurd h h1
 ·rename_i h1; exact zdQ (Classical.byContradiction h1)
def celR (d : Day) (ids : List Int) : List Place × Int := if askE d ids ≠ 0 then ([], askE d ids) else (plsD d ids, 0)
def sigR (d : Day) : List Int × Int := if dayE d ≠ 0 then ([], dayE d) else (sigL d.R, 0)
theorem ziT (d : Day) (ids : List Int) (hn : d.R.length <= 1000000) (hi : ids.length <= 1000000) : Spec PP 19 [d.v, .d (lI ids)] [.d (lP (celR d ids).1), .d (.int .i64 (celR d ids).2)] := by
 refine sA Tryz.func19 ?_
 refine cP (ziR d ids hn hi) rfl rfl ?_
 unfold celR
 apply bY <;> intro h0
 ·rw [if_pos (by simpa using h0)]
  exact ⟨⟨_, _, _, _, rfl, rfl, .inl rfl⟩, rtI rfl rfl, trivial⟩
 have h0 : askE d ids = 0 := by simpa using h0
 rw [if_neg (fun hh => hh h0)]
 refine CallSt.ro (zgH (zlq h0) ids hi) rfl rfl ?_
 exact ⟨dE _, rtI rfl rfl, trivial⟩
theorem zch (d : Day) (ids : List Int) (hn : d.R.length <= 1000000) (hi : ids.length <= 1000000) : Spec PP 21 [d.v, .d (lI ids)] [B (decide (0 < (celR d ids).1.length)), .d (.int .i64 (celR d ids).2)] := by
 refine sA Tryz.func21 ?_
 refine CallSt.ro (ziT d ids hn hi) rfl rfl ?_
 exact ⟨rtB rfl (decide_eq_decide.2 (by omega)), rtI rfl rfl, trivial⟩
theorem zc2 (d : Day) (hn : d.R.length <= 1000000) : Spec PP 24 [d.v] [.d (lI (sigR d).1), .d (.int .i64 (sigR d).2)] := by
 refine sA Tryz.func24 ?_
 refine cP (zc3 d hn) rfl rfl ?_
 unfold sigR
 apply bY <;> intro h0
 ·rw [if_pos (by simpa using h0)]
  exact ⟨⟨_, _, _, _, rfl, rfl, .inl rfl⟩, rtI rfl rfl, trivial⟩
 have h0 : dayE d = 0 := by simpa using h0
 rw [if_neg (fun hh => hh h0)]
 refine CallSt.ro (za0 d hn) rfl rfl ?_
 exact ⟨dE _, rtI rfl rfl, trivial⟩
def parE (d : Day) (a b : Int) : Int := if dayE d ≠ 0 then dayE d else if partB [a, b] (sigL d.R) = false then 5 else if a = b then 1 else 0
theorem znI (d : Day) (a b : Int) (hn : d.R.length <= 1000000) : Spec PP 55 [d.v, N a, N b] [.d (.int .i64 (parE d a b))] := by
 refine sA Tryz.func55 ?_
 refine cP (zc3 d hn) rfl rfl ?_
 unfold parE
 apply bY <;> intro h0
 ·rw [if_pos (by simpa using h0)]
  exact r1I rfl rfl
 have h0 : dayE d = 0 := by simpa using h0
 rw [if_neg (fun hh => hh h0)]
 have hs : (sigL d.R).length <= 1000000 := by rw [zbz]; exact Nat.le_trans (zbU _) hn
 refine CallSt.ro (za0 d hn) rfl rfl ?_
 refine CallSt.fzE [15] (zle [a, b] (sigL d.R) (by simp) hs) rfl ⟨⟨rfl, .inr ⟨rfl, fun i hi j hj => ?_⟩⟩, dE _, trivial⟩ rfl ?_
 ·match i, hi, j, hj with
  | 0, _, 0, _ => exact ⟨rfl, rfl⟩
  | 1, _, 0, _ => exact ⟨rfl, rfl⟩
 apply bY <;> intro h1
 ·rw [if_pos (by simpa using h1)]
  exact r1I rfl rfl
 rw [if_neg (by simpa using h1)]
 apply bY <;> intro h2
 ·rw [if_pos (by simpa using h2)]
  exact r1I rfl rfl
 rw [if_neg (by simpa using h2)]
 exact r1I rfl rfl
abbrev lPP (l : List (List (List Int))) : D := .slc 1 l.length fun i _ => lII (l.getD i [])
def bthB (a b : Int) (s : List Int) : Bool := s.contains a && s.contains b
def togB (a b : Int) (p : List (List Int)) : Bool := p.any (bthB a b)
theorem zfP (a b : Int) (s : List Int) (hs : s.length <= 1000000) : Spec PP 146 [.d (lI s), .d (capB [I a]), .d (capB [I b])] [B (bthB a b s)] := by
 refine sA Tryz.func146 ?_
 refine cP (zdB s a hs) rfl rfl ?_
 apply bY <;> intro h1
 ·have h1 : s.contains a = true := h1
  refine cP (zdB s b hs) rfl rfl ?_
  repeat first | apply sT | apply sF
  exact r1B rfl (by unfold bthB; rw [h1, Bool.true_and])
 ·have h1 : s.contains a = false := h1
  repeat first | apply sT | apply sF
  exact r1B rfl (by unfold bthB; rw [h1, Bool.false_and])
theorem zhk (p : List (List Int)) (a b : Int) (hp : p.length <= 1000000) (hs : ∀ s ∈ p, s.length <= 1000000) : Spec PP 97 [.d (lII p), N a, N b] [B (togB a b p)] := by
 refine sA Tryz.func97 ?_
 refine CallSt.fzE [4, 5] (zjT p 146 (capB [I a]) (capB [I b]) (bthB a b) hp fun i hi => zfP a b _ (hs _ ?_)) rfl ⟨dE _, ⟨rfl, rfl, capB2 _ _ rfl rfl⟩, trivial⟩ rfl ?_
 ·rw [gdq, gqe hi]; exact List.getElem_mem hi
 exact r1B rfl rfl
structure Vdt where
  Ans : Int
  T : List (List Int)
  A : List (List Int)
  deriving Inhabited
abbrev Vdt.v (x : Vdt) : V1 := .agg [I x.Ans, lII x.T, lII x.A]
def fstP (p : List (List Int) -> Bool) (l : List (List (List Int))) : List (List Int) := (l.find? p).getD []
def vdtR (l : List (List (List Int))) (a b : Int) : Vdt :=
 ⟨if l.any (togB a b) = true then (if (l.any fun p => !togB a b p) = true then 3 else 2) else 1, fstP (togB a b) l, fstP (fun p => !togB a b p) l⟩
theorem zfa (p : List (List Int) -> Bool) {l : List (List (List Int))} {i : Nat} (h : i < l.length) : fstP p (l.take (i + 1)) = if (l.take i).any p = true then fstP p (l.take i) else if p (l.getD i []) = true then l.getD i [] else [] := by
 unfold fstP
 rw [za7 h [], List.find?_append]
 cases hf : (l.take i).find? p with
 | some x =>
  rw [if_pos (List.any_eq_true.2 ⟨x, List.mem_of_find?_eq_some hf, List.find?_some hf⟩)]; rfl
 | none =>
  rw [if_neg fun ha => by
   obtain ⟨x, h1, h2⟩ := List.any_eq_true.1 ha
   exact List.find?_eq_none.1 hf x h1 h2]
  rw [List.find?_cons]
  cases p (l.getD i []) <;> rfl
theorem zg4 (p : List (List Int) -> Bool) {l : List (List (List Int))} {i : Nat} (h : i < l.length) : (l.take (i + 1)).any p = ((l.take i).any p || p (l.getD i [])) := by
 rw [za7 h [], List.any_append]; simp
theorem zmq {p : List (List Int) -> Bool} {l : List (List (List Int))} (h : l.any p = false) : fstP p l = [] := by
 unfold fstP
 rw [List.find?_eq_none.2 fun x hx hp => by have := List.any_eq_false.1 h x hx; exact this hp]; rfl
theorem zbb {p : List (List Int) -> Bool} {l : List (List (List Int))} {i : Nat} (h : i < l.length) (h2 : (l.take i).any p = true \/ p (l.getD i []) = false) : fstP p (l.take (i + 1)) = fstP p (l.take i) := by
 rw [zfa p h]
 by_cases h3 : (l.take i).any p = true
 ·rw [if_pos h3]
 ·rw [if_neg h3, if_neg (by rw [h2.resolve_left h3]; decide), zmq (by simpa using h3)]
theorem zgN {p : List (List Int) -> Bool} {l : List (List (List Int))} {i : Nat} (h : i < l.length) (h2 : (l.take i).any p = false) (h3 : p (l.getD i []) = true) : fstP p (l.take (i + 1)) = l.getD i [] := by
 rw [zfa p h, if_neg (by rw [h2]; decide), if_pos h3]
theorem ziL (l : List (List (List Int))) (a b : Int) (hl : l.length <= 1000000) (hp : ∀ p ∈ l, p.length <= 1000000 /\ ∀ s ∈ p, s.length <= 1000000) : Spec PP 57 [.d (lPP l), N a, N b] [(vdtR l a b).v] := by
 refine sA Tryz.func57 ?_
 refine LoopOb.of (σ := Nat) (fun i => ([(1, .d (I a)), (2, .d (I b)), (6, .box 6 0), (7, .box 7 0), (8, .d (.bool ((l.take i).any (togB a b)))), (9, .d (.bool ((l.take i).any fun p => !togB a b p))), (12, .d (lPP l)), (13, .d (I l.length)), (14, .d (I i))],
   [(6, .box (List.replicate 3 .any)), (7, .box ([I 0, lII (fstP (togB a b) (l.take i)), lII (fstP (fun p => !togB a b p) (l.take i))].map AV.d))])) (fun i => i <= l.length) (fun i => l.length - i) 0
  ⟨rfl, ⟨zbn rfl rfl, ⟨dE _, rfl, rfl, trivial⟩, trivial⟩, wq rfl⟩ (Nat.zero_le _) fun i hi => ?_
 have hi : i <= l.length := hi
 apply bY <;> intro h1
 ·have h1 : i < l.length := by have := dT h1; omega
  have hm : l.getD i [] ∈ l := by rw [gdq, gqe h1]; exact List.getElem_mem h1
  obtain ⟨g1, g2⟩ := hp _ hm
  have a1 := zg4 (togB a b) h1
  have a2 := zg4 (fun p => !togB a b p) h1
  refine ⟨⟨rfl, by omega, by omega⟩, ?_⟩
  refine cP (zhk (l.getD i []) a b g1 g2) rfl rfl ?_
  apply bY <;> intro h2
  ·have h2 : togB a b (l.getD i []) = true := h2
   have h2' : (!togB a b (l.getD i [])) = false := by rw [h2]; rfl
   rw [h2, Bool.or_true] at a1
   rw [h2', Bool.or_false] at a2
   apply bY <;> intro h3
   ·have h3 : (l.take i).any (togB a b) = false := by simpa using h3
    refine ⟨i6, ?_⟩
    refine ⟨i + 1, ⟨rfl, ⟨zbn rfl rfl, ?_, trivial⟩, ?_⟩, h1, msr h1⟩
    ·rw [zgN (p := togB a b) h1 h3 h2, zbb (p := fun p => !togB a b p) h1 (.inr h2')]; exact ⟨dE _, dE _, dE _, trivial⟩
    ·rw [a1, a2]; exact wq rfl
   ·have h3 : (l.take i).any (togB a b) = true := by simpa using h3
    refine ⟨i6, ?_⟩
    refine ⟨i + 1, ⟨rfl, ⟨zbn rfl rfl, ?_, trivial⟩, ?_⟩, h1, msr h1⟩
    ·rw [zbb (p := togB a b) h1 (.inl h3), zbb (p := fun p => !togB a b p) h1 (.inr h2')]; exact ⟨dE _, dE _, dE _, trivial⟩
    ·rw [a1.trans h3.symm, a2]; exact wq rfl
  ·have h2 : togB a b (l.getD i []) = false := h2
   have h2' : (!togB a b (l.getD i [])) = true := by rw [h2]; rfl
   rw [h2, Bool.or_false] at a1
   rw [h2', Bool.or_true] at a2
   apply bY <;> intro h3
   ·have h3 : ((l.take i).any fun p => !togB a b p) = false := by simpa using h3
    refine ⟨i6, ?_⟩
    refine ⟨i + 1, ⟨rfl, ⟨zbn rfl rfl, ?_, trivial⟩, ?_⟩, h1, msr h1⟩
    ·rw [zbb (p := togB a b) h1 (.inr h2), zgN (p := fun p => !togB a b p) h1 h3 h2']; exact ⟨dE _, dE _, dE _, trivial⟩
    ·rw [a1, a2]; exact wq rfl
   ·have h3 : ((l.take i).any fun p => !togB a b p) = true := by simpa using h3
    refine ⟨i6, ?_⟩
    refine ⟨i + 1, ⟨rfl, ⟨zbn rfl rfl, ?_, trivial⟩, ?_⟩, h1, msr h1⟩
    ·rw [zbb (p := togB a b) h1 (.inr h2), zbb (p := fun p => !togB a b p) h1 (.inl h3)]; exact ⟨dE _, dE _, dE _, trivial⟩
    ·rw [a1, a2.trans h3.symm]; exact wq rfl
 have h1 : i = l.length := by have := dF h1; omega
 subst h1
 rw [List.take_length]
 unfold vdtR
 apply bY <;> intro h2
 ·have h2 : l.any (togB a b) = true := h2
  rw [if_pos h2]
  repeat first | apply sT | apply sF
  apply bY <;> intro h3
  ·have h3 : (l.any fun p => !togB a b p) = true := h3
   rw [if_pos h3]
   exact ⟨rtC (a := 6) rfl rfl rfl rfl rfl rfl (zab _), trivial⟩
  ·have h3 : (l.any fun p => !togB a b p) = false := h3
   rw [if_neg (by rw [h3]; decide)]
   refine Split.yes h2 ?_
   exact ⟨rtC (a := 6) rfl rfl rfl rfl rfl rfl (zab _), trivial⟩
 ·have h2 : l.any (togB a b) = false := h2
  rw [if_neg (by rw [h2]; decide)]
  repeat first | apply sT | apply sF
  refine Split.no h2 ?_
  exact ⟨rtC (a := 6) rfl rfl rfl rfl rfl rfl (zab _), trivial⟩
theorem zie {a b : List Int} : partB a b = true ↔ ∀ j, j < a.length -> b.contains (a.getD j 0) = true := by
 unfold partB
 rw [List.all_eq_true]
 constructor
 ·intro h j hj
  rw [gdq, gqe hj]
  exact h _ (List.getElem_mem hj)
 ·intro h x hx
  obtain ⟨j, hj, rfl⟩ := List.getElem_of_mem hx
  have := h j hj
  rw [gdq, gqe hj] at this
  exact this
end Go.Pg
