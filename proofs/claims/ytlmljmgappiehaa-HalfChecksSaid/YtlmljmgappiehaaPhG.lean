/-
  Contracts: the convex hull of sorted points.
-/
import Derived.Test.YtlmljmgappiehaaPhF
set_option linter.all false
set_option maxRecDepth 100000
namespace Go.Pg
open Go.Proofs Go.RowKit

/-- A chain that turns left, the last corner first. -/
def popR (p : Corner) : List Corner → List Corner
  | b :: a :: r => if turn a b p ≤ 0 then popR p (a :: r) else b :: a :: r
  | s => s
def stepR (st : List Corner) (p : Corner) : List Corner := p :: popR p st
@[irreducible] def chainR (l : List Corner) : List Corner := l.foldl stepR []
@[irreducible] def halfL (l : List Corner) : List Corner := (chainR l).tail.reverse
theorem popR_mem (p : Corner) : ∀ (st : List Corner), ∀ q ∈ popR p st, q ∈ st
  | [], q, h => h
  | [b], q, h => h
  | b :: a :: r, q, h => by
    simp only [popR] at h
    split at h
    · exact List.mem_cons_of_mem _ (popR_mem p (a :: r) q h)
    · exact h
theorem popR_len (p : Corner) : ∀ (st : List Corner), (popR p st).length ≤ st.length
  | [] => Nat.le_refl _
  | [b] => Nat.le_refl _
  | b :: a :: r => by
    simp only [popR]
    split
    · have := popR_len p (a :: r); simp only [List.length_cons] at *; omega
    · exact Nat.le_refl _
theorem chainR_take (l : List Corner) {i : Nat} (h : i < l.length) : chainR (l.take (i + 1)) = stepR (chainR (l.take i)) (l.getD i default) := by
  unfold chainR
  rw [take1 h default, List.foldl_append]; rfl
theorem chainR_zero (l : List Corner) : chainR (l.take 0) = [] := by unfold chainR; simp
theorem chainR_mem (l : List Corner) : ∀ i, i ≤ l.length → (∀ q ∈ chainR (l.take i), q ∈ l) ∧ (chainR (l.take i)).length ≤ i
  | 0, _ => by rw [chainR_zero]; simp
  | i + 1, h => by
    rw [chainR_take l (by omega)]
    obtain ⟨h1, h2⟩ := chainR_mem l i (by omega)
    refine ⟨fun q hq => ?_, ?_⟩
    · rcases List.mem_cons.1 hq with rfl | hq
      · exact gd1 (by omega) default
      · exact h1 q (popR_mem _ _ q hq)
    · have := popR_len (l.getD i default) (chainR (l.take i))
      show (popR _ _).length + 1 ≤ i + 1
      omega
/-- A row of corners read from its end. -/
theorem rev_get (a : Corner) (r : List Corner) {n : Nat} (h : n = r.length) : (a :: r).reverse.getD n default = a := by
  subst h
  rw [List.getD_eq_getElem?_getD, List.reverse_cons, List.getElem?_append_right (by simp)]
  simp
theorem rev_get2 (b a : Corner) (r : List Corner) {n : Nat} (h : n = r.length) : (b :: a :: r).reverse.getD n default = a := by
  subst h
  rw [List.getD_eq_getElem?_getD, List.reverse_cons, List.getElem?_append_left (by simp), ← List.getD_eq_getElem?_getD]
  exact rev_get a r rfl
theorem rev_tail (b : Corner) (r : List Corner) {i : Nat} (h : i < r.length) : r.reverse.getD i default = (b :: r).reverse.getD i default := by
  rw [List.reverse_cons, List.getD_eq_getElem?_getD, List.getD_eq_getElem?_getD, List.getElem?_append_left (by simpa using h)]
theorem pushR {st : List Corner} {p : Corner} {n : Nat} {g : Nat → Nat → D} (hn : n = st.length) (hg : ∀ j, j < 3 → D.eqv (g 0 j) (p.at j)) : D.eqv (.slc 3 (n + 1) (appRow n (rowC st.reverse) g)) (.slc 3 (p :: st).length (rowC (p :: st).reverse)) := by
  subst hn
  refine app1 (fun i hi j hj => ?_) fun j hj => ?_
  · show D.eqv ((st.reverse.getD i default).at j) (((p :: st).reverse.getD i default).at j)
    rw [rev_tail p st hi]
    exact D.eqv_refl _
  · show D.eqv (g 0 j) (((p :: st).reverse.getD st.length default).at j)
    rw [rev_get p st rfl]
    exact hg j hj
theorem eqAt (p : Corner) : ∀ j, j < 3 → D.eqv (rowOf 3 [I p.X, I p.Y, I p.Den] 0 j) (p.at j)
  | 0, _ => ⟨rfl, rfl⟩
  | 1, _ => ⟨rfl, rfl⟩
  | 2, _ => ⟨rfl, rfl⟩
theorem o_half (l : List Corner) (hl : ∀ q ∈ l, okC q) (h0 : 1 ≤ l.length) (hn : l.length ≤ 1000000) : SpecO PP 93 [slC l] 24 3 (halfL l).length (rowC (halfL l)) := by
  refine specO_at Try.func93 rfl (by kernel_rfl) rfl ?_
  refine LoopOb.of (σ := Nat × List Corner) (fun x => ([(0, avOf (slC l)), (3, .own 3), (6, avOf (slC l)), (7, .d (I l.length)), (8, .d (I x.1))], [(3, .row 24 3 x.2.length (rowC x.2.reverse))])) (fun x => x.1 ≤ l.length ∧ x.2 = chainR (l.take x.1) ∧ (0 < x.1 → x.2 ≠ [])) (fun x => l.length - x.1) (0, [])
    ⟨rfl, ⟨obR rfl ⟨rfl, .inl rfl⟩, trivial⟩, avR _ rfl, avQ rfl, avR _ rfl, avR _ rfl, avR _ rfl, trivial⟩ ⟨Nat.zero_le _, (chainR_zero l).symm, fun h => absurd h (Nat.lt_irrefl 0)⟩ fun x hx => ?_
  obtain ⟨x1, x2, x3⟩ := hx
  obtain ⟨c1, c2⟩ := chainR_mem l x.1 x1
  refine Split.by (fun h1 => ?_) (fun h1 => ?_)
  · have h1 : x.1 < l.length := by simpa using h1
    refine ⟨⟨rfl, by omega, by omega⟩, ?_⟩
    have hp : l.getD x.1 default ∈ l := gd1 h1 default
    refine LoopOb.of (σ := List Corner) (fun st => ([(0, avOf (slC l)), (3, .own 3), (5, .box 5 0), (6, avOf (slC l)), (7, .d (I l.length)), (8, .d (I x.1))], [(3, .row 24 3 st.length (rowC st.reverse)), (5, .box [.d (I (l.getD x.1 default).X), .d (I (l.getD x.1 default).Y), .d (I (l.getD x.1 default).Den)])])) (fun st => popR (l.getD x.1 default) st = popR (l.getD x.1 default) x.2 ∧ (∀ q ∈ st, q ∈ l) ∧ st.length ≤ l.length) (fun st => st.length) x.2 ⟨rfl, ⟨obR rfl (D.eqv_refl _), obD [I (l.getD x.1 default).X, I (l.getD x.1 default).Y, I (l.getD x.1 default).Den] rfl, trivial⟩, avR _ rfl, avQ rfl, avQ rfl, avR _ rfl, avR _ rfl, avR _ rfl, trivial⟩ ⟨rfl, by rw [x2]; exact c1, by rw [x2]; omega⟩ fun st hst => ?_
    obtain ⟨s1, s2, s3⟩ := hst
    refine Exists.intro (List.range 20) (And.intro (by kernel_rfl) (FzOb.no ?_))
    refine Split.by (fun h2 => ?_) (fun h2 => ?_)
    · have h2 : 1 < st.length := by have := dT h2; omega
      refine ⟨inI64 (by omega) (by omega), ?_⟩
      refine ⟨⟨by omega, by omega⟩, ⟨by omega, ?_⟩⟩
      refine ⟨inI64 (by omega) (by omega), ?_⟩
      refine ⟨⟨by omega, by omega⟩, ⟨by omega, ?_⟩⟩
      obtain ⟨b, a, r, rfl⟩ : ∃ b a r, st = b :: a :: r := by
        match st, h2 with
        | b :: a :: r, _ => exact ⟨b, a, r, rfl⟩
      have ga : (b :: a :: r).reverse.getD (((b :: a :: r).length : Int) - 2).toNat default = a := rev_get2 b a r (by simp; omega)
      have gb : (b :: a :: r).reverse.getD (((b :: a :: r).length : Int) - 1).toNat default = b := rev_get b (a :: r) (by simp)
      refine CallOb.pure (s_turn _ _ _ ?_ ?_ ?_) rfl rfl ?_
      · rw [ga]; exact hl _ (s2 _ (by simp))
      · rw [gb]; exact hl _ (s2 _ (by simp))
      · exact hl _ hp
      refine Split.tt ?_
      refine Split.by (fun h3 => ?_) (fun h3 => ?_)
      · have h3 : turn a b (l.getD x.1 default) ≤ 0 := by rw [ga, gb] at h3; exact dT h3
        refine ⟨inI64 (by omega) (by omega), ?_⟩
        refine ⟨⟨by omega, by omega⟩, ?_⟩
        refine ⟨a :: r, ⟨rfl, ⟨obR rfl ⟨?_, .inr ⟨rfl, fun i hi j hj => ?_⟩⟩, obD [I (l.getD x.1 default).X, I (l.getD x.1 default).Y, I (l.getD x.1 default).Den] rfl, trivial⟩, avR _ rfl, avQ rfl, avQ rfl, avR _ rfl, avR _ rfl, avR _ rfl, trivial⟩, ⟨?_, fun q hq => s2 q (List.mem_cons_of_mem _ hq), by simp at s3 ⊢; omega⟩, ?_⟩
        · simp
        · show D.eqv (((b :: a :: r).reverse.getD i default).at j) (((a :: r).reverse.getD i default).at j)
          rw [rev_tail b (a :: r) (by simp at hi ⊢; omega)]
          exact D.eqv_refl _
        · rw [← s1]; simp only [popR, if_pos h3]
        · show (a :: r).length < (b :: a :: r).length
          simp
      · have h3 : ¬ turn a b (l.getD x.1 default) ≤ 0 := by rw [ga, gb] at h3; exact dF h3
        have hst : popR (l.getD x.1 default) (b :: a :: r) = b :: a :: r := by simp only [popR, if_neg h3]
        refine ⟨⟨.inr rfl, by unfold maxLen; omega, by show ((b :: a :: r).length + 1) * 24 ≤ 140737488355328; omega⟩, ?_⟩
        refine ⟨inI64 (by omega) (by omega), ?_⟩
        refine ⟨(x.1 + 1, l.getD x.1 default :: (b :: a :: r)), ⟨rfl, ⟨obR rfl (pushR rfl (eqAt _)), trivial⟩, avR _ rfl, avQ rfl, avR _ rfl, avR _ rfl, avI rfl rfl, trivial⟩, ⟨h1, ?_, fun _ => by simp⟩, ?_⟩
        · show l.getD x.1 default :: (b :: a :: r) = chainR (l.take (x.1 + 1))
          rw [chainR_take l h1, stepR, ← x2, ← s1, hst]
        · show l.length - (x.1 + 1) < l.length - x.1
          omega
    · have h2 : st.length ≤ 1 := by have := dF h2; omega
      have hst : popR (l.getD x.1 default) st = st := by
        match st, h2 with
        | [], _ => rfl
        | [b], _ => rfl
      refine Split.ff ?_
      refine Split.ff ?_
      refine ⟨⟨.inr rfl, by unfold maxLen; omega, by show (st.length + 1) * 24 ≤ 140737488355328; omega⟩, ?_⟩
      refine ⟨inI64 (by omega) (by omega), ?_⟩
      refine ⟨(x.1 + 1, l.getD x.1 default :: st), ⟨rfl, ⟨obR rfl (pushR rfl (eqAt _)), trivial⟩, avR _ rfl, avQ rfl, avR _ rfl, avR _ rfl, avI rfl rfl, trivial⟩, ⟨h1, ?_, fun _ => by simp⟩, ?_⟩
      · show l.getD x.1 default :: st = chainR (l.take (x.1 + 1))
        rw [chainR_take l h1, stepR, ← x2, ← s1, hst]
      · show l.length - (x.1 + 1) < l.length - x.1
        omega
  · have h1 : x.1 = l.length := by
      have : ¬ x.1 < l.length := by simpa using h1
      omega
    have hx2 : x.2 = chainR l := by rw [x2, h1, List.take_length]
    obtain ⟨p, st, hst⟩ : ∃ p st, x.2 = p :: st := by
      have := x3 (by omega)
      match hx : x.2, this with
      | p :: st, _ => exact ⟨p, st, rfl⟩
    have hlen : x.2.length = st.length + 1 := by rw [hst]; rfl
    have hle : x.2.length ≤ l.length := by rw [x2]; omega
    have hr : halfL l = st.reverse := by unfold halfL; rw [← hx2, hst]; rfl
    refine ⟨inI64 (by omega) (by omega), ?_⟩
    refine ⟨⟨by omega, by omega⟩, ?_⟩
    refine ⟨rfl, rfl, ?_, fun i hi j hj => ?_⟩
    · show ((x.2.length : Int) - 1).toNat = _
      rw [hr, List.length_reverse]; omega
    · rw [hr, List.length_reverse] at hi
      show D.eqv ((x.2.reverse.getD i default).at j) (((halfL l).getD i default).at j)
      rw [hr, rev_tail p st hi, hst]
      exact D.eqv_refl _
theorem halfL_len (l : List Corner) : (halfL l).length ≤ l.length := by
  have := (chainR_mem l l.length (Nat.le_refl _)).2
  rw [List.take_length] at this
  unfold halfL
  rw [List.length_reverse, List.length_tail]
  omega
@[irreducible] def hullL (l : List Corner) : List Corner := if l.length < 3 then l else halfL l ++ halfL l.reverse
def CI : Ints Corner 3 where
  lst p := [p.X, p.Y, p.Den]
  len _ := rfl
  at_ p := p.at
  hat p j hj := by
    match j, hj with
    | 0, _ => rfl
    | 1, _ => rfl
    | 2, _ => rfl
theorem r_reverseC (l : List Corner) (hn : l.length ≤ 1000000) : SpecR PP 96 [] [] 24 3 l.length (rowC l) (rowC l.reverse) [] :=
  specR_reverse CI Try.revC ⟨_, Try.func96, by kernel_rfl, by kernel_rfl⟩ (fun _ => by kernel_rfl) (fun _ => by kernel_rfl) 24 l hn
theorem s_hull (l : List Corner) (hl : ∀ q ∈ l, okC q) (hn : l.length ≤ 1000000) : Spec PP 57 [slC l] [slC (hullL l)] := by
  refine spec_at Try.func57 rfl (by kernel_rfl) rfl ?_
  refine Split.by (fun h1 => ?_) (fun h1 => ?_)
  · have h1 : l.length < 3 := by have := dT h1; omega
    have e : hullL l = l := by unfold hullL; rw [if_pos h1]
    rw [e]
    exact ⟨D.eqv_refl _, trivial⟩
  · have h1 : ¬ l.length < 3 := by have := dF h1; omega
    have e : hullL l = halfL l ++ halfL l.reverse := by unfold hullL; rw [if_neg h1]
    have n1 := halfL_len l
    have n2 := halfL_len l.reverse
    rw [List.length_reverse] at n2
    refine CallSt.own (o_half l hl (by omega) hn) rfl rfl (fun m j _ _ => flatC _ m j) ?_
    refine CallSt.own (o_cloneC (halfL l) (by omega)) rfl rfl (fun m j _ _ => flatC _ m j) ?_
    refine CallSt.own (o_cloneC l hn) rfl rfl (fun m j _ _ => flatC _ m j) ?_
    refine CallSt.rw' rfl (r_reverseC l hn) ⟨⟨[], .tmp 16, [], [], rfl, rfl, rfl, rfl, rfl, rfl, rfl⟩⟩ rfl ?_
    refine CallSt.ownE (o_half l.reverse (fun q hq => hl q (List.mem_reverse.1 hq)) (by simp; omega) (by simp; omega)) rfl ⟨?_, trivial⟩ rfl (fun m j _ _ => flatC _ m j) ?_
    · exact ⟨by simp, .inr ⟨rfl, fun _ _ _ _ => D.eqv_refl _⟩⟩
    refine ⟨⟨.inr rfl, by unfold maxLen; omega, by show ((halfL l).length + (halfL l.reverse).length) * 24 ≤ 140737488355328; omega⟩, ?_⟩
    refine ⟨⟨_, _, _, _, rfl, ?_⟩, trivial⟩
    rw [e]
    refine ⟨by simp, .inr ⟨rfl, fun i hi j hj => ?_⟩⟩
    show D.eqv (appRow (halfL l).length (rowC (halfL l)) (rowC (halfL l.reverse)) i j) (((halfL l ++ halfL l.reverse).getD i default).at j)
    unfold appRow
    by_cases h : i < (halfL l).length
    · rw [if_pos h, List.getD_eq_getElem?_getD, List.getElem?_append_left h, ← List.getD_eq_getElem?_getD]
      exact D.eqv_refl _
    · rw [if_neg h, List.getD_eq_getElem?_getD, List.getElem?_append_right (by omega), ← List.getD_eq_getElem?_getD]
      exact D.eqv_refl _
end Go.Pg
