/- Texts joined and shortened by program. -/
import Derived.Test.YtkifimaihfildaaGreatED
import Derived.Test.YtkifimaihfildaaGreatEC
import Derived.Test.YtkifimaihfildaaGreatEA
set_option maxHeartbeats 4000000
set_option linter.all false
set_option maxRecDepth 100000
namespace Go.Pg
open Go.Proofs Go.RowKit Go.Sort Go.Shelf
theorem zmH (ids : List Int) (m : Nat) : (memb ids m).Sublist ids := by
 have e : (List.range ids.length).map (ids.getD · 0) = ids := by
  apply List.ext_getElem (by simp)
  intro i h1 h2
  rw [List.getElem_map, List.getElem_range, gdq, gqe h2]; rfl
 have : (memb ids m).Sublist ((List.range ids.length).map (ids.getD · 0)) := List.Sublist.map _ (List.filter_sublist ..)
 rwa [e] at this
theorem DayOk.lt {d : Day} (h : DayOk d) : (sigL d.R).Pairwise (· < ·) := by
 refine List.Pairwise.imp₂ (fun a b h1 h2 => ?_) (zhF d.R) h.nod
 have h1 := of_decide_eq_true h1
 have h2 : a ≠ b := h2
 omega
theorem zny {d : Day} (h : dayE d = 0) {m : Nat} (hne : memb (sigL d.R) m ≠ []) : askE d (memb (sigL d.R) m) = 0 := by
 have ok := za2 h
 have hsub := zmH (sigL d.R) m
 have hp := ok.lt.sublist hsub
 have hr : setB (memb (sigL d.R) m) = true := by
  unfold setB risB
  rw [jP]
  refine ⟨jC.2 fun j hj => jG ?_, jG (List.length_pos_iff.2 hne)⟩
  have hj := List.mem_range.1 hj
  have h1 : j < (memb (sigL d.R) m).length := by omega
  have h2 : j + 1 < (memb (sigL d.R) m).length := by omega
  rw [gdq, gdq, gqe h1, gqe h2]
  exact List.pairwise_iff_getElem.1 hp j (j + 1) h1 h2 (by omega)
 have hq : partB (memb (sigL d.R) m) (sigL d.R) = true := jC.2 fun x hx => kD.2 (hsub.subset hx)
 unfold askE
 rw [if_neg (fun hh => hh h), if_neg (by rw [hr]; decide), if_neg (by rw [hq]; decide)]
theorem zmJ (ids : List Int) (a b : Nat) {x : Int} (h : (memb ids (a &&& b)).contains x = true) : (memb ids a).contains x = true := by
 have h := kD.1 h
 unfold memb membA at h
 obtain ⟨i, hi, e⟩ := List.mem_map.1 h
 rw [List.mem_filter, Nat.testBit_and, jP] at hi
 exact kD.2 (List.mem_map.2 ⟨i, List.mem_filter.2 ⟨hi.1, hi.2.1⟩, e⟩)
theorem zr1 {a i : Nat} (ha : a < 128) (hi : i < 7) : ((((a : Int).tdiv (IntKind.wrap .i64 (1 * 2 ^ (min ((i : Nat) : Int).toNat 64)))).tmod 2) == 1) = a.testBit i := by
 have := allL (n := 128) (m := 7) (P := fun a i => decide (((((a : Int).tdiv (IntKind.wrap .i64 (1 * 2 ^ (min ((i : Nat) : Int).toNat 64)))).tmod 2) == 1) = a.testBit i)) (by decide +kernel) ha hi
 exact of_decide_eq_true this
theorem bQuo {a i : Nat} (ha : a < 128) (hi : i < 7) : IntKind.wrap .i64 (1 * 2 ^ (min ((i : Nat) : Int).toNat 64)) ≠ 0 /\ inR .i64 ((a : Int).tdiv (IntKind.wrap .i64 (1 * 2 ^ (min ((i : Nat) : Int).toNat 64)))) := by
 rw [bShl (by omega)]
 have h1 : 0 < 2 ^ i := Nat.two_pow_pos i
 have h2 : ((a : Int).tdiv ((2 ^ i : Nat) : Int)) = ((a / 2 ^ i : Nat) : Int) := by rw [Int.ofNat_tdiv]
 have h3 : a / 2 ^ i <= a := Nat.div_le_self _ _
 refine ⟨by omega, ?_⟩
 rw [h2]
 clear h2
 generalize a / 2 ^ i = q at h3 ⊢
 exact i6
theorem zfQ (ids : List Int) (set : Nat) (hn : ids.length <= 7) (hs : set < 128) : Spec PP 90 [.d (lI ids), N (set : Int)] [.d (lI (memb ids set))] := by
 refine sA Tryz.func90 ?_
 refine LoopOb.of (σ := Nat) (fun i => ([(0, .d (lI ids)), (1, .d (I set)), (5, .own 5), (6, .d (I i))], [(5, .row 3 1 (membA ids set i).length (rowI (membA ids set i)))])) (fun i => i <= ids.length) (fun i => ids.length - i) 0
  ⟨rfl, ⟨obR rfl ⟨rfl, .inl rfl⟩, trivial⟩, wq rfl⟩ (jF _) fun i hi => ?_
 have hi : i <= ids.length := hi
 have hl := zaF ids set i
 apply bY <;> intro h1
 ·have h1 : i < ids.length := by have := dT h1; omega
  refine ⟨by omega, ?_⟩
  refine ⟨bQuo hs (by omega), ?_⟩
  refine ⟨by decide, ?_⟩
  apply bY <;> intro h2
  ·have h2 : set.testBit i = true := by rw [<- zr1 hs (show i < 7 by omega)]; exact h2
   refine ⟨⟨rfl, by omega, by omega⟩, ?_⟩
   refine ⟨⟨.inr rfl, by unfold maxLen; omega, by show ((membA ids set i).length + 1) * 8 <= 140737488355328; omega⟩, ?_⟩
   refine ⟨i6, ?_⟩
   refine ⟨i + 1, ⟨rfl, ⟨obR rfl ?_, trivial⟩, wq rfl⟩, h1, msr h1⟩
   rw [zfY h2]
   exact zpi rfl
  have h2 : set.testBit i = false := by rw [<- zr1 hs (show i < 7 by omega)]; exact h2
  refine ⟨i6, ?_⟩
  refine ⟨i + 1, ⟨rfl, ⟨obR rfl ?_, trivial⟩, wq rfl⟩, h1, msr h1⟩
  rw [zh7 h2]
  exact dE _
 have h1 : i = ids.length := by have := dF h1; omega
 subst h1
 exact ⟨⟨_, _, _, _, rfl, rfl, .inr ⟨rfl, fun i _ j _ => dE _⟩⟩, trivial⟩
theorem zj1 (a b : List Int) (hb : b.length <= 1000000) (hn : a.length <= 1000000) : Spec PP 91 [.d (lI a), .d (lI b)] [B (decide (cmpL a b < 0))] := by
 refine sA Tryz.func91 ?_
 refine LoopOb.of (σ := Nat) (fun i => ([(0, .d (lI a)), (1, .d (lI b)), (5, .d (I i))], [])) (fun i => i <= a.length /\ i <= b.length /\ cmpL (a.drop i) (b.drop i) = cmpL a b) (fun i => a.length - i) 0
  ⟨rfl, trivial, wq rfl⟩ ⟨jF _, jF _, rfl⟩ fun i hi => ?_
 obtain ⟨hi, hj, he⟩ := hi
 have d0 : ∀ {l : List Int}, i < l.length -> l.drop i = l.getD i 0 :: l.drop (i + 1) := fun {l} h => by rw [List.drop_eq_getElem_cons h, gdq, gqe h]; rfl
 have fin : (i = a.length \/ i = b.length) -> decide ((a.length : Int) < (b.length : Int)) = decide (cmpL a b < 0) := fun h => by
  rw [<- he]
  apply decide_eq_decide.2
  by_cases ha : i < a.length
  ·have hb' : i = b.length := by omega
   rw [d0 ha, List.drop_eq_nil_iff.2 (by omega : b.length <= i)]
   show _ ↔ (1 : Int) < 0
   omega
  rw [List.drop_eq_nil_iff.2 (by omega : a.length <= i)]
  by_cases hb' : i < b.length
  ·rw [d0 hb']
   show _ ↔ (-1 : Int) < 0
   omega
  rw [List.drop_eq_nil_iff.2 (by omega : b.length <= i)]
  show _ ↔ (0 : Int) < 0
  omega
 apply bY <;> intro h1
 ·have h1 : i < a.length := by have := dT h1; omega
  repeat first | apply sT | apply sF
  apply bY <;> intro h2
  ·have h2 : i < b.length := by have := dT h2; omega
   refine oL (List.range 9) (FzOb.no ?_)
   refine ⟨⟨rfl, by omega, by omega⟩, ?_⟩
   refine ⟨⟨rfl, by omega, by omega⟩, ?_⟩
   rw [d0 h1, d0 h2, cmpL] at he
   apply bY <;> intro h3
   ·have h3 : a.getD i 0 ≠ b.getD i 0 := by simpa using h3
    refine oL (List.range 10) (FzOb.no ?_)
    refine ⟨⟨rfl, by omega, by omega⟩, ?_⟩
    refine ⟨⟨rfl, by omega, by omega⟩, ?_⟩
    refine r1B rfl ?_
    rcases ordC (a.getD i 0) (b.getD i 0) with ⟨e, h⟩ | ⟨e, h⟩ | ⟨e, h⟩
    ·rw [if_pos (by rw [e]; decide), e] at he
     rw [<- he]
     exact decide_eq_decide.2 ⟨fun _ => by decide, fun _ => h⟩
    ·rw [if_pos (by rw [e]; decide), e] at he
     rw [<- he]
     exact decide_eq_decide.2 ⟨fun h' => by have h' : a.getD i 0 < b.getD i 0 := h'; omega, fun h' => absurd h' (by decide)⟩
    exact absurd h h3
   have h3 : a.getD i 0 = b.getD i 0 := by simpa using h3
   have e : ord (a.getD i 0) (b.getD i 0) = 0 := by
    rcases ordC (a.getD i 0) (b.getD i 0) with ⟨_, h⟩ | ⟨_, h⟩ | ⟨e, _⟩
    ·omega
    ·omega
    exact e
   rw [if_neg (by rw [e]; simp)] at he
   refine ⟨i6, ?_⟩
   exact ⟨i + 1, ⟨rfl, trivial, wq rfl⟩, ⟨h1, h2, he⟩, msr h1⟩
  have h2 : ¬ i < b.length := by have := dF h2; omega
  exact r1B rfl (fin (.inr (by omega)))
 have h1 : ¬ i < a.length := by have := dF h1; omega
 repeat first | apply sT | apply sF
 exact r1B rfl (fin (.inl (by omega)))
theorem bPart {a b : Nat} (ha : a < 128) (hb : b < 128) : (IntKind.wrap .i64 ((BitVec.ofInt 64 (a : Int) &&& BitVec.ofInt 64 (b : Int)).toNat : Int) == (a : Int)) = decide (a &&& b = a) := by
 have := allL (n := 128) (m := 128) (P := fun a b => decide ((IntKind.wrap .i64 ((BitVec.ofInt 64 (a : Int) &&& BitVec.ofInt 64 (b : Int)).toNat : Int) == (a : Int)) = decide (a &&& b = a))) (by decide +kernel) ha hb
 exact of_decide_eq_true this
theorem zjZ (a b : Nat) (ha : a < 128) (hb : b < 128) : Spec PP 52 [N (a : Int), N (b : Int)] [B (decide (a &&& b = a))] := by
 refine sA Tryz.func52 ?_
 exact r1B rfl (bPart ha hb)
abbrev leL (x y : List Int) : Bool := !decide (cmpL y x < 0)
theorem zdx {a b : List Int} : leL a b = true ↔ cmpL a b = -1 \/ a = b := by
 show (!decide (cmpL b a < 0)) = true ↔ _
 rw [jY, decide_eq_false_iff_not]
 rcases cmpL_cases b a with ⟨h1, h2⟩ | ⟨h1, h2⟩ | ⟨h1, h2⟩
 ·constructor
  ·intro h; omega
  rintro (h | h)
  ·omega
  subst h; rw [zdO] at h1; omega
 ·exact ⟨fun _ => .inl h2, fun _ => by omega⟩
 exact ⟨fun _ => .inr h2.symm, fun _ => by omega⟩
theorem zdw {a b c : List Int} (h1 : leL a b = true) (h2 : leL b c = true) : leL a c = true := by
 rw [zdx] at *
 rcases h1 with h1 | rfl
 ·rcases h2 with h2 | rfl
  ·exact .inl (zbV _ _ _ h1 h2)
  exact .inl h1
 exact h2
theorem zkK (a b : List Int) : (leL a b || leL b a) = true := by
 rw [jX, zdx, zdx]
 rcases cmpL_cases a b with ⟨h1, _⟩ | ⟨_, h2⟩ | ⟨_, h2⟩
 ·exact .inl (.inl h1)
 ·exact .inr (.inl h2)
 exact .inl (.inr h2)
def SrtL (l : List (List Int)) : Prop := l.Pairwise fun x y => leL x y = true
theorem ziS {l m : List (List Int)} (h1 : SrtL l) (h2 : SrtL m) (hp : l.Perm m) : l = m :=
 List.Perm.eq_of_pairwise (le := fun x y => leL x y = true) (fun a b _ _ h3 h4 => by
  rw [zdx] at h3 h4
  rcases h3 with h3 | h3
  ·rcases h4 with h4 | h4
   ·rcases cmpL_cases a b with ⟨h, h'⟩ | ⟨h, h'⟩ | ⟨h, h'⟩
    ·omega
    ·omega
    exact h'
   exact h4.symm
  exact h3) h1 h2 hp
theorem zjM (l : List (List Int)) : SrtL (l.mergeSort leL) := List.pairwise_mergeSort (le := leL) (fun a b c => zdw) zkK l
def insL (l : List (List Int)) (x : List Int) (k : Nat) : List (List Int) := l.take k ++ x :: l.drop k
theorem zdz (l : List (List Int)) (x : List Int) (k : Nat) : (insL l x k).Perm (l ++ [x]) := by
 unfold insL
 have h1 : (l.take k ++ x :: l.drop k).Perm (x :: (l.take k ++ l.drop k)) := List.perm_middle
 rw [List.take_append_drop] at h1
 exact h1.trans (List.perm_append_comm (l₁ := [x]) (l₂ := l))
theorem zig {l : List (List Int)} {x : List Int} {k : Nat} (hk : k <= l.length) (hs : SrtL l) (h1 : ∀ j, k <= j -> j < l.length -> leL x (l.getD j []) = true) (h2 : 0 < k -> leL (l.getD (k - 1) []) x = true) : SrtL (insL l x k) := by
 have hd := hs
 unfold SrtL at hd
 rw [<- List.take_append_drop k l, List.pairwise_append] at hd
 obtain ⟨d1, d2, d3⟩ := hd
 have g : ∀ i j, i < j -> j < l.length -> leL (l.getD i []) (l.getD j []) = true := fun i j hij hj => by
  have := List.pairwise_iff_getElem.1 hs i j (by omega) hj hij
  rw [gdq, gdq, gqe hj, gqe (by omega)]
  exact this
 have lo : ∀ y ∈ l.take k, leL y x = true := fun y hy => by
  obtain ⟨j, hj, rfl⟩ := List.getElem_of_mem hy
  rw [jQ] at hj
  rw [List.getElem_take]
  have e : l[j]'(by omega) = l.getD j [] := by rw [gdq, gqe (by omega)]; rfl
  rw [e]
  have h3 := h2 (by omega)
  by_cases q : j = k - 1
  ·rw [q]; exact h3
  exact zdw (g j (k - 1) (by omega) (by omega)) h3
 have hi : ∀ y ∈ l.drop k, leL x y = true := fun y hy => by
  obtain ⟨j, hj, rfl⟩ := List.getElem_of_mem hy
  rw [List.length_drop] at hj
  rw [List.getElem_drop]
  have e : l[k + j]'(by omega) = l.getD (k + j) [] := by rw [gdq, gqe (by omega)]; rfl
  rw [e]
  exact h1 (k + j) (by omega) (by omega)
 unfold SrtL insL
 rw [List.pairwise_append]
 refine ⟨d1, List.pairwise_cons.2 ⟨hi, d2⟩, fun a ha c hc => ?_⟩
 rcases List.mem_cons.1 hc with rfl | hc
 ·exact lo a ha
 exact zdw (lo a ha) (hi c hc)
theorem zm3 (l : List (List Int)) (x : List Int) {k : Nat} (hk : k <= l.length) (m : Nat) : (insL l x k).getD m [] = if m < k then l.getD m [] else if m = k then x else l.getD (m - 1) [] := by
 unfold insL
 rw [gdq]
 by_cases h1 : m < k
 ·rw [if_pos h1, jJ (by rw [jQ]; omega), jS, if_pos h1, <- gdq]
 rw [if_neg h1, jK (by rw [jQ]; omega), jQ]
 rw [show min k l.length = k by omega]
 by_cases h2 : m = k
 ·rw [if_pos h2, h2, kE]; rfl
 rw [if_neg h2]
 obtain ⟨d, hd⟩ : ∃ d, m - k = d + 1 := ⟨m - k - 1, by omega⟩
 rw [hd, List.getElem?_cons_succ, List.getElem?_drop, show k + d = m - 1 by omega, <- gdq]
theorem zih {l : List (List Int)} {x : List Int} {k : Nat} (hk : k <= l.length) {n n' : Nat} {F f : Nat -> Nat -> D} (hn : n = k) (hn' : n' = k) (hF : ∀ a, a < k -> F a 0 = lI (l.getD a [])) (h : f 0 0 = lI x) :
  D.eqv (.slc 1 (n + 1 + (l.length - n')) (appRow (n + 1) (appRow n F f) fun a _ => lI (l.getD (n' + a) []))) (lII (insL l x k)) := by
 subst hn
 subst hn'
 refine ⟨by rw [(zdz l x n').length_eq, jR, List.length_singleton]; omega, .inr ⟨rfl, fun m hm j hj => ?_⟩⟩
 obtain rfl : j = 0 := by omega
 show D.eqv (appRow (n' + 1) (appRow n' F f) (fun a _ => lI (l.getD (n' + a) [])) m 0) (lI ((insL l x n').getD m []))
 rw [zm3 l x hk]
 unfold appRow
 by_cases h1 : m < n'
 ·rw [if_pos (by omega), if_pos h1, if_pos h1, hF m h1]; exact dE _
 by_cases h2 : m = n'
 ·rw [if_pos (by omega), if_neg h1, if_neg h1, if_pos h2, h2, kE, h]; exact dE _
 rw [if_neg (by omega), if_neg h1, if_neg h2]
 show D.eqv (lI (l.getD (n' + (m - (n' + 1))) [])) _
 rw [show n' + (m - (n' + 1)) = m - 1 by omega]; exact dE _
abbrev lN (l : List Nat) : D := .slc 1 l.length fun i _ => I ((l.getD i 0 : Nat) : Int)
def ordX (ids : List Int) (ss : List Nat) : List (List Int) := (ss.map (memb ids)).mergeSort leL
theorem zej (ids : List Int) (ss : List Nat) (hn : ids.length <= 7) (hm : ∀ m ∈ ss, m < 128) (hl : ss.length <= 1000000) : Spec PP 53 [.d (lI ids), .d (lN ss)] [.d (lII (ordX ids ss))] := by
 have hlt : ∀ i, ss.getD i 0 < 128 := fun i => by
  by_cases h : i < ss.length
  ·rw [gdq, gqe h]; exact hm _ (List.getElem_mem h)
  rw [gdq, List.getElem?_eq_none (by omega)]; decide
 refine sA Tryz.func53 ?_
 refine LoopOb.of (σ := List (List Int) × Nat) (fun x => ([(0, .d (lI ids)), (1, .d (lN ss)), (5, .d (lII x.1)), (6, .d (I x.2))], [])) (fun x => x.2 <= ss.length /\ SrtL x.1 /\ x.1.Perm ((ss.take x.2).map (memb ids))) (fun x => ss.length - x.2) ([], 0)
  ⟨rfl, trivial, avQ rfl, avQ rfl, avOw rfl rfl rfl ⟨rfl, .inl rfl⟩, avQ rfl, trivial⟩ ⟨jF _, List.Pairwise.nil, List.Perm.refl _⟩ fun ⟨U, i⟩ ⟨hi, hs, hp⟩ => ?_
 have hi : i <= ss.length := hi
 have hs : SrtL U := hs
 have hp : U.Perm ((ss.take i).map (memb ids)) := hp
 have hU : U.length <= i := by
  rw [hp.length_eq, List.length_map, jQ]; omega
 have hUl : ∀ j, (U.getD j []).length <= 7 := fun j => by
  by_cases h : j < U.length
  ·rw [gdq, gqe h]
   obtain ⟨m, _, e⟩ := List.mem_map.1 (hp.subset (List.getElem_mem h))
   show U[j].length <= 7
   rw [<- e]
   exact jM (zaF _ _ _) hn
  rw [gdq, List.getElem?_eq_none (by omega)]; simp
 apply bY <;> intro h1
 ·have h1 : i < ss.length := by have : (i : Int) < ss.length := dT h1; omega
  refine ⟨⟨rfl, by omega, by show (i : Int) < ss.length; omega⟩, ?_⟩
  refine CallSt.ro (zfQ ids (ss.getD i 0) hn (hlt i)) rfl rfl ?_
  have hx : (memb ids (ss.getD i 0)).length <= 7 := jM (zaF _ _ _) hn
  generalize hxe : memb ids (ss.getD i 0) = x at hx
  refine LoopOb.of (σ := Nat) (fun k => ([(0, .d (lI ids)), (1, .d (lN ss)), (5, .d (lII U)), (6, .d (I i)), (7, .d (lI x)), (8, .d (I k))], [])) (fun k => k <= U.length /\ ∀ j, k <= j -> j < U.length -> cmpL x (U.getD j []) < 0) (fun k => k) U.length
   ⟨rfl, trivial, wq rfl⟩ ⟨jE _, fun j h3 h4 => absurd h4 (by omega)⟩ fun k hk => ?_
  obtain ⟨hk, ha⟩ := hk
  have hb : ∀ j, k <= j -> j < U.length -> leL x (U.getD j []) = true := fun j h3 h4 => by
   have := ha j h3 h4
   rw [zdx]
   rcases cmpL_cases x (U.getD j []) with ⟨h, _⟩ | ⟨h, _⟩ | ⟨h, _⟩
   ·exact .inl h
   ·omega
   omega
  apply bY <;> intro h3
  ·have h3 : 0 < k := by have := dT h3; omega
   refine ⟨i6, ?_⟩
   refine ⟨⟨rfl, by omega, by omega⟩, ?_⟩
   have ek : ((k : Int) - 1).toNat = k - 1 := by omega
   refine cP (zj1 x (U.getD ((k : Int) - 1).toNat []) (by have := hUl ((k : Int) - 1).toNat; omega) (by omega)) rfl rfl ?_
   repeat first | apply sT | apply sF
   apply bY <;> intro h4
   ·have h4 : cmpL x (U.getD (k - 1) []) < 0 := by have h4 := dT h4; rw [ek] at h4; exact h4
    refine ⟨i6, ?_⟩
    refine ⟨k - 1, ⟨rfl, trivial, avQ rfl, avQ rfl, avQ rfl, avQ rfl, avQ rfl, avI rfl (by omega), trivial⟩, ⟨by omega, fun j h5 h6 => ?_⟩, by omega⟩
    by_cases e : j = k - 1
    ·rw [e]; exact h4
    exact ha j (by omega) h6
   have h4 : leL (U.getD (k - 1) []) x = true := by have h4 := dF h4; rw [ek] at h4; show (!decide (cmpL x (U.getD (k - 1) []) < 0)) = true; rw [jH h4]; rfl
   refine ⟨⟨.inr rfl, by omega, by omega⟩, ?_⟩
   refine ⟨⟨.inr rfl, by simp only [maxLen]; omega, by dsimp only; omega⟩, ?_⟩
   refine ⟨⟨.inr rfl, by simp only [maxLen]; omega, by dsimp only; omega⟩, ?_⟩
   refine ⟨⟨.inr rfl, by omega, by omega⟩, ?_⟩
   refine ⟨⟨.inr rfl, by simp only [maxLen]; omega, by dsimp only; omega⟩, ?_⟩
   refine ⟨i6, ?_⟩
   refine ⟨(insL U x k, i + 1), ⟨rfl, trivial, avQ rfl, avQ rfl, avOw rfl rfl rfl ?_, avQ rfl, trivial⟩, ⟨h1, zig hk hs hb (fun _ => h4), ?_⟩, msr h1⟩
   ·exact zih hk (by omega) (by omega) (fun a _ => rfl) rfl
   rw [zaH h1 0, jT]
   refine (zdz _ _ _).trans ?_
   rw [<- hxe]
   exact hp.append_right _
  have h3 : k = 0 := by have := dF h3; omega
  repeat first | apply sT | apply sF
  refine ⟨⟨.inr rfl, by omega, by omega⟩, ?_⟩
  refine ⟨⟨.inr rfl, by simp only [maxLen]; omega, by dsimp only; omega⟩, ?_⟩
  refine ⟨⟨.inr rfl, by simp only [maxLen]; omega, by dsimp only; omega⟩, ?_⟩
  refine ⟨⟨.inr rfl, by omega, by omega⟩, ?_⟩
  refine ⟨⟨.inr rfl, by simp only [maxLen]; omega, by dsimp only; omega⟩, ?_⟩
  refine ⟨i6, ?_⟩
  refine ⟨(insL U x k, i + 1), ⟨rfl, trivial, avQ rfl, avQ rfl, avOw rfl rfl rfl ?_, avQ rfl, trivial⟩, ⟨h1, zig hk hs hb (fun h => by omega), ?_⟩, msr h1⟩
  ·exact zih hk (by omega) (by omega) (fun a _ => rfl) rfl
  rw [zaH h1 0, jT]
  refine (zdz _ _ _).trans ?_
  rw [<- hxe]
  exact hp.append_right _
 have h1 : i = ss.length := by have : ¬ (i : Int) < ss.length := dF h1; omega
 subst h1
 rw [jZ] at hp
 have e : ordX ids ss = U := ziS (zjM _) hs ((List.mergeSort_perm _ _).trans hp.symm)
 rw [e]
 exact ⟨dE _, trivial⟩
def fitX (d : Day) (m : Nat) : Bool := decide (0 < m) && decide (0 < (tldL d (memb (sigL d.R) m)).length)
abbrev lBo (n : Nat) (p : Nat -> Bool) : D := .slc 1 n fun i _ => .bool (p i)
theorem zo1 {d : Day} (h : DayOk d) : Spec PP 51 [d.v] [.d (lBo (2 ^ (sigL d.R).length) (fitX d))] := by
 have hn := h.n
 have h7 := sig7 h
 have es : IntKind.wrap .i64 (1 * 2 ^ (min (((sigL d.R).length : Nat) : Int).toNat (IntKind.bits .i64))) = ((2 ^ (sigL d.R).length : Nat) : Int) := bShl h7
 have hp : 2 ^ (sigL d.R).length <= 2 ^ 7 := Nat.pow_le_pow_right (by decide) h7
 have h1p : 1 <= 2 ^ (sigL d.R).length := Nat.one_le_two_pow
 refine sA Tryz.func51 ?_
 refine CallSt.ro (zhL d (by omega)) rfl rfl ?_
 refine ⟨by omega, ?_⟩
 have et : (IntKind.wrap .i64 (1 * 2 ^ (min (((sigL d.R).length : Nat) : Int).toNat (IntKind.bits .i64)))).toNat = 2 ^ (sigL d.R).length := by rw [es]; exact Int.toNat_natCast _
 refine ⟨⟨by rw [es]; omega, rfl, by rw [et]; show 2 ^ (sigL d.R).length * 1 <= 16777216; omega, by rw [et]; show 2 ^ (sigL d.R).length * 1 <= 140737488355328; omega⟩, ?_⟩
 refine LoopOb.of (σ := Nat) (fun m => ([(1, .box 1 0), (3, .d (lI (sigL d.R))), (4, .own 11), (5, .d (I m))], [(1, .box (d.ds.map AV.d)), (11, .row 4 1 (2 ^ (sigL d.R).length) (fun i _ => .bool (decide (i < m) && fitX d i)))])) (fun m => 1 <= m /\ m <= 2 ^ (sigL d.R).length) (fun m => 2 ^ (sigL d.R).length - m) 1
  ⟨rfl, ⟨obD d.ds rfl, obR rfl ⟨et, .inr ⟨rfl, fun i hi j hj => ?_⟩⟩, trivial⟩, wq rfl⟩ ⟨jE _, h1p⟩ fun m hm => ?_
 ·obtain rfl : j = 0 := Nat.lt_one_iff.1 hj
  show D.eqv (.bool false) (.bool (decide (i < 1) && fitX d i))
  have : (decide (i < 1) && fitX d i) = false := by
   unfold fitX
   by_cases e : i = 0
   ·subst e; rfl
   rw [jH (by omega), Bool.false_and]
  rw [this]
  rfl
 obtain ⟨hm, hm2⟩ := hm
 apply bY <;> intro h1
 ·have h1 : m < 2 ^ (sigL d.R).length := by have := dT h1; omega
  refine oL (List.range 12) (FzOb.no ?_)
  refine CallOb.ro (zfQ (sigL d.R) m h7 (by omega)) rfl rfl ?_
  refine CallOb.ro (zgI h (memb (sigL d.R) m) (jM (zaF _ _ _) (by omega))) rfl rfl ?_
  refine ⟨⟨by omega, by omega⟩, ⟨by omega, ?_⟩⟩
  refine ⟨i6, ?_⟩
  refine ⟨m + 1, ⟨rfl, ⟨obD d.ds rfl, obR rfl ⟨rfl, .inr ⟨rfl, fun i hi j hj => ?_⟩⟩, trivial⟩, wq rfl⟩, ⟨by omega, h1⟩, (show 2 ^ (sigL d.R).length - (m + 1) < 2 ^ (sigL d.R).length - m by omega)⟩
  obtain rfl : j = 0 := Nat.lt_one_iff.1 hj
  have em : ((m : Nat) : Int).toNat = m := Int.toNat_natCast m
  show D.eqv (storeRow (fun i _ => .bool (decide (i < m) && fitX d i)) ((m : Nat) : Int).toNat 0 [.bool (decide ((0 : Int) < ((tldL d (memb (sigL d.R) m)).length : Nat)))] i 0) (.bool (decide (i < m + 1) && fitX d i))
  unfold storeRow
  rw [em]
  by_cases e : i = m
  ·subst e
   rw [if_pos ⟨rfl, jE _, by simp⟩]
   show D.eqv (.bool (decide ((0 : Int) < ((tldL d (memb (sigL d.R) i)).length : Nat)))) _
   rw [jG (by omega : i < i + 1), Bool.true_and]
   unfold fitX
   rw [jG (by omega : 0 < i), Bool.true_and]
   exact decide_eq_decide.2 (by omega)
  rw [if_neg fun hh => e hh.1]
  show D.eqv (.bool (decide (i < m) && fitX d i)) _
  rw [show decide (i < m + 1) = decide (i < m) from decide_eq_decide.2 (by omega)]
  exact dE _
 have h1 : m = 2 ^ (sigL d.R).length := by have := dF h1; omega
 subst h1
 refine ⟨⟨_, _, _, _, rfl, rfl, .inr ⟨rfl, fun i hi j hj => ?_⟩⟩, trivial⟩
 show D.eqv (.bool (decide (i < 2 ^ (sigL d.R).length) && fitX d i)) (.bool (fitX d i))
 rw [jG hi, Bool.true_and]
 exact dE _
def badX (p : Nat -> Bool) (m o : Nat) : Bool := (p m && p o && decide (m &&& o = m)) || (!p m && !p o && decide (o &&& m = o))
def lonK (p : Nat -> Bool) (m o : Nat) : Bool := (List.range o).all fun x => decide (x = 0) || decide (x = m) || !badX p m x
theorem zcE {p : Nat -> Bool} {m o : Nat} (h : o = m \/ badX p m o = false) : lonK p m (o + 1) = lonK p m o := by
 unfold lonK
 rw [List.range_succ, List.all_append]
 have : ([o].all fun x => decide (x = 0) || decide (x = m) || !badX p m x) = true := by
  rcases h with h | h
  ·simp [h]
  simp [h]
 rw [this, Bool.and_true]
theorem zkD {p : Nat -> Bool} {m o : Nat} (h0 : 1 <= o) (h1 : o ≠ m) (h : badX p m o = true) : lonK p m (o + 1) = false := by
 unfold lonK
 rw [List.range_succ, List.all_append]
 have : ([o].all fun x => decide (x = 0) || decide (x = m) || !badX p m x) = false := by
  simp [h, h1]; omega
 rw [this, Bool.and_false]
abbrev rowN (l : List Nat) : Nat -> Nat -> D := fun i _ => I ((l.getD i 0 : Nat) : Int)
theorem zqZ {l : List Nat} {x n : Nat} {g : Nat -> Nat -> D} (hn : n = l.length) (hg : D.eqv (g 0 0) (I x)) : D.eqv (.slc 1 (n + 1) (appRow n (rowN l) g)) (.slc 1 (l ++ [x]).length (rowN (l ++ [x]))) := by
 subst hn
 refine ⟨by simp, .inr ⟨rfl, fun i hi j hj => ?_⟩⟩
 obtain rfl : j = 0 := by omega
 show D.eqv (appRow l.length (rowN l) g i 0) (I (((l ++ [x]).getD i 0 : Nat) : Int))
 unfold appRow
 by_cases h : i < l.length
 ·rw [if_pos h, gdq, jJ h, <- gdq]
  exact dE _
 have e : i = l.length := by omega
 subst e
 rw [if_neg h, kE, gdq, jK (jE _), kE]
 exact hg
def greX (p : Nat -> Bool) (n m : Nat) : Bool := lonK p m n && p m
def leaX (p : Nat -> Bool) (n m : Nat) : Bool := lonK p m n && !p m
abbrev fitM (d : Day) (l : List Int) : Fit := ⟨l, (tldL d l).getD 0 default⟩
abbrev misM (d : Day) (l : List Int) : Mis := ⟨l, tldR d l⟩
def tabF (d : Day) : List (List Int) := ordX (sigL d.R) (tabA (greX (fitX d) (2 ^ (sigL d.R).length)) id (2 ^ (sigL d.R).length))
def tabM (d : Day) : List (List Int) := ordX (sigL d.R) (tabA (leaX (fitX d) (2 ^ (sigL d.R).length)) id (2 ^ (sigL d.R).length))
def tabX (d : Day) : List Fit × List Mis × Int := if dayE d ≠ 0 then ([], [], dayE d) else ((tabF d).map (fitM d), (tabM d).map (misM d), 0)
theorem zh0 {ids : List Int} {ss : List Nat} {l : List Int} (h : l ∈ ordX ids ss) : ∃ m ∈ ss, l = memb ids m := by
 obtain ⟨m, hm, e⟩ := List.mem_map.1 ((List.mergeSort_perm _ _).mem_iff.1 h)
 exact ⟨m, hm, e.symm⟩
theorem zh1 (ids : List Int) (ss : List Nat) : (ordX ids ss).length = ss.length := by
 unfold ordX
 rw [List.length_mergeSort, List.length_map]
abbrev gX (d : Day) (N m : Nat) : List Nat := tabA (greX (fitX d) N) id m
abbrev lX (d : Day) (N m : Nat) : List Nat := tabA (leaX (fitX d) N) id m
abbrev oX (d : Day) (N m : Nat) : List (Nat × Ob) := [(1, .box (d.ds.map AV.d)), (2, .box (List.replicate 3 .any)), (6, .row 3 1 (gX d N m).length (rowN (gX d N m))), (7, .row 3 1 (lX d N m).length (rowN (lX d N m)))]
theorem zmm (d : Day) (hn : d.R.length <= 1000000) : Spec PP 11 [d.v] [.agg [lFt (tabX d).1, lMs (tabX d).2.1, I (tabX d).2.2]] := by
 refine zc4 [32] Tryz.func11 rfl (by kernel_rfl) rfl ?_
 refine cP (zmn d hn) rfl rfl ?_
 apply bY <;> intro h0
 ·have e : tabX d = ([], [], dayE d) := by unfold tabX; rw [if_pos (by simpa using h0)]
  rw [e]
  exact ⟨rtC (a := 2) rfl rfl rfl rfl rfl rfl ⟨rfl, rfl, ⟨rfl, rfl⟩, trivial⟩, trivial⟩
 have h0 : dayE d = 0 := by simpa using h0
 have h := za2 h0
 have hn := h.n
 have h7 := sig7 h
 have hp : 2 ^ (sigL d.R).length <= 2 ^ 7 := Nat.pow_le_pow_right (by decide) h7
 have e : tabX d = ((tabF d).map (fitM d), (tabM d).map (misM d), 0) := by unfold tabX; rw [if_neg (fun hh => hh h0)]
 rw [e]
 refine CallSt.ro (zhL d (by omega)) rfl rfl ?_
 have hft := zo1 h
 have h1N : 1 <= 2 ^ (sigL d.R).length := Nat.one_le_two_pow
 have eF : ordX (sigL d.R) (gX d (2 ^ (sigL d.R).length) (2 ^ (sigL d.R).length)) = tabF d := rfl
 have eM : ordX (sigL d.R) (lX d (2 ^ (sigL d.R).length) (2 ^ (sigL d.R).length)) = tabM d := rfl
 generalize 2 ^ (sigL d.R).length = N at hft hp h1N eF eM
 refine CallSt.ro hft rfl rfl ?_
 refine LoopOb.of (σ := Nat) (fun m => ([(1, .box 1 0), (2, .box 2 0), (4, .d (lI (sigL d.R))), (5, .d (lBo N (fitX d))), (6, .own 6), (7, .own 7), (8, .d (I m))], oX d N m))
  (fun m => 1 <= m /\ m <= N) (fun m => N - m) 1
  ⟨rfl, ⟨obD d.ds rfl, zaK rfl rfl, obR rfl ⟨rfl, .inl rfl⟩, obR rfl ⟨rfl, .inl rfl⟩, trivial⟩, wq rfl⟩ ⟨jE _, h1N⟩ fun m hm => ?_
 obtain ⟨hm, hm2⟩ := hm
 have l1 : (gX d N m).length <= m := zbt (greX (fitX d) N) id m
 have l2 : (lX d N m).length <= m := zbt (leaX (fitX d) N) id m
 apply bY <;> intro h1
 ·have h1 : m < N := by have := dT h1; omega
  refine LoopOb.of (σ := Nat) (fun o => ([(1, .box 1 0), (2, .box 2 0), (4, .d (lI (sigL d.R))), (5, .d (lBo N (fitX d))), (6, .own 6), (7, .own 7), (8, .d (I m)), (9, .d (.bool (lonK (fitX d) m o))), (10, .d (I o))], oX d N m))
   (fun o => 1 <= o /\ o <= N) (fun o => N - o) 1
   ⟨rfl, ⟨obD d.ds rfl, zaK rfl rfl, obR rfl (dE _), obR rfl (dE _), trivial⟩, avQ rfl, avQ rfl, avQ rfl, avQ rfl, avQ rfl, avQ rfl, avQ rfl, avBl rfl rfl, avQ rfl, trivial⟩ ⟨jE _, h1N⟩ fun o ho => ?_
  obtain ⟨ho, ho2⟩ := ho
  apply bY <;> intro h2
  ·have h2 : o < N := by have := dT h2; omega
   have hms : N - (o + 1) < N - o := by omega
   apply bY <;> intro h3
   ·have h3 : o = m := by have := dT h3; omega
    refine ⟨i6, ?_⟩
    exact ⟨o + 1, ⟨rfl, ⟨obD d.ds rfl, zaK rfl rfl, obR rfl (dE _), obR rfl (dE _), trivial⟩, avQ rfl, avQ rfl, avQ rfl, avQ rfl, avQ rfl, avQ rfl, avQ rfl, avBl rfl (zcE (.inl h3)).symm, avQ rfl, trivial⟩, ⟨by omega, h2⟩, hms⟩
   have h3 : o ≠ m := by have := dF h3; omega
   refine ⟨⟨rfl, by omega, by omega⟩, ?_⟩
   apply bY <;> intro h4
   ·have h4 : fitX d m = true := h4
    refine ⟨⟨rfl, by omega, by omega⟩, ?_⟩
    refine sT ?_
    apply bY <;> intro h5
    ·have h5 : fitX d o = true := h5
     refine cP (zjZ m o (by omega) (by omega)) rfl rfl ?_
     refine sT ?_
     apply bY <;> intro h6
     ·have hb : badX (fitX d) m o = true := by unfold badX; rw [h4, h5, h6]; rfl
      repeat first | apply sT | apply sF
      refine ⟨i6, ?_⟩
      exact ⟨o + 1, ⟨rfl, ⟨obD d.ds rfl, zaK rfl rfl, obR rfl (dE _), obR rfl (dE _), trivial⟩, avQ rfl, avQ rfl, avQ rfl, avQ rfl, avQ rfl, avQ rfl, avQ rfl, avBl rfl (zkD ho h3 hb).symm, avQ rfl, trivial⟩, ⟨by omega, h2⟩, hms⟩
     have hb : badX (fitX d) m o = false := by unfold badX; rw [h4, h5, h6]; rfl
     refine ⟨⟨rfl, by omega, by omega⟩, ?_⟩
     refine Split.no (by show (!fitX d m) = false; rw [h4]; rfl) ?_
     repeat first | apply sT | apply sF
     refine ⟨i6, ?_⟩
     exact ⟨o + 1, ⟨rfl, ⟨obD d.ds rfl, zaK rfl rfl, obR rfl (dE _), obR rfl (dE _), trivial⟩, avQ rfl, avQ rfl, avQ rfl, avQ rfl, avQ rfl, avQ rfl, avQ rfl, avBl rfl (zcE (.inr hb)).symm, avQ rfl, trivial⟩, ⟨by omega, h2⟩, hms⟩
    have h5 : fitX d o = false := h5
    have hb : badX (fitX d) m o = false := by unfold badX; rw [h4, h5]; rfl
    repeat first | apply sT | apply sF
    refine ⟨⟨rfl, by omega, by omega⟩, ?_⟩
    refine Split.no (by show (!fitX d m) = false; rw [h4]; rfl) ?_
    repeat first | apply sT | apply sF
    refine ⟨i6, ?_⟩
    exact ⟨o + 1, ⟨rfl, ⟨obD d.ds rfl, zaK rfl rfl, obR rfl (dE _), obR rfl (dE _), trivial⟩, avQ rfl, avQ rfl, avQ rfl, avQ rfl, avQ rfl, avQ rfl, avQ rfl, avBl rfl (zcE (.inr hb)).symm, avQ rfl, trivial⟩, ⟨by omega, h2⟩, hms⟩
   have h4 : fitX d m = false := h4
   repeat first | apply sT | apply sF
   refine ⟨⟨rfl, by omega, by omega⟩, ?_⟩
   refine Split.yes (by show (!fitX d m) = true; rw [h4]; rfl) ?_
   refine ⟨⟨rfl, by omega, by omega⟩, ?_⟩
   repeat first | apply sT | apply sF
   apply bY <;> intro h5
   ·have h5 : fitX d o = false := by simpa using (show (!fitX d o) = true from h5)
    refine cP (zjZ o m (by omega) (by omega)) rfl rfl ?_
    repeat first | apply sT | apply sF
    apply bY <;> intro h6
    ·have hb : badX (fitX d) m o = true := by unfold badX; rw [h4, h5, h6]; rfl
     refine ⟨i6, ?_⟩
     exact ⟨o + 1, ⟨rfl, ⟨obD d.ds rfl, zaK rfl rfl, obR rfl (dE _), obR rfl (dE _), trivial⟩, avQ rfl, avQ rfl, avQ rfl, avQ rfl, avQ rfl, avQ rfl, avQ rfl, avBl rfl (zkD ho h3 hb).symm, avQ rfl, trivial⟩, ⟨by omega, h2⟩, hms⟩
    have hb : badX (fitX d) m o = false := by unfold badX; rw [h4, h5, h6]; rfl
    refine ⟨i6, ?_⟩
    exact ⟨o + 1, ⟨rfl, ⟨obD d.ds rfl, zaK rfl rfl, obR rfl (dE _), obR rfl (dE _), trivial⟩, avQ rfl, avQ rfl, avQ rfl, avQ rfl, avQ rfl, avQ rfl, avQ rfl, avBl rfl (zcE (.inr hb)).symm, avQ rfl, trivial⟩, ⟨by omega, h2⟩, hms⟩
   have h5 : fitX d o = true := by simpa using (show (!fitX d o) = false from h5)
   have hb : badX (fitX d) m o = false := by unfold badX; rw [h4, h5]; rfl
   repeat first | apply sT | apply sF
   refine ⟨i6, ?_⟩
   exact ⟨o + 1, ⟨rfl, ⟨obD d.ds rfl, zaK rfl rfl, obR rfl (dE _), obR rfl (dE _), trivial⟩, avQ rfl, avQ rfl, avQ rfl, avQ rfl, avQ rfl, avQ rfl, avQ rfl, avBl rfl (zcE (.inr hb)).symm, avQ rfl, trivial⟩, ⟨by omega, h2⟩, hms⟩
  have h2 : N = o := by have := dF h2; omega
  subst h2
  have hms : N - (m + 1) < N - m := by omega
  apply bY <;> intro h3
  ·have h3 : lonK (fitX d) m N = true := h3
   refine ⟨⟨rfl, by omega, by omega⟩, ?_⟩
   refine sT ?_
   apply bY <;> intro h4
   ·have h4 : fitX d m = true := h4
    have eg : greX (fitX d) N m = true := by unfold greX; rw [h3, h4]; rfl
    have el : leaX (fitX d) N m = false := by unfold leaX; rw [h3, h4]; rfl
    refine ⟨⟨.inr rfl, by unfold maxLen; omega, by show ((gX d N m).length + 1) * 8 <= 140737488355328; omega⟩, ?_⟩
    refine Split.yes h3 ?_
    refine ⟨⟨rfl, by omega, by omega⟩, ?_⟩
    refine sT ?_
    refine Split.no (by show (!fitX d m) = false; rw [h4]; rfl) ?_
    refine ⟨i6, ?_⟩
    refine ⟨m + 1, ⟨rfl, ⟨obD d.ds rfl, zaK rfl rfl, obR rfl ?_, obR rfl ?_, trivial⟩, wq rfl⟩, ⟨by omega, h1⟩, hms⟩
    ·rw [show gX d N (m + 1) = gX d N m ++ [m] from zb8 hm eg]; exact zqZ rfl ⟨rfl, rfl⟩
    rw [show lX d N (m + 1) = lX d N m from zba el]; exact dE _
   have h4 : fitX d m = false := h4
   have eg : greX (fitX d) N m = false := by unfold greX; rw [h3, h4]; rfl
   have el : leaX (fitX d) N m = true := by unfold leaX; rw [h3, h4]; rfl
   refine Split.yes h3 ?_
   refine ⟨⟨rfl, by omega, by omega⟩, ?_⟩
   refine sT ?_
   refine Split.yes (by show (!fitX d m) = true; rw [h4]; rfl) ?_
   refine ⟨⟨.inr rfl, by unfold maxLen; omega, by show ((lX d N m).length + 1) * 8 <= 140737488355328; omega⟩, ?_⟩
   refine ⟨i6, ?_⟩
   refine ⟨m + 1, ⟨rfl, ⟨obD d.ds rfl, zaK rfl rfl, obR rfl ?_, obR rfl ?_, trivial⟩, wq rfl⟩, ⟨by omega, h1⟩, hms⟩
   ·rw [show gX d N (m + 1) = gX d N m from zba eg]; exact dE _
   rw [show lX d N (m + 1) = lX d N m ++ [m] from zb8 hm el]; exact zqZ rfl ⟨rfl, rfl⟩
  have h3 : lonK (fitX d) m N = false := h3
  have eg : greX (fitX d) N m = false := by unfold greX; rw [h3]; rfl
  have el : leaX (fitX d) N m = false := by unfold leaX; rw [h3]; rfl
  repeat first | apply sT | apply sF
  refine Split.no h3 ?_
  repeat first | apply sT | apply sF
  refine ⟨i6, ?_⟩
  refine ⟨m + 1, ⟨rfl, ⟨obD d.ds rfl, zaK rfl rfl, obR rfl ?_, obR rfl ?_, trivial⟩, wq rfl⟩, ⟨by omega, h1⟩, hms⟩
  ·rw [show gX d N (m + 1) = gX d N m from zba eg]; exact dE _
  rw [show lX d N (m + 1) = lX d N m from zba el]; exact dE _
 have h1 : N = m := by have := dF h1; omega
 subst h1
 have hlt : ∀ (q : Nat -> Bool), ∀ x ∈ tabA q id N, x < 128 := fun q x hx => by
  obtain ⟨k, _, h3, _, e⟩ := za0 hx
  rw [e]; simp; omega
 have hml : ∀ (ss : List Nat), ∀ l ∈ ordX (sigL d.R) ss, l.length <= 1000000 := fun ss l hl => by
  obtain ⟨m, _, e⟩ := zh0 hl
  rw [e]
  exact jM (zaF _ _ _) (by omega)
 have hF := zej (sigL d.R) (gX d N N) h7 (hlt _) (by omega)
 rw [eF] at hF
 refine CallSt.fz [6] hF rfl rfl ?_
 have gF : ∀ i, i < (tabF d).length -> (tabF d).getD i [] ∈ tabF d := fun i hi => by rw [gdq, gqe hi]; exact List.getElem_mem hi
 have gM : ∀ i, i < (tabM d).length -> (tabM d).getD i [] ∈ tabM d := fun i hi => by rw [gdq, gqe hi]; exact List.getElem_mem hi
 have fF : ∀ i, i < (tabF d).length -> 0 < (tldL d ((tabF d).getD i [])).length := fun i hi => by
  obtain ⟨m, hm, e⟩ := zh0 (gF i hi)
  obtain ⟨k, _, _, h3, e'⟩ := za0 hm
  have e' : m = k := e'
  subst e'
  unfold greX fitX at h3
  simp only [jP, kA] at h3
  rw [e]
  exact h3.2.2
 have nF : (tabF d).length <= 128 := by rw [<- eF, zh1]; omega
 have nM : (tabM d).length <= 128 := by rw [<- eM, zh1]; omega
 have tk : ∀ {α β : Type} (f : α -> β) (l : List α) (i : Nat), ((l.take i).map f).length <= i := fun f l i => by rw [List.length_map, jQ]; omega
 refine LoopOb.of (σ := Nat) (fun i => ([(1, .box 1 0), (2, .box 2 0), (4, .d (lI (sigL d.R))), (7, .own 7), (11, .box 11 0), (12, .d (lII (tabF d))), (13, .d (I i))], [(1, .box (d.ds.map AV.d)), (2, .box (List.replicate 3 .any)),
   (7, .row 3 1 (lX d N N).length (rowN (lX d N N))), (11, .box [.own 123, .own 149]),
   (123, .row 54 3 (((tabF d).take i).map (fitM d)).length (FtD.row (((tabF d).take i).map (fitM d)))), (149, .row 57 2 0 (MsD.row []))])) (fun i => i <= (tabF d).length) (fun i => (tabF d).length - i) 0
  ⟨rfl, ⟨obD d.ds rfl, zaK rfl rfl, obR rfl (dE _), ⟨⟨rfl, _, _, _, rfl⟩, ⟨rfl, _, _, _, rfl⟩, trivial⟩, rfl, rfl, trivial⟩, wq rfl⟩ (jF _) fun i hi => ?_
 have hi : i <= (tabF d).length := hi
 have tl := tk (fitM d) (tabF d) i
 apply bY <;> intro h2
 ·have h2 : i < (tabF d).length := by have := dT h2; omega
  refine oL (List.range 20) (FzOb.no ?_)
  refine ⟨⟨rfl, by omega, by omega⟩, ?_⟩
  refine ⟨⟨rfl, by omega, by omega⟩, ?_⟩
  refine CallOb.ro (zgI h ((tabF d).getD i []) (hml _ _ (gF i h2))) rfl rfl ?_
  have f1 := fF i h2
  refine ⟨⟨rfl, by omega, by omega⟩, ?_⟩
  refine ⟨⟨.inr rfl, by unfold maxLen; omega, by show ((((tabF d).take i).map (fitM d)).length + 1) * 40 <= 140737488355328; omega⟩, ?_⟩
  refine ⟨i6, ?_⟩
  refine ⟨i + 1, ⟨rfl, ⟨obD d.ds rfl, zaK rfl rfl, obR rfl (dE _), obX rfl, obR rfl ?_, obR rfl (dE _), trivial⟩, wq rfl⟩, h2, msr h2⟩
  rw [zaH h2 [], jT]
  refine zq0 (x := fitM d ((tabF d).getD i [])) fun j hj => ?_
  match j, hj with
  | 0, _ => exact dE _
  | 1, _ => exact dE _
  | 2, _ => exact dE _
 have h2 : i = (tabF d).length := by have := dF h2; omega
 subst h2
 rw [jZ]
 have hM := zej (sigL d.R) (lX d N N) h7 (hlt _) (by omega)
 rw [eM] at hM
 refine CallSt.fz [7] hM rfl rfl ?_
 refine LoopOb.of (σ := Nat) (fun i => ([(1, .box 1 0), (2, .box 2 0), (11, .box 11 0), (12, .d (lII (tabM d))), (14, .d (I i))], [(1, .box (d.ds.map AV.d)), (2, .box (List.replicate 3 .any)), (11, .box [.own 123, .own 149]),
   (123, .row 54 3 ((tabF d).map (fitM d)).length (FtD.row ((tabF d).map (fitM d)))), (149, .row 57 2 (((tabM d).take i).map (misM d)).length (MsD.row (((tabM d).take i).map (misM d))))])) (fun i => i <= (tabM d).length) (fun i => (tabM d).length - i) 0
  ⟨rfl, ⟨obD d.ds rfl, zaK rfl rfl, obX rfl, obR rfl (dE _), obR rfl (dE _), trivial⟩, wq rfl⟩ (jF _) fun i hi => ?_
 have hi : i <= (tabM d).length := hi
 have tl := tk (misM d) (tabM d) i
 apply bY <;> intro h2
 ·have h2 : i < (tabM d).length := by have := dT h2; omega
  refine oL (List.range 18) (FzOb.no ?_)
  refine ⟨⟨rfl, by omega, by omega⟩, ?_⟩
  refine ⟨⟨rfl, by omega, by omega⟩, ?_⟩
  refine CallOb.ro (zgI h ((tabM d).getD i []) (hml _ _ (gM i h2))) rfl rfl ?_
  refine ⟨⟨.inr rfl, by unfold maxLen; omega, by show ((((tabM d).take i).map (misM d)).length + 1) * 48 <= 140737488355328; omega⟩, ?_⟩
  refine ⟨i6, ?_⟩
  refine ⟨i + 1, ⟨rfl, ⟨obD d.ds rfl, zaK rfl rfl, obX rfl, obR rfl (dE _), obR rfl ?_, trivial⟩, wq rfl⟩, h2, msr h2⟩
  rw [zaH h2 [], jT]
  refine zph (x := misM d ((tabM d).getD i [])) fun j hj => ?_
  match j, hj with
  | 0, _ => exact dE _
  | 1, _ => exact dE _
 have h2 : i = (tabM d).length := by have := dF h2; omega
 subst h2
 rw [jZ]
 refine CutOb.at [(2, .box 2 0), (11, .box 11 0)] [(2, .box (List.replicate 3 .any)), (11, .box ([lFt ((tabF d).map (fitM d)), lMs ((tabM d).map (misM d))].map AV.d))]
  ⟨rfl, ⟨zaK rfl rfl, ⟨⟨rfl, _, _, _, _, rfl, dE _⟩, ⟨rfl, _, _, _, _, rfl, dE _⟩, trivial⟩, trivial⟩, wq rfl⟩ ?_
 exact ⟨rtC (a := 2) rfl rfl rfl rfl rfl rfl (zaa _), trivial⟩
theorem zbE {k m : Nat} : k &&& m = k ↔ ∀ i, k.testBit i = true -> m.testBit i = true := by
 constructor
 ·intro h i hi
  rw [<- h, Nat.testBit_and, jP] at hi
  exact hi.2
 intro h
 apply Nat.eq_of_testBit_eq
 intro i
 rw [Nat.testBit_and]
 cases e : k.testBit i with
 | false => rfl
 | true => rw [h i e]; rfl
theorem ziI {n m i : Nat} (hm : m < 2 ^ n) (h : m.testBit i = true) : i < n := by
 rcases Nat.lt_or_ge i n with h1 | h1
 ·exact h1
 rw [Nat.testBit_lt_two_pow (jN hm (Nat.pow_le_pow_right (by decide) h1))] at h; cases h
theorem zfx {n m i j : Nat} (hn : n <= 7) (hm : m < 2 ^ n) (hi : i < n) : (offS m i).testBit j = (m.testBit j && decide (j ≠ i)) := by
 unfold offS
 rw [Nat.testBit_and]
 cases e : m.testBit j with
 | false => rfl
 | true =>
 have hj := ziI hm e
 have := allL (n := 7) (m := 7) (P := fun i j => (127 - 2 ^ i).testBit j == decide (j ≠ i)) (by decide +kernel) (show i < 7 by omega) (show j < 7 by omega)
 rw [eq_of_beq this]
theorem zly (m i j : Nat) : (onS m i).testBit j = (m.testBit j || decide (i = j)) := by
 unfold onS
 rw [Nat.testBit_or, Nat.testBit_two_pow]
theorem zks (m i : Nat) : offS m i <= m := Nat.and_le_left
theorem zrj {n m i : Nat} (hm : m < 2 ^ n) (hi : i < n) : onS m i < 2 ^ n := Nat.or_lt_two_pow hm (Nat.pow_lt_pow_right (by decide) hi)
theorem zn4 {k m : Nat} (hs : k &&& m = k) (hne : k ≠ m) : ∃ i, m.testBit i = true /\ k.testBit i = false := by
 refine jL fun hc => hne ?_
 apply Nat.eq_of_testBit_eq
 intro i
 cases e : m.testBit i with
 | true =>
  cases e' : k.testBit i with
  | true => rfl
  | false => exact absurd ⟨i, e, e'⟩ hc
 | false =>
 cases e' : k.testBit i with
 | false => rfl
 | true => rw [zbE.1 hs i e'] at e; cases e
theorem zpl {m : Nat} (h : 0 < m) : ∃ i, m.testBit i = true := by
 refine jL fun hc => ?_
 have : m = 0 := by
  apply Nat.eq_of_testBit_eq
  intro i
  rw [Nat.zero_testBit]
  cases e : m.testBit i with
  | false => rfl
  | true => exact absurd ⟨i, e⟩ hc
 omega
theorem zpu {ids : List Int} {m : Nat} (h0 : 0 < m) (hm : m < 2 ^ ids.length) : memb ids m ≠ [] := by
 obtain ⟨i, hi⟩ := zpl h0
 have hl := ziI hm hi
 intro e
 have : ids.getD i 0 ∈ memb ids m := List.mem_map.2 ⟨i, List.mem_filter.2 ⟨List.mem_range.2 hl, hi⟩, rfl⟩
 rw [e] at this
 cases this
theorem zdg {d : Day} (h : dayE d = 0) {m : Nat} (h0 : 0 < m) (hm : m < 2 ^ (sigL d.R).length) : (d.R.any fun r => (memb (sigL d.R) m).contains r.ID) = true := zqe (zny h (zpu h0 hm))
theorem zg9 {d : Day} (h : dayE d = 0) {m : Nat} (h0 : 0 < m) (hm : m < 2 ^ (sigL d.R).length) : fitX d m = decide (0 < (celD d m).length) := by
 unfold fitX
 rw [jG h0, Bool.true_and, zjE (za2 h) (zdg h h0 hm)]
theorem zfo {d : Day} (h : dayE d = 0) {k m : Nat} (h0 : 0 < k) (hs : k &&& m = k) (hm : m < 2 ^ (sigL d.R).length) (hp : fitX d m = true) : fitX d k = true := by
 have hk : k <= m := by rw [<- hs]; exact Nat.and_le_right
 rw [zg9 h (by omega) hm] at hp
 rw [zg9 h h0 (by omega)]
 obtain ⟨q, hq⟩ := List.exists_mem_of_length_pos (of_decide_eq_true hp)
 refine jG (List.length_pos_of_mem (a := q) ?_)
 refine zke (za2 h) (A := memb (sigL d.R) m) (B := memb (sigL d.R) k) (fun x hx => ?_) (zdg h h0 (by omega)) hq
 rw [<- hs, Nat.and_comm] at hx
 exact zmJ _ m k hx
theorem zir {d : Day} (h : dayE d = 0) : ∀ M, M <= 2 ^ (sigL d.R).length -> ∀ m, 0 < m -> m < M -> fitK d (keysD d M) m = fitX d m
 | 0, _, m, _, hm => by omega
 | M + 1, hM, m, h0, hm => by
  have ih := zir h M (by omega)
  have h7 := sig7 (za2 h)
  by_cases e : m = M
  ·subst e
   have hpart : fitX d m = true -> partK d (keysD d m) m = true := fun hp => by
    unfold partK
    rw [jC]
    intro i hi
    have hi := List.mem_range.1 hi
    unfold parK
    by_cases e1 : offS m i = m
    ·simp [e1]
    by_cases e2 : offS m i = 0
    ·simp [e2]
    have hlt : offS m i < m := by have := zks m i; omega
    have := ih (offS m i) (by omega) hlt
    rw [this, zfo h (by omega) (k := offS m i) (m := m) (by
     rw [zbE]; intro j hj
     rw [zfx h7 (show m < _ by omega) hi, jP] at hj; exact hj.1) (by omega) hp]
    simp
   have hnot : (keysD d m).contains m = false := by
    rw [Bool.eq_false_iff]; intro hc
    have := zde d m m (kD.1 hc); omega
   rw [zg9 h h0 (by omega)] at *
   unfold keysD
   split
   ·rename_i hk
    unfold fitK
    rw [show (keysD d m ++ [m]).contains m = true from kD.2 (by simp), Bool.true_and]
   rename_i hk
   unfold fitK
   rw [hnot, Bool.false_and]
   cases e3 : decide (0 < (celD d m).length) with
   | false => rfl
   | true => exact absurd ⟨by omega, hpart e3⟩ hk
  have hm' : m < M := by omega
  rw [<- ih m h0 hm']
  unfold fitK
  congr 1
  conv => lhs; unfold keysD
  split
  ·rw [Bool.eq_iff_iff, kD, kD, List.mem_append, List.mem_singleton]
   exact ⟨fun hh => hh.elim id fun e' => absurd e' e, .inl⟩
  rfl
theorem zcH {d : Day} (h : dayE d = 0) {m : Nat} (h0 : 0 < m) (hm : m < 2 ^ (sigL d.R).length) : fitK d (ksD d) m = fitX d m := zir h _ (jE _) m h0 hm
theorem zh9 {p : Nat -> Bool} {m n : Nat} : lonK p m n = true ↔ ∀ o, 0 < o -> o < n -> o ≠ m -> badX p m o = false := by
 unfold lonK
 rw [jC]
 constructor
 ·intro h o h0 h1 h2
  have := h o (List.mem_range.2 h1)
  rw [jH (by omega), jH h2, Bool.false_or, Bool.false_or] at this
  simpa using this
 intro h o h1
 have h1 := List.mem_range.1 h1
 by_cases h0 : o = 0
 ·simp [h0]
 by_cases h2 : o = m
 ·simp [h2]
 rw [h o (by omega) h1 h2]; simp
theorem zrD {d : Day} (h : dayE d = 0) {m : Nat} (h0 : 0 < m) (hm : m < 2 ^ (sigL d.R).length) : greB d (ksD d) m = greX (fitX d) (2 ^ (sigL d.R).length) m := by
 have h7 := sig7 (za2 h)
 unfold greB greX
 rw [zcH h h0 hm]
 cases hp : fitX d m with
 | false => rw [Bool.false_and, Bool.and_false]
 | true =>
 rw [Bool.true_and, Bool.and_true, Bool.eq_iff_iff, zh9, jY]
 unfold growK
 rw [List.any_eq_false]
 constructor
 ·intro hg o h1 h2 h3
  unfold badX
  rw [hp, Bool.not_true, Bool.false_and, Bool.false_and, Bool.or_false, Bool.true_and]
  rw [Bool.eq_false_iff]
  intro hb
  rw [jP, kA] at hb
  obtain ⟨i, hi1, hi2⟩ := zn4 hb.2 (fun e => h3 e.symm)
  have hil := ziI h2 hi1
  refine hg i (List.mem_range.2 hil) ?_
  have hon : onS m i ≠ m := fun e => by
   have := zly m i i
   rw [e, hi2] at this
   simp at this
  unfold groK
  rw [jP, bne_iff_ne]
  refine ⟨hon, ?_⟩
  have ho := zrj hm hil
  have hpos : 0 < onS m i := by
   have : m <= onS m i := Nat.left_le_or
   omega
  rw [zcH h hpos ho]
  refine zfo h hpos ?_ h2 hb.1
  rw [zbE]
  intro j hj
  rw [zly, jX, kA] at hj
  rcases hj with hj | rfl
  ·exact zbE.1 hb.2 j hj
  exact hi1
 intro hl i hi hg
 have hi := List.mem_range.1 hi
 unfold groK at hg
 rw [jP, bne_iff_ne] at hg
 have ho := zrj hm hi
 have hpos : 0 < onS m i := by
  have : m <= onS m i := Nat.left_le_or
  omega
 rw [zcH h hpos ho] at hg
 have := hl (onS m i) hpos ho hg.1
 unfold badX at this
 rw [hp, hg.2, jG (zbE.2 fun j hj => by rw [zly, hj]; rfl)] at this
 cases this
theorem zrv {d : Day} (h : dayE d = 0) {m : Nat} (h0 : 0 < m) (hm : m < 2 ^ (sigL d.R).length) : leaB d (ksD d) m = leaX (fitX d) (2 ^ (sigL d.R).length) m := by
 have h7 := sig7 (za2 h)
 unfold leaB leaX
 rw [zcH h h0 hm]
 cases hp : fitX d m with
 | true => rw [Bool.not_true, Bool.false_and, Bool.and_false]
 | false =>
 rw [Bool.not_false, Bool.true_and, Bool.and_true, Bool.eq_iff_iff, zh9]
 unfold partK
 rw [jC]
 constructor
 ·intro hg o h1 h2 h3
  unfold badX
  rw [hp, Bool.false_and, Bool.false_and, Bool.false_or, Bool.not_false, Bool.true_and]
  rw [Bool.eq_false_iff]
  intro hb
  rw [jP, kA] at hb
  obtain ⟨i, hi1, hi2⟩ := zn4 hb.2 h3
  have hil := ziI hm hi1
  have hg := hg i (List.mem_range.2 hil)
  have hsub : o &&& offS m i = o := zbE.2 fun j hj => by
   rw [zfx h7 hm hil, zbE.1 hb.2 j hj, Bool.true_and]
   refine jG fun e => ?_
   subst e
   rw [hi2] at hj; cases hj
  have hle := zks m i
  have hpos : 0 < offS m i := by
   have : o <= offS m i := by rw [<- hsub]; exact Nat.and_le_right
   omega
  have hne : offS m i ≠ m := fun e => by
   have := zfx (j := i) h7 hm hil
   rw [e, hi1] at this
   simp at this
  unfold parK at hg
  rw [zcH h hpos (by omega)] at hg
  have hfo : fitX d (offS m i) = true := by
   simp only [jX, beq_iff_eq] at hg
   rcases hg with (hg | hg) | hg
   ·exact absurd hg hne
   ·omega
   exact hg
  have := zfo h h1 hsub (by omega) hfo
  rw [this] at hb
  cases hb.1
 intro hl i hi
 have hi := List.mem_range.1 hi
 unfold parK
 by_cases e1 : offS m i = m
 ·simp [e1]
 by_cases e2 : offS m i = 0
 ·simp [e2]
 have hle := zks m i
 have := hl (offS m i) (by omega) (by omega) e1
 unfold badX at this
 have hsb : offS m i &&& m = offS m i := zbE.2 fun j hj => by rw [zfx h7 hm hi, jP] at hj; exact hj.1
 rw [hp, jG hsb] at this
 rw [zcH h (by omega) (by omega)]
 have hf : fitX d (offS m i) = true := by simpa using this
 simp [hf]
theorem zct {α : Type} {p q : Nat -> Bool} {f : Nat -> α} : ∀ {n : Nat}, (∀ m, 0 < m -> m < n -> p m = q m) -> tabA p f n = tabA q f n
 | 0, _ => rfl
 | n + 1, h => by
  unfold tabA
  rw [zct fun m h0 h1 => h m h0 (by omega)]
  by_cases e : n = 0
  ·subst e; rfl
  rw [h n (by omega) (by omega)]
theorem zcu {α : Type} {p : Nat -> Bool} {f g : Nat -> α} : ∀ {n : Nat}, (∀ m, 0 < m -> m < n -> f m = g m) -> tabA p f n = tabA p g n
 | 0, _ => rfl
 | n + 1, h => by
  unfold tabA
  rw [zcu fun m h0 h1 => h m h0 (by omega)]
  by_cases e : n = 0
  ·subst e; simp
  rw [h n (by omega) (by omega)]
theorem zoL {d : Day} (h : dayE d = 0) : srtF (tabA (greB d (ksD d)) (fitF d) (2 ^ (sigL d.R).length)) = (tabF d).map (fitM d) := by
 have e1 : tabA (greB d (ksD d)) (fitF d) (2 ^ (sigL d.R).length) = ((tabA (greX (fitX d) (2 ^ (sigL d.R).length)) id (2 ^ (sigL d.R).length)).map (memb (sigL d.R))).map (fitM d) := by
  rw [zct (q := greX (fitX d) (2 ^ (sigL d.R).length)) fun m h0 h1 => zrD h h0 h1, zcu (g := fun m => fitM d (memb (sigL d.R) m)) fun m h0 h1 => ?_, zbs _ (fun m => fitM d (memb (sigL d.R) m)), List.map_map]
  ·rfl
  show (⟨_, (celD d m).getD 0 default⟩ : Fit) = ⟨_, (tldL d (memb (sigL d.R) m)).getD 0 default⟩
  rw [zjE (za2 h) (zdg h h0 h1)]
 rw [e1]
 unfold srtF tabF ordX
 exact (List.map_mergeSort (f := fitM d) (r := leL) (s := fun x y => !decide (cmpL y.IDs x.IDs < 0)) fun a _ b _ => rfl).symm
theorem zoK {d : Day} (h : dayE d = 0) : srtM (tabA (leaB d (ksD d)) (misF d) (2 ^ (sigL d.R).length)) = (tabM d).map (misM d) := by
 have e1 : tabA (leaB d (ksD d)) (misF d) (2 ^ (sigL d.R).length) = ((tabA (leaX (fitX d) (2 ^ (sigL d.R).length)) id (2 ^ (sigL d.R).length)).map (memb (sigL d.R))).map (misM d) := by
  rw [zct (q := leaX (fitX d) (2 ^ (sigL d.R).length)) fun m h0 h1 => zrv h h0 h1, zcu (g := fun m => misM d (memb (sigL d.R) m)) fun m h0 h1 => ?_, zbs _ (fun m => misM d (memb (sigL d.R) m)), List.map_map]
  ·rfl
  show (⟨_, misR d (memb (sigL d.R) m)⟩ : Mis) = ⟨_, tldR d (memb (sigL d.R) m)⟩
  rw [zoC (za2 h) (zdg h h0 h1)]
 rw [e1]
 unfold srtM tabM ordX
 exact (List.map_mergeSort (f := misM d) (r := leL) (s := fun x y => !decide (cmpL y.IDs x.IDs < 0)) fun a _ b _ => rfl).symm
theorem zqy (d : Day) : tabX d = tabR d := by
 by_cases h : dayE d = 0
 ·unfold tabX tabR
  rw [if_neg (fun hh => hh h), if_neg (fun hh => hh h), zoL h, zoK h]
 unfold tabX tabR
 rw [if_pos h, if_pos h]
theorem zox (a b : List Int) (hn : a.length <= 1000000) : Spec PP 12 [.d (lI a), .d (lI b)] [B (decide (a = b))] := by
 refine sA Tryz.func12 ?_
 apply bY <;> intro h0
 ·have h0 : ¬ a.length = b.length := fun e => by
   have : ¬ (a.length : Int) = b.length := by simpa using h0
   exact this (by rw [e])
  refine r1B rfl ?_
  exact (jH fun e => h0 (by rw [e])).symm
 have h0 : a.length = b.length := by
  have : (a.length : Int) = b.length := by simpa using h0
  omega
 refine LoopOb.of (σ := Nat) (fun i => ([(0, .d (lI a)), (1, .d (lI b)), (5, .d (I i))], [])) (fun i => i <= a.length /\ ∀ j, j < i -> a.getD j 0 = b.getD j 0) (fun i => a.length - i) 0
  ⟨rfl, trivial, wq rfl⟩ z0L fun i hi => ?_
 obtain ⟨hi, ha⟩ := hi
 apply bY <;> intro h1
 ·have h1 : i < a.length := by have := dT h1; omega
  refine oL (List.range 9) (FzOb.no ?_)
  refine ⟨⟨rfl, by omega, by omega⟩, ?_⟩
  refine ⟨⟨rfl, by omega, by omega⟩, ?_⟩
  apply bY <;> intro h3
  ·have h3 : a.getD i 0 ≠ b.getD i 0 := by simpa using h3
   refine r1B rfl ?_
   exact (jH fun e => h3 (by rw [e])).symm
  have h3 : a.getD i 0 = b.getD i 0 := by simpa using h3
  refine ⟨i6, ?_⟩
  refine ⟨i + 1, ⟨rfl, trivial, wq rfl⟩, ⟨h1, fun j hj => ?_⟩, msr h1⟩
  by_cases e : j = i
  ·subst e; exact h3
  exact ha j (by omega)
 have h1 : i = a.length := by have := dF h1; omega
 subst h1
 refine r1B rfl ?_
 symm
 refine jG ?_
 apply List.ext_getElem h0
 intro j hj hj'
 have := ha j hj
 rw [gdq, gdq, gqe hj, gqe hj'] at this
 exact this
theorem zjH {d : Day} {x : Fit} (h : x ∈ (tabR d).1) : x.IDs.length <= 1000000 := by
 unfold tabR at h
 split at h
 ·cases h
 rename_i h0
 have h7 := sig7 (za2 (jL h0))
 have h := (List.mergeSort_perm _ _).mem_iff.1 h
 obtain ⟨m, _, _, _, rfl⟩ := za0 h
 exact jM (zaF _ _ _) (by omega)
theorem zjG {d : Day} {x : Mis} (h : x ∈ (tabR d).2.1) : x.IDs.length <= 1000000 /\ x.R.length <= 1000000 := by
 unfold tabR at h
 split at h
 ·cases h
 rename_i h0
 have h7 := sig7 (za2 (jL h0))
 have h := (List.mergeSort_perm _ _).mem_iff.1 h
 obtain ⟨m, _, _, _, rfl⟩ := za0 h
 refine ⟨jM (zaF _ _ _) (by omega), ?_⟩
 show (misR d _).length <= _
 unfold misR
 split
 ·exact zoU
 exact jF _
theorem zqz (d : Day) : (tabR d).1.length <= 1000000 /\ (tabR d).2.1.length <= 1000000 := by
 unfold tabR
 split
 ·exact ⟨jF _, jF _⟩
 rename_i h0
 have h7 := sig7 (za2 (jL h0))
 have hp : 2 ^ (sigL d.R).length <= 2 ^ 7 := Nat.pow_le_pow_right (by decide) h7
 show (srtF _).length <= _ /\ (srtM _).length <= _
 unfold srtF srtM
 rw [List.length_mergeSort, List.length_mergeSort]
 exact ⟨jM (zbt _ _ _) (by omega), jM (zbt _ _ _) (by omega)⟩
theorem zf5 (a : List Int) (h : a.length <= 1000000) : Spec PP 12 [.d (lI a), .d (lI a)] [B true] := by
 have := zox a a h
 rwa [jG rfl] at this
theorem zjV (a : List Rsn) (h : a.length <= 1000000) : Spec PP 13 [.d (lRs a), .d (lRs a)] [B true] := by
 have := zdZ a a h
 rwa [jG rfl] at this
theorem s_JoinTables (d : Day) : Spec PP 3 [d.v] [B true] := by
 refine sA Tryz.func3 ?_
 refine cP zoy rfl rfl ?_
 refine cP (zqn d) rfl rfl ?_
 apply bY <;> intro h0
 ·exact r1B rfl rfl
 have hf : few7 d := by simpa using h0
 have hn := zrQ hf
 have ht := zmm d (by omega)
 rw [zqy] at ht
 refine CallSt.ro (zkY d (by omega)) rfl rfl ?_
 refine CallSt.ro ht rfl rfl ?_
 have lF : ∀ i, i < (tabR d).1.length -> ((tabR d).1.getD i default).IDs.length <= 1000000 := fun i hi => by
  rw [gdq, gqe hi]; exact zjH (List.getElem_mem hi)
 have lM : ∀ i, i < (tabR d).2.1.length -> ((tabR d).2.1.getD i default).IDs.length <= 1000000 /\ ((tabR d).2.1.getD i default).R.length <= 1000000 := fun i hi => by
  rw [gdq, gqe hi]; exact zjG (List.getElem_mem hi)
 have nl := zqz d
 generalize (tabR d).2.2 = E
 generalize (tabR d).1 = F at lF nl
 generalize (tabR d).2.1 = M at lM nl
 obtain ⟨nF, nM⟩ := nl
 refine Split.no (by simp) ?_
 repeat first | apply sT | apply sF
 refine Split.no (by simp) ?_
 repeat first | apply sT | apply sF
 refine Split.no (by simp) ?_
 refine LoopOb.of (σ := Nat) (fun i => ([(1, .box 1 0), (3, .d (.bool true)), (4, .box 4 0), (6, .box 6 0), (7, .d (I i))], [(1, .box (d.ds.map AV.d)), (4, .box ([lFt F, lMs M].map AV.d)), (6, .box ([lFt F, lMs M, I E].map AV.d))])) (fun i => i <= F.length) (fun i => F.length - i) 0
  ⟨rfl, ⟨obD d.ds rfl, obD [lFt F, lMs M] rfl, obD [lFt F, lMs M, I E] rfl, trivial⟩, wq rfl⟩ (jF _) fun i hi => ?_
 have hi : i <= F.length := hi
 apply bY <;> intro h1
 ·have h1 : i < F.length := by have := dT h1; omega
  refine oL (List.range 15) (FzOb.no ?_)
  refine ⟨⟨rfl, by omega, by omega⟩, ?_⟩
  refine ⟨⟨rfl, by omega, by omega⟩, ?_⟩
  refine oP (zf5 (F.getD i default).IDs (lF i h1)) rfl rfl ?_
  refine oL (List.range 18) (FzOb.no ?_)
  refine ⟨⟨rfl, by omega, by omega⟩, ?_⟩
  refine ⟨⟨rfl, by omega, by omega⟩, ?_⟩
  refine sF ?_
  refine Split.no (by simp) ?_
  refine ⟨i6, ?_⟩
  exact ⟨i + 1, ⟨rfl, ⟨obD d.ds rfl, obD [lFt F, lMs M] rfl, obD [lFt F, lMs M, I E] rfl, trivial⟩, wq rfl⟩, h1, msr h1⟩
 have h1 : i = F.length := by have := dF h1; omega
 subst h1
 refine LoopOb.of (σ := Nat) (fun i => ([(1, .box 1 0), (3, .d (.bool true)), (4, .box 4 0), (6, .box 6 0), (9, .d (I i))], [(1, .box (d.ds.map AV.d)), (4, .box ([lFt F, lMs M].map AV.d)), (6, .box ([lFt F, lMs M, I E].map AV.d))])) (fun i => i <= M.length) (fun i => M.length - i) 0
  ⟨rfl, ⟨obD d.ds rfl, obD [lFt F, lMs M] rfl, obD [lFt F, lMs M, I E] rfl, trivial⟩, wq rfl⟩ (jF _) fun i hi => ?_
 have hi : i <= M.length := hi
 apply bY <;> intro h1
 ·have h1 : i < M.length := by have := dT h1; omega
  refine oL (List.range 15) (FzOb.no ?_)
  refine ⟨⟨rfl, by omega, by omega⟩, ?_⟩
  refine ⟨⟨rfl, by omega, by omega⟩, ?_⟩
  refine oP (zf5 (M.getD i default).IDs (lM i h1).1) rfl rfl ?_
  refine oL (List.range 15) (FzOb.no ?_)
  refine ⟨⟨rfl, by omega, by omega⟩, ?_⟩
  refine ⟨⟨rfl, by omega, by omega⟩, ?_⟩
  refine oP (zjV (M.getD i default).R (lM i h1).2) rfl rfl ?_
  repeat first | apply sT | apply sF
  refine ⟨i6, ?_⟩
  exact ⟨i + 1, ⟨rfl, ⟨obD d.ds rfl, obD [lFt F, lMs M] rfl, obD [lFt F, lMs M, I E] rfl, trivial⟩, wq rfl⟩, h1, msr h1⟩
 exact r1B rfl rfl
theorem zhJ {w : World} {ok : Nat -> Prop} : ∀ {xs ys : List D} {vs : List Value}, All2 (Rep w ok) xs vs -> eqvs xs ys -> All2 (Rep w ok) ys vs
 | [], [], _, h, _ => h
 | _ :: _, _ :: _, _, .cons h r, ⟨e, es⟩ => .cons (Rep.eqv h e) (zhJ r es)
abbrev shI (k : Nat) : Sh := .sl k fun j => shSl.getD' (List.replicate k (.int .i64)) j
theorem zqD {k j : Nat} (h : j < k) : shSl.getD' (List.replicate k (.int .i64)) j = .int .i64 := by
 induction k generalizing j with
 | zero => omega
 | succ k ih =>
 cases j with
 | zero => rfl
 | succ j => exact ih (j := j) (by omega)
theorem fitI {α : Type} [Inhabited α] {k : Nat} {at_ : α -> Nat -> D} {x : D} (mkα : (Nat -> Int) -> α) (hk : ∀ g : Nat -> Int, ∀ j, j < k -> at_ (mkα g) j = I (g j)) (h : Fits (shI k) x) : ∃ l : List α, D.eqv x (.slc k l.length fun i => at_ (l.getD i default)) := by
 obtain ⟨l, _, _, e⟩ := fitsL (at_ := at_) mkα (fun j hj => zqD hj) hk h
 exact ⟨l, e⟩
abbrev shDay : List Sh := [.int .i64, .int .i64, shI 1, shI 4, shI 3, shI 8, shI 7, .int .i64, .int .i64, shI 8]
theorem rep_Day {w : World} {ok : Nat -> Prop} {xs : List D} {v : Value} (hr : Rep1 w ok (.agg xs) v) (h : All2 Fits shDay xs) : ∃ d : Day, Rep1 w ok d.v v := by
 obtain ⟨vs, e, hv⟩ := hr
 cases h with | cons h0 h =>
 cases h with | cons h1 h =>
 cases h with | cons h2 h =>
 cases h with | cons h3 h =>
 cases h with | cons h4 h =>
 cases h with | cons h5 h =>
 cases h with | cons h6 h =>
 cases h with | cons h7 h =>
 cases h with | cons h8 h =>
 cases h with | cons h9 h =>
 cases h
 obtain ⟨n0, -, rfl⟩ := h0
 obtain ⟨n1, -, rfl⟩ := h1
 obtain ⟨n7, -, rfl⟩ := h7
 obtain ⟨n8, -, rfl⟩ := h8
 obtain ⟨l2, e2⟩ := fitI (α := Int) (at_ := fun a _ => I a) (fun g => g 0) (fun g j hj => by
  match j, hj with
  | 0, _ => rfl) h2
 obtain ⟨l3, e3⟩ := fitI (α := Twr) (at_ := Twr.at) (fun g => ⟨g 0, ⟨g 1, g 2⟩, g 3⟩) (fun g j hj => by
  match j, hj with
  | 0, _ => rfl
  | 1, _ => rfl
  | 2, _ => rfl
  | 3, _ => rfl) h3
 obtain ⟨l4, e4⟩ := fitI (α := Hz) (at_ := Hz.at) (fun g => ⟨g 0, g 1, g 2⟩) (fun g j hj => by
  match j, hj with
  | 0, _ => rfl
  | 1, _ => rfl
  | 2, _ => rfl) h4
 obtain ⟨l5, e5⟩ := fitI (α := Cir) (at_ := Cir.at) (fun g => ⟨g 0, ⟨g 1, g 2⟩, g 3, g 4, g 5, g 6, g 7⟩) (fun g j hj => by
  match j, hj with
  | 0, _ => rfl
  | 1, _ => rfl
  | 2, _ => rfl
  | 3, _ => rfl
  | 4, _ => rfl
  | 5, _ => rfl
  | 6, _ => rfl
  | 7, _ => rfl) h5
 obtain ⟨l6, e6⟩ := fitI (α := Chk) (at_ := Chk.at) (fun g => ⟨g 0, g 1, g 2, ⟨g 3, g 4⟩, g 5, g 6⟩) (fun g j hj => by
  match j, hj with
  | 0, _ => rfl
  | 1, _ => rfl
  | 2, _ => rfl
  | 3, _ => rfl
  | 4, _ => rfl
  | 5, _ => rfl
  | 6, _ => rfl) h6
 obtain ⟨l9, e9⟩ := fitI (α := Rpt) (at_ := Rpt.at) (fun g => ⟨g 0, g 1, g 2, g 3, g 4, g 5, g 6, g 7⟩) (fun g j hj => by
  match j, hj with
  | 0, _ => rfl
  | 1, _ => rfl
  | 2, _ => rfl
  | 3, _ => rfl
  | 4, _ => rfl
  | 5, _ => rfl
  | 6, _ => rfl
  | 7, _ => rfl) h9
 exact ⟨⟨⟨⟨⟨n0, n1, l2⟩, l3, l4⟩, ⟨l5, l6⟩⟩, n7, n8, l9⟩, vs, e, zhJ hv ⟨⟨rfl, rfl⟩, ⟨rfl, rfl⟩, e2, e3, e4, e5, e6, ⟨rfl, rfl⟩, ⟨rfl, rfl⟩, e9, trivial⟩⟩
theorem rep_lI {w : World} {ok : Nat -> Prop} {x : D} {v : Value} (hr : Rep1 w ok (.d x) v) (h : All2 Fits [shI 1] [x]) : ∃ l : List Int, Rep1 w ok (.d (lI l)) v := by
 cases h with
 | cons h _ =>
 obtain ⟨l, e⟩ := fitI (α := Int) (at_ := fun a _ => I a) (fun g => g 0) (fun g j hj => by
  match j, hj with
  | 0, _ => rfl) h
 exact ⟨l, Rep.eqv hr e⟩
end Go.Pg
