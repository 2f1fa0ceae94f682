/- Texts joined and shortened by program. -/
import Derived.Test.YtkifimaihfildaaGreatVD
import Derived.Test.YtkifimaihfildaaGreatVA
import Derived.Test.YtkifimaihfildaaGreatV9
import Derived.Test.YtkifimaihfildaaGreatV8
import Derived.WideKeyRuns
import Derived.Test.YtkifimaihfildaaGreatVC
set_option maxHeartbeats 4000000
set_option linter.all false
set_option maxRecDepth 100000
namespace Go.Pg
open Go.Proofs Go.RowKit Go.Sort Go.Shelf
section
variable (ids : List Int) (g0 : FuncId) (c0 : D) (ok : List Int -> Bool)
theorem zrO (hn : ids.length <= 7) (hok : ∀ s : List Int, s.length <= 7 -> Spec PP g0 [.d (lI s), .d c0] [B (ok s)]) : ∀ (k i : Nat) (ss : List (List Int)) (n : Nat), i + k = ids.length -> ss.length <= i -> (∀ s ∈ ss, s.length <= i) -> Sub (allP ids ok) n (prt ok (ids.drop i) ss) ->
  SpecY PP 151 ((allP ids ok).map enP) n (prt ok (ids.drop i) ss).length (putArgs ids g0 c0 i) (putObs ids g0 c0 ss) (putObs ids g0 c0 ss) [4, 3, 5] [B true] [B false]
 | 0, i, ss, n, hi, hs, hl, hsub => by
  obtain rfl : i = ids.length := by omega
  rw [jaQ] at hsub ⊢
  exact zrN ids g0 c0 ok hn hok ss n (by omega) (fun s h => by have := hl s h; omega) hsub
 | k + 1, i, ss, n, hi, hs, hl, hsub => zrM ids g0 c0 ok hn i (by omega) ss n hs hl hsub fun ss n hs hl hsub => zrO hn hok k (i + 1) ss n (by omega) hs hl hsub
def prtCap (j : Nat) : D := getD' [capB [lI ids], posD g0 c0] j
theorem zfb (hn : ids.length <= 7) (hok : ∀ s : List Int, s.length <= 7 -> Spec PP g0 [.d (lI s), .d c0] [B (ok s)]) : SeqC PP 150 2 (prtCap ids g0 c0) enP (allP ids ok) := by
 refine zeW Tryz.func150 rfl (by kernel_rfl) rfl rfl enP _ fun l => ?_
 refine CallSt.cy (cuts := []) [(7, .clo 151 (putCaps ids g0 c0))] [] (zrO ids g0 c0 ok hn hok ids.length 0 [] 0 (kZ _) (jE _) (fun s h => by cases h) ⟨[], rfl, List.prefix_rfl⟩) rfl rfl
  ⟨rfl, ⟨⟨⟨rfl, _, _, _, rfl⟩, trivial⟩, rfl, obX rfl, obX rfl, trivial⟩, wq rfl⟩ rfl rfl rfl rfl ?_ ?_
 ·exact .inl (jI (fun n => AV.gho (some n)) (kZ _))
 exact .inr rfl
theorem zf4 : Spec PP 103 [.d (lI ids), .d (cloB g0 [c0])] [.d (cloB 150 [capB [lI ids], posD g0 c0])] := by
 refine sA Tryz.func103 ?_
 refine ⟨⟨rfl, rfl, fun j hj => ?_⟩, trivial⟩
 match j, hj with
 | 0, _ => exact ⟨_, rfl, rfl, _, _, rfl, rfl, rfl, fun j hj => dE _⟩
 | 1, _ => exact ⟨_, rfl, rfl, _, _, rfl, rfl, rfl, fun j hj => dE _⟩
end
def bitA (ids s : List Int) (i : Nat) : Nat := (List.range i).foldl (fun b k => if s.contains (ids.getD k 0) = true then onS b k else b) 0
theorem zcu (ids s : List Int) (i : Nat) : bitA ids s (i + 1) = if s.contains (ids.getD i 0) = true then onS (bitA ids s i) i else bitA ids s i := by
 unfold bitA
 rw [qN, wJ]; rfl
theorem zlL (ids s : List Int) : ∀ i, i <= 7 -> bitA ids s i < 128
 | 0, _ => by show 0 < 128; decide
 | i + 1, h => by
  have := zlL ids s i (by omega)
  rw [zcu]
  split
  ·exact zrU this (by omega)
  exact this
def bitS (ids s : List Int) : Nat := bitA ids s ids.length
abbrev lkC (d : Day) (ks : List Nat) : List D := d.ds ++ [lI (sigL d.R), cmap d ks]
theorem zr8 (d : Day) (ks : List Nat) (hn : (sigL d.R).length <= 7) (s : List Int) (hs : s.length <= 1000000) : Spec PP 104 [.d (lI s), .d (capB (lkC d ks))] [B (fitK d ks (bitS (sigL d.R) s))] := by
 refine sA Tryz.func104 ?_
 refine LoopOb.of (σ := Nat) (fun i => ([(0, .d (lI s)), (1, avOf (.d (capB (lkC d ks)))), (4, .d (I (bitA (sigL d.R) s i))), (8, .d (lI (sigL d.R))), (9, .d (I (sigL d.R).length)), (10, .d (I i))], [])) (fun i => i <= (sigL d.R).length) (fun i => (sigL d.R).length - i) 0
  ⟨rfl, trivial, wq rfl⟩ (jF _) fun i hi => ?_
 have hi : i <= (sigL d.R).length := hi
 apply bY <;> intro h1
 ·have h1 : i < (sigL d.R).length := by have := dT h1; omega
  have hb := zlL (sigL d.R) s i (by omega)
  refine ⟨⟨rfl, by omega, by omega⟩, ?_⟩
  refine cP (zej s ((sigL d.R).getD i 0) hs) rfl rfl ?_
  apply bY <;> intro h2
  ·have h2 : s.contains ((sigL d.R).getD i 0) = true := h2
   refine ⟨by omega, ?_⟩
   refine ⟨i6, ?_⟩
   refine ⟨i + 1, ⟨rfl, trivial, avQ rfl, avQ rfl, ?_, avQ rfl, avQ rfl, avQ rfl, trivial⟩, h1, msr h1⟩
   rw [zcu, kH h2]
   exact avQ (jI (fun n => AV.d (.int .i64 n)) (bOn hb (by omega)))
  have h2 : s.contains ((sigL d.R).getD i 0) = false := h2
  refine ⟨i6, ?_⟩
  refine ⟨i + 1, ⟨rfl, trivial, ?_⟩, h1, msr h1⟩
  rw [zcu, kG (by rw [h2]; decide)]
  exact wq rfl
 have h1 : i = (sigL d.R).length := by have := dF h1; omega
 subst h1
 refine cP (zew d ks (bitS (sigL d.R) s)) rfl rfl ?_
 exact r1B rfl rfl
abbrev allCs (d : Day) (ks : List Nat) : List D := [capB [lI (sigL d.R)], posD 104 (capB (lkC d ks))]
theorem j_all (d : Day) (ks : List Nat) : Spec PP 66 [lkV d ks] [.d (cloB 150 (allCs d ks))] := by
 refine sA Tryz.func66 ?_
 refine CallSt.fzE [1] (zf4 (sigL d.R) 104 (capB (lkC d ks))) rfl ⟨dE _, ⟨rfl, rfl, fun j hj => by obtain rfl : j = 0 := jam.1 hj; exact dE _⟩, trivial⟩ rfl ?_
 exact ⟨dE _, trivial⟩
abbrev parts (d : Day) : List (List (List Int)) := prt (fun s => fitK d (ksD d) (bitS (sigL d.R) s)) (sigL d.R) []
theorem znb {d : Day} (h : DayOk d) : SeqC PP 150 2 (prtCap (sigL d.R) 104 (capB (lkC d (ksD d)))) enP (parts d) :=
 zfb (sigL d.R) _ _ _ (sig7 h) fun s hs => zr8 d (ksD d) (sig7 h) s (by omega)
theorem zg3 {α : Type} {ok : List α -> Bool} : ∀ {r : List α} {ss : List (List α)} {B : Nat} {x : List (List α)}, x ∈ prt ok r ss -> (∀ s ∈ ss, s.length <= B) -> x.length <= ss.length + r.length /\ ∀ s ∈ x, s.length <= B + r.length + 1
 | [], ss, B, x, h, hb => by
  unfold prt at h
  split at h
  ·obtain rfl := kL.1 h
   exact ⟨jE _, fun s hs => by have := hb s hs; simp; omega⟩
  ·cases h
 | a :: r, ss, B, x, h, hb => by
  unfold prt at h
  rcases qA.1 h with h | h
  ·obtain ⟨k, hk, h⟩ := List.mem_flatMap.1 h
   have hk := kK.1 hk
   obtain ⟨h1, h2⟩ := zg3 (B := B + 1) h fun s hs => by
    rcases jbw hs with hs | rfl
    ·have := hb s hs; omega
    have hm : ss.getD k [] ∈ ss := by rw [hZ, kF hk]; exact kN hk
    have := hb _ hm
    rw [jR, qW]; omega
   rw [jaT] at h1
   exact ⟨by simp; omega, fun s hs => by have := h2 s hs; simp; omega⟩
  obtain ⟨h1, h2⟩ := zg3 (B := B + 1) h fun s hs => by
   rcases qA.1 hs with hs | hs
   ·have := hb s hs; omega
   obtain rfl := kL.1 hs; simp
  rw [jR] at h1
  exact ⟨by simp at h1 ⊢; omega, fun s hs => by have := h2 s hs; simp; omega⟩
theorem zpP {α : Type} (ok : List α -> Bool) (r : List α) (h : r.length <= 7) : (prt ok r []).length <= 877 := by
 rw [ze5]
 refine jM (qD _ _) ?_
 rw [kS]
 have : ∀ n, n < 8 -> (rgs n 0).length <= 877 := by decide +kernel
 exact this _ (by omega)
theorem zf2 {d : Day} (h : DayOk d) : (parts d).length <= 877 := zpP _ _ (sig7 h)
theorem zf1 {d : Day} (h : DayOk d) {x : List (List Int)} (hx : x ∈ parts d) : x.length <= 7 /\ ∀ s ∈ x, s.length <= 8 := by
 have := sig7 h
 obtain ⟨h1, h2⟩ := zg3 (B := 0) hx (fun s hs => by cases hs)
 exact ⟨by simp at h1; omega, fun s hs => by have := h2 s hs; omega⟩
def bst0 (out : List (List (List Int))) (p : List (List Int)) : List (List (List Int)) := if decide (0 < out.length) && decide (p.length < (out.getD 0 []).length) then [] else out
def bst1 (out : List (List (List Int))) (p : List (List Int)) : List (List (List Int)) := if decide ((bst0 out p).length = 0) || decide (p.length = ((bst0 out p).getD 0 []).length) then bst0 out p ++ [p] else bst0 out p
def bstL (l : List (List (List Int))) : List (List (List Int)) := l.foldl bst1 []
theorem zbN (l : List (List (List Int))) (p : List (List Int)) : bstL (l ++ [p]) = bst1 (bstL l) p := by unfold bstL; rw [wJ]; rfl
theorem znL (o : List (List (List Int))) (p : List (List Int)) : (bst0 o p).length <= o.length := by
 unfold bst0
 split
 ·exact jF _
 exact jE _
theorem znK (o : List (List (List Int))) (p : List (List Int)) : (bst1 o p).length <= o.length + 1 := by
 have := znL o p
 unfold bst1
 split
 ·rw [jR]; simp; omega
 omega
theorem ziM : ∀ (l o : List (List (List Int))), (l.foldl bst1 o).length <= o.length + l.length
 | [], o => jE _
 | p :: l, o => by
  have h1 := ziM l (bst1 o p)
  have h2 := znK o p
  rw [jaB, jbg]
  omega
theorem ziL (l : List (List (List Int))) : (bstL l).length <= l.length := by
 have := ziM l []
 unfold bstL
 simpa using this
abbrev rowPP (l : List (List (List Int))) : Nat -> Nat -> D := fun i _ => lII (l.getD i [])
theorem zog {l : List (List (List Int))} {p : List (List Int)} {g : Nat -> Nat -> D} (hg : D.eqv (g 0 0) (lII p)) : D.eqv (.slc 1 (l.length + 1) (appRow l.length (rowPP l) g)) (.slc 1 (l ++ [p]).length (rowPP (l ++ [p]))) := by
 refine ⟨by simp, .inr ⟨rfl, fun i hi j hj => ?_⟩⟩
 show D.eqv (appRow l.length (rowPP l) g i j) (lII ((l ++ [p]).getD i []))
 obtain rfl : j = 0 := by omega
 unfold appRow
 by_cases h : i < l.length
 ·rw [kH h, hZ (l := l ++ [p]), jJ h, <- hZ]
  exact dE _
 have e : i = l.length := by omega
 subst e
 rw [kG h, kE, hZ, jK (jE _), kE]
 exact hg
theorem nz_no {n : Nat} (h : 0 < n) : ((n : Int) == 0) = false := by simp; omega
theorem zrX {n : Nat} (h : n = 0) : ((n : Int) == 0) = true := by subst h; rfl
def obBst (pre : List (List (List Int))) : List (Nat × Ob) := [(3, .box [.own 34]), (34, .row 60 1 (bstL pre).length (rowPP (bstL pre)))]
theorem zrP (g : FuncId) (c1 c2 : D) (xs : List (List (List Int))) (hx : xs.length <= 1000) (hseq : SeqC PP g 2 (getD' [c1, c2]) enP xs) : Spec PP 96 [.d (cloB g [c1, c2])] [.d (lPP (bstL xs))] := by
 refine sA Tryz.func96 ?_
 refine CodeOb.rangeAt hseq rfl (fun _ => rfl) (by decide) [(3, .box 3 0)] [(3, 0)] obBst rfl (fun _ => rfl) ?_ (Iv := fun _ => True) trivial (fun v pre x hx' _ => ?_) (fun _ => ?_)
 ·exact ⟨rfl, ⟨obN rfl rfl rfl, obZ rfl rfl, trivial⟩, wq rfl⟩
 ·have hpl : pre.length < 1000 := by
   have := hx'.length_le
   rw [jR] at this; simp at this; omega
  have hlen := ziL pre
  have push : ∀ o : List (List (List Int)), o.length <= 1000 -> bst1 (bstL pre) x = o ++ [x] -> bst1 (bstL pre) x = o ++ [x] := fun _ _ h => h
  apply bY <;> intro h1
  ·have h1 : 0 < (bstL pre).length := by have := dT h1; omega
   refine ⟨⟨by omega, by omega⟩, ⟨by omega, ?_⟩⟩
   repeat first | apply sT | apply sF
   apply bY <;> intro h2
   ·have h2 : x.length < ((bstL pre).getD 0 []).length := by have : (x.length : Int) < ((bstL pre).getD 0 []).length := dT h2; omega
    have e0 : bst0 (bstL pre) x = [] := by unfold bst0; rw [kH (by rw [jG h1, jG h2]; rfl)]
    have e1 : bst1 (bstL pre) x = [] ++ [x] := by unfold bst1; rw [e0]; rfl
    repeat first | apply sT | apply sF
    refine ⟨⟨.inr rfl, by unfold maxLen; omega, by show (0 + 1) * 24 <= 140737488355328; omega⟩, ?_⟩
    refine ⟨trivial, rfl, ⟨obO rfl, obR rfl ?_, trivial⟩, wq rfl⟩
    rw [zbN, e1]
    refine ⟨rfl, .inr ⟨rfl, fun u hu w hw => ?_⟩⟩
    obtain rfl : w = 0 := jam.1 hw
    obtain rfl : u = 0 := jam.1 hu
    exact dE _
   have h2 : ¬ x.length < ((bstL pre).getD 0 []).length := by have : ¬ (x.length : Int) < ((bstL pre).getD 0 []).length := dF h2; omega
   have e0 : bst0 (bstL pre) x = bstL pre := by unfold bst0; rw [kG (by rw [jH h2, kM]; decide)]
   refine Split.no (nz_no h1) ?_
   refine ⟨⟨by omega, by omega⟩, ⟨by omega, ?_⟩⟩
   repeat first | apply sT | apply sF
   apply bY <;> intro h3
   ·have h3 : x.length = ((bstL pre).getD 0 []).length := by
     have : (x.length : Int) = ((bstL pre).getD 0 []).length := by simpa using h3
     omega
    have e1 : bst1 (bstL pre) x = bstL pre ++ [x] := by unfold bst1; rw [e0, kH (by rw [jG h3, kP])]
    refine ⟨⟨.inr rfl, by unfold maxLen; omega, by show ((bstL pre).length + 1) * 24 <= 140737488355328; omega⟩, ?_⟩
    refine ⟨trivial, rfl, ⟨obO rfl, obR rfl ?_, trivial⟩, wq rfl⟩
    rw [zbN, e1]
    exact zog (dE _)
   have h3 : ¬ x.length = ((bstL pre).getD 0 []).length := fun e => by
    have : ¬ (x.length : Int) = ((bstL pre).getD 0 []).length := by simpa using h3
    exact this (by rw [e])
   have e1 : bst1 (bstL pre) x = bstL pre := by unfold bst1; rw [e0, kG (by rw [jH h3, jH (by omega)]; decide)]
   refine ⟨trivial, rfl, ⟨obO rfl, obR rfl ?_, trivial⟩, wq rfl⟩
   rw [zbN, e1]
   exact dE _
  have h1 : (bstL pre).length = 0 := by have := dF h1; omega
  have e0 : bst0 (bstL pre) x = bstL pre := by unfold bst0; rw [kG (by rw [jH (by omega), qL]; decide)]
  have e1 : bst1 (bstL pre) x = bstL pre ++ [x] := by unfold bst1; rw [e0, kH (by rw [jG h1, qP])]
  repeat first | apply sT | apply sF
  refine Split.yes (zrX h1) ?_
  repeat first | apply sT | apply sF
  refine ⟨⟨.inr rfl, by unfold maxLen; omega, by show ((bstL pre).length + 1) * 24 <= 140737488355328; omega⟩, ?_⟩
  refine ⟨trivial, rfl, ⟨obO rfl, obR rfl ?_, trivial⟩, wq rfl⟩
  rw [zbN, e1]
  exact zog (dE _)
 refine ⟨⟨_, _, _, _, rfl, ?_⟩, trivial⟩
 exact dE _
theorem ziN {o : List (List (List Int))} {p q : List (List Int)} (h : q ∈ bst0 o p) : q ∈ o := by
 unfold bst0 at h
 split at h
 ·cases h
 exact h
theorem bst1_mem {o : List (List (List Int))} {p q : List (List Int)} (h : q ∈ bst1 o p) : q ∈ o \/ q = p := by
 unfold bst1 at h
 split at h
 ·rcases qA.1 h with h | h
  ·exact .inl (ziN h)
  exact .inr (kL.1 h)
 exact .inl (ziN h)
theorem bstF_mem {q : List (List Int)} : ∀ {l o : List (List (List Int))}, q ∈ l.foldl bst1 o -> q ∈ o \/ q ∈ l
 | [], o, h => .inl h
 | p :: l, o, h => by
  rcases bstF_mem (l := l) h with h | h
  ·rcases bst1_mem h with h | rfl
   ·exact .inl h
   exact .inr (jae ..)
  exact .inr (jai _ h)
theorem znI {q : List (List Int)} {l : List (List (List Int))} (h : q ∈ bstL l) : q ∈ l := (bstF_mem h).resolve_left fun h => by cases h
abbrev bsts (d : Day) : List (List (List Int)) := bstL (parts d)
def bsR (d : Day) : List (List (List Int)) × Int := if (bsts d).length = 0 then ([], 9) else (bsts d, 0)
theorem zk2 {d : Day} (h : DayOk d) : Spec PP 56 [d.v] [.d (lPP (bsR d).1), .d (.int .i64 (bsR d).2)] := by
 refine sA Tryz.func56 ?_
 refine CallSt.ro (zow h) rfl rfl ?_
 refine CallSt.ro (j_all d (ksD d)) rfl rfl ?_
 refine CallSt.ro (zrP 150 _ _ (parts d) (by have := zf2 h; omega) (znb h)) rfl rfl ?_
 unfold bsR
 apply bY <;> intro h1
 ·have h1 : (bsts d).length = 0 := by
   have : ((bsts d).length : Int) = 0 := by simpa using h1
   omega
  rw [kH h1]
  exact ⟨⟨_, _, _, _, rfl, rfl, .inl rfl⟩, rtI rfl rfl, trivial⟩
 have h1 : ¬ (bsts d).length = 0 := fun e => by
  have : ¬ ((bsts d).length : Int) = 0 := by simpa using h1
  exact this (by rw [e]; rfl)
 rw [kG h1]
 exact ⟨dE _, rtI rfl rfl, trivial⟩
def fewR (d : Day) : Int × Int := if dayE d ≠ 0 then (0, dayE d) else if (bsts d).length = 0 then (0, 9) else (((bsts d).getD 0 []).length, 0)
theorem zil (d : Day) (hn : d.R.length <= 1000000) : Spec PP 29 [d.v] [N (fewR d).1, .d (.int .i64 (fewR d).2)] := by
 refine sA Tryz.func29 ?_
 refine cP (zfq d hn) rfl rfl ?_
 unfold fewR
 apply bY <;> intro h0
 ·rw [kH (by simpa using h0)]
  exact ⟨rtI rfl rfl, rtI rfl rfl, trivial⟩
 have h0 : dayE d = 0 := by simpa using h0
 rw [kG (fun hh => hh h0)]
 refine CallSt.ro (zk2 (zb2 h0)) rfl rfl ?_
 by_cases h1 : (bsts d).length = 0
 ·have e : bsR d = ([], 9) := by unfold bsR; rw [kH h1]
  rw [e, kH h1]
  refine sT ?_
  exact ⟨rtI rfl rfl, rtI rfl rfl, trivial⟩
 have e : bsR d = (bsts d, 0) := by unfold bsR; rw [kG h1]
 rw [e, kG h1]
 refine sF ?_
 refine ⟨⟨rfl, by omega, by show (0 : Int) < ((bsts d).length : Int); omega⟩, ?_⟩
 exact ⟨rtI rfl rfl, rtI rfl rfl, trivial⟩
def samR (d : Day) (a b : Int) : Vdt × Int := if parE d a b ≠ 0 then (⟨0, [], []⟩, parE d a b) else if (bsts d).length = 0 then (⟨0, [], []⟩, 9) else (vdtR (bsts d) a b, 0)
theorem zom {d : Day} {a b : Int} (h : parE d a b = 0) : DayOk d := by
 unfold parE at h
 split at h
 ·rename_i h1; exact absurd h h1
 rename_i h1; exact zb2 (jL h1)
theorem zik (d : Day) (a b : Int) (hn : d.R.length <= 1000000) : Spec PP 14 [d.v, N a, N b] [(samR d a b).1.v, .d (.int .i64 (samR d a b).2)] := by
 refine sA Tryz.func14 ?_
 refine cP (zr7 d a b hn) rfl rfl ?_
 unfold samR
 apply bY <;> intro h0
 ·rw [kH (by simpa using h0)]
  exact ⟨rtC (a := 6) rfl rfl rfl rfl rfl rfl ⟨⟨rfl, rfl⟩, rfl, rfl, trivial⟩, rtI rfl rfl, trivial⟩
 have h0 : parE d a b = 0 := by simpa using h0
 have h := zom h0
 rw [kG (fun hh => hh h0)]
 refine CallSt.ro (zk2 h) rfl rfl ?_
 by_cases h1 : (bsts d).length = 0
 ·have e : bsR d = ([], 9) := by unfold bsR; rw [kH h1]
  rw [e, kH h1]
  refine sT ?_
  exact ⟨rtC (a := 6) rfl rfl rfl rfl rfl rfl ⟨⟨rfl, rfl⟩, rfl, rfl, trivial⟩, rtI rfl rfl, trivial⟩
 have e : bsR d = (bsts d, 0) := by unfold bsR; rw [kG h1]
 rw [e, kG h1]
 refine sF ?_
 refine CallSt.ro (zkX (bsts d) a b (by have : (bsts d).length <= (parts d).length := ziL (parts d); have := zf2 h; omega) fun p hp => by
  have := zf1 h (znI hp)
  exact ⟨by omega, fun s hs => by have := this.2 s hs; omega⟩) rfl rfl ?_
 exact ⟨rtC (a := 6) rfl rfl rfl rfl rfl rfl (zaa _), rtI rfl rfl, trivial⟩
def fltP (k : Int) (l : List (List (List Int))) : List (List (List Int)) := l.filter fun p => ((p.length : Int) == k)
theorem zli (k : Int) (l : List (List (List Int))) (p : List (List Int)) : fltP k (l ++ [p]) = if ((p.length : Int) == k) = true then fltP k l ++ [p] else fltP k l := by
 unfold fltP
 rw [kR]
 by_cases h : ((p.length : Int) == k) = true
 ·rw [kH h, qJ (by exact h)]; rfl
 rw [kG h, qK (by exact h)]; simp
def fitT (T : Nat -> List Place) (ks : List Nat) (m : Nat) : Bool := ks.contains m && decide (0 < (T m).length)
def partT (T : Nat -> List Place) (n : Nat) (ks : List Nat) (set : Nat) : Bool := (List.range n).all fun i => (offS set i == set) || (offS set i == 0) || fitT T ks (offS set i)
def growT (T : Nat -> List Place) (n : Nat) (ks : List Nat) (set : Nat) : Bool := (List.range n).any fun i => (onS set i != set) && fitT T ks (onS set i)
def keysT (T : Nat -> List Place) (n : Nat) : Nat -> List Nat
 | 0 => []
 | m + 1 => if m ≠ 0 /\ partT T n (keysT T n m) m = true then keysT T n m ++ [m] else keysT T n m
section
variable {d : Day} {T : Nat -> List Place} (h : ∀ m, celD d m = T m) {ids : List Int} (hi : sigL d.R = ids)
include h
theorem zlk : fitK d = fitT T := by
 funext ks m
 unfold fitK fitT
 rw [h]
include hi
theorem zol (ks : List Nat) (m : Nat) : partK d ks m = partT T ids.length ks m := by
 unfold partK partT parK
 rw [zlk h, hi]
theorem zsc (ks : List Nat) (m : Nat) : growK d ks m = growT T ids.length ks m := by
 unfold growK growT groK
 rw [zlk h, hi]
theorem zih : ∀ m, keysD d m = keysT T ids.length m
 | 0 => rfl
 | m + 1 => by
  unfold keysD keysT
  rw [zih m, zol h hi]
theorem zkn : parts d = prt (fun s => fitT T (keysT T ids.length (2 ^ ids.length)) (bitS ids s)) ids [] := by
 unfold parts ksD
 rw [zlk h, zih h hi, hi]
end
theorem p3 : parts exD = [[[1, 2], [3]], [[1], [2], [3]]] := by
 rw [zkn cel3 sig3]
 decide +kernel
theorem p4 : parts exD4 = [[[1], [2], [3]]] := by
 rw [zkn cel4 sig4]
 decide +kernel
theorem dE3 : dayE exD = 0 := by decide +kernel
theorem dE4 : dayE exD4 = 0 := by decide +kernel
theorem zq3 : fewR exD = (2, 0) := by
 unfold fewR bsts
 rw [kG (fun hh => hh dE3), p3]
 decide +kernel
theorem zq2 : fewR exD4 = (3, 0) := by
 unfold fewR bsts
 rw [kG (fun hh => hh dE4), p4]
 decide +kernel
theorem par3 (a b : Int) (h : partB [a, b] [1, 2, 3] = true) (hn : a ≠ b) : parE exD a b = 0 := by
 unfold parE
 rw [kG (fun hh => hh dE3), show sigL exD.R = [1, 2, 3] from sig3, kG (by rw [h]; decide), kG hn]
theorem par4 (a b : Int) (h : partB [a, b] [1, 2, 3] = true) (hn : a ≠ b) : parE exD4 a b = 0 := by
 unfold parE
 rw [kG (fun hh => hh dE4), show sigL exD4.R = [1, 2, 3] from sig4, kG (by rw [h]; decide), kG hn]
theorem zfO : (samR exD 1 2).1.Ans = 2 /\ (samR exD 1 2).2 = 0 := by
 unfold samR bsts
 rw [kG (fun hh => hh (par3 1 2 (by decide +kernel) (by decide))), p3]
 decide +kernel
theorem zfN : (samR exD 1 3).1.Ans = 1 /\ (samR exD 1 3).2 = 0 := by
 unfold samR bsts
 rw [kG (fun hh => hh (par3 1 3 (by decide +kernel) (by decide))), p3]
 decide +kernel
theorem zfM : (samR exD4 1 2).1.Ans = 1 /\ (samR exD4 1 2).2 = 0 := by
 unfold samR bsts
 rw [kG (fun hh => hh (par4 1 2 (by decide +kernel) (by decide))), p4]
 decide +kernel
theorem ask3 (ids : List Int) (h1 : setB ids = true) (h2 : partB ids [1, 2, 3] = true) : askE exD ids = 0 := by
 unfold askE
 rw [kG (fun hh => hh dE3), kG (by rw [h1]; decide), show sigL exD.R = [1, 2, 3] from sig3, kG (by rw [h2]; decide)]
theorem zlZ : celR exD [1, 3] = ([], 0) := by
 unfold celR
 rw [kG (fun hh => hh (ask3 [1, 3] (by decide +kernel) (by decide +kernel))), c5]
theorem zjI : (tabR exD).1.length = 2 /\ (tabR exD).2.1.length = 2 /\ (tabR exD).2.2 = 0 := by
 have e : tabR exD = (srtF (tabA (greB exD (ksD exD)) (fitF exD) (2 ^ (sigL exD.R).length)), srtM (tabA (leaB exD (ksD exD)) (misF exD) (2 ^ (sigL exD.R).length)), 0) := by unfold tabR; rw [kG (fun hh => hh dE3)]
 have g : ∀ m, greB exD (ksD exD) m = (fitT T3 (keysT T3 3 8) m && !growT T3 3 (keysT T3 3 8) m) := fun m => by
  unfold greB ksD
  rw [zlk cel3, zsc cel3 sig3, zih cel3 sig3, show sigL exD.R = [1, 2, 3] from sig3]; rfl
 have l : ∀ m, leaB exD (ksD exD) m = (!fitT T3 (keysT T3 3 8) m && partT T3 3 (keysT T3 3 8) m) := fun m => by
  unfold leaB ksD
  rw [zlk cel3, zol cel3 sig3, zih cel3 sig3, show sigL exD.R = [1, 2, 3] from sig3]; rfl
 have hl : ∀ {α : Type} (p : Nat -> Bool) (f : Nat -> α) (n : Nat), (tabA p f n).length = (tabA p id n).length := fun p f n => by rw [zcd p f, kS]
 rw [e]
 refine ⟨?_, ?_, rfl⟩
 ·show (srtF _).length = 2
  unfold srtF
  rw [qQ, hl, show sigL exD.R = [1, 2, 3] from sig3, show greB exD (ksD exD) = _ from funext g]
  decide +kernel
 show (srtM _).length = 2
 unfold srtM
 rw [qQ, hl, show sigL exD.R = [1, 2, 3] from sig3, show leaB exD (ksD exD) = _ from funext l]
 decide +kernel
def SpecA (P : Program) (f : FuncId) (args : List V1) (obs' : List (Nat × Ob)) (cs : List Cap) : Prop :=
 Ent P f /\ ∀ (w : World) (ok : Nat -> Prop) (vs : List Value), (∀ b, ok b -> b < w.heap.size) -> All2 (Rep1 w ok) args vs ->
  Calls P f vs.toArray w fun en w' => ∃ v γ', en = .returned v /\ FrM w w' γ' [] /\ OwnS w' (okM w w' ok γ' γ' [] obs') γ' obs' /\
   (∀ i o b, look obs' i = some o -> blk (γ' i) = some b -> w.heap.size <= b) /\ M w' (okM w w' ok γ' γ' [] obs') γ' (.aggc cs) v
def retA (a i : Nat) (obs' : List (Nat × Ob)) : KK := fun e s => match e with
 | .normal => Weak s [(a, .box i 0)] obs'
 | .ret => Weak s [(a, .box i 0)] obs'
 | _ => False
theorem zmf {P : Program} {T : TT} {E : Env} (hdr : E.dr = false) (hT : ∀ t i, T t = some i -> TI.of P t = some i) (hE : ∀ t, E.eq t = true -> EqFact P t) (hm : P.follows .mixedOrders = true)
  {f : FuncId} {fn : Func} {c : Code} (hf : P.funcs[f]? = some fn) (hb : fn.body = some c) (hn : (fn.name == "runtime.NumGoroutine") = false) (hN : codeN fn.ntmps c = true)
  {args : List V1} {obs' : List (Nat × Ob)} {cs : List Cap} (u i t : Nat) {ti : TI} (hts : fn.results.toList = [ResultVar.cell u t]) (ht : T t = some ti) (hld : loadE (St.of [(u, .box i 0)] obs') ti (.box i 0) fun z => z = .aggc cs) (hsz : args.length <= fn.ntmps) (hng : fn.ntmps <= G)
  (h : awp P T E c (St.of (argSlots 0 args) []) (retA u i obs')) : SpecA P f args obs' cs :=
 ⟨⟨fn, hf, hn, by rw [hb]; rfl⟩, fun w ok vs hok hm2 => zhh hT hE hm hf hb hN (cx := cx0 E.dr w ok fn.ntmps) id rfl rfl rfl (fun _ _ => id) (zeZ hok hm2 hsz hng) h
  (fun x h1 h2 s h => by cases x <;> first | exact h1 rfl | exact h2 rfl | exact h) fun x s a w' hx hk hR _ => by
  have k2 : Weak s [(u, .box i 0)] obs' := by rcases hx with rfl | rfl <;> exact hk
  obtain ⟨γ', hg⟩ := hR.weak k2
  have hs0 := hg.slots u
  have hsl : (St.of [(u, .box i 0)] obs').sl u = .box i 0 := by
   show (look [(u, AV.box i 0)] u).getD .any = _
   simp only [look, zat]; rfl
  rw [hsl] at hs0
  have hl0 : ∀ b, ¬ LentB γ' [] b := fun b ⟨j, o, h1, _⟩ => by cases h1
  have hok2 : ∀ b, okOf (cx0 E.dr w ok fn.ntmps) (St.of [(u, .box i 0)] obs') γ' w' b -> okM w w' ok γ' γ' [] obs' b := fun b hb => by
   rcases hb with hb | ⟨h1, h2, h3⟩
   ·exact .inl hb
   exact .inr ⟨.inl (h1.elim id False.elim), h2, fun ⟨j, p, g1, g2⟩ => h3 j p g1 g2⟩
  obtain ⟨z, v, g1, g2, _, rfl⟩ := zb7 hg (hT t ti ht) hs0 hld
  obtain ⟨b, hb1, hx1⟩ := id hs0
  have hv : (do loadVar t (← asAddr (a.tmps.getD u undef))).run P w' = .ok v w' := by
   rw [hx1] at g1 ⊢
   have g3 : (loadVar t ⟨b, 0, none⟩).run P w' = .ok v w' := by simpa [Instr.loadAt, Instr.sureAddr] using g1
   simpa [asAddr] using g3
  have hrun := zaL (P := P) (fn := fn) (a := a) (w := w') (vs := [v]) (by
   rw [hts, jbx]
   simp only [Sem.run_bind] at hv ⊢
   rw [hv]
   simp)
  refine ⟨_, hrun, v, γ', rfl, ⟨hg.below.os, hg.below.tape, hg.below.output, hg.below.size, fun k hk _ => hg.below.block k hk id⟩, ⟨fun i o hi => ?_, hg.refs, hg.sep, fun i o b hi hb hok' => ?_⟩, fun i o b hi hb => (zau hg hi hb).1.elim id False.elim, ?_⟩
  ·exact (hg.objs i o hi).reO rfl (fun _ _ _ _ _ _ => rfl) (fun _ _ => trivial) hok2
  ·rcases hok' with h1 | ⟨_, _, h3⟩
   ·exact zd2 hg (zau hg hi hb).1 h1
   exact h3 ⟨i, o, hi, hb⟩
  exact M.keep (fun b hb => ⟨hok2 b hb, rfl⟩) (fun _ _ => rfl) g2⟩
section
variable {s : St} {o : Oper} {fo : Operand} {f : FuncId} {K : St -> Prop} {E : Env}
theorem CallSt.obA (sl : List (Nat × AV)) (rest : List (Nat × Ob)) {obs' : List (Nat × Ob)} {cs : List Cap} (hdr : E.dr = false) {args : Array Operand} {at' : Array TypeId} (hop : o.op = .call { callee := .value fo, args, argTypes := at' }) {xs : List V1} (h : SpecA PP f xs obs' cs)
  (hw : Weak s sl rest) (hx : toV1c (St.of sl rest) fo args.toList = some (f, xs)) (hno : noOwn (St.of sl rest) args.toList = true) (hi : ∀ j ∈ (AV.aggc cs).refs, (look obs' j).isSome = true) (hc : goodM sl [] obs' rest [] = true)
  (hk : K ((St.of sl (obs' ++ rest)).putO o.dst (.aggc cs))) : CallSt E PP s o fo args.toList K := by
 obtain ⟨ex, h1, h2⟩ := zaA hx
 rw [zag]
 refine .inr (.inr (.inl ⟨_, ⟨fun cx a w hD hd hR => ?_⟩, hk⟩))
 obtain ⟨γ, hg⟩ := hR.weak hw
 obtain ⟨caps, hf, hcm⟩ := zaU h1 (ev_m hg fo).1
 have hm := (zbq hg h2 ((zbK hg args.toList).append hcm)).2 (zck hno (zbh h1))
 refine .enter (zax hop hf h.1) ?_
 refine (h.2 w _ _ (fun b hb => zal hg hb) hm).mono fun en w' ⟨v, γ2, e0, hfr, ho, hn, hres⟩ => ?_
 have hl0 : ∀ (γ : Nat -> Value) b, ¬ LentB γ [] b := fun γ b ⟨j, o, h1, _⟩ => by cases h1
 have hM0 : ∀ b, okM w w' (okOf cx (St.of sl ([] ++ rest)) γ w) γ2 γ2 [] obs' b ↔ okM w w' (okOf cx (St.of sl ([] ++ rest)) γ w) γ γ2 [] obs' b := fun b =>
  ⟨fun hb => hb.imp id fun hb => ⟨hb.1.imp id fun h => absurd h (hl0 _ _), hb.2⟩, fun hb => hb.imp id fun hb => ⟨hb.1.imp id fun h => absurd h (hl0 _ _), hb.2⟩⟩
 obtain ⟨γ', hg', hγ, hM⟩ := RG.lendM (obs := []) (pins := []) (γ2 := γ2) hg (fun e => by have := hD e; rw [hdr] at this; cases this) ⟨hfr.os, hfr.tape, hfr.output, hfr.size, fun k hk _ => hfr.block k hk (hl0 _ _)⟩ (fun i hi => by cases hi)
  ⟨fun i o hi => (ho.objs i o hi).reO rfl (fun _ _ _ _ _ _ => rfl) (fun _ _ => trivial) fun b hb => (hM0 b).1 hb, ho.refs, ho.sep, fun i o b hi hb hk => ho.out i o b hi hb ((hM0 b).2 hk)⟩ (fun i o b hi hb => .inl (hn i o b hi hb)) hc
 refine ⟨_, e0, γ', hg'.putO hd (M.keep (fun b hb => ⟨hM b ((hM0 b).1 hb), rfl⟩) (fun j hj => hγ j (hi j hj)) hres) fun j hj => ?_⟩
 show (look (obs' ++ rest) j).isSome = true
 rw [zan]
 have := hi j hj
 cases e : look obs' j with
 | some x => rfl
 | none => rw [e] at this; cases this
theorem CallSt.lendW (ids : List Nat) {args : Array Operand} {at' : Array TypeId} (hop : o.op = .call { callee := .value fo, args, argTypes := at' }) {xs ys res res' : List V1} (h : SpecG E.dr PP f ys res) (hx : toV1c (s.freezes ids) fo args.toList = some (f, xs)) (he : eqV1s xs ys)
  (hw : ∀ w ok v, ResRep w ok res v -> ResRep w (fun _ => False) res' v) (hk : K (s.putO o.dst (resAV res'))) : CallSt E PP s o fo args.toList K := by
 obtain ⟨ex, h1, h2⟩ := zaA hx
 rw [zag]
 refine .inr (.inr (.inl ⟨_, ⟨fun cx a w hD hd hR => ?_⟩, hk⟩))
 obtain ⟨γ, hg⟩ := hR
 obtain ⟨γ', h'⟩ := R.freezes ids ⟨γ, hg⟩
 obtain ⟨cvs, hcx, hcm⟩ := zaU h1 (ev_m h' fo).1
 have hm := (zbq h' h2 ((zbK h' args.toList).append hcm)).1
 refine .enter (zax hop hcx h.1) ?_
 refine ((h.eqv he).2 w _ _ (fun b hb => hb) hm).mono fun en w' ⟨v, e, hb, hres⟩ => ⟨v, e, γ, ?_⟩
 exact (hg.grow hb.1 fun e => hb.2 (hD e)).putO hd (za0 (.inl fun b hb => hb.elim) (hw _ _ _ hres)) (fun j hj => by rw [zaB] at hj; cases hj)
end
theorem zeY {w : World} {ok : Nat -> Prop} {k n : Nat} {f g : Nat -> Nat -> D} {v : Value} (h : Rep w ok (.slc k n f) v) : Rep w (fun _ => False) (.slc 0 n g) v := by
 rcases h with ⟨h, e⟩ | ⟨a, cap, e, h1, h2, _⟩
 ·exact .inl ⟨h, e⟩
 exact .inr ⟨a, cap, e, h1, h2, fun i _ j hj => absurd hj (qH _)⟩
abbrev lenD (n : Nat) : D := .slc 0 n fun _ _ => .nil
theorem zhF {w : World} {ok : Nat -> Prop} {x x' : V1} {y : D} {v : Value} (hy : y.flat = true) (hx : ∀ u, Rep1 w ok x u -> Rep1 w (fun _ => False) x' u) (h : ResRep w ok [x, .d y] v) : ResRep w (fun _ => False) [x', .d y] v := by
 obtain ⟨vs, e, h⟩ := h
 cases h with
 | cons a b =>
 cases b with
 | cons c d =>
 cases d
 exact ⟨_, e, .cons (hx _ a) (.cons (Rep1.flat (x := .d y) hy c) .nil)⟩
theorem zmg (ids : List Nat) {f : FuncId} {fn : Func} {c : Code} (hf : PP.funcs[f]? = some fn) (hb : fn.body = some c) (hq : ((fn.name == "runtime.NumGoroutine") || !(codeN fn.ntmps c && Nat.ble fn.ntmps 4294967296)) = false)
  {args : List V1} {obs' : List (Nat × Ob)} {cs : List Cap} (u i t : Nat) {ti : TI} (hts : fn.results.toList = [ResultVar.cell u t]) (ht : TTab t = some ti) (hld : loadE (St.of [(u, .box i 0)] obs') ti (.box i 0) fun z => z = .aggc cs) (hsz : Nat.ble args.length fn.ntmps = true)
  (h : awp PP TTab (EC ids) c (St.of (argSlots 0 args) []) (retA u i obs')) : SpecA PP f args obs' cs := by
 simp only [qI, qM, jP] at hq
 exact zmf (E := EC ids) rfl hT hE hM hf hb hq.1 hq.2.1 u i t hts ht hld (jD hsz) (jD hq.2.2) h
abbrev exP : List D := [I 9, I 9, lI exS.c.M.G, lT exS.c.T, lZ exS.c.Z, lC exS.k.C, lK exS.k.K, I 0, I 60]
abbrev exOb : List (Nat × Ob) := [(0, .box (exP.map AV.d ++ [.own 25])), (25, .row 102 8 3 (rowRp exR))]
abbrev exCs : List Cap := exP.map Cap.dat ++ [.own 25]
theorem zjD : SpecA PP 33 [] exOb exCs := by
 refine zmg [6] Tryz.func33 rfl (by kernel_rfl) 0 0 37 rfl rfl rfl rfl ?_
 refine ⟨⟨by decide, rfl, by decide, by decide⟩, ?_⟩
 refine CutOb.at [(0, .box 0 0), (1, .box 1 0)] [(0, .box (List.replicate 10 .any)), (1, .box (exP.map AV.d ++ [.own 25])), (25, .row 102 8 3 (rowRp exR))] ⟨rfl, ⟨zbk rfl rfl, ?_, obR rfl ⟨rfl, .inr ⟨rfl, fun i hi j hj => ?_⟩⟩, trivial⟩, wq rfl⟩ ?_
 ·refine ⟨⟨rfl, rfl⟩, ⟨rfl, rfl⟩, ⟨rfl, .inr ⟨rfl, fun i hi j hj => ?_⟩⟩, ⟨rfl, _, _, _, _, rfl, rfl, .inr ⟨rfl, fun i hi j hj => ?_⟩⟩, rfl, ⟨rfl, _, _, _, _, rfl, rfl, .inr ⟨rfl, fun i hi j hj => ?_⟩⟩, rfl, ⟨rfl, rfl⟩, ⟨rfl, rfl⟩, rfl, trivial⟩
  ·have hj : j < 1 := hj
   obtain rfl : j = 0 := by omega
   show D.eqv (I 0) (I ((List.replicate 81 (0 : Int)).getD i 0))
   have : (List.replicate 81 (0 : Int)).getD i 0 = 0 := by
    rw [hZ, List.getElem?_replicate]
    split <;> rfl
   rw [this]
   exact ⟨rfl, rfl⟩
  ·have hi : i < 2 := hi
   have hj : j < 4 := hj
   obtain rfl | rfl : i = 0 \/ i = 1 := by omega
   all_goals match j, hj with
   | 0, _ => exact ⟨rfl, rfl⟩
   | 1, _ => exact ⟨rfl, rfl⟩
   | 2, _ => exact ⟨rfl, rfl⟩
   | 3, _ => exact ⟨rfl, rfl⟩
  have hi : i < 2 := hi
  have hj : j < 8 := hj
  obtain rfl | rfl : i = 0 \/ i = 1 := by omega
  all_goals match j, hj with
  | 0, _ => exact ⟨rfl, rfl⟩
  | 1, _ => exact ⟨rfl, rfl⟩
  | 2, _ => exact ⟨rfl, rfl⟩
  | 3, _ => exact ⟨rfl, rfl⟩
  | 4, _ => exact ⟨rfl, rfl⟩
  | 5, _ => exact ⟨rfl, rfl⟩
  | 6, _ => exact ⟨rfl, rfl⟩
  | 7, _ => exact ⟨rfl, rfl⟩
 ·have hi : i < 3 := hi
  have hj : j < 8 := hj
  obtain rfl | rfl | rfl : i = 0 \/ i = 1 \/ i = 2 := by omega
  all_goals match j, hj with
  | 0, _ => exact ⟨rfl, rfl⟩
  | 1, _ => exact ⟨rfl, rfl⟩
  | 2, _ => exact ⟨rfl, rfl⟩
  | 3, _ => exact ⟨rfl, rfl⟩
  | 4, _ => exact ⟨rfl, rfl⟩
  | 5, _ => exact ⟨rfl, rfl⟩
  | 6, _ => exact ⟨rfl, rfl⟩
  | 7, _ => exact ⟨rfl, rfl⟩
 exact ⟨rfl, ⟨obX rfl, obR rfl (dE _), trivial⟩, wq rfl⟩
theorem zmQ (s : Svc) (P : Nat -> Bool) (hv : validM s.c.M = true) : SpecO PP 147 [s.v, .agg (bD P)] 52 2 (plsL s.c.M P).length (rowP (plsL s.c.M P)) := by
 have hl := zc6 hv
 refine zc7 Tryz.func147 rfl (by kernel_rfl) rfl ?_
 refine CallSt.ro (zfm s.c.M) rfl rfl ?_
 refine CodeOb.rangeAt (zdl s.c.M hv) rfl (fun _ => rfl) (by decide) [(2, .box 2 0), (3, .box 3 0), (5, .box 5 0)] [(5, 0)] (fun pre => obPls s P pre.length) rfl (fun _ => rfl) ?_ (Iv := fun _ => True) trivial (fun v pre x hx _ => ?_) (fun _ => ?_)
 ·exact ⟨rfl, ⟨obX rfl, obX rfl, obN rfl rfl rfl, obZ rfl rfl, trivial⟩, wq rfl⟩
 ·obtain ⟨rfl, hk⟩ := zhN hx
  have hn := zcf hv (k := pre.length)
  have hp := zp4 P pre.length (by omega)
  rw [<- hn] at hp
  have hlen := ze8 s.c.M P pre.length
  refine cP hp rfl rfl ?_
  apply bY <;> intro h1
  ·refine ⟨⟨.inr rfl, by unfold maxLen; omega, by show ((plsK s.c.M P pre.length).length + 1) * 16 <= 140737488355328; omega⟩, ?_⟩
   refine ⟨trivial, rfl, ⟨obX rfl, obX rfl, obO rfl, obR rfl ?_, trivial⟩, wq rfl⟩
   rw [jR]
   show D.eqv _ (.slc 2 (plsK s.c.M P (pre.length + 1)).length (rowP (plsK s.c.M P (pre.length + 1))))
   rw [ze7 h1]
   exact zmJ (at2 rfl rfl)
  refine ⟨trivial, rfl, ⟨obX rfl, obX rfl, obO rfl, obR rfl ?_, trivial⟩, wq rfl⟩
  rw [jR]
  show D.eqv _ (.slc 2 (plsK s.c.M P (pre.length + 1)).length (rowP (plsK s.c.M P (pre.length + 1))))
  rw [zg5 h1]; exact dE _
 rw [zcy]
 exact ⟨rfl, rfl, rfl, fun i hi j hj => dE _⟩
theorem ziz (l : List Place) (m j : Nat) : (rowP l m j).flat = true := by
 show ((l.getD m default).at j).flat = true
 unfold Place.at
 split <;> rfl
theorem SpecTO.eqv {dr : Bool} {P : Program} {f : FuncId} {xs ys : List V1} {e k n : Nat} {g : Nat -> Nat -> D} {res : List V1} (h : SpecTO dr P f ys e k n g res) (he : eqV1s xs ys) : SpecTO dr P f xs e k n g res :=
 ⟨h.1, fun w ok vs hok hv => h.2 w ok vs hok (za8 he hv)⟩
def retTO (t0 i : Nat) (ts : List Nat) (res : List V1) (e k n : Nat) (g : Nat -> Nat -> D) : KK := fun x s => match x with
 | .normal => Weak s ((t0, .own i) :: retSl ts res) [(i, .row e k n g)]
 | .ret => Weak s ((t0, .own i) :: retSl ts res) [(i, .row e k n g)]
 | _ => False
theorem zjT {P : Program} {T : TT} {E : Env} (hT : ∀ t i, T t = some i -> TI.of P t = some i) (hE : ∀ t, E.eq t = true -> EqFact P t) (hm : P.follows .mixedOrders = true)
  {f : FuncId} {fn : Func} {c : Code} (hf : P.funcs[f]? = some fn) (hb : fn.body = some c) (hn : (fn.name == "runtime.NumGoroutine") = false) (hN : codeN fn.ntmps c = true)
  {args : List V1} (t0 i t1 : Nat) (ts : List Nat) (hts : fn.results.toList = (t0 :: t1 :: ts).map ResultVar.tmp) {res : List V1} (hlr : (t1 :: ts).length = res.length) (hpn : (t0 :: t1 :: ts).Nodup) (hfl : res.all V1.flat = true)
  {e k n : Nat} {g : Nat -> Nat -> D} (hsz : args.length <= fn.ntmps) (hng : fn.ntmps <= G) (h : awp P T E c (St.of (argSlots 0 args) []) (retTO t0 i (t1 :: ts) res e k n g)) : SpecTO E.dr P f args e k n g res :=
 ⟨⟨fn, hf, hn, by rw [hb]; rfl⟩, fun w ok vs hok hm2 => zhh hT hE hm hf hb hN (cx := cx0 E.dr w ok fn.ntmps) id rfl rfl rfl (fun _ _ => id) (zeZ hok hm2 hsz hng) h
  (fun x h1 h2 s h => by cases x <;> first | exact h1 rfl | exact h2 rfl | exact h) fun x s a w' hx hk hR _ => by
  have k2 : Weak s ((t0, .own i) :: retSl (t1 :: ts) res) [(i, .row e k n g)] := by rcases hx with rfl | rfl <;> exact hk
  obtain ⟨γ', hg⟩ := hR.weak k2
  have hsl : ∀ t v, look ((t0, AV.own i) :: retSl (t1 :: ts) res) t = some v -> (St.of ((t0, .own i) :: retSl (t1 :: ts) res) [(i, .row e k n g)]).sl t = v := fun t v e => by
   show (look ((t0, AV.own i) :: retSl (t1 :: ts) res) t).getD .any = _
   rw [e]; rfl
  have hs0 := hg.slots t0
  rw [hsl t0 (.own i) (by simp only [look, zat]; rfl)] at hs0
  have hval : a.tmps.getD t0 undef = γ' i := hs0
  have ho : (St.of ((t0, .own i) :: retSl (t1 :: ts) res) [(i, .row e k n g)]).ob i = some (.row e k n g) := by
   show look [(i, Ob.row e k n g)] i = _
   simp only [look, zat]; rfl
  obtain ⟨xs, h1, h0, h2, h3⟩ := hg.objs i _ ho
  have hnd : (([(t0, AV.own i)] ++ retSl (t1 :: ts) res).map Prod.fst).Nodup := by rw [jT, zbI hlr]; exact hpn
  have hres := zdu hg hlr fun t x hx => hsl t _ (zbm (l := [(t0, AV.own i)]) hx hnd)
  have hrun := zaL (P := P) (fn := fn) (a := a) (w := w') (vs := (t0 :: t1 :: ts).map fun t => a.tmps.getD t undef) (by rw [hts]; exact zda _)
  have h1' : w'.ownsRow w.heap.size e k (γ' i) n xs := ⟨h1.1, by
   rcases h1.2 with h4 | ⟨g', cap, cur, h4, h5, h6⟩
   ·exact .inl h4
   exact .inr ⟨g', cap, cur, h4, (h0 g' (by rw [h4]; rfl)).elim id False.elim, h6⟩⟩
  refine ⟨_, hrun, γ' i, (t1 :: ts).map (fun t => a.tmps.getD t undef), ?_, ⟨bel0 hg.below, hg.below.drawn⟩, ⟨xs, h1', h2, fun m hm j hj => ?_⟩, fun ok' => ?_⟩
  ·rw [<- hval]; rfl
  ·obtain ⟨u, hu, hr⟩ := h3 m hm j hj
   exact ⟨u, hu, Rep.keep (fun b hb => ⟨hb.imp id fun hb => ⟨hb.1.elim id False.elim, hb.2.1, hb.2.2 i _ ho⟩, rfl⟩) hr⟩
  exact hres.imp fun x u hx hr => Rep1.flat (jC.1 hfl x hx) hr⟩
theorem zfR {f : FuncId} {fn : Func} {c : Code} (hf : PP.funcs[f]? = some fn) (hb : fn.body = some c) (hq : ((fn.name == "runtime.NumGoroutine") || !(codeN fn.ntmps c && Nat.ble fn.ntmps 4294967296)) = false)
  {args : List V1} (t0 i t1 : Nat) (ts : List Nat) {res : List V1} (hts : fn.results.toList = (t0 :: t1 :: ts).map ResultVar.tmp) (hlr : (t1 :: ts).length = res.length) (hpn : (t0 :: t1 :: ts).Nodup) (hfl : res.all V1.flat = true) {e k n : Nat} {g : Nat -> Nat -> D} (hsz : Nat.ble args.length fn.ntmps = true)
  (h : awp PP TTab (EC []) c (St.of (argSlots 0 args) []) (retTO t0 i (t1 :: ts) res e k n g)) : SpecTO false PP f args e k n g res := by
 simp only [qI, qM, jP] at hq
 exact zjT (E := EC []) hT hE hM hf hb hq.1 hq.2.1 t0 i t1 ts hts hlr hpn hfl (jD hsz) (jD hq.2.2) h
section
variable {s : St} {o : Oper} {fo : Operand} {args : List Operand} {f : FuncId} {K : St -> Prop} {E : Env}
theorem CallSt.ownT {xs ys res : List V1} {d e k n : Nat} {g : Nat -> Nat -> D} (h : SpecTO E.dr PP f ys e k n g res) (hx : toV1c s fo args = some (f, xs)) (he : eqV1s xs ys) (hd : o.dst = some d) (hg : ∀ m j, m < n -> j < k -> (g m j).flat = true)
  (hk : K (Go.Pg.mk s d (.row e k n g) (.tupr d res))) : CallSt E PP s o fo args K := by
 obtain ⟨ex, h1, h2⟩ := zaA hx
 rw [zag]; exact .inr (.inl ⟨[], f, ex, d, h1, hd, by rw [zap]; exact ⟨xs, e, k, n, g, some res, h2, h.eqv he, hg, hk⟩⟩)
end
theorem zkU (s : Svc) (b : Brn) (l : List Rpt) (h0 : givE s b l = 0) : SpecTO false PP 101 [s.v, b.v, .d (lR l)] 52 2 (plcR s b l).1.length (rowP (plcR s b l).1) [.d (.int .i64 0)] := by
 have e : allR s b l = (l.map (alwP s b), 0) := by unfold allR; rw [kG (fun hh => hh h0)]
 have e1 : plcR s b l = (plsL s.c.M (metP (l.map (alwP s b))), 0) := by unfold plcR; rw [kG (fun hh => hh h0)]
 have ok := zgh h0
 have hn := ok.n
 rw [e1]
 refine zfR Tryz.func101 rfl (by kernel_rfl) 6 23 7 [] rfl rfl (by decide) rfl rfl ?_
 have ha := zp8 s b l
 rw [e] at ha
 refine CallSt.ro ha rfl rfl ?_
 refine sF ?_
 refine oL [0, 1, 2, 6003, 4, 5] (FzOb.no ?_)
 refine oP (zot (l.map (alwP s b)) (by rw [kS]; omega)) rfl rfl ?_
 refine ⟨⟨_, _, _, _, _, _, rfl, rfl, rfl, rfl, ?_⟩⟩
 rw [zap]
 refine ⟨_, _, _, _, _, none, rfl, zmQ s (metP (l.map (alwP s b))) ok.s.c.m, fun m j _ _ => ziz _ m j, ?_⟩
 exact ⟨rfl, ⟨obR rfl (dE _), trivial⟩, wq rfl⟩
theorem zkY {d : Day} (h : DayOk d) (ids : List Int) (hi : ids.length <= 1000000) (h1 : (brnD d ids).To - (brnD d ids).From <= d.Long) (h0 : givE d.s (brnD d ids) (lstD d ids) = 0) :
  SpecO PP 64 [d.v, .d (lI ids)] 52 2 (plsD d ids).length (rowP (plsD d ids)) := by
 have hn := h.n
 have e : plsD d ids = (plcR d.s (brnD d ids) (lstD d ids)).1 := by unfold plsD; rw [kH h1]
 rw [e]
 refine zc7 Tryz.func64 rfl (by kernel_rfl) rfl ?_
 refine cP (zk1 d ids (by omega) hi) rfl rfl ?_
 refine cP (zhc d (brnD d ids) (zht h ids)) rfl rfl ?_
 apply bY <;> intro h2
 ·have h2 : ¬ (brnD d ids).To - (brnD d ids).From <= d.Long := by simpa using h2
  exact absurd h1 h2
 refine oL [0, 1, 2, 3, 4, 5, 6006, 7, 8, 9, 10, 11] (FzOb.no ?_)
 refine CallOb.ro (zk0 d ids (by omega) hi) rfl rfl ?_
 refine ⟨⟨_, _, _, _, _, _, rfl, rfl, rfl, rfl, ?_⟩⟩
 rw [zap]
 refine ⟨_, _, _, _, _, some _, rfl, zkU d.s (brnD d ids) (lstD d ids) h0, fun m j _ _ => ziz _ m j, ?_⟩
 exact ⟨rfl, rfl, rfl, fun i hi j hj => dE _⟩
theorem zqh (d : Day) (ids : List Int) (hn : d.R.length <= 1000000) (hi : ids.length <= 1000000) (h0 : askE d ids = 0) (h1 : (brnD d ids).To - (brnD d ids).From <= d.Long) (hg : givE d.s (brnD d ids) (lstD d ids) = 0) :
  SpecTO false PP 19 [d.v, .d (lI ids)] 52 2 (plsD d ids).length (rowP (plsD d ids)) [.d (.int .i64 0)] := by
 refine zfR Tryz.func19 rfl (by kernel_rfl) 4 15 5 [] rfl rfl (by decide) rfl rfl ?_
 have ha := zk3 d ids hn hi
 rw [h0] at ha
 refine cP ha rfl rfl ?_
 refine sF ?_
 refine CallSt.own (zkY (zoK h0) ids hi h1 hg) rfl rfl (fun m j _ _ => ziz _ m j) ?_
 exact ⟨rfl, ⟨obR rfl (dE _), trivial⟩, wq rfl⟩
theorem giv12 : givE exS (brnD exD [1, 2]) (lstD exD [1, 2]) = 0 := by
 have e1 : brnD exD [1, 2] = ⟨100, 110, 0⟩ := by decide +kernel
 have e2 : lstD exD [1, 2] = [xq1, xq2] := by decide +kernel
 rw [e1, e2]
 refine zsd _ (by decide +kernel) _ (by decide) (fun r hr => ?_) (by decide +kernel)
 rcases kV.1 hr with rfl | hr
 ·exact rx1
 rcases kV.1 hr with rfl | hr
 ·exact rx2
 cases hr
theorem zsz : SpecTO false PP 19 [exD.v, .d (lI [1, 2])] 52 2 1 (rowP [⟨4, 4⟩]) [.d (.int .i64 0)] := by
 have h := zqh exD [1, 2] (by decide) (by decide) (ask3 [1, 2] (by decide +kernel) (by decide +kernel)) (by decide +kernel) giv12
 rw [c3] at h
 exact h
theorem zrH : Spec PP 21 [exD.v, .d (lI [1, 3])] [B false, .d (.int .i64 0)] := by
 have h := zji exD [1, 3] (by decide) (by decide)
 rw [zlZ] at h
 exact h
theorem few3 : Spec PP 29 [exD.v] [N 2, .d (.int .i64 0)] := by
 have h := zil exD (by decide)
 rw [zq3] at h
 exact h
theorem few4 : Spec PP 29 [exD4.v] [N 3, .d (.int .i64 0)] := by
 have h := zil exD4 (by decide)
 rw [zq2] at h
 exact h
abbrev vdL (a : Int) (m n : Nat) : V1 := .agg [I a, lenD m, lenD n]
theorem zjE {w : World} {ok : Nat -> Prop} (x : Vdt) {a : Int} (ha : x.Ans = a) : ∀ u, Rep1 w ok x.v u -> Rep1 w (fun _ => False) (vdL a x.T.length x.A.length) u := fun u ⟨us, e, h⟩ => by
 subst ha
 refine ⟨us, e, ?_⟩
 cases h with
 | cons h1 h =>
 cases h with
 | cons h2 h =>
 cases h with
 | cons h3 h =>
 cases h
 exact .cons (Rep.flat rfl h1) (.cons (zeY h2) (.cons (zeY h3) .nil))
theorem zrc {w : World} {ok : Nat -> Prop} {l : List Fit} {m : List Mis} : ∀ u, Rep1 w ok (.agg [lFt l, lMs m]) u -> Rep1 w (fun _ => False) (.agg [lenD l.length, lenD m.length]) u := fun u ⟨us, e, h⟩ => by
 refine ⟨us, e, ?_⟩
 cases h with
 | cons h1 h =>
 cases h with
 | cons h2 h =>
 cases h
 exact .cons (zeY h1) (.cons (zeY h2) .nil)
theorem zkV {f : Nat -> Nat -> D} {a b : Int} (h0 : D.eqv (f 0 0) (I a)) (h1 : D.eqv (f 1 0) (I b)) : D.eqv (.slc 1 2 f) (lI [a, b]) := ⟨rfl, .inr ⟨rfl, fun i hi j hj => by
 match i, hi, j, hj with
 | 0, _, 0, _ => exact h0
 | 1, _, 0, _ => exact h1⟩⟩
theorem zrk : Spec PP 14 [exD.v, N 1, N 2] [(samR exD 1 2).1.v, .d (.int .i64 0)] := by
 have h := zik exD 1 2 (by decide)
 rw [zfO.2] at h
 exact h
theorem zrj : Spec PP 14 [exD.v, N 1, N 3] [(samR exD 1 3).1.v, .d (.int .i64 0)] := by
 have h := zik exD 1 3 (by decide)
 rw [zfN.2] at h
 exact h
theorem zph : Spec PP 14 [exD4.v, N 1, N 2] [(samR exD4 1 2).1.v, .d (.int .i64 0)] := by
 have h := zik exD4 1 2 (by decide)
 rw [zfM.2] at h
 exact h
theorem tab3 : Spec PP 10 [exD.v] [.agg [lFt (tabR exD).1, lMs (tabR exD).2.1], .d (.int .i64 0)] := by
 have h := zqg exD (by decide)
 rw [zjI.2.2] at h
 exact h
theorem zpa {w : World} {ok : Nat -> Prop} : ∀ u, Rep1 w ok (.agg [lFt (tabR exD).1, lMs (tabR exD).2.1]) u -> Rep1 w (fun _ => False) (.agg [lenD 2, lenD 2]) u := fun u h => by
 have := zrc u h
 rw [zjI.1, zjI.2.1] at this
 exact this
theorem zrD {n : Nat} {g : Nat -> Nat -> D} (hn : n = 4) (hg : ∀ j, j < 8 -> D.eqv (g 0 j) (xq4.at j)) : D.eqv (.slc 8 n (appRow 3 (rowRp exR) g)) (lR exD4.R) := by
 subst hn
 refine ⟨rfl, .inr ⟨rfl, fun i hi j hj => ?_⟩⟩
 match i, hi with
 | 0, _ => exact dE (xq1.at j)
 | 1, _ => exact dE (xq2.at j)
 | 2, _ => exact dE (xq3.at j)
 | 3, _ => exact hg j hj
theorem x4 : ∀ j, j < 8 -> D.eqv (rowOf 8 xq4.ds 0 j) (xq4.at j) := fun j hj => by
 match j, hj with
 | 0, _ => exact ⟨rfl, rfl⟩
 | 1, _ => exact ⟨rfl, rfl⟩
 | 2, _ => exact ⟨rfl, rfl⟩
 | 3, _ => exact ⟨rfl, rfl⟩
 | 4, _ => exact ⟨rfl, rfl⟩
 | 5, _ => exact ⟨rfl, rfl⟩
 | 6, _ => exact ⟨rfl, rfl⟩
 | 7, _ => exact ⟨rfl, rfl⟩
theorem zoZ : Spec PP 8 [] [B true] := by
 refine sA Tryz.func8 ?_
 refine CallSt.obA [(0, .d (.bool false))] [] rfl rfl zjD ⟨rfl, trivial, wq rfl⟩ rfl rfl (fun j hj => by
  have hj : j ∈ [25] := hj
  obtain rfl := kL.1 hj
  rfl) rfl ?_
 refine CallSt.ownT zsz rfl ⟨zaa _, zkV ⟨rfl, rfl⟩ ⟨rfl, rfl⟩, trivial⟩ rfl (fun m j _ _ => ziz _ m j) ?_
 refine CallSt.pureE zrH rfl ⟨zaa _, zkV ⟨rfl, rfl⟩ ⟨rfl, rfl⟩, trivial⟩ rfl ?_
 refine CallSt.pureE few3 rfl ⟨zaa _, trivial⟩ rfl ?_
 refine CallSt.lendW [] rfl zrk rfl ⟨zaa _, ⟨rfl, rfl⟩, ⟨rfl, rfl⟩, trivial⟩ (fun w ok v h => zhF (y := .int .i64 0) rfl (zjE _ zfO.1) h) ?_
 refine CallSt.lendW [] rfl zrj rfl ⟨zaa _, ⟨rfl, rfl⟩, ⟨rfl, rfl⟩, trivial⟩ (fun w ok v h => zhF (y := .int .i64 0) rfl (zjE _ zfN.1) h) ?_
 refine CallSt.lendW [] rfl tab3 rfl ⟨zaa _, trivial⟩ (fun w ok v h => zhF (y := .int .i64 0) rfl zpa h) ?_
 repeat first | apply sT | apply sF
 refine ⟨⟨.inr rfl, by unfold maxLen; omega, by show (3 + 1) * 64 <= 140737488355328; omega⟩, ?_⟩
 refine CallSt.lendW [] rfl zph rfl ⟨⟨dE _, dE _, dE _, dE _, dE _, dE _, dE _, dE _, dE _, ?_, trivial⟩, ⟨rfl, rfl⟩, ⟨rfl, rfl⟩, trivial⟩ (fun w ok v h => zhF (y := .int .i64 0) rfl (zjE _ zfM.1) h) ?_
 ·exact zrD rfl x4
 refine CallSt.pureE few4 rfl ⟨⟨dE _, dE _, dE _, dE _, dE _, dE _, dE _, dE _, dE _, ?_, trivial⟩, trivial⟩ rfl ?_
 ·exact zrD rfl x4
 refine ⟨⟨by decide, by decide⟩, ?_⟩
 refine ⟨by decide, ?_⟩
 repeat first | apply sT | apply sF
 exact r1B rfl rfl
end Go.Pg
namespace Go.Pg
open Go.Proofs Go.RowKit Go.MapKept
end Go.Pg
namespace Go.Pg
open Go.Proofs Go.RowKit Go.Sort Go.Shelf
theorem zmU (ids : List Int) (m : Nat) : (memb ids m).Sublist ids := by
 have e : (List.range ids.length).map (ids.getD · 0) = ids := by
  apply List.ext_getElem (by simp)
  intro i h1 h2
  rw [List.getElem_map, List.getElem_range, hZ, kF h2]; rfl
 have : (memb ids m).Sublist ((List.range ids.length).map (ids.getD · 0)) := List.Sublist.map _ (jbn ..)
 rwa [e] at this
theorem DayOk.lt {d : Day} (h : DayOk d) : (sigL d.R).Pairwise (· < ·) := by
 refine List.Pairwise.imp₂ (fun a b h1 h2 => ?_) (zhO d.R) h.nod
 have h1 := qF h1
 have h2 : a ≠ b := h2
 omega
theorem znP {d : Day} (h : dayE d = 0) {m : Nat} (hne : memb (sigL d.R) m ≠ []) : askE d (memb (sigL d.R) m) = 0 := by
 have ok := zb2 h
 have hsub := zmU (sigL d.R) m
 have hp := ok.lt.sublist hsub
 have hr : setB (memb (sigL d.R) m) = true := by
  unfold setB risB
  rw [jP]
  refine ⟨jC.2 fun j hj => jG ?_, jG (ja0.2 hne)⟩
  have hj := kK.1 hj
  have h1 : j < (memb (sigL d.R) m).length := by omega
  have h2 : j + 1 < (memb (sigL d.R) m).length := by omega
  rw [hZ, hZ, kF h1, kF h2]
  exact jan.1 hp j (j + 1) h1 h2 (by omega)
 have hq : partB (memb (sigL d.R) m) (sigL d.R) = true := jC.2 fun x hx => kD.2 (hsub.subset hx)
 unfold askE
 rw [kG (fun hh => hh h), kG (by rw [hr]; decide), kG (by rw [hq]; decide)]
theorem zmW (ids : List Int) (a b : Nat) {x : Int} (h : (memb ids (a &&& b)).contains x = true) : (memb ids a).contains x = true := by
 have h := kD.1 h
 unfold memb membA at h
 obtain ⟨i, hi, e⟩ := kI.1 h
 rw [kT, jbk, jP] at hi
 exact kD.2 (kI.2 ⟨i, kT.2 ⟨hi.1, hi.2.1⟩, e⟩)
theorem zpc {k m : Nat} : k &&& m = k ↔ ∀ i, k.testBit i = true -> m.testBit i = true := by
 constructor
 ·intro h i hi
  rw [<- h, jbk, jP] at hi
  exact hi.2
 intro h
 apply jaX
 intro i
 rw [jbk]
 cases e : k.testBit i with
 | false => rfl
 | true => rw [h i e]; rfl
theorem ziS {n m i : Nat} (hm : m < 2 ^ n) (h : m.testBit i = true) : i < n := by
 rcases jar i n with h1 | h1
 ·exact h1
 rw [jaR (jN hm (jag (by decide) h1))] at h; cases h
theorem zqP {n m i j : Nat} (hn : n <= 7) (hm : m < 2 ^ n) (hi : i < n) : (offS m i).testBit j = (m.testBit j && decide (j ≠ i)) := by
 unfold offS
 rw [jbk]
 cases e : m.testBit j with
 | false => rfl
 | true =>
 have hj := ziS hm e
 have := allL (n := 7) (m := 7) (P := fun i j => (127 - 2 ^ i).testBit j == decide (j ≠ i)) (by decide +kernel) (show i < 7 by omega) (show j < 7 by omega)
 rw [eq_of_beq this]
theorem ziR (m i j : Nat) : (onS m i).testBit j = (m.testBit j || decide (i = j)) := by
 unfold onS
 rw [Nat.testBit_or, Nat.testBit_two_pow]
theorem zrW (m i : Nat) : offS m i <= m := Nat.and_le_left
theorem zpQ {m : Nat} (h : 0 < m) : ∃ i, m.testBit i = true := by
 refine jL fun hc => ?_
 have : m = 0 := by
  apply jaX
  intro i
  rw [Nat.zero_testBit]
  cases e : m.testBit i with
  | false => rfl
  | true => exact absurd ⟨i, e⟩ hc
 omega
theorem zp0 {ids : List Int} {m : Nat} (h0 : 0 < m) (hm : m < 2 ^ ids.length) : memb ids m ≠ [] := by
 obtain ⟨i, hi⟩ := zpQ h0
 have hl := ziS hm hi
 intro e
 have : ids.getD i 0 ∈ memb ids m := kI.2 ⟨i, kT.2 ⟨kK.2 hl, hi⟩, rfl⟩
 rw [e] at this
 cases this
theorem ziV {d : Day} (h : dayE d = 0) {m : Nat} (h0 : 0 < m) (hm : m < 2 ^ (sigL d.R).length) : (d.R.any fun r => (memb (sigL d.R) m).contains r.ID) = true := zqR (znP h (zp0 h0 hm))
theorem zhi {d : Day} (h : dayE d = 0) {m : Nat} (h0 : 0 < m) (hm : m < 2 ^ (sigL d.R).length) : fitX d m = decide (0 < (celD d m).length) := by
 unfold fitX
 rw [jG h0, qR, zo3 (zb2 h) (ziV h h0 hm)]
theorem znt {d : Day} (h : dayE d = 0) {k m : Nat} (h0 : 0 < k) (hs : k &&& m = k) (hm : m < 2 ^ (sigL d.R).length) (hp : fitX d m = true) : fitX d k = true := by
 have hk : k <= m := by rw [<- hs]; exact Nat.and_le_right
 rw [zhi h (by omega) hm] at hp
 rw [zhi h h0 (by omega)]
 obtain ⟨q, hq⟩ := List.exists_mem_of_length_pos (qF hp)
 refine jG (List.length_pos_of_mem (a := q) ?_)
 refine zkl (zb2 h) (A := memb (sigL d.R) m) (B := memb (sigL d.R) k) (fun x hx => ?_) (ziV h h0 (by omega)) hq
 rw [<- hs, Nat.and_comm] at hx
 exact zmW _ m k hx
theorem ziA {d : Day} (h : dayE d = 0) : ∀ M, M <= 2 ^ (sigL d.R).length -> ∀ m, 0 < m -> m < M -> fitK d (keysD d M) m = fitX d m
 | 0, _, m, _, hm => by omega
 | M + 1, hM, m, h0, hm => by
  have ih := ziA h M (by omega)
  have h7 := sig7 (zb2 h)
  by_cases e : m = M
  ·subst e
   have hpart : fitX d m = true -> partK d (keysD d m) m = true := fun hp => by
    unfold partK
    rw [jC]
    intro i hi
    have hi := kK.1 hi
    unfold parK
    by_cases e1 : offS m i = m
    ·simp [e1]
    by_cases e2 : offS m i = 0
    ·simp [e2]
    have hlt : offS m i < m := by have := zrW m i; omega
    have := ih (offS m i) (by omega) hlt
    rw [this, znt h (by omega) (k := offS m i) (m := m) (by
     rw [zpc]; intro j hj
     rw [zqP h7 (show m < _ by omega) hi, jP] at hj; exact hj.1) (by omega) hp]
    simp
   have hnot : (keysD d m).contains m = false := by
    rw [wA]; intro hc
    have := zdm d m m (kD.1 hc); omega
   rw [zhi h h0 (by omega)] at *
   unfold keysD
   split
   ·rename_i hk
    unfold fitK
    rw [show (keysD d m ++ [m]).contains m = true from kD.2 (by simp), qR]
   rename_i hk
   unfold fitK
   rw [hnot, qL]
   cases e3 : decide (0 < (celD d m).length) with
   | false => rfl
   | true => exact absurd ⟨by omega, hpart e3⟩ hk
  have hm' : m < M := by omega
  rw [<- ih m h0 hm']
  unfold fitK
  congr 1
  conv => lhs; unfold keysD
  split
  ·rw [kO, kD, kD, qA, kL]
   exact ⟨fun hh => hh.elim id fun e' => absurd e' e, .inl⟩
  rfl
theorem zqs {d : Day} (h : dayE d = 0) {m : Nat} (h0 : 0 < m) (hm : m < 2 ^ (sigL d.R).length) : fitK d (ksD d) m = fitX d m := ziA h _ (jE _) m h0 hm
theorem zdD {ids : List Int} {m j : Nat} (hm : m < 2 ^ j) : ∀ n, j <= n -> membA ids m n = membA ids m j
 | 0, h => by obtain rfl : j = 0 := Nat.le_zero.1 h; rfl
 | n + 1, h => by
  by_cases e : j = n + 1
  ·rw [e]
  have : m.testBit n = false := by
   cases q : m.testBit n with
   | false => rfl
   | true => have := ziS hm q; omega
  rw [zcl this]
  exact zdD hm n (by omega)
theorem zon {x i : Nat} (h : x < 2 ^ i) : x + 2 ^ i = onS x i := by
 have := Nat.two_pow_add_eq_or_of_lt h 1
 unfold onS
 rw [Nat.mul_one] at this
 rw [Nat.add_comm, this, Nat.or_comm]
theorem zev {ids : List Int} {a b : Nat} : ∀ {n : Nat}, (∀ j, j < n -> a.testBit j = b.testBit j) -> membA ids a n = membA ids b n
 | 0, _ => rfl
 | n + 1, h => by
  have ih := zev (ids := ids) (n := n) fun j hj => h j (by omega)
  have hn := h n (by omega)
  cases e : a.testBit n with
  | true => rw [zbG e, zbG (by rw [<- hn]; exact e), ih]
  | false => rw [zcl e, zcl (by rw [<- hn]; exact e), ih]
theorem zid {ids : List Int} {x i : Nat} (hx : x < 2 ^ i) (hi : i < ids.length) : memb ids (x + 2 ^ i) = memb ids x ++ [ids.getD i 0] := by
 have h1 : x + 2 ^ i < 2 ^ (i + 1) := by rw [Nat.pow_succ]; omega
 unfold memb
 rw [zdD h1 ids.length hi, zdD hx ids.length (by omega), zon hx, zbG (by rw [ziR]; simp)]
 congr 1
 refine zev fun j hj => ?_
 rw [ziR, jH (by omega), jad]
theorem zkF (ids : List Int) : memb ids 0 = [] := by
 unfold memb membA
 rw [List.filter_eq_nil_iff.2 (fun i _ => by simp)]
 rfl
theorem znn {l : List Nat} {f : Nat -> List Int} {q : Nat} (h : q < l.length) : (l.map f).getD q [] = f (l.getD q 0) := by
 rw [hZ, jU, hZ, kF h]; rfl
theorem snocInd {α : Type} {motive : List α -> Prop} (h0 : motive []) (h1 : ∀ l x, motive l -> motive (l ++ [x])) (l : List α) : motive l := by
 rw [<- List.reverse_reverse l]
 induction l.reverse with
 | nil => exact h0
 | cons x r ih => rw [List.reverse_cons]; exact h1 _ _ ih
theorem zlJ {ids : List Int} {ix : List Nat} (hr : Rg ix) (hl : ix.length = ids.length) : ∀ k i, i + k = ids.length -> bld (ids.drop i) ((bitK ix i).map (memb ids)) (ix.drop i) = setX ids ix
 | 0, i, h => by
  have e : i = ids.length := by omega
  subst e
  rw [jaQ, <- hl, jaQ]
  rfl
 | k + 1, i, h => by
  have hi : i < ids.length := by omega
  have hi2 : i < ix.length := by omega
  have d1 : ids.drop i = ids.getD i 0 :: ids.drop (i + 1) := by rw [kU hi, hZ, kF hi]; rfl
  have d2 : ix.drop i = ix.getD i 0 :: ix.drop (i + 1) := by rw [kU hi2, hZ, kF hi2]; rfl
  have hk := hr i hi2
  have hlen := zbC hr i (by omega)
  rw [d1, d2, <- zlJ hr hl k (i + 1) (by omega), zbo]
  show bld (ids.drop (i + 1)) (if _ then _ else _) (ix.drop (i + 1)) = _
  congr 1
  rw [kS]
  unfold bit1
  by_cases h1 : ix.getD i 0 < (bitK ix i).length
  ·rw [kH h1, kH h1, List.map_set]
   have hx : (bitK ix i).getD (ix.getD i 0) 0 < 2 ^ i := (zbB ix i _ (by rw [hZ, kF h1]; exact kN h1)).2
   rw [zid hx hi]
   congr 2
   exact znn h1
  rw [kG h1, kG h1, jT]
  have := zid (ids := ids) (x := 0) (Nat.two_pow_pos i) hi
  rw [kZ, zkF] at this
  show _ = _ ++ [memb ids (2 ^ i)]
  rw [this]; rfl
theorem zgA {ids : List Int} (hd : ids.Nodup) (h7 : ids.length <= 7) {m : Nat} : ∀ i, i <= ids.length -> ∀ j, (bitA ids (memb ids m) i).testBit j = (decide (j < i) && m.testBit j)
 | 0, _, j => by show (0 : Nat).testBit j = _; simp
 | i + 1, hi, j => by
  have ih := zgA hd h7 (m := m) i (by omega)
  have hb := zdf hd (m := m) (show i < ids.length by omega)
  rw [zcu]
  by_cases e : m.testBit i = true
  ·rw [kH (kD.2 (hb.2 e)), ziR, ih]
   by_cases e2 : i = j
   ·subst e2; simp [e]
   rw [jH e2, jad]
   congr 1
   exact kX.2 (by omega)
  rw [kG (fun hh => e (hb.1 (kD.1 hh))), ih]
  by_cases e2 : i = j
  ·subst e2
   rw [Bool.not_eq_true] at e
   rw [e, kM, kM]
  congr 1
  exact kX.2 (by omega)
theorem zlK {ids : List Int} (hd : ids.Nodup) (h7 : ids.length <= 7) {m : Nat} (hm : m < 2 ^ ids.length) : bitS ids (memb ids m) = m := by
 unfold bitS
 apply jaX
 intro j
 rw [zgA hd h7 _ (jE _)]
 cases e : m.testBit j with
 | false => rw [kM]
 | true => rw [jG (ziS hm e)]; rfl
abbrev gwD (d : Day) : List (List Nat) := gwX (fitX d) (sigL d.R).length []
theorem zpR {d : Day} (h : dayE d = 0) : parts d = (gwD d).map (setX (sigL d.R)) := by
 have ok := zb2 h
 have h7 := sig7 ok
 unfold parts gwD gwX
 rw [ze5]
 have e1 : (rgs (sigL d.R).length (mst [])).map (([] : List Nat) ++ ·) = rgs (sigL d.R).length 0 := by
  show (rgs (sigL d.R).length 0).map (fun x => [] ++ x) = _
  simp
 rw [e1]
 have hm : ∀ ix ∈ rgs (sigL d.R).length 0, Rg ix /\ ix.length = (sigL d.R).length := fun ix hx => zj2 _ [] zoc ix hx
 show List.filter _ ((rgs (sigL d.R).length 0).map (bld (sigL d.R) [])) = _
 generalize rgs (sigL d.R).length 0 = L at hm
 have hb : ∀ ix ∈ L, bld (sigL d.R) [] ix = setX (sigL d.R) ix := fun ix hx => by
  have := zlJ (hm ix hx).1 (hm ix hx).2 (sigL d.R).length 0 (kZ _)
  exact this
 rw [qB hb, List.filter_map]
 congr 1
 refine jbB fun ix hx => ?_
 show (setX (sigL d.R) ix).all _ = (bitX ix).all (fitX d)
 unfold setX
 rw [List.all_map, kO, jC, jC]
 refine forall_congr' fun m => forall_congr' fun hmm => ?_
 have hml := zbB ix ix.length m hmm
 rw [(hm ix hx).2] at hml
 show fitK d (ksD d) (bitS (sigL d.R) (memb (sigL d.R) m)) = true ↔ _
 rw [zlK ok.nod h7 hml.2, zqs h hml.1 hml.2]
def fwP1 (o : Int) (p : List (List Int)) : Int := if o < 0 \/ (p.length : Int) < o then (p.length : Int) else o
def fwP (l : List (List (List Int))) : Int := l.foldl fwP1 (-1)
theorem ziw (l : List (List (List Int))) (p : List (List Int)) : fwP (l ++ [p]) = fwP1 (fwP l) p := by unfold fwP; rw [wJ]; rfl
theorem zoz : ∀ {l : List (List (List Int))}, (fwP l < 0 -> l = []) /\ (∀ p ∈ l, fwP l <= (p.length : Int)) /\ (l ≠ [] -> ∃ p ∈ l, (p.length : Int) = fwP l) := by
 intro l
 induction l using snocInd with
 | h0 => exact ⟨fun _ => rfl, ⟨fun p hp => (by cases hp), fun h => absurd rfl h⟩⟩
 | h1 l p ih =>
 obtain ⟨a, b, c⟩ := ih
 rw [ziw]
 unfold fwP1
 by_cases h : fwP l < 0 \/ (p.length : Int) < fwP l
 ·rw [kH h]
  refine ⟨fun h' => by omega, fun q hq => ?_, fun _ => ⟨p, by simp, rfl⟩⟩
  rcases qA.1 hq with hq | hq
  ·have := b q hq
   rcases h with h | h
   ·rw [a h] at hq; cases hq
   omega
  rw [kL.1 hq]; exact ja2 _
 rw [kG h]
 refine ⟨fun h' => absurd (.inl h') h, fun q hq => ?_, fun _ => ?_⟩
 ·rcases qA.1 hq with hq | hq
  ·exact b q hq
  rw [kL.1 hq]; omega
 by_cases hl : l = []
 ·subst hl
  exact absurd (.inl (by show (-1 : Int) < 0; decide)) h
 obtain ⟨q, hq, e⟩ := c hl
 exact ⟨q, jaw _ hq, e⟩
theorem zlj {l : List (List (List Int))} (h : fltP (fwP l) l ≠ []) : ((((fltP (fwP l) l).getD 0 []).length : Nat) : Int) = fwP l := by
 have h0 : 0 < (fltP (fwP l) l).length := ja0.2 h
 have : (fltP (fwP l) l).getD 0 [] ∈ fltP (fwP l) l := by rw [hZ, kF h0]; exact kN h0
 have := (kT.1 this).2
 simpa using this
theorem zns {l : List (List (List Int))} (h : fltP (fwP l) l = []) : l = [] := by
 refine jL fun hl => ?_
 obtain ⟨p, hp, e⟩ := (zoz (l := l)).2.2 hl
 have : p ∈ fltP (fwP l) l := kT.2 ⟨hp, by simpa using e⟩
 rw [h] at this; cases this
theorem znJ (p : List (List Int)) : bst1 [] p = [p] := rfl
theorem zqK {o : List (List (List Int))} {p : List (List Int)} (h0 : 0 < o.length) (h : p.length < (o.getD 0 []).length) : bst1 o p = [p] := by
 have e : bst0 o p = [] := by unfold bst0; rw [jG h0, jG h]; rfl
 unfold bst1; rw [e]; rfl
theorem zlE {o : List (List (List Int))} {p : List (List Int)} (h : ¬ p.length < (o.getD 0 []).length) : bst0 o p = o := by unfold bst0; rw [jH h, kM]; rfl
theorem zlD {o : List (List (List Int))} {p : List (List Int)} (h : p.length = (o.getD 0 []).length) : bst1 o p = o ++ [p] := by
 unfold bst1; rw [zlE (by omega), jG h, kP]; rfl
theorem zqL {o : List (List (List Int))} {p : List (List Int)} (h0 : 0 < o.length) (h : (o.getD 0 []).length < p.length) : bst1 o p = o := by
 unfold bst1; rw [zlE (by omega), jH (by omega : ¬ o.length = 0), jH (by omega : ¬ p.length = (o.getD 0 []).length)]; rfl
theorem zoI : ∀ {l : List (List (List Int))}, bstL l = fltP (fwP l) l := by
 intro l
 induction l using snocInd with
 | h0 => rfl
 | h1 l p ih =>
 rw [zbN, ih, ziw, zli]
 obtain ⟨a, b, _⟩ := zoz (l := l)
 by_cases hn : fltP (fwP l) l = []
 ·have hl := zns hn
  subst hl
  have e : fwP1 (fwP []) p = (p.length : Int) := kH (Or.inl (show (-1 : Int) < 0 by decide))
  rw [hn, znJ, e, kH (jaP _)]
  rfl
 have hh := zlj hn
 have h0 : 0 < (fltP (fwP l) l).length := ja0.2 hn
 have hf : ¬ fwP l < 0 := by omega
 by_cases h1 : (p.length : Int) < fwP l
 ·have e : fwP1 (fwP l) p = (p.length : Int) := kH (Or.inr h1)
  rw [zqK h0 (by omega), e, kH (jaP _)]
  have : fltP (p.length : Int) l = [] := List.filter_eq_nil_iff.2 fun q hq => by
   have := b q hq
   simp; omega
  rw [this]; rfl
 have e : fwP1 (fwP l) p = fwP l := kG (fun hh => hh.elim hf h1)
 rw [e]
 by_cases h2 : (p.length : Int) = fwP l
 ·rw [zlD (by omega), kH (by simpa using h2)]
 rw [zqL h0 (by omega), kG (by simpa using h2)]
theorem fw_eq (ids : List Int) (l : List (List Nat)) : fwP (l.map (setX ids)) = fewN l := by
 unfold fwP fewN
 rw [List.foldl_map]
 congr 1
 funext o x
 show (if o < 0 \/ (((setX ids x).length : Nat) : Int) < o then (((setX ids x).length : Nat) : Int) else o) = few1 o x
 unfold setX few1
 rw [kS]
theorem zsn (ids : List Int) (k : Int) (l : List (List Nat)) : fltP k (l.map (setX ids)) = (wthX k l).map (setX ids) := by
 unfold fltP wthX
 rw [List.filter_map]
 congr 1
 refine jbB fun x _ => ?_
 show ((((setX ids x).length : Nat) : Int) == k) = _
 unfold setX
 rw [kS]
theorem zqJ {d : Day} (h : dayE d = 0) : bsts d = (bstX (fitX d) (sigL d.R).length).map (setX (sigL d.R)) := by
 show bstL (parts d) = _
 rw [zoI, zpR h, fw_eq, zsn]
 rfl
theorem zoQ (k : Int) (l : List (List Nat)) : (wthX k l).length <= l.length := qD _ _
def prR (d : Day) (a b : Int) : (Int × Int) × Int := if parE d a b ≠ 0 then ((0, 0), parE d a b) else ((idxL (· == a) (sigL d.R), idxL (· == b) (sigL d.R)), 0)
theorem zh4 (a b : Int) (l : List Int) : partB [a, b] l = (l.contains a && l.contains b) := by
 unfold partB
 simp
theorem zps (d : Day) (a b : Int) (hn : d.R.length <= 1000000) : Spec PP 58 [d.v, N a, N b] [.agg [I (prR d a b).1.1, I (prR d a b).1.2], .d (.int .i64 (prR d a b).2)] := by
 refine sA Tryz.func58 ?_
 refine cP (zmA d hn) rfl rfl ?_
 have bad : ∀ e : Int, e ≠ 0 -> parE d a b = e -> prR d a b = ((0, 0), e) := fun e h h2 => by unfold prR; rw [h2, kH h]
 apply bY <;> intro h0
 ·have h0 : dayE d ≠ 0 := by simpa using h0
  rw [bad (dayE d) h0 (by unfold parE; rw [kH h0])]
  exact ⟨rtC (a := 6) rfl rfl rfl rfl rfl rfl (zaa _), rtI rfl rfl, trivial⟩
 have h0 : dayE d = 0 := by simpa using h0
 have hs : (sigL d.R).length <= 1000000 := by rw [zbf]; exact jM (zbR _) hn
 refine CallSt.ro (zfX d hn) rfl rfl ?_
 refine cP (zmz (sigL d.R) a hs) rfl rfl ?_
 refine cP (zmz (sigL d.R) b hs) rfl rfl ?_
 have b5 : partB [a, b] (sigL d.R) = false -> prR d a b = ((0, 0), 5) := fun h => bad 5 (by decide) (by unfold parE; rw [kG (fun hh => hh h0), kH h])
 apply bY <;> intro h1
 ·have h1 : (!(sigL d.R).contains a) = true := by rw [<- znj]; exact h1
  rw [b5 (by rw [zh4]; simp at h1 ⊢; exact fun h => absurd h h1)]
  repeat first | apply sT | apply sF
  exact ⟨rtC (a := 6) rfl rfl rfl rfl rfl rfl (zaa _), rtI rfl rfl, trivial⟩
 have h1 : (sigL d.R).contains a = true := by
  have : (!(sigL d.R).contains a) = false := by rw [<- znj]; exact h1
  simpa using this
 repeat first | apply sT | apply sF
 apply bY <;> intro h2
 ·have h2 : (sigL d.R).contains b = false := by
   have : (!(sigL d.R).contains b) = true := by rw [<- znj]; exact h2
   simpa using this
  rw [b5 (by rw [zh4, h2, kM])]
  exact ⟨rtC (a := 6) rfl rfl rfl rfl rfl rfl (zaa _), rtI rfl rfl, trivial⟩
 have h2 : (sigL d.R).contains b = true := by
  have : (!(sigL d.R).contains b) = false := by rw [<- znj]; exact h2
  simpa using this
 have hp : partB [a, b] (sigL d.R) = true := by rw [zh4, h1, h2]; rfl
 apply bY <;> intro h3
 ·have h3 : a = b := by simpa using h3
  rw [bad 1 (by decide) (by unfold parE; rw [kG (fun hh => hh h0), kG (by rw [hp]; decide), kH h3])]
  exact ⟨rtC (a := 6) rfl rfl rfl rfl rfl rfl (zaa _), rtI rfl rfl, trivial⟩
 have h3 : ¬ a = b := by simpa using h3
 have e : prR d a b = ((idxL (· == a) (sigL d.R), idxL (· == b) (sigL d.R)), 0) := by
  have ep : parE d a b = 0 := by unfold parE; rw [kG (fun hh => hh h0), kG (by rw [hp]; decide), kG h3]
  unfold prR
  rw [kG (fun hh => hh ep)]
 rw [e]
 exact ⟨rtC (a := 6) rfl rfl rfl rfl rfl rfl (zaa _), rtI rfl rfl, trivial⟩
theorem zoY (a b : List Int) (hn : a.length <= 1000000) : Spec PP 12 [.d (lI a), .d (lI b)] [B (decide (a = b))] := by
 refine sA Tryz.func12 ?_
 apply bY <;> intro h0
 ·have h0 : ¬ a.length = b.length := fun e => by
   have : ¬ (a.length : Int) = b.length := by simpa using h0
   exact this (by rw [e])
  refine r1B rfl ?_
  exact (jH fun e => h0 (by rw [e])).symm
 have h0 : a.length = b.length := by
  have : (a.length : Int) = b.length := by simpa using h0
  omega
 refine LoopOb.of (σ := Nat) (fun i => ([(0, .d (lI a)), (1, .d (lI b)), (5, .d (I i))], [])) (fun i => i <= a.length /\ ∀ j, j < i -> a.getD j 0 = b.getD j 0) (fun i => a.length - i) 0
  ⟨rfl, trivial, wq rfl⟩ z0L fun i hi => ?_
 obtain ⟨hi, ha⟩ := hi
 apply bY <;> intro h1
 ·have h1 : i < a.length := by have := dT h1; omega
  refine oL (List.range 9) (FzOb.no ?_)
  refine ⟨⟨rfl, by omega, by omega⟩, ?_⟩
  refine ⟨⟨rfl, by omega, by omega⟩, ?_⟩
  apply bY <;> intro h3
  ·have h3 : a.getD i 0 ≠ b.getD i 0 := by simpa using h3
   refine r1B rfl ?_
   exact (jH fun e => h3 (by rw [e])).symm
  have h3 : a.getD i 0 = b.getD i 0 := by simpa using h3
  refine ⟨i6, ?_⟩
  refine ⟨i + 1, ⟨rfl, trivial, wq rfl⟩, ⟨h1, fun j hj => ?_⟩, msr h1⟩
  by_cases e : j = i
  ·subst e; exact h3
  exact ha j (by omega)
 have h1 : i = a.length := by have := dF h1; omega
 subst h1
 refine r1B rfl ?_
 symm
 refine jG ?_
 apply List.ext_getElem h0
 intro j hj hj'
 have := ha j hj
 rw [hZ, hZ, kF hj, kF hj'] at this
 exact this
theorem zoX (a b : List (List Int)) (hn : a.length <= 1000000) (hs : ∀ s ∈ a, s.length <= 1000000) : Spec PP 16 [.d (lII a), .d (lII b)] [B (decide (a = b))] := by
 refine sA Tryz.func16 ?_
 apply bY <;> intro h0
 ·have h0 : ¬ a.length = b.length := fun e => by
   have : ¬ (a.length : Int) = b.length := by simpa using h0
   exact this (by rw [e])
  refine r1B rfl ?_
  exact (jH fun e => h0 (by rw [e])).symm
 have h0 : a.length = b.length := by
  have : (a.length : Int) = b.length := by simpa using h0
  omega
 refine LoopOb.of (σ := Nat) (fun i => ([(0, .d (lII a)), (1, .d (lII b)), (5, .d (I i))], [])) (fun i => i <= a.length /\ ∀ j, j < i -> a.getD j [] = b.getD j []) (fun i => a.length - i) 0
  ⟨rfl, trivial, wq rfl⟩ z0L fun i hi => ?_
 obtain ⟨hi, ha⟩ := hi
 apply bY <;> intro h1
 ·have h1 : i < a.length := by have := dT h1; omega
  have hm : a.getD i [] ∈ a := by rw [hZ, kF h1]; exact kN h1
  refine oL (List.range 10) (FzOb.no ?_)
  refine ⟨⟨rfl, by omega, by omega⟩, ?_⟩
  refine ⟨⟨rfl, by omega, by omega⟩, ?_⟩
  refine oP (zoY (a.getD i []) (b.getD i []) (hs _ hm)) rfl rfl ?_
  apply bY <;> intro h3
  ·have h3 : a.getD i [] ≠ b.getD i [] := by simpa using h3
   refine r1B rfl ?_
   exact (jH fun e => h3 (by rw [e])).symm
  have h3 : a.getD i [] = b.getD i [] := by simpa using h3
  refine ⟨i6, ?_⟩
  refine ⟨i + 1, ⟨rfl, trivial, wq rfl⟩, ⟨h1, fun j hj => ?_⟩, msr h1⟩
  by_cases e : j = i
  ·subst e; exact h3
  exact ha j (by omega)
 have h1 : i = a.length := by have := dF h1; omega
 subst h1
 refine r1B rfl ?_
 symm
 refine jG ?_
 apply List.ext_getElem h0
 intro j hj hj'
 have := ha j hj
 rw [hZ, hZ, kF hj, kF hj'] at this
 exact this
theorem zfg {ix : List Nat} {i : Nat} : ∀ {k : Nat}, i < k -> k <= ix.length -> ix.getD i 0 < mst (ix.take k)
 | 0, h, _ => by omega
 | k + 1, h, hk => by
  rw [zdc (by omega)]
  by_cases e : i = k
  ·subst e; omega
  have := zfg (ix := ix) (i := i) (k := k) (by omega) (by omega); omega
theorem zoJ {ix : List Nat} (hr : Rg ix) : ∀ k, k <= ix.length -> ∀ q, q < (bitK ix k).length -> ∀ i, ((bitK ix k).getD q 0).testBit i = (decide (i < k) && (ix.getD i 0 == q))
 | 0, _, q, hq, i => by cases hq
 | k + 1, hk, q, hq, i => by
  have ih := zoJ hr k (by omega)
  have hlen := zbC hr k (by omega)
  have hc := hr k (by omega)
  rw [zbo] at hq ⊢
  unfold bit1 at hq ⊢
  have sp : (decide (i < k + 1) && (ix.getD i 0 == q)) = ((decide (i < k) && (ix.getD i 0 == q)) || (decide (i = k) && (ix.getD k 0 == q))) := by
   by_cases e : i = k
   ·subst e; simp
   rw [jH e, show decide (i < k + 1) = decide (i < k) from kX.2 (by omega)]; simp
  rw [sp]
  by_cases h1 : ix.getD k 0 < (bitK ix k).length
  ·rw [kH h1] at hq ⊢
   rw [jaT] at hq
   rw [zit h1]
   by_cases e : q = ix.getD k 0
   ·rw [kH e]
    have hx : (bitK ix k).getD (ix.getD k 0) 0 < 2 ^ k := (zbB ix k _ (by rw [hZ, kF h1]; exact kN h1)).2
    rw [zon hx, ziR, ih _ h1 i, <- e, jaP, jaa]
    congr 1
    exact kX.2 ⟨fun h => h.symm, fun h => h.symm⟩
   rw [kG e, ih q hq i, show (ix.getD k 0 == q) = false from jak.2 (fun h => e h.symm), kM, jad]
  rw [kG h1] at hq ⊢
  rw [jR, qW] at hq
  by_cases e : q < (bitK ix k).length
  ·rw [hZ, jJ e, <- hZ, ih q e i, show (ix.getD k 0 == q) = false from jak.2 (fun h => by omega), kM, jad]
  have eq : q = (bitK ix k).length := by omega
  rw [hZ, jK (by omega), eq, kE]
  show (2 ^ k).testBit i = _
  rw [Nat.testBit_two_pow, show (ix.getD k 0 == (bitK ix k).length) = true from jay.2 (by omega), jaa]
  have : (decide (i < k) && (ix.getD i 0 == (bitK ix k).length)) = false := by
   by_cases h : i < k
   ·have := zfg (ix := ix) h (by omega)
    rw [show (ix.getD i 0 == (bitK ix k).length) = false from jak.2 (by omega), kM]
   rw [jH h, qL]
  rw [this, jaq]
  exact kX.2 ⟨fun h => h.symm, fun h => h.symm⟩
def samI (i j : Nat) (ix : List Nat) : Bool := ix.getD i 0 == ix.getD j 0
theorem zq4 {ids : List Int} (hd : ids.Nodup) {ix : List Nat} (hr : Rg ix) (hl : ix.length = ids.length) {i j : Nat} (hi : i < ids.length) (hj : j < ids.length) : togB (ids.getD i 0) (ids.getD j 0) (setX ids ix) = samI i j ix := by
 have hb : ∀ q, q < (bitX ix).length -> ∀ i, i < ids.length -> ((memb ids ((bitX ix).getD q 0)).contains (ids.getD i 0) = true ↔ ix.getD i 0 = q) := fun q hq i hi => by
  rw [kD, zdf hd hi]
  have := zoJ hr ix.length (jE _) q hq i
  show (((bitK ix ix.length).getD q 0).testBit i = true ↔ _)
  rw [this, jG (by omega), qR, jay]
 unfold togB setX samI bthB
 rw [List.any_map, kO, kJ, jay]
 constructor
 ·rintro ⟨m, hm, h⟩
  obtain ⟨q, hq, rfl⟩ := qG hm
  have e : (bitX ix)[q] = (bitX ix).getD q 0 := by rw [hZ, kF hq]; rfl
  have h : ((memb ids (bitX ix)[q]).contains (ids.getD i 0) && (memb ids (bitX ix)[q]).contains (ids.getD j 0)) = true := h
  rw [e, jP, hb q hq i hi, hb q hq j hj] at h
  omega
 intro h
 have hq : ix.getD i 0 < (bitX ix).length := by
  have h1 := zbC hr ix.length (jE _)
  have h2 := zfg (ix := ix) (i := i) (k := ix.length) (by omega) (jE _)
  show _ < (bitK ix ix.length).length
  omega
 refine ⟨(bitX ix).getD (ix.getD i 0) 0, by rw [hZ (l := bitX ix), kF hq]; exact kN hq, ?_⟩
 show ((memb ids ((bitX ix).getD (ix.getD i 0) 0)).contains (ids.getD i 0) && (memb ids ((bitX ix).getD (ix.getD i 0) 0)).contains (ids.getD j 0)) = true
 rw [jP, hb _ hq i hi, hb _ hq j hj]
 exact ⟨rfl, h.symm⟩
def FI (p : List Nat -> Bool) (l : List (List Nat)) (k : Nat) (v : Int) : Prop := (v = -1 /\ (l.drop k).find? p = none) \/ ∃ q : Nat, v = (q : Int) /\ q < l.length /\ (l.drop k).find? p = some (l.getD q [])
theorem FI.start (p : List Nat -> Bool) (l : List (List Nat)) : FI p l l.length (-1) := .inl ⟨rfl, by rw [jaQ]; rfl⟩
theorem FI.yes {p : List Nat -> Bool} {l : List (List Nat)} {m : Nat} (hm : m < l.length) (h : p (l.getD m []) = true) : FI p l m (m : Int) := by
 have d1 : l.drop m = l.getD m [] :: l.drop (m + 1) := by rw [kU hm, hZ, kF hm]; rfl
 exact .inr ⟨m, rfl, hm, by rw [d1, List.find?_cons, h]⟩
theorem FI.no {p : List Nat -> Bool} {l : List (List Nat)} {m : Nat} {v : Int} (hm : m < l.length) (h : p (l.getD m []) = false) (hf : FI p l (m + 1) v) : FI p l m v := by
 have d1 : l.drop m = l.getD m [] :: l.drop (m + 1) := by rw [kU hm, hZ, kF hm]; rfl
 rcases hf with ⟨e, h2⟩ | ⟨q, e, hq, h2⟩
 ·exact .inl ⟨e, by rw [d1, List.find?_cons, h]; exact h2⟩
 exact .inr ⟨q, e, hq, by rw [d1, List.find?_cons, h]; exact h2⟩
def vdtX (ids : List Int) (l : List (List Nat)) (i j : Nat) : Vdt :=
 ⟨if l.any (samI i j) = true then (if (l.any fun x => !samI i j x) = true then 3 else 2) else 1, ((l.find? (samI i j)).map (setX ids)).getD [], ((l.find? fun x => !samI i j x).map (setX ids)).getD []⟩
theorem zb0 {p : List Nat -> Bool} {l : List (List Nat)} : l.any p = (l.find? p).isSome := by
 induction l with
 | nil => rfl
 | cons x l ih =>
 rw [List.any_cons, List.find?_cons]
 cases p x with
 | true => rfl
 | false => rw [jaq]; exact ih
theorem zj5 (ids : List Int) (l : List (List Nat)) (i j : Nat) (hi : ids.length <= 7) (hR : Rgs l) (hl : l.length <= 1000000) (hn : l ≠ []) (hx : ∀ x ∈ l, i < x.length /\ j < x.length) :
  Spec PP 60 [.d (lI ids), .d (lNN l), .agg [I i, I j]] [(vdtX ids l i j).v] := by
 refine sA Tryz.func60 ?_
 refine ⟨i6, ?_⟩
 refine LoopOb.of (σ := Nat × Int × Int) (fun x => ([(0, .d (lI ids)), (1, .d (lNN l)), (5, .box 5 0), (6, .box 6 0), (7, .box 7 0), (8, .d (I x.2.1)), (9, .d (I x.2.2)), (10, .d (I ((x.1 : Int) - 1)))], [(5, .box ([I i, I j].map AV.d)), (6, .box (List.replicate 3 .any)), (7, .box ([I 3, .nil, .nil].map AV.d))]))
  (fun x => x.1 <= l.length /\ FI (samI i j) l x.1 x.2.1 /\ FI (fun x => !samI i j x) l x.1 x.2.2) (fun x => x.1) (l.length, -1, -1)
  ⟨rfl, ⟨obD [I i, I j] rfl, zbk rfl rfl, obD [I 3, .nil, .nil] rfl, trivial⟩, wq rfl⟩ ⟨jE _, FI.start _ _, FI.start _ _⟩ fun ⟨k, one, two⟩ hk => ?_
 obtain ⟨hk, f1, f2⟩ := hk
 have hk : k <= l.length := hk
 have f1 : FI (samI i j) l k one := f1
 have f2 : FI (fun x => !samI i j x) l k two := f2
 apply bY <;> intro h1
 ·have h1 : 1 <= k := by have : (0 : Int) <= (k : Int) - 1 := dT h1; omega
  obtain ⟨m, rfl⟩ : ∃ m, k = m + 1 := ⟨k - 1, by omega⟩
  have hm : m < l.length := hk
  have em : (((m + 1 : Nat) : Int) - 1).toNat = m := by omega
  have hmm := hx (l.getD m []) (by rw [hZ, kF hm]; exact kN hm)
  refine oL (List.range 17) (FzOb.no ?_)
  refine ⟨⟨rfl, by omega, by show (((m + 1 : Nat) : Int) - 1) < (l.length : Int); omega⟩, ?_⟩
  refine ⟨by decide, ?_⟩
  refine ⟨⟨rfl, by omega, by show ((i : Nat) : Int) < ((l.getD (((m + 1 : Nat) : Int) - 1).toNat []).length : Int); rw [em]; omega⟩, ?_⟩
  refine ⟨⟨rfl, by omega, by show (((m + 1 : Nat) : Int) - 1) < (l.length : Int); omega⟩, ?_⟩
  refine ⟨by decide, ?_⟩
  refine ⟨⟨rfl, by omega, by show ((j : Nat) : Int) < ((l.getD (((m + 1 : Nat) : Int) - 1).toNat []).length : Int); rw [em]; omega⟩, ?_⟩
  have key : ((((l.getD (((m + 1 : Nat) : Int) - 1).toNat []).getD i 0 : Nat) : Int) == (((l.getD (((m + 1 : Nat) : Int) - 1).toNat []).getD j 0 : Nat) : Int)) = samI i j (l.getD m []) := by
   rw [em]
   unfold samI
   rw [kO, jay, jay]
   omega
  apply bY <;> intro h2
  ·have h2 : samI i j (l.getD m []) = true := key.symm.trans h2
   refine ⟨i6, ?_⟩
   refine ⟨(m, (m : Int), two), ⟨rfl, ⟨obD [I i, I j] rfl, zbk rfl rfl, obD [I 3, .nil, .nil] rfl, trivial⟩, avQ rfl, avQ rfl, avQ rfl, avQ rfl, avQ rfl, avI rfl (by show ((m + 1 : Nat) : Int) - 1 = (m : Int); omega), avQ rfl, avI rfl (by show ((m + 1 : Nat) : Int) - 1 - 1 = (m : Int) - 1; omega), trivial⟩, ⟨by show m <= l.length; omega, FI.yes hm h2, FI.no hm (by rw [h2]; rfl) f2⟩, Nat.lt_succ_self m⟩
  have h2 : samI i j (l.getD m []) = false := key.symm.trans h2
  refine ⟨i6, ?_⟩
  refine ⟨(m, one, (m : Int)), ⟨rfl, ⟨obD [I i, I j] rfl, zbk rfl rfl, obD [I 3, .nil, .nil] rfl, trivial⟩, avQ rfl, avQ rfl, avQ rfl, avQ rfl, avQ rfl, avQ rfl, avI rfl (by show ((m + 1 : Nat) : Int) - 1 = (m : Int); omega), avI rfl (by show ((m + 1 : Nat) : Int) - 1 - 1 = (m : Int) - 1; omega), trivial⟩, ⟨by show m <= l.length; omega, FI.no hm h2 f1, FI.yes hm (by rw [h2]; rfl)⟩, Nat.lt_succ_self m⟩
 have h1 : k = 0 := by have : ¬ (0 : Int) <= (k : Int) - 1 := dF h1; omega
 subst h1
 have gs : ∀ {q : Nat}, q < l.length -> Spec PP 72 [.d (lI ids), .d (lN (l.getD q []))] [.d (lII (setX ids (l.getD q [])))] := fun {q} hq => zpr ids _ (hR.get hq).1 (hR.get hq).2 hi
 have hne : l.any (samI i j) = true \/ (l.any fun x => !samI i j x) = true := by
  obtain ⟨x, hx'⟩ := List.exists_mem_of_ne_nil _ hn
  cases e : samI i j x with
  | true => exact .inl (kJ.2 ⟨x, hx', e⟩)
  | false => exact .inr (kJ.2 ⟨x, hx', by rw [e]; rfl⟩)
 rw [zb0, zb0] at hne
 unfold vdtX
 rw [zb0, zb0]
 have g1 : (one = -1 /\ l.find? (samI i j) = none) \/ ∃ q : Nat, one = (q : Int) /\ q < l.length /\ l.find? (samI i j) = some (l.getD q []) := f1
 have g2 : (two = -1 /\ l.find? (fun x => !samI i j x) = none) \/ ∃ q : Nat, two = (q : Int) /\ q < l.length /\ l.find? (fun x => !samI i j x) = some (l.getD q []) := f2
 clear f1 f2 hk
 rcases g1 with ⟨rfl, e1⟩ | ⟨q1, rfl, hq1, e1⟩ <;> rcases g2 with ⟨rfl, e2⟩ | ⟨q2, rfl, hq2, e2⟩
 ·rw [e1, e2] at hne
  rcases hne with h | h <;> cases h
 ·rw [e1, e2]
  refine Split.no (jH (show ¬ ((q2 : Nat) : Int) < 0 by omega)) ?_
  refine Split.yes rfl ?_
  refine Split.no rfl ?_
  refine Split.yes (jG (show (0 : Int) <= ((q2 : Nat) : Int) by omega)) ?_
  refine ⟨⟨rfl, by show (0 : Int) <= ((q2 : Nat) : Int); omega, by show ((q2 : Nat) : Int) < (l.length : Int); omega⟩, ?_⟩
  refine CallSt.ro (gs hq2) rfl rfl ?_
  exact ⟨rtC (a := 6) rfl rfl rfl rfl rfl rfl ⟨⟨rfl, rfl⟩, rfl, dE _, trivial⟩, trivial⟩
 ·rw [e1, e2]
  refine Split.yes rfl ?_
  refine Split.no (jH (show ¬ ((q1 : Nat) : Int) < 0 by omega)) ?_
  refine Split.yes (jG (show (0 : Int) <= ((q1 : Nat) : Int) by omega)) ?_
  refine ⟨⟨rfl, by show (0 : Int) <= ((q1 : Nat) : Int); omega, by show ((q1 : Nat) : Int) < (l.length : Int); omega⟩, ?_⟩
  refine CallSt.ro (gs hq1) rfl rfl ?_
  refine Split.no rfl ?_
  exact ⟨rtC (a := 6) rfl rfl rfl rfl rfl rfl ⟨⟨rfl, rfl⟩, dE _, rfl, trivial⟩, trivial⟩
 rw [e1, e2]
 refine Split.no (jH (show ¬ ((q2 : Nat) : Int) < 0 by omega)) ?_
 refine Split.no (jH (show ¬ ((q1 : Nat) : Int) < 0 by omega)) ?_
 refine Split.yes (jG (show (0 : Int) <= ((q1 : Nat) : Int) by omega)) ?_
 refine ⟨⟨rfl, by show (0 : Int) <= ((q1 : Nat) : Int); omega, by show ((q1 : Nat) : Int) < (l.length : Int); omega⟩, ?_⟩
 refine CallSt.ro (gs hq1) rfl rfl ?_
 refine Split.yes (jG (show (0 : Int) <= ((q2 : Nat) : Int) by omega)) ?_
 refine ⟨⟨rfl, by show (0 : Int) <= ((q2 : Nat) : Int); omega, by show ((q2 : Nat) : Int) < (l.length : Int); omega⟩, ?_⟩
 refine CallSt.ro (gs hq2) rfl rfl ?_
 exact ⟨rtC (a := 6) rfl rfl rfl rfl rfl rfl ⟨⟨rfl, rfl⟩, dE _, dE _, trivial⟩, trivial⟩
theorem zcK {α : Type} {p q : α -> Bool} : ∀ {l : List α}, (∀ x ∈ l, p x = q x) -> l.find? p = l.find? q
 | [], _ => rfl
 | x :: l, h => by
  rw [List.find?_cons, List.find?_cons, h x (jae ..), zcK fun y hy => h y (jai _ hy)]
theorem zqZ {ids : List Int} (hd : ids.Nodup) {l : List (List Nat)} (hl : ∀ x ∈ l, Rg x /\ x.length = ids.length) {i j : Nat} (hi : i < ids.length) (hj : j < ids.length) :
  vdtR (l.map (setX ids)) (ids.getD i 0) (ids.getD j 0) = vdtX ids l i j := by
 have h1 : ∀ x ∈ l, togB (ids.getD i 0) (ids.getD j 0) (setX ids x) = samI i j x := fun x hx => zq4 hd (hl x hx).1 (hl x hx).2 hi hj
 have f1 : l.find? (togB (ids.getD i 0) (ids.getD j 0) ∘ setX ids) = l.find? (samI i j) := zcK h1
 have f2 : l.find? ((fun p => !togB (ids.getD i 0) (ids.getD j 0) p) ∘ setX ids) = l.find? fun x => !samI i j x := zcK fun x hx => by
  show (!togB _ _ (setX ids x)) = _
  rw [h1 x hx]
 have g1 : (l.map (setX ids)).find? (togB (ids.getD i 0) (ids.getD j 0)) = (l.find? (samI i j)).map (setX ids) := by rw [List.find?_map, f1]
 have g2 : (l.map (setX ids)).find? (fun p => !togB (ids.getD i 0) (ids.getD j 0) p) = (l.find? fun x => !samI i j x).map (setX ids) := by rw [List.find?_map, f2]
 have any' : ∀ (p : List (List Int) -> Bool) (L : List (List (List Int))), L.any p = (L.find? p).isSome := fun p L => by
  induction L with
  | nil => rfl
  | cons x L ih =>
  rw [List.any_cons, List.find?_cons]
  cases p x with
  | true => rfl
  | false => rw [jaq]; exact ih
 unfold vdtR vdtX fstP
 rw [any', any', zb0, zb0, g1, g2, Option.isSome_map, Option.isSome_map]
theorem zoy {l : List Int} {x : Int} (h : l.contains x = true) : ∃ i : Nat, i < l.length /\ idxL (· == x) l = (i : Int) /\ l.getD i 0 = x := by
 rcases idxL_cases (· == x) l 0 with ⟨e, h1⟩ | ⟨i, hi, e, h1, _⟩
 ·have := zjk l x
  rw [e, h] at this
  cases this
 exact ⟨i, hi, e, eq_of_beq h1⟩
theorem zkp {d : Day} {a b : Int} (h : parE d a b = 0) : dayE d = 0 /\ (sigL d.R).contains a = true /\ (sigL d.R).contains b = true := by
 unfold parE at h
 split at h
 ·rename_i h1; exact absurd h h1
 rename_i h1
 split at h
 ·cases h
 rename_i h2
 have h2 : partB [a, b] (sigL d.R) = true := by simpa using h2
 rw [zh4, jP] at h2
 exact ⟨jL h1, h2⟩
theorem zpx (d : Day) (a b : Int) (hn : d.R.length <= 1000000) : Spec PP 15 [d.v, N a, N b] [.agg [I (samR d a b).1.Ans, lII (samR d a b).1.T, lII (samR d a b).1.A, I (samR d a b).2]] := by
 refine sA Tryz.func15 ?_
 have hp := zps d a b hn
 by_cases h0 : parE d a b = 0
 ·obtain ⟨hd, ha, hb⟩ := zkp h0
  have ok := zb2 hd
  have h7 := sig7 ok
  obtain ⟨i, hi, ei, rfl⟩ := zoy ha
  obtain ⟨j, hj, ej, rfl⟩ := zoy hb
  have ep : prR d ((sigL d.R).getD i 0) ((sigL d.R).getD j 0) = (((i : Int), (j : Int)), 0) := by unfold prR; rw [kG (fun hh => hh h0), ei, ej]
  rw [ep] at hp
  have es : samR d ((sigL d.R).getD i 0) ((sigL d.R).getD j 0) = if (bstX (fitX d) (sigL d.R).length).length = 0 then (⟨0, [], []⟩, 9) else (vdtX (sigL d.R) (bstX (fitX d) (sigL d.R).length) i j, 0) := by
   unfold samR
   rw [kG (fun hh => hh h0), zqJ hd, kS, zqZ (l := bstX (fitX d) (sigL d.R).length) ok.nod (fun x hx => ziq (kT.1 hx).1) hi hj]
  rw [es]
  have hbR : Rgs (bstX (fitX d) (sigL d.R).length) := fun x hx => zk9 h7 x (kT.1 hx).1
  have hbl : (bstX (fitX d) (sigL d.R).length).length <= 1000000 := jM (zoQ _ _) (zla h7)
  have hbx : ∀ x ∈ bstX (fitX d) (sigL d.R).length, i < x.length /\ j < x.length := fun x hx => by
   have := (ziq (kT.1 hx).1).2
   omega
  have hbest := zpw (fitX d) _ h7
  generalize bstX (fitX d) (sigL d.R).length = l at hbR hbl hbx hbest ⊢
  refine cP hp rfl rfl ?_
  refine sF ?_
  refine CallSt.ro (zfX d hn) rfl rfl ?_
  refine CallSt.ro (zpv ok) rfl rfl ?_
  refine CallSt.ro hbest rfl rfl ?_
  apply bY <;> intro h1
  ·have h1 : l.length = 0 := by
    have h1 : ((l.length : Nat) : Int) = 0 := by simpa using h1
    omega
   rw [kH h1]
   exact ⟨rtC (a := 6) rfl rfl rfl rfl rfl rfl ⟨⟨rfl, rfl⟩, rfl, rfl, ⟨rfl, rfl⟩, trivial⟩, trivial⟩
  have h1 : ¬ l.length = 0 := by
   have h1 : ¬ ((l.length : Nat) : Int) = 0 := by simpa using h1
   omega
  rw [kG h1]
  refine CallSt.ro (zj5 (sigL d.R) l i j h7 hbR hbl (fun e => h1 (by rw [e]; rfl)) hbx) rfl rfl ?_
  exact ⟨rtC (a := 6) rfl rfl rfl rfl rfl rfl (zaa _), trivial⟩
 have ep : prR d a b = ((0, 0), parE d a b) := by unfold prR; rw [kH h0]
 have es : samR d a b = (⟨0, [], []⟩, parE d a b) := by unfold samR; rw [kH h0]
 rw [ep] at hp
 rw [es]
 refine cP hp rfl rfl ?_
 refine Split.yes (by simpa using h0) ?_
 exact ⟨rtC (a := 6) rfl rfl rfl rfl rfl rfl ⟨⟨rfl, rfl⟩, rfl, rfl, ⟨rfl, rfl⟩, trivial⟩, trivial⟩
theorem zpi {d : Day} {a b : Int} : ((samR d a b).1.T.length <= 1000000 /\ ∀ s ∈ (samR d a b).1.T, s.length <= 1000000) /\ (samR d a b).1.A.length <= 1000000 /\ ∀ s ∈ (samR d a b).1.A, s.length <= 1000000 := by
 unfold samR
 split
 ·exact ⟨⟨jF _, fun s hs => by cases hs⟩, jF _, fun s hs => by cases hs⟩
 rename_i h0
 have h0 : parE d a b = 0 := jL h0
 split
 ·exact ⟨⟨jF _, fun s hs => by cases hs⟩, jF _, fun s hs => by cases hs⟩
 have ok := zom h0
 have key : ∀ p : List (List Int) -> Bool, (fstP p (bsts d)).length <= 1000000 /\ ∀ s ∈ fstP p (bsts d), s.length <= 1000000 := fun p => by
  unfold fstP
  cases hf : (bsts d).find? p with
  | none => exact ⟨jF _, fun s hs => by cases hs⟩
  | some x =>
  have hx := List.mem_of_find?_eq_some hf
  have hx : x ∈ parts d := by
   rw [show bsts d = fltP (fwP (parts d)) (parts d) from zoI] at hx
   exact (kT.1 hx).1
  obtain ⟨h1, h2⟩ := zf1 ok hx
  exact ⟨by show x.length <= _; omega, fun s hs => by have := h2 s hs; omega⟩
 exact ⟨key _, key _⟩
theorem zeh (a : List (List Int)) (h : a.length <= 1000000) (hs : ∀ s ∈ a, s.length <= 1000000) : Spec PP 16 [.d (lII a), .d (lII a)] [B true] := by
 have := zoX a a h hs
 rwa [jG rfl] at this
theorem s_JoinVerdicts (d : Day) (a b : Int) : Spec PP 4 [d.v, N a, N b] [B true] := by
 refine sA Tryz.func4 ?_
 refine cP zoZ rfl rfl ?_
 refine cP (zq1 d) rfl rfl ?_
 apply bY <;> intro h0
 ·exact r1B rfl rfl
 have hf : few7 d := by simpa using h0
 have hn := zsr hf
 have h1 := zik d a b (by omega)
 have h2 := zpx d a b (by omega)
 have hl := zpi (d := d) (a := a) (b := b)
 generalize samR d a b = x at h1 h2 hl
 obtain ⟨⟨t1, t2⟩, a1, a2⟩ := hl
 refine CallSt.ro h1 rfl rfl ?_
 refine CallSt.ro h2 rfl rfl ?_
 refine cP (zeh x.1.T t1 t2) rfl rfl ?_
 refine cP (zeh x.1.A a1 a2) rfl rfl ?_
 repeat first | apply sT | apply sF
 refine Split.yes (by simp) ?_
 repeat first | apply sT | apply sF
 exact r1B rfl (by simp)
theorem zhR {w : World} {ok : Nat -> Prop} : ∀ {xs ys : List D} {vs : List Value}, All2 (Rep w ok) xs vs -> eqvs xs ys -> All2 (Rep w ok) ys vs
 | [], [], _, h, _ => h
 | _ :: _, _ :: _, _, .cons h r, ⟨e, es⟩ => .cons (Rep.eqv h e) (zhR r es)
abbrev shI (k : Nat) : Sh := .sl k fun j => shSl.getD' (List.replicate k (.int .i64)) j
theorem zrg {k j : Nat} (h : j < k) : shSl.getD' (List.replicate k (.int .i64)) j = .int .i64 := by
 induction k generalizing j with
 | zero => omega
 | succ k ih =>
 cases j with
 | zero => rfl
 | succ j => exact ih (j := j) (by omega)
theorem fitI {α : Type} [Inhabited α] {k : Nat} {at_ : α -> Nat -> D} {x : D} (mkα : (Nat -> Int) -> α) (hk : ∀ g : Nat -> Int, ∀ j, j < k -> at_ (mkα g) j = I (g j)) (h : Fits (shI k) x) : ∃ l : List α, D.eqv x (.slc k l.length fun i => at_ (l.getD i default)) := by
 obtain ⟨l, _, _, e⟩ := fitsL (at_ := at_) mkα (fun j hj => zrg hj) hk h
 exact ⟨l, e⟩
abbrev shDay : List Sh := [.int .i64, .int .i64, shI 1, shI 4, shI 3, shI 8, shI 7, .int .i64, .int .i64, shI 8]
theorem rep_Day {w : World} {ok : Nat -> Prop} {xs : List D} {v : Value} (hr : Rep1 w ok (.agg xs) v) (h : All2 Fits shDay xs) : ∃ d : Day, Rep1 w ok d.v v := by
 obtain ⟨vs, e, hv⟩ := hr
 cases h with | cons h0 h =>
 cases h with | cons h1 h =>
 cases h with | cons h2 h =>
 cases h with | cons h3 h =>
 cases h with | cons h4 h =>
 cases h with | cons h5 h =>
 cases h with | cons h6 h =>
 cases h with | cons h7 h =>
 cases h with | cons h8 h =>
 cases h with | cons h9 h =>
 cases h
 obtain ⟨n0, -, rfl⟩ := h0
 obtain ⟨n1, -, rfl⟩ := h1
 obtain ⟨n7, -, rfl⟩ := h7
 obtain ⟨n8, -, rfl⟩ := h8
 obtain ⟨l2, e2⟩ := fitI (α := Int) (at_ := fun a _ => I a) (fun g => g 0) (fun g j hj => by
  match j, hj with
  | 0, _ => rfl) h2
 obtain ⟨l3, e3⟩ := fitI (α := Twr) (at_ := Twr.at) (fun g => ⟨g 0, ⟨g 1, g 2⟩, g 3⟩) (fun g j hj => by
  match j, hj with
  | 0, _ => rfl
  | 1, _ => rfl
  | 2, _ => rfl
  | 3, _ => rfl) h3
 obtain ⟨l4, e4⟩ := fitI (α := Hz) (at_ := Hz.at) (fun g => ⟨g 0, g 1, g 2⟩) (fun g j hj => by
  match j, hj with
  | 0, _ => rfl
  | 1, _ => rfl
  | 2, _ => rfl) h4
 obtain ⟨l5, e5⟩ := fitI (α := Cir) (at_ := Cir.at) (fun g => ⟨g 0, ⟨g 1, g 2⟩, g 3, g 4, g 5, g 6, g 7⟩) (fun g j hj => by
  match j, hj with
  | 0, _ => rfl
  | 1, _ => rfl
  | 2, _ => rfl
  | 3, _ => rfl
  | 4, _ => rfl
  | 5, _ => rfl
  | 6, _ => rfl
  | 7, _ => rfl) h5
 obtain ⟨l6, e6⟩ := fitI (α := Chk) (at_ := Chk.at) (fun g => ⟨g 0, g 1, g 2, ⟨g 3, g 4⟩, g 5, g 6⟩) (fun g j hj => by
  match j, hj with
  | 0, _ => rfl
  | 1, _ => rfl
  | 2, _ => rfl
  | 3, _ => rfl
  | 4, _ => rfl
  | 5, _ => rfl
  | 6, _ => rfl) h6
 obtain ⟨l9, e9⟩ := fitI (α := Rpt) (at_ := Rpt.at) (fun g => ⟨g 0, g 1, g 2, g 3, g 4, g 5, g 6, g 7⟩) (fun g j hj => by
  match j, hj with
  | 0, _ => rfl
  | 1, _ => rfl
  | 2, _ => rfl
  | 3, _ => rfl
  | 4, _ => rfl
  | 5, _ => rfl
  | 6, _ => rfl
  | 7, _ => rfl) h9
 exact ⟨⟨⟨⟨⟨n0, n1, l2⟩, l3, l4⟩, ⟨l5, l6⟩⟩, n7, n8, l9⟩, vs, e, zhR hv ⟨⟨rfl, rfl⟩, ⟨rfl, rfl⟩, e2, e3, e4, e5, e6, ⟨rfl, rfl⟩, ⟨rfl, rfl⟩, e9, trivial⟩⟩
theorem rep_lI {w : World} {ok : Nat -> Prop} {x : D} {v : Value} (hr : Rep1 w ok (.d x) v) (h : All2 Fits [shI 1] [x]) : ∃ l : List Int, Rep1 w ok (.d (lI l)) v := by
 cases h with
 | cons h _ =>
 obtain ⟨l, e⟩ := fitI (α := Int) (at_ := fun a _ => I a) (fun g => g 0) (fun g j hj => by
  match j, hj with
  | 0, _ => rfl) h
 exact ⟨l, Rep.eqv hr e⟩
end Go.Pg
