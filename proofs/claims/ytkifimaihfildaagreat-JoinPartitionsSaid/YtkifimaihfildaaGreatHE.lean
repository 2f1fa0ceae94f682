/- Texts joined and shortened by program. -/
import Derived.Test.YtkifimaihfildaaGreatHD
import Derived.Test.YtkifimaihfildaaGreatHA
import Derived.Test.YtkifimaihfildaaGreatH9
import Derived.Test.YtkifimaihfildaaGreatH8
import Derived.WideKeyRuns
import Derived.Test.YtkifimaihfildaaGreatHC
set_option maxHeartbeats 4000000
set_option linter.all false
set_option maxRecDepth 100000
namespace Go.Pg
open Go.Proofs Go.RowKit Go.Sort Go.Shelf
section
variable (ids : List Int) (g0 : FuncId) (c0 : D) (ok : List Int -> Bool)
theorem zrJ (hn : ids.length <= 7) (hok : ∀ s : List Int, s.length <= 7 -> Spec PP g0 [.d (lI s), .d c0] [B (ok s)]) : ∀ (k i : Nat) (ss : List (List Int)) (n : Nat), i + k = ids.length -> ss.length <= i -> (∀ s ∈ ss, s.length <= i) -> Sub (allP ids ok) n (prt ok (ids.drop i) ss) ->
  SpecY PP 151 ((allP ids ok).map enP) n (prt ok (ids.drop i) ss).length (putArgs ids g0 c0 i) (putObs ids g0 c0 ss) (putObs ids g0 c0 ss) [4, 3, 5] [B true] [B false]
 | 0, i, ss, n, hi, hs, hl, hsub => by
  obtain rfl : i = ids.length := by omega
  rw [jaX] at hsub ⊢
  exact zrI ids g0 c0 ok hn hok ss n (by omega) (fun s h => by have := hl s h; omega) hsub
 | k + 1, i, ss, n, hi, hs, hl, hsub => zrH ids g0 c0 ok hn i (by omega) ss n hs hl hsub fun ss n hs hl hsub => zrJ hn hok k (i + 1) ss n (by omega) hs hl hsub
def prtCap (j : Nat) : D := getD' [capB [lI ids], posD g0 c0] j
theorem zff (hn : ids.length <= 7) (hok : ∀ s : List Int, s.length <= 7 -> Spec PP g0 [.d (lI s), .d c0] [B (ok s)]) : SeqC PP 150 2 (prtCap ids g0 c0) enP (allP ids ok) := by
 refine zeX Tryz.func150 rfl (by kernel_rfl) rfl rfl enP _ fun l => ?_
 refine CallSt.cy (cuts := []) [(7, .clo 151 (putCaps ids g0 c0))] [] (zrJ ids g0 c0 ok hn hok ids.length 0 [] 0 (k9 _) (jE _) (fun s h => by cases h) ⟨[], rfl, List.prefix_rfl⟩) rfl rfl
  ⟨rfl, ⟨⟨⟨rfl, _, _, _, rfl⟩, trivial⟩, rfl, obX rfl, obX rfl, trivial⟩, wq rfl⟩ rfl rfl rfl rfl ?_ ?_
 ·exact .inl (jI (fun n => AV.gho (some n)) (k9 _))
 exact .inr rfl
theorem zga : Spec PP 103 [.d (lI ids), .d (cloB g0 [c0])] [.d (cloB 150 [capB [lI ids], posD g0 c0])] := by
 refine sA Tryz.func103 ?_
 refine ⟨⟨rfl, rfl, fun j hj => ?_⟩, trivial⟩
 match j, hj with
 | 0, _ => exact ⟨_, rfl, rfl, _, _, rfl, rfl, rfl, fun j hj => dE _⟩
 | 1, _ => exact ⟨_, rfl, rfl, _, _, rfl, rfl, rfl, fun j hj => dE _⟩
end
def bitA (ids s : List Int) (i : Nat) : Nat := (List.range i).foldl (fun b k => if s.contains (ids.getD k 0) = true then onS b k else b) 0
theorem zcv (ids s : List Int) (i : Nat) : bitA ids s (i + 1) = if s.contains (ids.getD i 0) = true then onS (bitA ids s i) i else bitA ids s i := by
 unfold bitA
 rw [qL, jaa]; rfl
theorem zlT (ids s : List Int) : ∀ i, i <= 7 -> bitA ids s i < 128
 | 0, _ => by show 0 < 128; decide
 | i + 1, h => by
  have := zlT ids s i (by omega)
  rw [zcv]
  split
  ·exact zrQ this (by omega)
  exact this
def bitS (ids s : List Int) : Nat := bitA ids s ids.length
abbrev lkC (d : Day) (ks : List Nat) : List D := d.ds ++ [lI (sigL d.R), cmap d ks]
theorem zr4 (d : Day) (ks : List Nat) (hn : (sigL d.R).length <= 7) (s : List Int) (hs : s.length <= 1000000) : Spec PP 104 [.d (lI s), .d (capB (lkC d ks))] [B (fitK d ks (bitS (sigL d.R) s))] := by
 refine sA Tryz.func104 ?_
 refine LoopOb.of (σ := Nat) (fun i => ([(0, .d (lI s)), (1, avOf (.d (capB (lkC d ks)))), (4, .d (I (bitA (sigL d.R) s i))), (8, .d (lI (sigL d.R))), (9, .d (I (sigL d.R).length)), (10, .d (I i))], [])) (fun i => i <= (sigL d.R).length) (fun i => (sigL d.R).length - i) 0
  ⟨rfl, trivial, wq rfl⟩ (jF _) fun i hi => ?_
 have hi : i <= (sigL d.R).length := hi
 apply bY <;> intro h1
 ·have h1 : i < (sigL d.R).length := by have := dT h1; omega
  have hb := zlT (sigL d.R) s i (by omega)
  refine ⟨⟨rfl, by omega, by omega⟩, ?_⟩
  refine cP (zei s ((sigL d.R).getD i 0) hs) rfl rfl ?_
  apply bY <;> intro h2
  ·have h2 : s.contains ((sigL d.R).getD i 0) = true := h2
   refine ⟨by omega, ?_⟩
   refine ⟨i6, ?_⟩
   refine ⟨i + 1, ⟨rfl, trivial, avQ rfl, avQ rfl, ?_, avQ rfl, avQ rfl, avQ rfl, trivial⟩, h1, msr h1⟩
   rw [zcv, kH h2]
   exact avQ (jI (fun n => AV.d (.int .i64 n)) (bOn hb (by omega)))
  have h2 : s.contains ((sigL d.R).getD i 0) = false := h2
  refine ⟨i6, ?_⟩
  refine ⟨i + 1, ⟨rfl, trivial, ?_⟩, h1, msr h1⟩
  rw [zcv, kG (by rw [h2]; decide)]
  exact wq rfl
 have h1 : i = (sigL d.R).length := by have := dF h1; omega
 subst h1
 refine cP (zex d ks (bitS (sigL d.R) s)) rfl rfl ?_
 exact r1B rfl rfl
abbrev allCs (d : Day) (ks : List Nat) : List D := [capB [lI (sigL d.R)], posD 104 (capB (lkC d ks))]
theorem zp8 (d : Day) (ks : List Nat) : Spec PP 66 [lkV d ks] [.d (cloB 150 (allCs d ks))] := by
 refine sA Tryz.func66 ?_
 refine CallSt.fzE [1] (zga (sigL d.R) 104 (capB (lkC d ks))) rfl ⟨dE _, ⟨rfl, rfl, fun j hj => by obtain rfl : j = 0 := wA.1 hj; exact dE _⟩, trivial⟩ rfl ?_
 exact ⟨dE _, trivial⟩
abbrev parts (d : Day) : List (List (List Int)) := prt (fun s => fitK d (ksD d) (bitS (sigL d.R) s)) (sigL d.R) []
theorem zfw {d : Day} (h : DayOk d) : SeqC PP 150 2 (prtCap (sigL d.R) 104 (capB (lkC d (ksD d)))) enP (parts d) :=
 zff (sigL d.R) _ _ _ (sig7 h) fun s hs => zr4 d (ksD d) (sig7 h) s (by omega)
theorem ze9 {α : Type} {ok : List α -> Bool} : ∀ {r : List α} {ss : List (List α)} {B : Nat} {x : List (List α)}, x ∈ prt ok r ss -> (∀ s ∈ ss, s.length <= B) -> x.length <= ss.length + r.length /\ ∀ s ∈ x, s.length <= B + r.length + 1
 | [], ss, B, x, h, hb => by
  unfold prt at h
  split at h
  ·obtain rfl := kL.1 h
   exact ⟨jE _, fun s hs => by have := hb s hs; simp; omega⟩
  ·cases h
 | a :: r, ss, B, x, h, hb => by
  unfold prt at h
  rcases qB.1 h with h | h
  ·obtain ⟨k, hk, h⟩ := List.mem_flatMap.1 h
   have hk := kJ.1 hk
   obtain ⟨h1, h2⟩ := ze9 (B := B + 1) h fun s hs => by
    rcases jbw hs with hs | rfl
    ·have := hb s hs; omega
    have hm : ss.getD k [] ∈ ss := by rw [hZ, kF hk]; exact kP hk
    have := hb _ hm
    rw [jR, wG]; omega
   rw [ja5] at h1
   exact ⟨by simp; omega, fun s hs => by have := h2 s hs; simp; omega⟩
  obtain ⟨h1, h2⟩ := ze9 (B := B + 1) h fun s hs => by
   rcases qB.1 hs with hs | hs
   ·have := hb s hs; omega
   obtain rfl := kL.1 hs; simp
  rw [jR] at h1
  exact ⟨by simp at h1 ⊢; omega, fun s hs => by have := h2 s hs; simp; omega⟩
theorem zpI {α : Type} (ok : List α -> Bool) (r : List α) (h : r.length <= 7) : (prt ok r []).length <= 877 := by
 rw [ze8]
 refine jM (kS _ _) ?_
 rw [kO]
 have : ∀ n, n < 8 -> (rgs n 0).length <= 877 := by decide +kernel
 exact this _ (by omega)
theorem zbF {d : Day} (h : DayOk d) : (parts d).length <= 877 := zpI _ _ (sig7 h)
theorem zf8 {d : Day} (h : DayOk d) {x : List (List Int)} (hx : x ∈ parts d) : x.length <= 7 /\ ∀ s ∈ x, s.length <= 8 := by
 have := sig7 h
 obtain ⟨h1, h2⟩ := ze9 (B := 0) hx (fun s hs => by cases hs)
 exact ⟨by simp at h1; omega, fun s hs => by have := h2 s hs; omega⟩
def bst0 (out : List (List (List Int))) (p : List (List Int)) : List (List (List Int)) := if decide (0 < out.length) && decide (p.length < (out.getD 0 []).length) then [] else out
def bst1 (out : List (List (List Int))) (p : List (List Int)) : List (List (List Int)) := if decide ((bst0 out p).length = 0) || decide (p.length = ((bst0 out p).getD 0 []).length) then bst0 out p ++ [p] else bst0 out p
def bstL (l : List (List (List Int))) : List (List (List Int)) := l.foldl bst1 []
theorem zbO (l : List (List (List Int))) (p : List (List Int)) : bstL (l ++ [p]) = bst1 (bstL l) p := by unfold bstL; rw [jaa]; rfl
theorem znS (o : List (List (List Int))) (p : List (List Int)) : (bst0 o p).length <= o.length := by
 unfold bst0
 split
 ·exact jF _
 exact jE _
theorem znR (o : List (List (List Int))) (p : List (List Int)) : (bst1 o p).length <= o.length + 1 := by
 have := znS o p
 unfold bst1
 split
 ·rw [jR]; simp; omega
 omega
theorem ziT : ∀ (l o : List (List (List Int))), (l.foldl bst1 o).length <= o.length + l.length
 | [], o => jE _
 | p :: l, o => by
  have h1 := ziT l (bst1 o p)
  have h2 := znR o p
  rw [jay, jbg]
  omega
theorem ziS (l : List (List (List Int))) : (bstL l).length <= l.length := by
 have := ziT l []
 unfold bstL
 simpa using this
abbrev rowPP (l : List (List (List Int))) : Nat -> Nat -> D := fun i _ => lII (l.getD i [])
theorem zh6 {l : List (List (List Int))} {p : List (List Int)} {g : Nat -> Nat -> D} (hg : D.eqv (g 0 0) (lII p)) : D.eqv (.slc 1 (l.length + 1) (appRow l.length (rowPP l) g)) (.slc 1 (l ++ [p]).length (rowPP (l ++ [p]))) := by
 refine ⟨by simp, .inr ⟨rfl, fun i hi j hj => ?_⟩⟩
 show D.eqv (appRow l.length (rowPP l) g i j) (lII ((l ++ [p]).getD i []))
 obtain rfl : j = 0 := by omega
 unfold appRow
 by_cases h : i < l.length
 ·rw [kH h, hZ (l := l ++ [p]), jJ h, <- hZ]
  exact dE _
 have e : i = l.length := by omega
 subst e
 rw [kG h, kE, hZ, jK (jE _), kE]
 exact hg
theorem nz_no {n : Nat} (h : 0 < n) : ((n : Int) == 0) = false := by simp; omega
theorem zrT {n : Nat} (h : n = 0) : ((n : Int) == 0) = true := by subst h; rfl
def obBst (pre : List (List (List Int))) : List (Nat × Ob) := [(3, .box [.own 34]), (34, .row 60 1 (bstL pre).length (rowPP (bstL pre)))]
theorem zrK (g : FuncId) (c1 c2 : D) (xs : List (List (List Int))) (hx : xs.length <= 1000) (hseq : SeqC PP g 2 (getD' [c1, c2]) enP xs) : Spec PP 96 [.d (cloB g [c1, c2])] [.d (lPP (bstL xs))] := by
 refine sA Tryz.func96 ?_
 refine CodeOb.rangeAt hseq rfl (fun _ => rfl) (by decide) [(3, .box 3 0)] [(3, 0)] obBst rfl (fun _ => rfl) ?_ (Iv := fun _ => True) trivial (fun v pre x hx' _ => ?_) (fun _ => ?_)
 ·exact ⟨rfl, ⟨obN rfl rfl rfl, obZ rfl rfl, trivial⟩, wq rfl⟩
 ·have hpl : pre.length < 1000 := by
   have := hx'.length_le
   rw [jR] at this; simp at this; omega
  have hlen := ziS pre
  have push : ∀ o : List (List (List Int)), o.length <= 1000 -> bst1 (bstL pre) x = o ++ [x] -> bst1 (bstL pre) x = o ++ [x] := fun _ _ h => h
  apply bY <;> intro h1
  ·have h1 : 0 < (bstL pre).length := by have := dT h1; omega
   refine ⟨⟨by omega, by omega⟩, ⟨by omega, ?_⟩⟩
   repeat first | apply sT | apply sF
   apply bY <;> intro h2
   ·have h2 : x.length < ((bstL pre).getD 0 []).length := by have : (x.length : Int) < ((bstL pre).getD 0 []).length := dT h2; omega
    have e0 : bst0 (bstL pre) x = [] := by unfold bst0; rw [kH (by rw [jG h1, jG h2]; rfl)]
    have e1 : bst1 (bstL pre) x = [] ++ [x] := by unfold bst1; rw [e0]; rfl
    repeat first | apply sT | apply sF
    refine ⟨⟨.inr rfl, by unfold maxLen; omega, by show (0 + 1) * 24 <= 140737488355328; omega⟩, ?_⟩
    refine ⟨trivial, rfl, ⟨obO rfl, obR rfl ?_, trivial⟩, wq rfl⟩
    rw [zbO, e1]
    refine ⟨rfl, .inr ⟨rfl, fun u hu w hw => ?_⟩⟩
    obtain rfl : w = 0 := wA.1 hw
    obtain rfl : u = 0 := wA.1 hu
    exact dE _
   have h2 : ¬ x.length < ((bstL pre).getD 0 []).length := by have : ¬ (x.length : Int) < ((bstL pre).getD 0 []).length := dF h2; omega
   have e0 : bst0 (bstL pre) x = bstL pre := by unfold bst0; rw [kG (by rw [jH h2, kN]; decide)]
   refine Split.no (nz_no h1) ?_
   refine ⟨⟨by omega, by omega⟩, ⟨by omega, ?_⟩⟩
   repeat first | apply sT | apply sF
   apply bY <;> intro h3
   ·have h3 : x.length = ((bstL pre).getD 0 []).length := by
     have : (x.length : Int) = ((bstL pre).getD 0 []).length := by simpa using h3
     omega
    have e1 : bst1 (bstL pre) x = bstL pre ++ [x] := by unfold bst1; rw [e0, kH (by rw [jG h3, kQ])]
    refine ⟨⟨.inr rfl, by unfold maxLen; omega, by show ((bstL pre).length + 1) * 24 <= 140737488355328; omega⟩, ?_⟩
    refine ⟨trivial, rfl, ⟨obO rfl, obR rfl ?_, trivial⟩, wq rfl⟩
    rw [zbO, e1]
    exact zh6 (dE _)
   have h3 : ¬ x.length = ((bstL pre).getD 0 []).length := fun e => by
    have : ¬ (x.length : Int) = ((bstL pre).getD 0 []).length := by simpa using h3
    exact this (by rw [e])
   have e1 : bst1 (bstL pre) x = bstL pre := by unfold bst1; rw [e0, kG (by rw [jH h3, jH (by omega)]; decide)]
   refine ⟨trivial, rfl, ⟨obO rfl, obR rfl ?_, trivial⟩, wq rfl⟩
   rw [zbO, e1]
   exact dE _
  have h1 : (bstL pre).length = 0 := by have := dF h1; omega
  have e0 : bst0 (bstL pre) x = bstL pre := by unfold bst0; rw [kG (by rw [jH (by omega), qP]; decide)]
  have e1 : bst1 (bstL pre) x = bstL pre ++ [x] := by unfold bst1; rw [e0, kH (by rw [jG h1, qO])]
  repeat first | apply sT | apply sF
  refine Split.yes (zrT h1) ?_
  repeat first | apply sT | apply sF
  refine ⟨⟨.inr rfl, by unfold maxLen; omega, by show ((bstL pre).length + 1) * 24 <= 140737488355328; omega⟩, ?_⟩
  refine ⟨trivial, rfl, ⟨obO rfl, obR rfl ?_, trivial⟩, wq rfl⟩
  rw [zbO, e1]
  exact zh6 (dE _)
 refine ⟨⟨_, _, _, _, rfl, ?_⟩, trivial⟩
 exact dE _
theorem ziU {o : List (List (List Int))} {p q : List (List Int)} (h : q ∈ bst0 o p) : q ∈ o := by
 unfold bst0 at h
 split at h
 ·cases h
 exact h
theorem bst1_mem {o : List (List (List Int))} {p q : List (List Int)} (h : q ∈ bst1 o p) : q ∈ o \/ q = p := by
 unfold bst1 at h
 split at h
 ·rcases qB.1 h with h | h
  ·exact .inl (ziU h)
  exact .inr (kL.1 h)
 exact .inl (ziU h)
theorem bstF_mem {q : List (List Int)} : ∀ {l o : List (List (List Int))}, q ∈ l.foldl bst1 o -> q ∈ o \/ q ∈ l
 | [], o, h => .inl h
 | p :: l, o, h => by
  rcases bstF_mem (l := l) h with h | h
  ·rcases bst1_mem h with h | rfl
   ·exact .inl h
   exact .inr (jap ..)
  exact .inr (jat _ h)
theorem znP {q : List (List Int)} {l : List (List (List Int))} (h : q ∈ bstL l) : q ∈ l := (bstF_mem h).resolve_left fun h => by cases h
abbrev bsts (d : Day) : List (List (List Int)) := bstL (parts d)
def bsR (d : Day) : List (List (List Int)) × Int := if (bsts d).length = 0 then ([], 9) else (bsts d, 0)
theorem zla {d : Day} (h : DayOk d) : Spec PP 56 [d.v] [.d (lPP (bsR d).1), .d (.int .i64 (bsR d).2)] := by
 refine sA Tryz.func56 ?_
 refine CallSt.ro (zis h) rfl rfl ?_
 refine CallSt.ro (zp8 d (ksD d)) rfl rfl ?_
 refine CallSt.ro (zrK 150 _ _ (parts d) (by have := zbF h; omega) (zfw h)) rfl rfl ?_
 unfold bsR
 apply bY <;> intro h1
 ·have h1 : (bsts d).length = 0 := by
   have : ((bsts d).length : Int) = 0 := by simpa using h1
   omega
  rw [kH h1]
  exact ⟨⟨_, _, _, _, rfl, rfl, .inl rfl⟩, rtI rfl rfl, trivial⟩
 have h1 : ¬ (bsts d).length = 0 := fun e => by
  have : ¬ ((bsts d).length : Int) = 0 := by simpa using h1
  exact this (by rw [e]; rfl)
 rw [kG h1]
 exact ⟨dE _, rtI rfl rfl, trivial⟩
def fewR (d : Day) : Int × Int := if dayE d ≠ 0 then (0, dayE d) else if (bsts d).length = 0 then (0, 9) else (((bsts d).getD 0 []).length, 0)
theorem zfx (d : Day) (hn : d.R.length <= 1000000) : Spec PP 29 [d.v] [N (fewR d).1, .d (.int .i64 (fewR d).2)] := by
 refine sA Tryz.func29 ?_
 refine cP (zcJ d hn) rfl rfl ?_
 unfold fewR
 apply bY <;> intro h0
 ·rw [kH (by simpa using h0)]
  exact ⟨rtI rfl rfl, rtI rfl rfl, trivial⟩
 have h0 : dayE d = 0 := by simpa using h0
 rw [kG (fun hh => hh h0)]
 refine CallSt.ro (zla (za1 h0)) rfl rfl ?_
 by_cases h1 : (bsts d).length = 0
 ·have e : bsR d = ([], 9) := by unfold bsR; rw [kH h1]
  rw [e, kH h1]
  refine sT ?_
  exact ⟨rtI rfl rfl, rtI rfl rfl, trivial⟩
 have e : bsR d = (bsts d, 0) := by unfold bsR; rw [kG h1]
 rw [e, kG h1]
 refine sF ?_
 refine ⟨⟨rfl, by omega, by show (0 : Int) < ((bsts d).length : Int); omega⟩, ?_⟩
 exact ⟨rtI rfl rfl, rtI rfl rfl, trivial⟩
def samR (d : Day) (a b : Int) : Vdt × Int := if parE d a b ≠ 0 then (⟨0, [], []⟩, parE d a b) else if (bsts d).length = 0 then (⟨0, [], []⟩, 9) else (vdtR (bsts d) a b, 0)
theorem zrE {d : Day} {a b : Int} (h : parE d a b = 0) : DayOk d := by
 unfold parE at h
 split at h
 ·rename_i h1; exact absurd h h1
 rename_i h1; exact za1 (jL h1)
theorem zlc (d : Day) (a b : Int) (hn : d.R.length <= 1000000) : Spec PP 14 [d.v, N a, N b] [(samR d a b).1.v, .d (.int .i64 (samR d a b).2)] := by
 refine sA Tryz.func14 ?_
 refine cP (zr3 d a b hn) rfl rfl ?_
 unfold samR
 apply bY <;> intro h0
 ·rw [kH (by simpa using h0)]
  exact ⟨rtC (a := 6) rfl rfl rfl rfl rfl rfl ⟨⟨rfl, rfl⟩, rfl, rfl, trivial⟩, rtI rfl rfl, trivial⟩
 have h0 : parE d a b = 0 := by simpa using h0
 have h := zrE h0
 rw [kG (fun hh => hh h0)]
 refine CallSt.ro (zla h) rfl rfl ?_
 by_cases h1 : (bsts d).length = 0
 ·have e : bsR d = ([], 9) := by unfold bsR; rw [kH h1]
  rw [e, kH h1]
  refine sT ?_
  exact ⟨rtC (a := 6) rfl rfl rfl rfl rfl rfl ⟨⟨rfl, rfl⟩, rfl, rfl, trivial⟩, rtI rfl rfl, trivial⟩
 have e : bsR d = (bsts d, 0) := by unfold bsR; rw [kG h1]
 rw [e, kG h1]
 refine sF ?_
 refine CallSt.ro (zk5 (bsts d) a b (by have : (bsts d).length <= (parts d).length := ziS (parts d); have := zbF h; omega) fun p hp => by
  have := zf8 h (znP hp)
  exact ⟨by omega, fun s hs => by have := this.2 s hs; omega⟩) rfl rfl ?_
 exact ⟨rtC (a := 6) rfl rfl rfl rfl rfl rfl (zaa _), rtI rfl rfl, trivial⟩
def fltP (k : Int) (l : List (List (List Int))) : List (List (List Int)) := l.filter fun p => ((p.length : Int) == k)
theorem zdP (k : Int) (l : List (List (List Int))) (p : List (List Int)) : fltP k (l ++ [p]) = if ((p.length : Int) == k) = true then fltP k l ++ [p] else fltP k l := by
 unfold fltP
 rw [kM]
 by_cases h : ((p.length : Int) == k) = true
 ·rw [kH h, kY (by exact h)]; rfl
 rw [kG h, kZ (by exact h)]; simp
def paR (d : Day) (k : Int) : List (List (List Int)) × Int := if dayE d ≠ 0 then ([], dayE d) else if within k 0 7 = false then ([], 1) else (fltP k (parts d), 0)
def obPar (d : Day) (k : Int) (pre : List (List (List Int))) : List (Nat × Ob) := [(3, .box [.d (I k)]), (7, .box [.own 28]), (28, .row 60 1 (fltP k pre).length (rowPP (fltP k pre)))]
theorem zgi (d : Day) (k : Int) (hn : d.R.length <= 1000000) : Spec PP 31 [d.v, N k] [.d (lPP (paR d k).1), .d (.int .i64 (paR d k).2)] := by
 refine sA Tryz.func31 ?_
 refine cP (zcJ d hn) rfl rfl ?_
 unfold paR
 apply bY <;> intro h0
 ·rw [kH (by simpa using h0)]
  exact ⟨⟨_, _, _, _, rfl, rfl, .inl rfl⟩, rtI rfl rfl, trivial⟩
 have h0 : dayE d = 0 := by simpa using h0
 have h := za1 h0
 rw [kG (fun hh => hh h0)]
 refine cP (zfv k 0 7) rfl rfl ?_
 apply bY <;> intro h1
 ·rw [kH (by simpa using h1)]
  exact ⟨⟨_, _, _, _, rfl, rfl, .inl rfl⟩, rtI rfl rfl, trivial⟩
 rw [kG (by simpa using h1)]
 refine CallSt.ro (zis h) rfl rfl ?_
 refine CallSt.ro (zp8 d (ksD d)) rfl rfl ?_
 refine CodeOb.rangeAt (zfw h) rfl (fun _ => rfl) (by decide) [(3, .box 3 0), (7, .box 7 0)] [(7, 0)] (obPar d k) rfl (fun _ => rfl) ?_ (Iv := fun _ => True) trivial (fun v pre x hx' _ => ?_) (fun _ => ?_)
 ·exact ⟨rfl, ⟨obX rfl, obN rfl rfl rfl, obZ rfl rfl, trivial⟩, wq rfl⟩
 ·have hpl : pre.length < 877 := by
   have := hx'.length_le
   have := zbF h
   simp at *; omega
  have hlen : (fltP k pre).length <= pre.length := kS _ _
  apply bY <;> intro h2
  ·have h2 : ((x.length : Int) == k) = true := h2
   refine ⟨⟨.inr rfl, by unfold maxLen; omega, by show ((fltP k pre).length + 1) * 24 <= 140737488355328; omega⟩, ?_⟩
   refine ⟨trivial, rfl, ⟨obX rfl, obO rfl, obR rfl ?_, trivial⟩, wq rfl⟩
   rw [zdP, kH h2]
   exact zh6 (dE _)
  have h2 : ((x.length : Int) == k) = false := h2
  refine ⟨trivial, rfl, ⟨obX rfl, obO rfl, obR rfl ?_, trivial⟩, wq rfl⟩
  rw [zdP, kG (by rw [h2]; decide)]
  exact dE _
 refine ⟨⟨_, _, _, _, rfl, ?_⟩, rtI rfl rfl, trivial⟩
 exact dE _
def cntL (n : Nat) (l : List (List (List Int))) : List Int := (List.range (n + 1)).map fun k => (((l.filter fun p => p.length == k).length : Nat) : Int)
theorem zfE (n : Nat) (l : List (List (List Int))) : (cntL n l).length = n + 1 := by simp [cntL]
theorem zbh {n : Nat} {l : List (List (List Int))} {k : Nat} (h : k < n + 1) : (cntL n l).getD k 0 = (((l.filter fun p => p.length == k).length : Nat) : Int) := by
 unfold cntL
 rw [hZ, jU, qX h]; rfl
def cnR (d : Day) : List Int × Int := if dayE d ≠ 0 then ([], dayE d) else (cntL (sigL d.R).length (parts d), 0)
def obCnt (d : Day) (pre : List (List (List Int))) : List (Nat × Ob) := [(6, .box [.own 19]), (19, .row 3 1 ((sigL d.R).length + 1) (rowI (cntL (sigL d.R).length pre)))]
theorem zmS {d : Day} {x : List (List Int)} (hx : x ∈ parts d) : x.length <= (sigL d.R).length := by
 have := (ze9 (B := 0) hx (fun s hs => by cases hs)).1
 simpa using this
theorem zqa (d : Day) (hn : d.R.length <= 1000000) : Spec PP 27 [d.v] [.d (lI (cnR d).1), .d (.int .i64 (cnR d).2)] := by
 refine sA Tryz.func27 ?_
 refine cP (zcJ d hn) rfl rfl ?_
 unfold cnR
 apply bY <;> intro h0
 ·rw [kH (by simpa using h0)]
  exact ⟨⟨_, _, _, _, rfl, rfl, .inl rfl⟩, rtI rfl rfl, trivial⟩
 have h0 : dayE d = 0 := by simpa using h0
 have h := za1 h0
 have h7 := sig7 h
 rw [kG (fun hh => hh h0)]
 refine CallSt.ro (zis h) rfl rfl ?_
 refine ⟨i6, ?_⟩
 have et : (((sigL d.R).length : Int) + 1).toNat = (sigL d.R).length + 1 := by omega
 refine ⟨⟨by omega, rfl, by rw [et]; show ((sigL d.R).length + 1) * 1 <= 16777216; omega, by rw [et]; show ((sigL d.R).length + 1) * 8 <= 140737488355328; omega⟩, ?_⟩
 refine CallSt.ro (zp8 d (ksD d)) rfl rfl ?_
 refine CodeOb.rangeAt (zfw h) rfl (fun _ => rfl) (by decide) [(6, .box 6 0)] [(6, 0)] (obCnt d) rfl (fun _ => rfl) ?_ (Iv := fun _ => True) trivial (fun v pre x hx' _ => ?_) (fun _ => ?_)
 ·refine ⟨rfl, ⟨obX rfl, obR rfl ⟨et, .inr ⟨rfl, fun i hi j hj => ?_⟩⟩, trivial⟩, wq rfl⟩
  rw [et] at hi
  obtain rfl : j = 0 := wA.1 hj
  show D.eqv (I 0) (I ((cntL (sigL d.R).length []).getD i 0))
  rw [zbh hi]
  exact ⟨rfl, rfl⟩
 ·have hpl : pre.length < 877 := by
   have := hx'.length_le
   have := zbF h
   simp at *; omega
  have hxm : x ∈ parts d := by
   obtain ⟨t, ht⟩ := hx'
   rw [<- ht]; simp
  have hle := zmS hxm
  have ex : ((x.length : Nat) : Int).toNat = x.length := qS _
  refine ⟨⟨by omega, by omega⟩, ⟨by omega, ?_⟩⟩
  have hg : (cntL (sigL d.R).length pre).getD (x.length : Int).toNat 0 = (((pre.filter fun p => p.length == x.length).length : Nat) : Int) := by rw [ex, zbh (by omega)]
  have hf : (pre.filter fun p => p.length == x.length).length <= pre.length := kS _ _
  refine ⟨by rw [hg]; exact i6, ?_⟩
  refine ⟨⟨by omega, by omega⟩, ⟨by omega, ?_⟩⟩
  refine ⟨trivial, rfl, ⟨obX rfl, obR rfl ⟨rfl, .inr ⟨rfl, fun i hi j hj => ?_⟩⟩, trivial⟩, wq rfl⟩
  obtain rfl : j = 0 := wA.1 hj
  show D.eqv (storeRow (rowI (cntL (sigL d.R).length pre)) (x.length : Int).toNat 0 [I ((cntL (sigL d.R).length pre).getD (x.length : Int).toNat 0 + 1)] i 0) (I ((cntL (sigL d.R).length (pre ++ [x])).getD i 0))
  rw [hg, ex, zbh hi, kM]
  unfold storeRow
  by_cases e : i = x.length
  ·subst e
   rw [kH ⟨rfl, jE _, by simp⟩, kY (by simp), jR]
   exact ⟨rfl, rfl⟩
  rw [kG fun hh => e hh.1, kZ (by simp; omega)]
  show D.eqv (I ((cntL (sigL d.R).length pre).getD i 0)) _
  rw [zbh hi]
  simp
  exact dE _
 refine ⟨⟨_, _, _, _, rfl, ?_⟩, rtI rfl rfl, trivial⟩
 refine ⟨(zfE _ _).symm, .inr ⟨rfl, fun i hi j hj => ?_⟩⟩
 exact dE _
def fitT (T : Nat -> List Place) (ks : List Nat) (m : Nat) : Bool := ks.contains m && decide (0 < (T m).length)
def partT (T : Nat -> List Place) (n : Nat) (ks : List Nat) (set : Nat) : Bool := (List.range n).all fun i => (offS set i == set) || (offS set i == 0) || fitT T ks (offS set i)
def growT (T : Nat -> List Place) (n : Nat) (ks : List Nat) (set : Nat) : Bool := (List.range n).any fun i => (onS set i != set) && fitT T ks (onS set i)
def keysT (T : Nat -> List Place) (n : Nat) : Nat -> List Nat
 | 0 => []
 | m + 1 => if m ≠ 0 /\ partT T n (keysT T n m) m = true then keysT T n m ++ [m] else keysT T n m
section
variable {d : Day} {T : Nat -> List Place} (h : ∀ m, celD d m = T m) {ids : List Int} (hi : sigL d.R = ids)
include h
theorem zlr : fitK d = fitT T := by
 funext ks m
 unfold fitK fitT
 rw [h]
include hi
theorem zor (ks : List Nat) (m : Nat) : partK d ks m = partT T ids.length ks m := by
 unfold partK partT parK
 rw [zlr h, hi]
theorem zr8 (ks : List Nat) (m : Nat) : growK d ks m = growT T ids.length ks m := by
 unfold growK growT groK
 rw [zlr h, hi]
theorem ziq : ∀ m, keysD d m = keysT T ids.length m
 | 0 => rfl
 | m + 1 => by
  unfold keysD keysT
  rw [ziq m, zor h hi]
theorem zkw : parts d = prt (fun s => fitT T (keysT T ids.length (2 ^ ids.length)) (bitS ids s)) ids [] := by
 unfold parts ksD
 rw [zlr h, ziq h hi, hi]
end
theorem p3 : parts exD = [[[1, 2], [3]], [[1], [2], [3]]] := by
 rw [zkw cel3 sig3]
 decide +kernel
theorem p4 : parts exD4 = [[[1], [2], [3]]] := by
 rw [zkw cel4 sig4]
 decide +kernel
theorem dE3 : dayE exD = 0 := by decide +kernel
theorem dE4 : dayE exD4 = 0 := by decide +kernel
theorem zqW : fewR exD = (2, 0) := by
 unfold fewR bsts
 rw [kG (fun hh => hh dE3), p3]
 decide +kernel
theorem zqV : fewR exD4 = (3, 0) := by
 unfold fewR bsts
 rw [kG (fun hh => hh dE4), p4]
 decide +kernel
theorem par3 (a b : Int) (h : partB [a, b] [1, 2, 3] = true) (hn : a ≠ b) : parE exD a b = 0 := by
 unfold parE
 rw [kG (fun hh => hh dE3), show sigL exD.R = [1, 2, 3] from sig3, kG (by rw [h]; decide), kG hn]
theorem par4 (a b : Int) (h : partB [a, b] [1, 2, 3] = true) (hn : a ≠ b) : parE exD4 a b = 0 := by
 unfold parE
 rw [kG (fun hh => hh dE4), show sigL exD4.R = [1, 2, 3] from sig4, kG (by rw [h]; decide), kG hn]
theorem zfW : (samR exD 1 2).1.Ans = 2 /\ (samR exD 1 2).2 = 0 := by
 unfold samR bsts
 rw [kG (fun hh => hh (par3 1 2 (by decide +kernel) (by decide))), p3]
 decide +kernel
theorem zfV : (samR exD 1 3).1.Ans = 1 /\ (samR exD 1 3).2 = 0 := by
 unfold samR bsts
 rw [kG (fun hh => hh (par3 1 3 (by decide +kernel) (by decide))), p3]
 decide +kernel
theorem zfU : (samR exD4 1 2).1.Ans = 1 /\ (samR exD4 1 2).2 = 0 := by
 unfold samR bsts
 rw [kG (fun hh => hh (par4 1 2 (by decide +kernel) (by decide))), p4]
 decide +kernel
theorem ask3 (ids : List Int) (h1 : setB ids = true) (h2 : partB ids [1, 2, 3] = true) : askE exD ids = 0 := by
 unfold askE
 rw [kG (fun hh => hh dE3), kG (by rw [h1]; decide), show sigL exD.R = [1, 2, 3] from sig3, kG (by rw [h2]; decide)]
theorem zl7 : celR exD [1, 3] = ([], 0) := by
 unfold celR
 rw [kG (fun hh => hh (ask3 [1, 3] (by decide +kernel) (by decide +kernel))), c5]
theorem zjP : (tabR exD).1.length = 2 /\ (tabR exD).2.1.length = 2 /\ (tabR exD).2.2 = 0 := by
 have e : tabR exD = (srtF (tabA (greB exD (ksD exD)) (fitF exD) (2 ^ (sigL exD.R).length)), srtM (tabA (leaB exD (ksD exD)) (misF exD) (2 ^ (sigL exD.R).length)), 0) := by unfold tabR; rw [kG (fun hh => hh dE3)]
 have g : ∀ m, greB exD (ksD exD) m = (fitT T3 (keysT T3 3 8) m && !growT T3 3 (keysT T3 3 8) m) := fun m => by
  unfold greB ksD
  rw [zlr cel3, zr8 cel3 sig3, ziq cel3 sig3, show sigL exD.R = [1, 2, 3] from sig3]; rfl
 have l : ∀ m, leaB exD (ksD exD) m = (!fitT T3 (keysT T3 3 8) m && partT T3 3 (keysT T3 3 8) m) := fun m => by
  unfold leaB ksD
  rw [zlr cel3, zor cel3 sig3, ziq cel3 sig3, show sigL exD.R = [1, 2, 3] from sig3]; rfl
 have hl : ∀ {α : Type} (p : Nat -> Bool) (f : Nat -> α) (n : Nat), (tabA p f n).length = (tabA p id n).length := fun p f n => by rw [zce p f, kO]
 rw [e]
 refine ⟨?_, ?_, rfl⟩
 ·show (srtF _).length = 2
  unfold srtF
  rw [qQ, hl, show sigL exD.R = [1, 2, 3] from sig3, show greB exD (ksD exD) = _ from funext g]
  decide +kernel
 show (srtM _).length = 2
 unfold srtM
 rw [qQ, hl, show sigL exD.R = [1, 2, 3] from sig3, show leaB exD (ksD exD) = _ from funext l]
 decide +kernel
def SpecA (P : Program) (f : FuncId) (args : List V1) (obs' : List (Nat × Ob)) (cs : List Cap) : Prop :=
 Ent P f /\ ∀ (w : World) (ok : Nat -> Prop) (vs : List Value), (∀ b, ok b -> b < w.heap.size) -> All2 (Rep1 w ok) args vs ->
  Calls P f vs.toArray w fun en w' => ∃ v γ', en = .returned v /\ FrM w w' γ' [] /\ OwnS w' (okM w w' ok γ' γ' [] obs') γ' obs' /\
   (∀ i o b, look obs' i = some o -> blk (γ' i) = some b -> w.heap.size <= b) /\ M w' (okM w w' ok γ' γ' [] obs') γ' (.aggc cs) v
def retA (a i : Nat) (obs' : List (Nat × Ob)) : KK := fun e s => match e with
 | .normal => Weak s [(a, .box i 0)] obs'
 | .ret => Weak s [(a, .box i 0)] obs'
 | _ => False
theorem zmn {P : Program} {T : TT} {E : Env} (hdr : E.dr = false) (hT : ∀ t i, T t = some i -> TI.of P t = some i) (hE : ∀ t, E.eq t = true -> EqFact P t) (hm : P.follows .mixedOrders = true)
  {f : FuncId} {fn : Func} {c : Code} (hf : P.funcs[f]? = some fn) (hb : fn.body = some c) (hn : (fn.name == "runtime.NumGoroutine") = false) (hN : codeN fn.ntmps c = true)
  {args : List V1} {obs' : List (Nat × Ob)} {cs : List Cap} (u i t : Nat) {ti : TI} (hts : fn.results.toList = [ResultVar.cell u t]) (ht : T t = some ti) (hld : loadE (St.of [(u, .box i 0)] obs') ti (.box i 0) fun z => z = .aggc cs) (hsz : args.length <= fn.ntmps) (hng : fn.ntmps <= G)
  (h : awp P T E c (St.of (argSlots 0 args) []) (retA u i obs')) : SpecA P f args obs' cs :=
 ⟨⟨fn, hf, hn, by rw [hb]; rfl⟩, fun w ok vs hok hm2 => zhp hT hE hm hf hb hN (cx := cx0 E.dr w ok fn.ntmps) id rfl rfl rfl (fun _ _ => id) (ze0 hok hm2 hsz hng) h
  (fun x h1 h2 s h => by cases x <;> first | exact h1 rfl | exact h2 rfl | exact h) fun x s a w' hx hk hR _ => by
  have k2 : Weak s [(u, .box i 0)] obs' := by rcases hx with rfl | rfl <;> exact hk
  obtain ⟨γ', hg⟩ := hR.weak k2
  have hs0 := hg.slots u
  have hsl : (St.of [(u, .box i 0)] obs').sl u = .box i 0 := by
   show (look [(u, AV.box i 0)] u).getD .any = _
   simp only [look, zat]; rfl
  rw [hsl] at hs0
  have hl0 : ∀ b, ¬ LentB γ' [] b := fun b ⟨j, o, h1, _⟩ => by cases h1
  have hok2 : ∀ b, okOf (cx0 E.dr w ok fn.ntmps) (St.of [(u, .box i 0)] obs') γ' w' b -> okM w w' ok γ' γ' [] obs' b := fun b hb => by
   rcases hb with hb | ⟨h1, h2, h3⟩
   ·exact .inl hb
   exact .inr ⟨.inl (h1.elim id False.elim), h2, fun ⟨j, p, g1, g2⟩ => h3 j p g1 g2⟩
  obtain ⟨z, v, g1, g2, _, rfl⟩ := zb8 hg (hT t ti ht) hs0 hld
  obtain ⟨b, hb1, hx1⟩ := id hs0
  have hv : (do loadVar t (← asAddr (a.tmps.getD u undef))).run P w' = .ok v w' := by
   rw [hx1] at g1 ⊢
   have g3 : (loadVar t ⟨b, 0, none⟩).run P w' = .ok v w' := by simpa [Instr.loadAt, Instr.sureAddr] using g1
   simpa [asAddr] using g3
  have hrun := zaL (P := P) (fn := fn) (a := a) (w := w') (vs := [v]) (by
   rw [hts, jbx]
   simp only [Sem.run_bind] at hv ⊢
   rw [hv]
   simp)
  refine ⟨_, hrun, v, γ', rfl, ⟨hg.below.os, hg.below.tape, hg.below.output, hg.below.size, fun k hk _ => hg.below.block k hk id⟩, ⟨fun i o hi => ?_, hg.refs, hg.sep, fun i o b hi hb hok' => ?_⟩, fun i o b hi hb => (zau hg hi hb).1.elim id False.elim, ?_⟩
  ·exact (hg.objs i o hi).reO rfl (fun _ _ _ _ _ _ => rfl) (fun _ _ => trivial) hok2
  ·rcases hok' with h1 | ⟨_, _, h3⟩
   ·exact zd2 hg (zau hg hi hb).1 h1
   exact h3 ⟨i, o, hi, hb⟩
  exact M.keep (fun b hb => ⟨hok2 b hb, rfl⟩) (fun _ _ => rfl) g2⟩
section
variable {s : St} {o : Oper} {fo : Operand} {f : FuncId} {K : St -> Prop} {E : Env}
theorem CallSt.obA (sl : List (Nat × AV)) (rest : List (Nat × Ob)) {obs' : List (Nat × Ob)} {cs : List Cap} (hdr : E.dr = false) {args : Array Operand} {at' : Array TypeId} (hop : o.op = .call { callee := .value fo, args, argTypes := at' }) {xs : List V1} (h : SpecA PP f xs obs' cs)
  (hw : Weak s sl rest) (hx : toV1c (St.of sl rest) fo args.toList = some (f, xs)) (hno : noOwn (St.of sl rest) args.toList = true) (hi : ∀ j ∈ (AV.aggc cs).refs, (look obs' j).isSome = true) (hc : goodM sl [] obs' rest [] = true)
  (hk : K ((St.of sl (obs' ++ rest)).putO o.dst (.aggc cs))) : CallSt E PP s o fo args.toList K := by
 obtain ⟨ex, h1, h2⟩ := zaA hx
 rw [zag]
 refine .inr (.inr (.inl ⟨_, ⟨fun cx a w hD hd hR => ?_⟩, hk⟩))
 obtain ⟨γ, hg⟩ := hR.weak hw
 obtain ⟨caps, hf, hcm⟩ := zaU h1 (ev_m hg fo).1
 have hm := (zbq hg h2 ((zbL hg args.toList).append hcm)).2 (zcl hno (zbi h1))
 refine .enter (zax hop hf h.1) ?_
 refine (h.2 w _ _ (fun b hb => zal hg hb) hm).mono fun en w' ⟨v, γ2, e0, hfr, ho, hn, hres⟩ => ?_
 have hl0 : ∀ (γ : Nat -> Value) b, ¬ LentB γ [] b := fun γ b ⟨j, o, h1, _⟩ => by cases h1
 have hM0 : ∀ b, okM w w' (okOf cx (St.of sl ([] ++ rest)) γ w) γ2 γ2 [] obs' b ↔ okM w w' (okOf cx (St.of sl ([] ++ rest)) γ w) γ γ2 [] obs' b := fun b =>
  ⟨fun hb => hb.imp id fun hb => ⟨hb.1.imp id fun h => absurd h (hl0 _ _), hb.2⟩, fun hb => hb.imp id fun hb => ⟨hb.1.imp id fun h => absurd h (hl0 _ _), hb.2⟩⟩
 obtain ⟨γ', hg', hγ, hM⟩ := RG.lendM (obs := []) (pins := []) (γ2 := γ2) hg (fun e => by have := hD e; rw [hdr] at this; cases this) ⟨hfr.os, hfr.tape, hfr.output, hfr.size, fun k hk _ => hfr.block k hk (hl0 _ _)⟩ (fun i hi => by cases hi)
  ⟨fun i o hi => (ho.objs i o hi).reO rfl (fun _ _ _ _ _ _ => rfl) (fun _ _ => trivial) fun b hb => (hM0 b).1 hb, ho.refs, ho.sep, fun i o b hi hb hk => ho.out i o b hi hb ((hM0 b).2 hk)⟩ (fun i o b hi hb => .inl (hn i o b hi hb)) hc
 refine ⟨_, e0, γ', hg'.putO hd (M.keep (fun b hb => ⟨hM b ((hM0 b).1 hb), rfl⟩) (fun j hj => hγ j (hi j hj)) hres) fun j hj => ?_⟩
 show (look (obs' ++ rest) j).isSome = true
 rw [zan]
 have := hi j hj
 cases e : look obs' j with
 | some x => rfl
 | none => rw [e] at this; cases this
theorem CallSt.lendW (ids : List Nat) {args : Array Operand} {at' : Array TypeId} (hop : o.op = .call { callee := .value fo, args, argTypes := at' }) {xs ys res res' : List V1} (h : SpecG E.dr PP f ys res) (hx : toV1c (s.freezes ids) fo args.toList = some (f, xs)) (he : eqV1s xs ys)
  (hw : ∀ w ok v, ResRep w ok res v -> ResRep w (fun _ => False) res' v) (hk : K (s.putO o.dst (resAV res'))) : CallSt E PP s o fo args.toList K := by
 obtain ⟨ex, h1, h2⟩ := zaA hx
 rw [zag]
 refine .inr (.inr (.inl ⟨_, ⟨fun cx a w hD hd hR => ?_⟩, hk⟩))
 obtain ⟨γ, hg⟩ := hR
 obtain ⟨γ', h'⟩ := R.freezes ids ⟨γ, hg⟩
 obtain ⟨cvs, hcx, hcm⟩ := zaU h1 (ev_m h' fo).1
 have hm := (zbq h' h2 ((zbL h' args.toList).append hcm)).1
 refine .enter (zax hop hcx h.1) ?_
 refine ((h.eqv he).2 w _ _ (fun b hb => hb) hm).mono fun en w' ⟨v, e, hb, hres⟩ => ⟨v, e, γ, ?_⟩
 exact (hg.grow hb.1 fun e => hb.2 (hD e)).putO hd (za0 (.inl fun b hb => hb.elim) (hw _ _ _ hres)) (fun j hj => by rw [zaB] at hj; cases hj)
end
theorem zeZ {w : World} {ok : Nat -> Prop} {k n : Nat} {f g : Nat -> Nat -> D} {v : Value} (h : Rep w ok (.slc k n f) v) : Rep w (fun _ => False) (.slc 0 n g) v := by
 rcases h with ⟨h, e⟩ | ⟨a, cap, e, h1, h2, _⟩
 ·exact .inl ⟨h, e⟩
 exact .inr ⟨a, cap, e, h1, h2, fun i _ j hj => absurd hj (qH _)⟩
abbrev lenD (n : Nat) : D := .slc 0 n fun _ _ => .nil
theorem zhN {w : World} {ok : Nat -> Prop} {x x' : V1} {y : D} {v : Value} (hy : y.flat = true) (hx : ∀ u, Rep1 w ok x u -> Rep1 w (fun _ => False) x' u) (h : ResRep w ok [x, .d y] v) : ResRep w (fun _ => False) [x', .d y] v := by
 obtain ⟨vs, e, h⟩ := h
 cases h with
 | cons a b =>
 cases b with
 | cons c d =>
 cases d
 exact ⟨_, e, .cons (hx _ a) (.cons (Rep1.flat (x := .d y) hy c) .nil)⟩
theorem zmo (ids : List Nat) {f : FuncId} {fn : Func} {c : Code} (hf : PP.funcs[f]? = some fn) (hb : fn.body = some c) (hq : ((fn.name == "runtime.NumGoroutine") || !(codeN fn.ntmps c && Nat.ble fn.ntmps 4294967296)) = false)
  {args : List V1} {obs' : List (Nat × Ob)} {cs : List Cap} (u i t : Nat) {ti : TI} (hts : fn.results.toList = [ResultVar.cell u t]) (ht : TTab t = some ti) (hld : loadE (St.of [(u, .box i 0)] obs') ti (.box i 0) fun z => z = .aggc cs) (hsz : Nat.ble args.length fn.ntmps = true)
  (h : awp PP TTab (EC ids) c (St.of (argSlots 0 args) []) (retA u i obs')) : SpecA PP f args obs' cs := by
 simp only [qI, qK, jP] at hq
 exact zmn (E := EC ids) rfl hT hE hM hf hb hq.1 hq.2.1 u i t hts ht hld (jD hsz) (jD hq.2.2) h
abbrev exP : List D := [I 9, I 9, lI exS.c.M.G, lT exS.c.T, lZ exS.c.Z, lC exS.k.C, lK exS.k.K, I 0, I 60]
abbrev exOb : List (Nat × Ob) := [(0, .box (exP.map AV.d ++ [.own 25])), (25, .row 102 8 3 (rowRp exR))]
abbrev exCs : List Cap := exP.map Cap.dat ++ [.own 25]
theorem zjJ : SpecA PP 33 [] exOb exCs := by
 refine zmo [6] Tryz.func33 rfl (by kernel_rfl) 0 0 37 rfl rfl rfl rfl ?_
 refine ⟨⟨by decide, rfl, by decide, by decide⟩, ?_⟩
 refine CutOb.at [(0, .box 0 0), (1, .box 1 0)] [(0, .box (List.replicate 10 .any)), (1, .box (exP.map AV.d ++ [.own 25])), (25, .row 102 8 3 (rowRp exR))] ⟨rfl, ⟨zbj rfl rfl, ?_, obR rfl ⟨rfl, .inr ⟨rfl, fun i hi j hj => ?_⟩⟩, trivial⟩, wq rfl⟩ ?_
 ·refine ⟨⟨rfl, rfl⟩, ⟨rfl, rfl⟩, ⟨rfl, .inr ⟨rfl, fun i hi j hj => ?_⟩⟩, ⟨rfl, _, _, _, _, rfl, rfl, .inr ⟨rfl, fun i hi j hj => ?_⟩⟩, rfl, ⟨rfl, _, _, _, _, rfl, rfl, .inr ⟨rfl, fun i hi j hj => ?_⟩⟩, rfl, ⟨rfl, rfl⟩, ⟨rfl, rfl⟩, rfl, trivial⟩
  ·have hj : j < 1 := hj
   obtain rfl : j = 0 := by omega
   show D.eqv (I 0) (I ((List.replicate 81 (0 : Int)).getD i 0))
   have : (List.replicate 81 (0 : Int)).getD i 0 = 0 := by
    rw [hZ, List.getElem?_replicate]
    split <;> rfl
   rw [this]
   exact ⟨rfl, rfl⟩
  ·have hi : i < 2 := hi
   have hj : j < 4 := hj
   obtain rfl | rfl : i = 0 \/ i = 1 := by omega
   all_goals match j, hj with
   | 0, _ => exact ⟨rfl, rfl⟩
   | 1, _ => exact ⟨rfl, rfl⟩
   | 2, _ => exact ⟨rfl, rfl⟩
   | 3, _ => exact ⟨rfl, rfl⟩
  have hi : i < 2 := hi
  have hj : j < 8 := hj
  obtain rfl | rfl : i = 0 \/ i = 1 := by omega
  all_goals match j, hj with
  | 0, _ => exact ⟨rfl, rfl⟩
  | 1, _ => exact ⟨rfl, rfl⟩
  | 2, _ => exact ⟨rfl, rfl⟩
  | 3, _ => exact ⟨rfl, rfl⟩
  | 4, _ => exact ⟨rfl, rfl⟩
  | 5, _ => exact ⟨rfl, rfl⟩
  | 6, _ => exact ⟨rfl, rfl⟩
  | 7, _ => exact ⟨rfl, rfl⟩
 ·have hi : i < 3 := hi
  have hj : j < 8 := hj
  obtain rfl | rfl | rfl : i = 0 \/ i = 1 \/ i = 2 := by omega
  all_goals match j, hj with
  | 0, _ => exact ⟨rfl, rfl⟩
  | 1, _ => exact ⟨rfl, rfl⟩
  | 2, _ => exact ⟨rfl, rfl⟩
  | 3, _ => exact ⟨rfl, rfl⟩
  | 4, _ => exact ⟨rfl, rfl⟩
  | 5, _ => exact ⟨rfl, rfl⟩
  | 6, _ => exact ⟨rfl, rfl⟩
  | 7, _ => exact ⟨rfl, rfl⟩
 exact ⟨rfl, ⟨obX rfl, obR rfl (dE _), trivial⟩, wq rfl⟩
theorem zmY (s : Svc) (P : Nat -> Bool) (hv : validM s.c.M = true) : SpecO PP 147 [s.v, .agg (bD P)] 52 2 (plsL s.c.M P).length (rowP (plsL s.c.M P)) := by
 have hl := zc7 hv
 refine zc8 Tryz.func147 rfl (by kernel_rfl) rfl ?_
 refine CallSt.ro (zfr s.c.M) rfl rfl ?_
 refine CodeOb.rangeAt (zdk s.c.M hv) rfl (fun _ => rfl) (by decide) [(2, .box 2 0), (3, .box 3 0), (5, .box 5 0)] [(5, 0)] (fun pre => obPls s P pre.length) rfl (fun _ => rfl) ?_ (Iv := fun _ => True) trivial (fun v pre x hx _ => ?_) (fun _ => ?_)
 ·exact ⟨rfl, ⟨obX rfl, obX rfl, obN rfl rfl rfl, obZ rfl rfl, trivial⟩, wq rfl⟩
 ·obtain ⟨rfl, hk⟩ := zhV hx
  have hn := zcg hv (k := pre.length)
  have hp := zpW P pre.length (by omega)
  rw [<- hn] at hp
  have hlen := zfc s.c.M P pre.length
  refine cP hp rfl rfl ?_
  apply bY <;> intro h1
  ·refine ⟨⟨.inr rfl, by unfold maxLen; omega, by show ((plsK s.c.M P pre.length).length + 1) * 16 <= 140737488355328; omega⟩, ?_⟩
   refine ⟨trivial, rfl, ⟨obX rfl, obX rfl, obO rfl, obR rfl ?_, trivial⟩, wq rfl⟩
   rw [jR]
   show D.eqv _ (.slc 2 (plsK s.c.M P (pre.length + 1)).length (rowP (plsK s.c.M P (pre.length + 1))))
   rw [zfb h1]
   exact zmQ (at2 rfl rfl)
  refine ⟨trivial, rfl, ⟨obX rfl, obX rfl, obO rfl, obR rfl ?_, trivial⟩, wq rfl⟩
  rw [jR]
  show D.eqv _ (.slc 2 (plsK s.c.M P (pre.length + 1)).length (rowP (plsK s.c.M P (pre.length + 1))))
  rw [zhc h1]; exact dE _
 rw [zcz]
 exact ⟨rfl, rfl, rfl, fun i hi j hj => dE _⟩
theorem ziG (l : List Place) (m j : Nat) : (rowP l m j).flat = true := by
 show ((l.getD m default).at j).flat = true
 unfold Place.at
 split <;> rfl
theorem SpecTO.eqv {dr : Bool} {P : Program} {f : FuncId} {xs ys : List V1} {e k n : Nat} {g : Nat -> Nat -> D} {res : List V1} (h : SpecTO dr P f ys e k n g res) (he : eqV1s xs ys) : SpecTO dr P f xs e k n g res :=
 ⟨h.1, fun w ok vs hok hv => h.2 w ok vs hok (za9 he hv)⟩
def retTO (t0 i : Nat) (ts : List Nat) (res : List V1) (e k n : Nat) (g : Nat -> Nat -> D) : KK := fun x s => match x with
 | .normal => Weak s ((t0, .own i) :: retSl ts res) [(i, .row e k n g)]
 | .ret => Weak s ((t0, .own i) :: retSl ts res) [(i, .row e k n g)]
 | _ => False
theorem zj0 {P : Program} {T : TT} {E : Env} (hT : ∀ t i, T t = some i -> TI.of P t = some i) (hE : ∀ t, E.eq t = true -> EqFact P t) (hm : P.follows .mixedOrders = true)
  {f : FuncId} {fn : Func} {c : Code} (hf : P.funcs[f]? = some fn) (hb : fn.body = some c) (hn : (fn.name == "runtime.NumGoroutine") = false) (hN : codeN fn.ntmps c = true)
  {args : List V1} (t0 i t1 : Nat) (ts : List Nat) (hts : fn.results.toList = (t0 :: t1 :: ts).map ResultVar.tmp) {res : List V1} (hlr : (t1 :: ts).length = res.length) (hpn : (t0 :: t1 :: ts).Nodup) (hfl : res.all V1.flat = true)
  {e k n : Nat} {g : Nat -> Nat -> D} (hsz : args.length <= fn.ntmps) (hng : fn.ntmps <= G) (h : awp P T E c (St.of (argSlots 0 args) []) (retTO t0 i (t1 :: ts) res e k n g)) : SpecTO E.dr P f args e k n g res :=
 ⟨⟨fn, hf, hn, by rw [hb]; rfl⟩, fun w ok vs hok hm2 => zhp hT hE hm hf hb hN (cx := cx0 E.dr w ok fn.ntmps) id rfl rfl rfl (fun _ _ => id) (ze0 hok hm2 hsz hng) h
  (fun x h1 h2 s h => by cases x <;> first | exact h1 rfl | exact h2 rfl | exact h) fun x s a w' hx hk hR _ => by
  have k2 : Weak s ((t0, .own i) :: retSl (t1 :: ts) res) [(i, .row e k n g)] := by rcases hx with rfl | rfl <;> exact hk
  obtain ⟨γ', hg⟩ := hR.weak k2
  have hsl : ∀ t v, look ((t0, AV.own i) :: retSl (t1 :: ts) res) t = some v -> (St.of ((t0, .own i) :: retSl (t1 :: ts) res) [(i, .row e k n g)]).sl t = v := fun t v e => by
   show (look ((t0, AV.own i) :: retSl (t1 :: ts) res) t).getD .any = _
   rw [e]; rfl
  have hs0 := hg.slots t0
  rw [hsl t0 (.own i) (by simp only [look, zat]; rfl)] at hs0
  have hval : a.tmps.getD t0 undef = γ' i := hs0
  have ho : (St.of ((t0, .own i) :: retSl (t1 :: ts) res) [(i, .row e k n g)]).ob i = some (.row e k n g) := by
   show look [(i, Ob.row e k n g)] i = _
   simp only [look, zat]; rfl
  obtain ⟨xs, h1, h0, h2, h3⟩ := hg.objs i _ ho
  have hnd : (([(t0, AV.own i)] ++ retSl (t1 :: ts) res).map Prod.fst).Nodup := by rw [jT, zbJ hlr]; exact hpn
  have hres := zdt hg hlr fun t x hx => hsl t _ (zbn (l := [(t0, AV.own i)]) hx hnd)
  have hrun := zaL (P := P) (fn := fn) (a := a) (w := w') (vs := (t0 :: t1 :: ts).map fun t => a.tmps.getD t undef) (by rw [hts]; exact zdb _)
  have h1' : w'.ownsRow w.heap.size e k (γ' i) n xs := ⟨h1.1, by
   rcases h1.2 with h4 | ⟨g', cap, cur, h4, h5, h6⟩
   ·exact .inl h4
   exact .inr ⟨g', cap, cur, h4, (h0 g' (by rw [h4]; rfl)).elim id False.elim, h6⟩⟩
  refine ⟨_, hrun, γ' i, (t1 :: ts).map (fun t => a.tmps.getD t undef), ?_, ⟨bel0 hg.below, hg.below.drawn⟩, ⟨xs, h1', h2, fun m hm j hj => ?_⟩, fun ok' => ?_⟩
  ·rw [<- hval]; rfl
  ·obtain ⟨u, hu, hr⟩ := h3 m hm j hj
   exact ⟨u, hu, Rep.keep (fun b hb => ⟨hb.imp id fun hb => ⟨hb.1.elim id False.elim, hb.2.1, hb.2.2 i _ ho⟩, rfl⟩) hr⟩
  exact hres.imp fun x u hx hr => Rep1.flat (jC.1 hfl x hx) hr⟩
theorem zfZ {f : FuncId} {fn : Func} {c : Code} (hf : PP.funcs[f]? = some fn) (hb : fn.body = some c) (hq : ((fn.name == "runtime.NumGoroutine") || !(codeN fn.ntmps c && Nat.ble fn.ntmps 4294967296)) = false)
  {args : List V1} (t0 i t1 : Nat) (ts : List Nat) {res : List V1} (hts : fn.results.toList = (t0 :: t1 :: ts).map ResultVar.tmp) (hlr : (t1 :: ts).length = res.length) (hpn : (t0 :: t1 :: ts).Nodup) (hfl : res.all V1.flat = true) {e k n : Nat} {g : Nat -> Nat -> D} (hsz : Nat.ble args.length fn.ntmps = true)
  (h : awp PP TTab (EC []) c (St.of (argSlots 0 args) []) (retTO t0 i (t1 :: ts) res e k n g)) : SpecTO false PP f args e k n g res := by
 simp only [qI, qK, jP] at hq
 exact zj0 (E := EC []) hT hE hM hf hb hq.1 hq.2.1 t0 i t1 ts hts hlr hpn hfl (jD hsz) (jD hq.2.2) h
section
variable {s : St} {o : Oper} {fo : Operand} {args : List Operand} {f : FuncId} {K : St -> Prop} {E : Env}
theorem CallSt.ownT {xs ys res : List V1} {d e k n : Nat} {g : Nat -> Nat -> D} (h : SpecTO E.dr PP f ys e k n g res) (hx : toV1c s fo args = some (f, xs)) (he : eqV1s xs ys) (hd : o.dst = some d) (hg : ∀ m j, m < n -> j < k -> (g m j).flat = true)
  (hk : K (Go.Pg.mk s d (.row e k n g) (.tupr d res))) : CallSt E PP s o fo args K := by
 obtain ⟨ex, h1, h2⟩ := zaA hx
 rw [zag]; exact .inr (.inl ⟨[], f, ex, d, h1, hd, by rw [zap]; exact ⟨xs, e, k, n, g, some res, h2, h.eqv he, hg, hk⟩⟩)
end
theorem zk2 (s : Svc) (b : Brn) (l : List Rpt) (h0 : givE s b l = 0) : SpecTO false PP 101 [s.v, b.v, .d (lR l)] 52 2 (plcR s b l).1.length (rowP (plcR s b l).1) [.d (.int .i64 0)] := by
 have e : allR s b l = (l.map (alwP s b), 0) := by unfold allR; rw [kG (fun hh => hh h0)]
 have e1 : plcR s b l = (plsL s.c.M (metP (l.map (alwP s b))), 0) := by unfold plcR; rw [kG (fun hh => hh h0)]
 have ok := zgn h0
 have hn := ok.n
 rw [e1]
 refine zfZ Tryz.func101 rfl (by kernel_rfl) 6 23 7 [] rfl rfl (by decide) rfl rfl ?_
 have ha := zp0 s b l
 rw [e] at ha
 refine CallSt.ro ha rfl rfl ?_
 refine sF ?_
 refine oL [0, 1, 2, 6003, 4, 5] (FzOb.no ?_)
 refine oP (zox (l.map (alwP s b)) (by rw [kO]; omega)) rfl rfl ?_
 refine ⟨⟨_, _, _, _, _, _, rfl, rfl, rfl, rfl, ?_⟩⟩
 rw [zap]
 refine ⟨_, _, _, _, _, none, rfl, zmY s (metP (l.map (alwP s b))) ok.s.c.m, fun m j _ _ => ziG _ m j, ?_⟩
 exact ⟨rfl, ⟨obR rfl (dE _), trivial⟩, wq rfl⟩
theorem zk6 {d : Day} (h : DayOk d) (ids : List Int) (hi : ids.length <= 1000000) (h1 : (brnD d ids).To - (brnD d ids).From <= d.Long) (h0 : givE d.s (brnD d ids) (lstD d ids) = 0) :
  SpecO PP 64 [d.v, .d (lI ids)] 52 2 (plsD d ids).length (rowP (plsD d ids)) := by
 have hn := h.n
 have e : plsD d ids = (plcR d.s (brnD d ids) (lstD d ids)).1 := by unfold plsD; rw [kH h1]
 rw [e]
 refine zc8 Tryz.func64 rfl (by kernel_rfl) rfl ?_
 refine cP (zk9 d ids (by omega) hi) rfl rfl ?_
 refine cP (zhk d (brnD d ids) (zhB h ids)) rfl rfl ?_
 apply bY <;> intro h2
 ·have h2 : ¬ (brnD d ids).To - (brnD d ids).From <= d.Long := by simpa using h2
  exact absurd h1 h2
 refine oL [0, 1, 2, 3, 4, 5, 6006, 7, 8, 9, 10, 11] (FzOb.no ?_)
 refine CallOb.ro (zk8 d ids (by omega) hi) rfl rfl ?_
 refine ⟨⟨_, _, _, _, _, _, rfl, rfl, rfl, rfl, ?_⟩⟩
 rw [zap]
 refine ⟨_, _, _, _, _, some _, rfl, zk2 d.s (brnD d ids) (lstD d ids) h0, fun m j _ _ => ziG _ m j, ?_⟩
 exact ⟨rfl, rfl, rfl, fun i hi j hj => dE _⟩
theorem zqb (d : Day) (ids : List Int) (hn : d.R.length <= 1000000) (hi : ids.length <= 1000000) (h0 : askE d ids = 0) (h1 : (brnD d ids).To - (brnD d ids).From <= d.Long) (hg : givE d.s (brnD d ids) (lstD d ids) = 0) :
  SpecTO false PP 19 [d.v, .d (lI ids)] 52 2 (plsD d ids).length (rowP (plsD d ids)) [.d (.int .i64 0)] := by
 refine zfZ Tryz.func19 rfl (by kernel_rfl) 4 15 5 [] rfl rfl (by decide) rfl rfl ?_
 have ha := zlb d ids hn hi
 rw [h0] at ha
 refine cP ha rfl rfl ?_
 refine sF ?_
 refine CallSt.own (zk6 (zoJ h0) ids hi h1 hg) rfl rfl (fun m j _ _ => ziG _ m j) ?_
 exact ⟨rfl, ⟨obR rfl (dE _), trivial⟩, wq rfl⟩
theorem giv12 : givE exS (brnD exD [1, 2]) (lstD exD [1, 2]) = 0 := by
 have e1 : brnD exD [1, 2] = ⟨100, 110, 0⟩ := by decide +kernel
 have e2 : lstD exD [1, 2] = [xq1, xq2] := by decide +kernel
 rw [e1, e2]
 refine zr9 _ (by decide +kernel) _ (by decide) (fun r hr => ?_) (by decide +kernel)
 rcases kU.1 hr with rfl | hr
 ·exact rx1
 rcases kU.1 hr with rfl | hr
 ·exact rx2
 cases hr
theorem zsw : SpecTO false PP 19 [exD.v, .d (lI [1, 2])] 52 2 1 (rowP [⟨4, 4⟩]) [.d (.int .i64 0)] := by
 have h := zqb exD [1, 2] (by decide) (by decide) (ask3 [1, 2] (by decide +kernel) (by decide +kernel)) (by decide +kernel) giv12
 rw [c3] at h
 exact h
theorem zrz : Spec PP 21 [exD.v, .d (lI [1, 3])] [B false, .d (.int .i64 0)] := by
 have h := zjo exD [1, 3] (by decide) (by decide)
 rw [zl7] at h
 exact h
theorem few3 : Spec PP 29 [exD.v] [N 2, .d (.int .i64 0)] := by
 have h := zfx exD (by decide)
 rw [zqW] at h
 exact h
theorem few4 : Spec PP 29 [exD4.v] [N 3, .d (.int .i64 0)] := by
 have h := zfx exD4 (by decide)
 rw [zqV] at h
 exact h
abbrev vdL (a : Int) (m n : Nat) : V1 := .agg [I a, lenD m, lenD n]
theorem zjK {w : World} {ok : Nat -> Prop} (x : Vdt) {a : Int} (ha : x.Ans = a) : ∀ u, Rep1 w ok x.v u -> Rep1 w (fun _ => False) (vdL a x.T.length x.A.length) u := fun u ⟨us, e, h⟩ => by
 subst ha
 refine ⟨us, e, ?_⟩
 cases h with
 | cons h1 h =>
 cases h with
 | cons h2 h =>
 cases h with
 | cons h3 h =>
 cases h
 exact .cons (Rep.flat rfl h1) (.cons (zeZ h2) (.cons (zeZ h3) .nil))
theorem zq4 {w : World} {ok : Nat -> Prop} {l : List Fit} {m : List Mis} : ∀ u, Rep1 w ok (.agg [lFt l, lMs m]) u -> Rep1 w (fun _ => False) (.agg [lenD l.length, lenD m.length]) u := fun u ⟨us, e, h⟩ => by
 refine ⟨us, e, ?_⟩
 cases h with
 | cons h1 h =>
 cases h with
 | cons h2 h =>
 cases h
 exact .cons (zeZ h1) (.cons (zeZ h2) .nil)
theorem zk3 {f : Nat -> Nat -> D} {a b : Int} (h0 : D.eqv (f 0 0) (I a)) (h1 : D.eqv (f 1 0) (I b)) : D.eqv (.slc 1 2 f) (lI [a, b]) := ⟨rfl, .inr ⟨rfl, fun i hi j hj => by
 match i, hi, j, hj with
 | 0, _, 0, _ => exact h0
 | 1, _, 0, _ => exact h1⟩⟩
theorem zrc : Spec PP 14 [exD.v, N 1, N 2] [(samR exD 1 2).1.v, .d (.int .i64 0)] := by
 have h := zlc exD 1 2 (by decide)
 rw [zfW.2] at h
 exact h
theorem zrb : Spec PP 14 [exD.v, N 1, N 3] [(samR exD 1 3).1.v, .d (.int .i64 0)] := by
 have h := zlc exD 1 3 (by decide)
 rw [zfV.2] at h
 exact h
theorem zpf : Spec PP 14 [exD4.v, N 1, N 2] [(samR exD4 1 2).1.v, .d (.int .i64 0)] := by
 have h := zlc exD4 1 2 (by decide)
 rw [zfU.2] at h
 exact h
theorem tab3 : Spec PP 10 [exD.v] [.agg [lFt (tabR exD).1, lMs (tabR exD).2.1], .d (.int .i64 0)] := by
 have h := zp9 exD (by decide)
 rw [zjP.2.2] at h
 exact h
theorem zo8 {w : World} {ok : Nat -> Prop} : ∀ u, Rep1 w ok (.agg [lFt (tabR exD).1, lMs (tabR exD).2.1]) u -> Rep1 w (fun _ => False) (.agg [lenD 2, lenD 2]) u := fun u h => by
 have := zq4 u h
 rw [zjP.1, zjP.2.1] at this
 exact this
theorem zrv {n : Nat} {g : Nat -> Nat -> D} (hn : n = 4) (hg : ∀ j, j < 8 -> D.eqv (g 0 j) (xq4.at j)) : D.eqv (.slc 8 n (appRow 3 (rowRp exR) g)) (lR exD4.R) := by
 subst hn
 refine ⟨rfl, .inr ⟨rfl, fun i hi j hj => ?_⟩⟩
 match i, hi with
 | 0, _ => exact dE (xq1.at j)
 | 1, _ => exact dE (xq2.at j)
 | 2, _ => exact dE (xq3.at j)
 | 3, _ => exact hg j hj
theorem x4 : ∀ j, j < 8 -> D.eqv (rowOf 8 xq4.ds 0 j) (xq4.at j) := fun j hj => by
 match j, hj with
 | 0, _ => exact ⟨rfl, rfl⟩
 | 1, _ => exact ⟨rfl, rfl⟩
 | 2, _ => exact ⟨rfl, rfl⟩
 | 3, _ => exact ⟨rfl, rfl⟩
 | 4, _ => exact ⟨rfl, rfl⟩
 | 5, _ => exact ⟨rfl, rfl⟩
 | 6, _ => exact ⟨rfl, rfl⟩
 | 7, _ => exact ⟨rfl, rfl⟩
theorem zoX : Spec PP 8 [] [B true] := by
 refine sA Tryz.func8 ?_
 refine CallSt.obA [(0, .d (.bool false))] [] rfl rfl zjJ ⟨rfl, trivial, wq rfl⟩ rfl rfl (fun j hj => by
  have hj : j ∈ [25] := hj
  obtain rfl := kL.1 hj
  rfl) rfl ?_
 refine CallSt.ownT zsw rfl ⟨zaa _, zk3 ⟨rfl, rfl⟩ ⟨rfl, rfl⟩, trivial⟩ rfl (fun m j _ _ => ziG _ m j) ?_
 refine CallSt.pureE zrz rfl ⟨zaa _, zk3 ⟨rfl, rfl⟩ ⟨rfl, rfl⟩, trivial⟩ rfl ?_
 refine CallSt.pureE few3 rfl ⟨zaa _, trivial⟩ rfl ?_
 refine CallSt.lendW [] rfl zrc rfl ⟨zaa _, ⟨rfl, rfl⟩, ⟨rfl, rfl⟩, trivial⟩ (fun w ok v h => zhN (y := .int .i64 0) rfl (zjK _ zfW.1) h) ?_
 refine CallSt.lendW [] rfl zrb rfl ⟨zaa _, ⟨rfl, rfl⟩, ⟨rfl, rfl⟩, trivial⟩ (fun w ok v h => zhN (y := .int .i64 0) rfl (zjK _ zfV.1) h) ?_
 refine CallSt.lendW [] rfl tab3 rfl ⟨zaa _, trivial⟩ (fun w ok v h => zhN (y := .int .i64 0) rfl zo8 h) ?_
 repeat first | apply sT | apply sF
 refine ⟨⟨.inr rfl, by unfold maxLen; omega, by show (3 + 1) * 64 <= 140737488355328; omega⟩, ?_⟩
 refine CallSt.lendW [] rfl zpf rfl ⟨⟨dE _, dE _, dE _, dE _, dE _, dE _, dE _, dE _, dE _, ?_, trivial⟩, ⟨rfl, rfl⟩, ⟨rfl, rfl⟩, trivial⟩ (fun w ok v h => zhN (y := .int .i64 0) rfl (zjK _ zfU.1) h) ?_
 ·exact zrv rfl x4
 refine CallSt.pureE few4 rfl ⟨⟨dE _, dE _, dE _, dE _, dE _, dE _, dE _, dE _, dE _, ?_, trivial⟩, trivial⟩ rfl ?_
 ·exact zrv rfl x4
 refine ⟨⟨by decide, by decide⟩, ?_⟩
 refine ⟨by decide, ?_⟩
 repeat first | apply sT | apply sF
 exact r1B rfl rfl
end Go.Pg
namespace Go.Pg
open Go.Proofs Go.RowKit Go.MapKept
end Go.Pg
namespace Go.Pg
open Go.Proofs Go.RowKit Go.Sort Go.Shelf
theorem zm2 (ids : List Int) (m : Nat) : (memb ids m).Sublist ids := by
 have e : (List.range ids.length).map (ids.getD · 0) = ids := by
  apply List.ext_getElem (by simp)
  intro i h1 h2
  rw [List.getElem_map, List.getElem_range, hZ, kF h2]; rfl
 have : (memb ids m).Sublist ((List.range ids.length).map (ids.getD · 0)) := List.Sublist.map _ (jbn ..)
 rwa [e] at this
theorem DayOk.lt {d : Day} (h : DayOk d) : (sigL d.R).Pairwise (· < ·) := by
 refine List.Pairwise.imp₂ (fun a b h1 h2 => ?_) (zhW d.R) h.nod
 have h1 := qG h1
 have h2 : a ≠ b := h2
 omega
theorem znW {d : Day} (h : dayE d = 0) {m : Nat} (hne : memb (sigL d.R) m ≠ []) : askE d (memb (sigL d.R) m) = 0 := by
 have ok := za1 h
 have hsub := zm2 (sigL d.R) m
 have hp := ok.lt.sublist hsub
 have hr : setB (memb (sigL d.R) m) = true := by
  unfold setB risB
  rw [jP]
  refine ⟨jC.2 fun j hj => jG ?_, jG (jaM.2 hne)⟩
  have hj := kJ.1 hj
  have h1 : j < (memb (sigL d.R) m).length := by omega
  have h2 : j + 1 < (memb (sigL d.R) m).length := by omega
  rw [hZ, hZ, kF h1, kF h2]
  exact jaj.1 hp j (j + 1) h1 h2 (by omega)
 have hq : partB (memb (sigL d.R) m) (sigL d.R) = true := jC.2 fun x hx => kD.2 (hsub.subset hx)
 unfold askE
 rw [kG (fun hh => hh h), kG (by rw [hr]; decide), kG (by rw [hq]; decide)]
theorem zm4 (ids : List Int) (a b : Nat) {x : Int} (h : (memb ids (a &&& b)).contains x = true) : (memb ids a).contains x = true := by
 have h := kD.1 h
 unfold memb membA at h
 obtain ⟨i, hi, e⟩ := kI.1 h
 rw [kX, jbk, jP] at hi
 exact kD.2 (kI.2 ⟨i, kX.2 ⟨hi.1, hi.2.1⟩, e⟩)
theorem zpa {k m : Nat} : k &&& m = k ↔ ∀ i, k.testBit i = true -> m.testBit i = true := by
 constructor
 ·intro h i hi
  rw [<- h, jbk, jP] at hi
  exact hi.2
 intro h
 apply jaU
 intro i
 rw [jbk]
 cases e : k.testBit i with
 | false => rfl
 | true => rw [h i e]; rfl
theorem ziY {n m i : Nat} (hm : m < 2 ^ n) (h : m.testBit i = true) : i < n := by
 rcases jan i n with h1 | h1
 ·exact h1
 rw [jaO (jN hm (jaf (by decide) h1))] at h; cases h
theorem zqJ {n m i j : Nat} (hn : n <= 7) (hm : m < 2 ^ n) (hi : i < n) : (offS m i).testBit j = (m.testBit j && decide (j ≠ i)) := by
 unfold offS
 rw [jbk]
 cases e : m.testBit j with
 | false => rfl
 | true =>
 have hj := ziY hm e
 have := allL (n := 7) (m := 7) (P := fun i j => (127 - 2 ^ i).testBit j == decide (j ≠ i)) (by decide +kernel) (show i < 7 by omega) (show j < 7 by omega)
 rw [eq_of_beq this]
theorem zlR (m i j : Nat) : (onS m i).testBit j = (m.testBit j || decide (i = j)) := by
 unfold onS
 rw [Nat.testBit_or, Nat.testBit_two_pow]
theorem zrS (m i : Nat) : offS m i <= m := Nat.and_le_left
theorem zpJ {m : Nat} (h : 0 < m) : ∃ i, m.testBit i = true := by
 refine jL fun hc => ?_
 have : m = 0 := by
  apply jaU
  intro i
  rw [Nat.zero_testBit]
  cases e : m.testBit i with
  | false => rfl
  | true => exact absurd ⟨i, e⟩ hc
 omega
theorem zpS {ids : List Int} {m : Nat} (h0 : 0 < m) (hm : m < 2 ^ ids.length) : memb ids m ≠ [] := by
 obtain ⟨i, hi⟩ := zpJ h0
 have hl := ziY hm hi
 intro e
 have : ids.getD i 0 ∈ memb ids m := kI.2 ⟨i, kX.2 ⟨kJ.2 hl, hi⟩, rfl⟩
 rw [e] at this
 cases this
theorem zi1 {d : Day} (h : dayE d = 0) {m : Nat} (h0 : 0 < m) (hm : m < 2 ^ (sigL d.R).length) : (d.R.any fun r => (memb (sigL d.R) m).contains r.ID) = true := zqL (znW h (zpS h0 hm))
theorem zhq {d : Day} (h : dayE d = 0) {m : Nat} (h0 : 0 < m) (hm : m < 2 ^ (sigL d.R).length) : fitX d m = decide (0 < (celD d m).length) := by
 unfold fitX
 rw [jG h0, qY, zo1 (za1 h) (zi1 h h0 hm)]
theorem znA {d : Day} (h : dayE d = 0) {k m : Nat} (h0 : 0 < k) (hs : k &&& m = k) (hm : m < 2 ^ (sigL d.R).length) (hp : fitX d m = true) : fitX d k = true := by
 have hk : k <= m := by rw [<- hs]; exact Nat.and_le_right
 rw [zhq h (by omega) hm] at hp
 rw [zhq h h0 (by omega)]
 obtain ⟨q, hq⟩ := List.exists_mem_of_length_pos (qG hp)
 refine jG (List.length_pos_of_mem (a := q) ?_)
 refine zku (za1 h) (A := memb (sigL d.R) m) (B := memb (sigL d.R) k) (fun x hx => ?_) (zi1 h h0 (by omega)) hq
 rw [<- hs, Nat.and_comm] at hx
 exact zm4 _ m k hx
theorem ziH {d : Day} (h : dayE d = 0) : ∀ M, M <= 2 ^ (sigL d.R).length -> ∀ m, 0 < m -> m < M -> fitK d (keysD d M) m = fitX d m
 | 0, _, m, _, hm => by omega
 | M + 1, hM, m, h0, hm => by
  have ih := ziH h M (by omega)
  have h7 := sig7 (za1 h)
  by_cases e : m = M
  ·subst e
   have hpart : fitX d m = true -> partK d (keysD d m) m = true := fun hp => by
    unfold partK
    rw [jC]
    intro i hi
    have hi := kJ.1 hi
    unfold parK
    by_cases e1 : offS m i = m
    ·simp [e1]
    by_cases e2 : offS m i = 0
    ·simp [e2]
    have hlt : offS m i < m := by have := zrS m i; omega
    have := ih (offS m i) (by omega) hlt
    rw [this, znA h (by omega) (k := offS m i) (m := m) (by
     rw [zpa]; intro j hj
     rw [zqJ h7 (show m < _ by omega) hi, jP] at hj; exact hj.1) (by omega) hp]
    simp
   have hnot : (keysD d m).contains m = false := by
    rw [wC]; intro hc
    have := zdl d m m (kD.1 hc); omega
   rw [zhq h h0 (by omega)] at *
   unfold keysD
   split
   ·rename_i hk
    unfold fitK
    rw [show (keysD d m ++ [m]).contains m = true from kD.2 (by simp), qY]
   rename_i hk
   unfold fitK
   rw [hnot, qP]
   cases e3 : decide (0 < (celD d m).length) with
   | false => rfl
   | true => exact absurd ⟨by omega, hpart e3⟩ hk
  have hm' : m < M := by omega
  rw [<- ih m h0 hm']
  unfold fitK
  congr 1
  conv => lhs; unfold keysD
  split
  ·rw [kT, kD, kD, qB, kL]
   exact ⟨fun hh => hh.elim id fun e' => absurd e' e, .inl⟩
  rfl
theorem zqm {d : Day} (h : dayE d = 0) {m : Nat} (h0 : 0 < m) (hm : m < 2 ^ (sigL d.R).length) : fitK d (ksD d) m = fitX d m := ziH h _ (jE _) m h0 hm
theorem zdC {ids : List Int} {m j : Nat} (hm : m < 2 ^ j) : ∀ n, j <= n -> membA ids m n = membA ids m j
 | 0, h => by obtain rfl : j = 0 := Nat.le_zero.1 h; rfl
 | n + 1, h => by
  by_cases e : j = n + 1
  ·rw [e]
  have : m.testBit n = false := by
   cases q : m.testBit n with
   | false => rfl
   | true => have := ziY hm q; omega
  rw [zcm this]
  exact zdC hm n (by omega)
theorem zrP {x i : Nat} (h : x < 2 ^ i) : x + 2 ^ i = onS x i := by
 have := Nat.two_pow_add_eq_or_of_lt h 1
 unfold onS
 rw [Nat.mul_one] at this
 rw [Nat.add_comm, this, Nat.or_comm]
theorem zew {ids : List Int} {a b : Nat} : ∀ {n : Nat}, (∀ j, j < n -> a.testBit j = b.testBit j) -> membA ids a n = membA ids b n
 | 0, _ => rfl
 | n + 1, h => by
  have ih := zew (ids := ids) (n := n) fun j hj => h j (by omega)
  have hn := h n (by omega)
  cases e : a.testBit n with
  | true => rw [zbH e, zbH (by rw [<- hn]; exact e), ih]
  | false => rw [zcm e, zcm (by rw [<- hn]; exact e), ih]
theorem zil {ids : List Int} {x i : Nat} (hx : x < 2 ^ i) (hi : i < ids.length) : memb ids (x + 2 ^ i) = memb ids x ++ [ids.getD i 0] := by
 have h1 : x + 2 ^ i < 2 ^ (i + 1) := by rw [Nat.pow_succ]; omega
 unfold memb
 rw [zdC h1 ids.length hi, zdC hx ids.length (by omega), zrP hx, zbH (by rw [zlR]; simp)]
 congr 1
 refine zew fun j hj => ?_
 rw [zlR, jH (by omega), jal]
theorem zkN (ids : List Int) : memb ids 0 = [] := by
 unfold memb membA
 rw [List.filter_eq_nil_iff.2 (fun i _ => by simp)]
 rfl
theorem znv {l : List Nat} {f : Nat -> List Int} {q : Nat} (h : q < l.length) : (l.map f).getD q [] = f (l.getD q 0) := by
 rw [hZ, jU, hZ, kF h]; rfl
theorem snocInd {α : Type} {motive : List α -> Prop} (h0 : motive []) (h1 : ∀ l x, motive l -> motive (l ++ [x])) (l : List α) : motive l := by
 rw [<- List.reverse_reverse l]
 induction l.reverse with
 | nil => exact h0
 | cons x r ih => rw [List.reverse_cons]; exact h1 _ _ ih
theorem zlQ {ids : List Int} {ix : List Nat} (hr : Rg ix) (hl : ix.length = ids.length) : ∀ k i, i + k = ids.length -> bld (ids.drop i) ((bitK ix i).map (memb ids)) (ix.drop i) = setX ids ix
 | 0, i, h => by
  have e : i = ids.length := by omega
  subst e
  rw [jaX, <- hl, jaX]
  rfl
 | k + 1, i, h => by
  have hi : i < ids.length := by omega
  have hi2 : i < ix.length := by omega
  have d1 : ids.drop i = ids.getD i 0 :: ids.drop (i + 1) := by rw [qE hi, hZ, kF hi]; rfl
  have d2 : ix.drop i = ix.getD i 0 :: ix.drop (i + 1) := by rw [qE hi2, hZ, kF hi2]; rfl
  have hk := hr i hi2
  have hlen := zb2 hr i (by omega)
  rw [d1, d2, <- zlQ hr hl k (i + 1) (by omega), zbP]
  show bld (ids.drop (i + 1)) (if _ then _ else _) (ix.drop (i + 1)) = _
  congr 1
  rw [kO]
  unfold bit1
  by_cases h1 : ix.getD i 0 < (bitK ix i).length
  ·rw [kH h1, kH h1, List.map_set]
   have hx : (bitK ix i).getD (ix.getD i 0) 0 < 2 ^ i := (zbQ ix i _ (by rw [hZ, kF h1]; exact kP h1)).2
   rw [zil hx hi]
   congr 2
   exact znv h1
  rw [kG h1, kG h1, jT]
  have := zil (ids := ids) (x := 0) (Nat.two_pow_pos i) hi
  rw [k9, zkN] at this
  show _ = _ ++ [memb ids (2 ^ i)]
  rw [this]; rfl
theorem zgH {ids : List Int} (hd : ids.Nodup) (h7 : ids.length <= 7) {m : Nat} : ∀ i, i <= ids.length -> ∀ j, (bitA ids (memb ids m) i).testBit j = (decide (j < i) && m.testBit j)
 | 0, _, j => by show (0 : Nat).testBit j = _; simp
 | i + 1, hi, j => by
  have ih := zgH hd h7 (m := m) i (by omega)
  have hb := zfl hd (m := m) (show i < ids.length by omega)
  rw [zcv]
  by_cases e : m.testBit i = true
  ·rw [kH (kD.2 (hb.2 e)), zlR, ih]
   by_cases e2 : i = j
   ·subst e2; simp [e]
   rw [jH e2, jal]
   congr 1
   exact qJ.2 (by omega)
  rw [kG (fun hh => e (hb.1 (kD.1 hh))), ih]
  by_cases e2 : i = j
  ·subst e2
   rw [Bool.not_eq_true] at e
   rw [e, kN, kN]
  congr 1
  exact qJ.2 (by omega)
theorem zlS {ids : List Int} (hd : ids.Nodup) (h7 : ids.length <= 7) {m : Nat} (hm : m < 2 ^ ids.length) : bitS ids (memb ids m) = m := by
 unfold bitS
 apply jaU
 intro j
 rw [zgH hd h7 _ (jE _)]
 cases e : m.testBit j with
 | false => rw [kN]
 | true => rw [jG (ziY hm e)]; rfl
abbrev gwD (d : Day) : List (List Nat) := gwX (fitX d) (sigL d.R).length []
theorem zhd {d : Day} (h : dayE d = 0) : parts d = (gwD d).map (setX (sigL d.R)) := by
 have ok := za1 h
 have h7 := sig7 ok
 unfold parts gwD gwX
 rw [ze8]
 have e1 : (rgs (sigL d.R).length (mst [])).map (([] : List Nat) ++ ·) = rgs (sigL d.R).length 0 := by
  show (rgs (sigL d.R).length 0).map (fun x => [] ++ x) = _
  simp
 rw [e1]
 have hm : ∀ ix ∈ rgs (sigL d.R).length 0, Rg ix /\ ix.length = (sigL d.R).length := fun ix hx => zka _ [] zoj ix hx
 show List.filter _ ((rgs (sigL d.R).length 0).map (bld (sigL d.R) [])) = _
 generalize rgs (sigL d.R).length 0 = L at hm
 have hb : ∀ ix ∈ L, bld (sigL d.R) [] ix = setX (sigL d.R) ix := fun ix hx => by
  have := zlQ (hm ix hx).1 (hm ix hx).2 (sigL d.R).length 0 (k9 _)
  exact this
 rw [qC hb, List.filter_map]
 congr 1
 refine jbB fun ix hx => ?_
 show (setX (sigL d.R) ix).all _ = (bitX ix).all (fitX d)
 unfold setX
 rw [List.all_map, kT, jC, jC]
 refine forall_congr' fun m => forall_congr' fun hmm => ?_
 have hml := zbQ ix ix.length m hmm
 rw [(hm ix hx).2] at hml
 show fitK d (ksD d) (bitS (sigL d.R) (memb (sigL d.R) m)) = true ↔ _
 rw [zlS ok.nod h7 hml.2, zqm h hml.1 hml.2]
def fwP1 (o : Int) (p : List (List Int)) : Int := if o < 0 \/ (p.length : Int) < o then (p.length : Int) else o
def fwP (l : List (List (List Int))) : Int := l.foldl fwP1 (-1)
theorem ziC (l : List (List (List Int))) (p : List (List Int)) : fwP (l ++ [p]) = fwP1 (fwP l) p := by unfold fwP; rw [jaa]; rfl
theorem zlp : ∀ {l : List (List (List Int))}, (fwP l < 0 -> l = []) /\ (∀ p ∈ l, fwP l <= (p.length : Int)) /\ (l ≠ [] -> ∃ p ∈ l, (p.length : Int) = fwP l) := by
 intro l
 induction l using snocInd with
 | h0 => exact ⟨fun _ => rfl, ⟨fun p hp => (by cases hp), fun h => absurd rfl h⟩⟩
 | h1 l p ih =>
 obtain ⟨a, b, c⟩ := ih
 rw [ziC]
 unfold fwP1
 by_cases h : fwP l < 0 \/ (p.length : Int) < fwP l
 ·rw [kH h]
  refine ⟨fun h' => by omega, fun q hq => ?_, fun _ => ⟨p, by simp, rfl⟩⟩
  rcases qB.1 hq with hq | hq
  ·have := b q hq
   rcases h with h | h
   ·rw [a h] at hq; cases hq
   omega
  rw [kL.1 hq]; exact ja1 _
 rw [kG h]
 refine ⟨fun h' => absurd (.inl h') h, fun q hq => ?_, fun _ => ?_⟩
 ·rcases qB.1 hq with hq | hq
  ·exact b q hq
  rw [kL.1 hq]; omega
 by_cases hl : l = []
 ·subst hl
  exact absurd (.inl (by show (-1 : Int) < 0; decide)) h
 obtain ⟨q, hq, e⟩ := c hl
 exact ⟨q, jau _ hq, e⟩
theorem zgs {l : List (List (List Int))} (h : fltP (fwP l) l ≠ []) : ((((fltP (fwP l) l).getD 0 []).length : Nat) : Int) = fwP l := by
 have h0 : 0 < (fltP (fwP l) l).length := jaM.2 h
 have : (fltP (fwP l) l).getD 0 [] ∈ fltP (fwP l) l := by rw [hZ, kF h0]; exact kP h0
 have := (kX.1 this).2
 simpa using this
theorem ziF {l : List (List (List Int))} (h : fltP (fwP l) l = []) : l = [] := by
 refine jL fun hl => ?_
 obtain ⟨p, hp, e⟩ := (zlp (l := l)).2.2 hl
 have : p ∈ fltP (fwP l) l := kX.2 ⟨hp, by simpa using e⟩
 rw [h] at this; cases this
theorem znQ (p : List (List Int)) : bst1 [] p = [p] := rfl
theorem zqE {o : List (List (List Int))} {p : List (List Int)} (h0 : 0 < o.length) (h : p.length < (o.getD 0 []).length) : bst1 o p = [p] := by
 have e : bst0 o p = [] := by unfold bst0; rw [jG h0, jG h]; rfl
 unfold bst1; rw [e]; rfl
theorem zlL {o : List (List (List Int))} {p : List (List Int)} (h : ¬ p.length < (o.getD 0 []).length) : bst0 o p = o := by unfold bst0; rw [jH h, kN]; rfl
theorem zlK {o : List (List (List Int))} {p : List (List Int)} (h : p.length = (o.getD 0 []).length) : bst1 o p = o ++ [p] := by
 unfold bst1; rw [zlL (by omega), jG h, kQ]; rfl
theorem zqF {o : List (List (List Int))} {p : List (List Int)} (h0 : 0 < o.length) (h : (o.getD 0 []).length < p.length) : bst1 o p = o := by
 unfold bst1; rw [zlL (by omega), jH (by omega : ¬ o.length = 0), jH (by omega : ¬ p.length = (o.getD 0 []).length)]; rfl
theorem zsy : ∀ {l : List (List (List Int))}, bstL l = fltP (fwP l) l := by
 intro l
 induction l using snocInd with
 | h0 => rfl
 | h1 l p ih =>
 rw [zbO, ih, ziC, zdP]
 obtain ⟨a, b, _⟩ := zlp (l := l)
 by_cases hn : fltP (fwP l) l = []
 ·have hl := ziF hn
  subst hl
  have e : fwP1 (fwP []) p = (p.length : Int) := kH (Or.inl (show (-1 : Int) < 0 by decide))
  rw [hn, znQ, e, kH (jaW _)]
  rfl
 have hh := zgs hn
 have h0 : 0 < (fltP (fwP l) l).length := jaM.2 hn
 have hf : ¬ fwP l < 0 := by omega
 by_cases h1 : (p.length : Int) < fwP l
 ·have e : fwP1 (fwP l) p = (p.length : Int) := kH (Or.inr h1)
  rw [zqE h0 (by omega), e, kH (jaW _)]
  have : fltP (p.length : Int) l = [] := List.filter_eq_nil_iff.2 fun q hq => by
   have := b q hq
   simp; omega
  rw [this]; rfl
 have e : fwP1 (fwP l) p = fwP l := kG (fun hh => hh.elim hf h1)
 rw [e]
 by_cases h2 : (p.length : Int) = fwP l
 ·rw [zlK (by omega), kH (by simpa using h2)]
 rw [zqF h0 (by omega), kG (by simpa using h2)]
theorem fw_eq (ids : List Int) (l : List (List Nat)) : fwP (l.map (setX ids)) = fewN l := by
 unfold fwP fewN
 rw [List.foldl_map]
 congr 1
 funext o x
 show (if o < 0 \/ (((setX ids x).length : Nat) : Int) < o then (((setX ids x).length : Nat) : Int) else o) = few1 o x
 unfold setX few1
 rw [kO]
theorem zsj (ids : List Int) (k : Int) (l : List (List Nat)) : fltP k (l.map (setX ids)) = (wthX k l).map (setX ids) := by
 unfold fltP wthX
 rw [List.filter_map]
 congr 1
 refine jbB fun x _ => ?_
 show ((((setX ids x).length : Nat) : Int) == k) = _
 unfold setX
 rw [kO]
theorem zsn {d : Day} (h : dayE d = 0) : fewR d = if fewN (gwD d) < 0 then (0, 9) else (fewN (gwD d), 0) := by
 have e1 : fwP (parts d) = fewN (gwD d) := by rw [zhd h, fw_eq]
 have e2 : bsts d = fltP (fwP (parts d)) (parts d) := zsy
 unfold fewR
 rw [kG (fun hh => hh h), <- e1]
 by_cases hn : fwP (parts d) < 0
 ·have := (zlp (l := parts d)).1 hn
  rw [kH hn, e2, this]; rfl
 have hne : fltP (fwP (parts d)) (parts d) ≠ [] := fun hh => by
  have := ziF hh
  rw [this] at hn
  exact hn (by show (-1 : Int) < 0; decide)
 have h0 : 0 < (fltP (fwP (parts d)) (parts d)).length := jaM.2 hne
 rw [kG hn, e2, kG (by omega), zgs hne]
theorem zkg (d : Day) (hn : d.R.length <= 1000000) : Spec PP 30 [d.v] [N (fewR d).1, .d (.int .i64 (fewR d).2)] := by
 refine sA Tryz.func30 ?_
 refine cP (ze2 d hn) rfl rfl ?_
 apply bY <;> intro h0
 ·have e : fewR d = (0, dayE d) := by unfold fewR; rw [kH (by simpa using h0)]
  rw [e]
  exact ⟨rtI rfl rfl, rtI rfl rfl, trivial⟩
 have h0 : dayE d = 0 := by simpa using h0
 have h := za1 h0
 have h7 := sig7 h
 rw [zsn h0]
 refine oL (List.range 8) (FzOb.no ?_)
 refine CallOb.ro (zg0 h) rfl rfl ?_
 refine CallOb.ro (zeo d hn) rfl rfl ?_
 refine CallOb.ro (zkf (fitX d) _ h7) rfl rfl ?_
 refine oP (zkd _ (ziw h7) (zix h7)) rfl rfl ?_
 apply bY <;> intro h1
 ·rw [kH (dT h1)]
  exact ⟨rtI rfl rfl, rtI rfl rfl, trivial⟩
 rw [kG (dF h1)]
 exact ⟨rtI rfl rfl, rtI rfl rfl, trivial⟩
theorem zrF {d : Day} (h : dayE d = 0) (k : Int) : paR d k = if within k 0 7 = false then ([], 1) else ((wthX k (gwD d)).map (setX (sigL d.R)), 0) := by
 unfold paR
 rw [kG (fun hh => hh h), zhd h, zsj]
theorem zoP (k : Int) (l : List (List Nat)) : (wthX k l).length <= l.length := kS _ _
theorem ze1 (d : Day) (k : Int) (hn : d.R.length <= 1000000) : Spec PP 32 [d.v, N k] [.agg [lPP (paR d k).1, I (paR d k).2]] := by
 refine sA Tryz.func32 ?_
 refine cP (ze2 d hn) rfl rfl ?_
 apply bY <;> intro h0
 ·have e : paR d k = ([], dayE d) := by unfold paR; rw [kH (by simpa using h0)]
  rw [e]
  exact ⟨rtC (a := 4) rfl rfl rfl rfl rfl rfl ⟨rfl, ⟨rfl, rfl⟩, trivial⟩, trivial⟩
 have h0 : dayE d = 0 := by simpa using h0
 have h := za1 h0
 have h7 := sig7 h
 rw [zrF h0]
 apply bY <;> intro h1
 ·have h1 : k < 0 := dT h1
  rw [kH (by unfold within; rw [jH (by omega)]; rfl)]
  repeat first | apply sT | apply sF
  exact ⟨rtC (a := 4) rfl rfl rfl rfl rfl rfl ⟨rfl, ⟨rfl, rfl⟩, trivial⟩, trivial⟩
 have h1 : ¬ k < 0 := dF h1
 repeat first | apply sT | apply sF
 apply bY <;> intro h2
 ·have h2 : 7 < k := dT h2
  rw [kH (by unfold within; rw [jH (by omega : ¬ k <= 7), kN])]
  exact ⟨rtC (a := 4) rfl rfl rfl rfl rfl rfl ⟨rfl, ⟨rfl, rfl⟩, trivial⟩, trivial⟩
 have h2 : ¬ 7 < k := dF h2
 rw [kG (by unfold within; rw [jG (by omega), jG (by omega)]; decide)]
 refine CallSt.ro (zeo d hn) rfl rfl ?_
 refine CallSt.ro (zg0 h) rfl rfl ?_
 refine CallSt.ro (zkf (fitX d) _ h7) rfl rfl ?_
 have hw := zpm (gwD d) k (ziw h7) (zix h7)
 have hW : Rgs (wthX k (gwD d)) := fun x hx => ziw h7 x (kX.1 hx).1
 have hWl : (wthX k (gwD d)).length <= 1000000 := jM (zoP _ _) (zix h7)
 generalize wthX k (gwD d) = W at hw hW hWl ⊢
 refine CallSt.ro hw rfl rfl ?_
 refine LoopOb.of (σ := Nat) (fun i => ([(4, .box 4 0), (6, .d (lI (sigL d.R))), (7, .d (lNN W)), (8, .own 8), (9, .d (I i))], [(4, .box (List.replicate 2 .any)), (8, .row 60 1 ((W.take i).map (setX (sigL d.R))).length (rowPP ((W.take i).map (setX (sigL d.R)))))])) (fun i => i <= W.length) (fun i => W.length - i) 0
  ⟨rfl, ⟨zbj rfl rfl, obR rfl ⟨rfl, .inl rfl⟩, trivial⟩, wq rfl⟩ (jF _) fun i hi => ?_
 have hi : i <= W.length := hi
 have hl : ((W.take i).map (setX (sigL d.R))).length <= 1000000 := by rw [kO, jQ]; omega
 apply bY <;> intro h3
 ·have h3 : i < W.length := by have := dT h3; omega
  have hg := hW.get h3
  refine ⟨⟨rfl, by omega, by omega⟩, ?_⟩
  refine CallSt.ro (zpo (sigL d.R) (W.getD i []) hg.1 hg.2 h7) rfl rfl ?_
  refine ⟨⟨.inr rfl, by unfold maxLen; omega, by show (((W.take i).map (setX (sigL d.R))).length + 1) * 24 <= 140737488355328; omega⟩, ?_⟩
  refine ⟨i6, ?_⟩
  refine ⟨i + 1, ⟨rfl, ⟨zbj rfl rfl, obR rfl ?_, trivial⟩, wq rfl⟩, h3, msr h3⟩
  rw [zaF h3 [], jT]
  exact zh6 (dE _)
 have h3 : i = W.length := by have := dF h3; omega
 subst h3
 rw [jZ]
 exact ⟨rtC (a := 4) rfl rfl rfl rfl rfl rfl (zaa _), trivial⟩
theorem zmH (d : Day) (hn : d.R.length <= 1000000) : Spec PP 28 [d.v] [.agg [lI (cnR d).1, I (cnR d).2]] := by
 refine sA Tryz.func28 ?_
 refine cP (ze2 d hn) rfl rfl ?_
 apply bY <;> intro h0
 ·have e : cnR d = ([], dayE d) := by unfold cnR; rw [kH (by simpa using h0)]
  rw [e]
  exact ⟨rtC (a := 2) rfl rfl rfl rfl rfl rfl ⟨rfl, ⟨rfl, rfl⟩, trivial⟩, trivial⟩
 have h0 : dayE d = 0 := by simpa using h0
 have h := za1 h0
 have h7 := sig7 h
 have e : cnR d = (cntL (sigL d.R).length ((gwD d).map (setX (sigL d.R))), 0) := by unfold cnR; rw [kG (fun hh => hh h0), zhd h0]
 rw [e]
 have hw : Spec PP 67 [.d (lBo (2 ^ (sigL d.R).length) (fitX d)), N ((sigL d.R).length : Nat)] [.d (lNN (gwD d))] := zkf (fitX d) _ h7
 have hW : Rgs (gwD d) := ziw h7
 have hWl : (gwD d).length <= 1000000 := zix h7
 have hWn : ∀ x ∈ gwD d, x.length = (sigL d.R).length := fun x hx => (zli hx).2
 generalize gwD d = W at hw hW hWl hWn ⊢
 refine CallSt.ro (zeo d hn) rfl rfl ?_
 refine CallSt.ro (zg0 h) rfl rfl ?_
 refine CallSt.ro hw rfl rfl ?_
 refine ⟨i6, ?_⟩
 have et : (((sigL d.R).length : Int) + 1).toNat = (sigL d.R).length + 1 := by omega
 refine ⟨⟨by omega, rfl, by rw [et]; show ((sigL d.R).length + 1) * 1 <= 16777216; omega, by rw [et]; show ((sigL d.R).length + 1) * 8 <= 140737488355328; omega⟩, ?_⟩
 refine LoopOb.of (σ := Nat) (fun i => ([(2, .box 2 0), (5, .d (lNN W)), (6, .own 24), (7, .d (I i))], [(2, .box (List.replicate 2 .any)), (24, .row 3 1 ((sigL d.R).length + 1) (rowI (cntL (sigL d.R).length ((W.take i).map (setX (sigL d.R))))))])) (fun i => i <= W.length) (fun i => W.length - i) 0
  ⟨rfl, ⟨zbj rfl rfl, obR rfl ⟨et, .inr ⟨rfl, fun i hi j hj => ?_⟩⟩, trivial⟩, wq rfl⟩ (jF _) fun i hi => ?_
 ·rw [et] at hi
  obtain rfl : j = 0 := wA.1 hj
  show D.eqv (I 0) (I ((cntL (sigL d.R).length []).getD i 0))
  rw [zbh hi]
  exact ⟨rfl, rfl⟩
 have hi : i <= W.length := hi
 have hl : ((W.take i).map (setX (sigL d.R))).length <= 1000000 := by rw [kO, jQ]; omega
 apply bY <;> intro h3
 ·have h3 : i < W.length := by have := dT h3; omega
  have hg := hW.get h3
  have hle : (bitX (W.getD i [])).length <= (sigL d.R).length := by
   have h1 := zb2 hg.1 _ (jE _)
   have h2 := zev _ hg.1 (jE _)
   have h4 := hWn (W.getD i []) (by rw [hZ, kF h3]; exact kP h3)
   show (bitK _ _).length <= _
   omega
  refine ⟨⟨rfl, by omega, by omega⟩, ?_⟩
  refine CallSt.ro (zbD (W.getD i []) hg.1 hg.2) rfl rfl ?_
  have es : (W.take (i + 1)).map (setX (sigL d.R)) = (W.take i).map (setX (sigL d.R)) ++ [setX (sigL d.R) (W.getD i [])] := by rw [zaF h3 [], jT]; rfl
  have hxl : (setX (sigL d.R) (W.getD i [])).length = (bitX (W.getD i [])).length := kO ..
  have ex : (((bitX (W.getD i [])).length : Nat) : Int).toNat = (bitX (W.getD i [])).length := qS _
  refine ⟨⟨by omega, by omega⟩, ⟨by omega, ?_⟩⟩
  have hg2 : (cntL (sigL d.R).length ((W.take i).map (setX (sigL d.R)))).getD (((bitX (W.getD i [])).length : Nat) : Int).toNat 0 = (((((W.take i).map (setX (sigL d.R))).filter fun p => p.length == (bitX (W.getD i [])).length).length : Nat) : Int) := by rw [ex, zbh (by omega)]
  have hf : (((W.take i).map (setX (sigL d.R))).filter fun p => p.length == (bitX (W.getD i [])).length).length <= ((W.take i).map (setX (sigL d.R))).length := kS _ _
  refine ⟨by rw [hg2]; exact i6, ?_⟩
  refine ⟨⟨by omega, by omega⟩, ⟨by omega, ?_⟩⟩
  refine ⟨i6, ?_⟩
  refine ⟨i + 1, ⟨rfl, ⟨zbj rfl rfl, obR rfl ⟨rfl, .inr ⟨rfl, fun q hq j hj => ?_⟩⟩, trivial⟩, wq rfl⟩, h3, msr h3⟩
  obtain rfl : j = 0 := wA.1 hj
  rw [es]
  show D.eqv (storeRow (rowI (cntL (sigL d.R).length ((W.take i).map (setX (sigL d.R))))) (((bitX (W.getD i [])).length : Nat) : Int).toNat 0 [I ((cntL (sigL d.R).length ((W.take i).map (setX (sigL d.R)))).getD (((bitX (W.getD i [])).length : Nat) : Int).toNat 0 + 1)] q 0) (I ((cntL (sigL d.R).length ((W.take i).map (setX (sigL d.R)) ++ [setX (sigL d.R) (W.getD i [])])).getD q 0))
  rw [hg2, ex, zbh hq, kM]
  unfold storeRow
  by_cases e : q = (bitX (W.getD i [])).length
  ·subst e
   rw [kH ⟨rfl, jE _, by simp⟩, kY (by simpa using hxl), jR]
   exact ⟨rfl, rfl⟩
  rw [kG fun hh => e hh.1, kZ (by rw [hxl, jaR]; exact fun hh => e hh.symm)]
  show D.eqv (I ((cntL (sigL d.R).length ((W.take i).map (setX (sigL d.R)))).getD q 0)) _
  rw [zbh hq]
  simp
  exact dE _
 have h3 : i = W.length := by have := dF h3; omega
 subst h3
 rw [jZ]
 exact ⟨rtC (a := 2) rfl rfl rfl rfl rfl rfl ⟨⟨(zfE _ _).symm, .inr ⟨rfl, fun i hi j hj => dE _⟩⟩, ⟨rfl, rfl⟩, trivial⟩, trivial⟩
theorem zjO (a b : List Int) (hn : a.length <= 1000000) : Spec PP 12 [.d (lI a), .d (lI b)] [B (decide (a = b))] := by
 refine sA Tryz.func12 ?_
 apply bY <;> intro h0
 ·have h0 : ¬ a.length = b.length := fun e => by
   have : ¬ (a.length : Int) = b.length := by simpa using h0
   exact this (by rw [e])
  refine r1B rfl ?_
  exact (jH fun e => h0 (by rw [e])).symm
 have h0 : a.length = b.length := by
  have : (a.length : Int) = b.length := by simpa using h0
  omega
 refine LoopOb.of (σ := Nat) (fun i => ([(0, .d (lI a)), (1, .d (lI b)), (5, .d (I i))], [])) (fun i => i <= a.length /\ ∀ j, j < i -> a.getD j 0 = b.getD j 0) (fun i => a.length - i) 0
  ⟨rfl, trivial, wq rfl⟩ z0L fun i hi => ?_
 obtain ⟨hi, ha⟩ := hi
 apply bY <;> intro h1
 ·have h1 : i < a.length := by have := dT h1; omega
  refine oL (List.range 9) (FzOb.no ?_)
  refine ⟨⟨rfl, by omega, by omega⟩, ?_⟩
  refine ⟨⟨rfl, by omega, by omega⟩, ?_⟩
  apply bY <;> intro h3
  ·have h3 : a.getD i 0 ≠ b.getD i 0 := by simpa using h3
   refine r1B rfl ?_
   exact (jH fun e => h3 (by rw [e])).symm
  have h3 : a.getD i 0 = b.getD i 0 := by simpa using h3
  refine ⟨i6, ?_⟩
  refine ⟨i + 1, ⟨rfl, trivial, wq rfl⟩, ⟨h1, fun j hj => ?_⟩, msr h1⟩
  by_cases e : j = i
  ·subst e; exact h3
  exact ha j (by omega)
 have h1 : i = a.length := by have := dF h1; omega
 subst h1
 refine r1B rfl ?_
 symm
 refine jG ?_
 apply List.ext_getElem h0
 intro j hj hj'
 have := ha j hj
 rw [hZ, hZ, kF hj, kF hj'] at this
 exact this
theorem zoW (a b : List (List Int)) (hn : a.length <= 1000000) (hs : ∀ s ∈ a, s.length <= 1000000) : Spec PP 16 [.d (lII a), .d (lII b)] [B (decide (a = b))] := by
 refine sA Tryz.func16 ?_
 apply bY <;> intro h0
 ·have h0 : ¬ a.length = b.length := fun e => by
   have : ¬ (a.length : Int) = b.length := by simpa using h0
   exact this (by rw [e])
  refine r1B rfl ?_
  exact (jH fun e => h0 (by rw [e])).symm
 have h0 : a.length = b.length := by
  have : (a.length : Int) = b.length := by simpa using h0
  omega
 refine LoopOb.of (σ := Nat) (fun i => ([(0, .d (lII a)), (1, .d (lII b)), (5, .d (I i))], [])) (fun i => i <= a.length /\ ∀ j, j < i -> a.getD j [] = b.getD j []) (fun i => a.length - i) 0
  ⟨rfl, trivial, wq rfl⟩ z0L fun i hi => ?_
 obtain ⟨hi, ha⟩ := hi
 apply bY <;> intro h1
 ·have h1 : i < a.length := by have := dT h1; omega
  have hm : a.getD i [] ∈ a := by rw [hZ, kF h1]; exact kP h1
  refine oL (List.range 10) (FzOb.no ?_)
  refine ⟨⟨rfl, by omega, by omega⟩, ?_⟩
  refine ⟨⟨rfl, by omega, by omega⟩, ?_⟩
  refine oP (zjO (a.getD i []) (b.getD i []) (hs _ hm)) rfl rfl ?_
  apply bY <;> intro h3
  ·have h3 : a.getD i [] ≠ b.getD i [] := by simpa using h3
   refine r1B rfl ?_
   exact (jH fun e => h3 (by rw [e])).symm
  have h3 : a.getD i [] = b.getD i [] := by simpa using h3
  refine ⟨i6, ?_⟩
  refine ⟨i + 1, ⟨rfl, trivial, wq rfl⟩, ⟨h1, fun j hj => ?_⟩, msr h1⟩
  by_cases e : j = i
  ·subst e; exact h3
  exact ha j (by omega)
 have h1 : i = a.length := by have := dF h1; omega
 subst h1
 refine r1B rfl ?_
 symm
 refine jG ?_
 apply List.ext_getElem h0
 intro j hj hj'
 have := ha j hj
 rw [hZ, hZ, kF hj, kF hj'] at this
 exact this
theorem zqr (d : Day) : (cnR d).1.length <= 1000000 := by
 unfold cnR
 split
 ·exact jF _
 rename_i h0
 have h7 := sig7 (za1 (jL h0))
 show (cntL _ _).length <= _
 rw [zfE]; omega
theorem zrG {d : Day} {k : Int} : (paR d k).1.length <= 1000000 /\ ∀ x ∈ (paR d k).1, x.length <= 1000000 /\ ∀ s ∈ x, s.length <= 1000000 := by
 unfold paR
 split
 ·exact ⟨jF _, fun x hx => by cases hx⟩
 rename_i h0
 have ok := za1 (jL h0)
 split
 ·exact ⟨jF _, fun x hx => by cases hx⟩
 refine ⟨jM (kS _ _) (jM (zbF ok) (by decide)), fun x hx => ?_⟩
 obtain ⟨h1, h2⟩ := zf8 ok (kX.1 hx).1
 exact ⟨by omega, fun s hs => by have := h2 s hs; omega⟩
theorem zjp (a : List Int) (h : a.length <= 1000000) : Spec PP 12 [.d (lI a), .d (lI a)] [B true] := by
 have := zjO a a h
 rwa [jG rfl] at this
theorem zj5 (a : List (List Int)) (h : a.length <= 1000000) (hs : ∀ s ∈ a, s.length <= 1000000) : Spec PP 16 [.d (lII a), .d (lII a)] [B true] := by
 have := zoW a a h hs
 rwa [jG rfl] at this
theorem s_JoinPartitions (d : Day) (k : Int) : Spec PP 7 [d.v, N k] [B true] := by
 refine sA Tryz.func7 ?_
 refine cP zoX rfl rfl ?_
 refine cP (zqU d) rfl rfl ?_
 apply bY <;> intro h0
 ·exact r1B rfl rfl
 have hf : few7 d := by simpa using h0
 have hn := zso hf
 have hc1 := zqa d (by omega)
 have hc2 := zmH d (by omega)
 have hp1 := zgi d k (by omega)
 have hp2 := ze1 d k (by omega)
 have hcl := zqr d
 have hpl := zrG (d := d) (k := k)
 generalize cnR d = c at hc1 hc2 hcl
 generalize paR d k = p at hp1 hp2 hpl
 obtain ⟨hpl, hpm⟩ := hpl
 refine CallSt.ro hc1 rfl rfl ?_
 refine CallSt.ro hc2 rfl rfl ?_
 refine cP (zfx d (by omega)) rfl rfl ?_
 refine cP (zkg d (by omega)) rfl rfl ?_
 refine CallSt.ro hp1 rfl rfl ?_
 refine CallSt.ro hp2 rfl rfl ?_
 refine cP (zjp c.1 hcl) rfl rfl ?_
 repeat first | apply sT | apply sF
 refine Split.no (by simp) ?_
 repeat first | apply sT | apply sF
 refine Split.no (by simp) ?_
 repeat first | apply sT | apply sF
 refine Split.no (by simp) ?_
 repeat first | apply sT | apply sF
 refine Split.no (by simp) ?_
 repeat first | apply sT | apply sF
 refine Split.no (by simp) ?_
 refine LoopOb.of (σ := Nat) (fun i => ([(5, .d (.bool true)), (13, .d (lPP p.1)), (15, .box 15 0), (17, .d (I i))], [(15, .box ([lPP p.1, I p.2].map AV.d))])) (fun i => i <= p.1.length) (fun i => p.1.length - i) 0
  ⟨rfl, ⟨obD [lPP p.1, I p.2] rfl, trivial⟩, wq rfl⟩ (jF _) fun i hi => ?_
 have hi : i <= p.1.length := hi
 apply bY <;> intro h1
 ·have h1 : i < p.1.length := by have := dT h1; omega
  have hx := hpm (p.1.getD i []) (by rw [hZ, kF h1]; exact kP h1)
  refine oL (List.range 11) (FzOb.no ?_)
  refine ⟨⟨rfl, by omega, by omega⟩, ?_⟩
  refine ⟨⟨rfl, by omega, by omega⟩, ?_⟩
  refine oP (zj5 (p.1.getD i []) hx.1 hx.2) rfl rfl ?_
  refine sF ?_
  refine ⟨i6, ?_⟩
  exact ⟨i + 1, ⟨rfl, ⟨obD [lPP p.1, I p.2] rfl, trivial⟩, wq rfl⟩, h1, msr h1⟩
 exact r1B rfl rfl
theorem zhZ {w : World} {ok : Nat -> Prop} : ∀ {xs ys : List D} {vs : List Value}, All2 (Rep w ok) xs vs -> eqvs xs ys -> All2 (Rep w ok) ys vs
 | [], [], _, h, _ => h
 | _ :: _, _ :: _, _, .cons h r, ⟨e, es⟩ => .cons (Rep.eqv h e) (zhZ r es)
abbrev shI (k : Nat) : Sh := .sl k fun j => shSl.getD' (List.replicate k (.int .i64)) j
theorem zq8 {k j : Nat} (h : j < k) : shSl.getD' (List.replicate k (.int .i64)) j = .int .i64 := by
 induction k generalizing j with
 | zero => omega
 | succ k ih =>
 cases j with
 | zero => rfl
 | succ j => exact ih (j := j) (by omega)
theorem fitI {α : Type} [Inhabited α] {k : Nat} {at_ : α -> Nat -> D} {x : D} (mkα : (Nat -> Int) -> α) (hk : ∀ g : Nat -> Int, ∀ j, j < k -> at_ (mkα g) j = I (g j)) (h : Fits (shI k) x) : ∃ l : List α, D.eqv x (.slc k l.length fun i => at_ (l.getD i default)) := by
 obtain ⟨l, _, _, e⟩ := fitsL (at_ := at_) mkα (fun j hj => zq8 hj) hk h
 exact ⟨l, e⟩
abbrev shDay : List Sh := [.int .i64, .int .i64, shI 1, shI 4, shI 3, shI 8, shI 7, .int .i64, .int .i64, shI 8]
theorem rep_Day {w : World} {ok : Nat -> Prop} {xs : List D} {v : Value} (hr : Rep1 w ok (.agg xs) v) (h : All2 Fits shDay xs) : ∃ d : Day, Rep1 w ok d.v v := by
 obtain ⟨vs, e, hv⟩ := hr
 cases h with | cons h0 h =>
 cases h with | cons h1 h =>
 cases h with | cons h2 h =>
 cases h with | cons h3 h =>
 cases h with | cons h4 h =>
 cases h with | cons h5 h =>
 cases h with | cons h6 h =>
 cases h with | cons h7 h =>
 cases h with | cons h8 h =>
 cases h with | cons h9 h =>
 cases h
 obtain ⟨n0, -, rfl⟩ := h0
 obtain ⟨n1, -, rfl⟩ := h1
 obtain ⟨n7, -, rfl⟩ := h7
 obtain ⟨n8, -, rfl⟩ := h8
 obtain ⟨l2, e2⟩ := fitI (α := Int) (at_ := fun a _ => I a) (fun g => g 0) (fun g j hj => by
  match j, hj with
  | 0, _ => rfl) h2
 obtain ⟨l3, e3⟩ := fitI (α := Twr) (at_ := Twr.at) (fun g => ⟨g 0, ⟨g 1, g 2⟩, g 3⟩) (fun g j hj => by
  match j, hj with
  | 0, _ => rfl
  | 1, _ => rfl
  | 2, _ => rfl
  | 3, _ => rfl) h3
 obtain ⟨l4, e4⟩ := fitI (α := Hz) (at_ := Hz.at) (fun g => ⟨g 0, g 1, g 2⟩) (fun g j hj => by
  match j, hj with
  | 0, _ => rfl
  | 1, _ => rfl
  | 2, _ => rfl) h4
 obtain ⟨l5, e5⟩ := fitI (α := Cir) (at_ := Cir.at) (fun g => ⟨g 0, ⟨g 1, g 2⟩, g 3, g 4, g 5, g 6, g 7⟩) (fun g j hj => by
  match j, hj with
  | 0, _ => rfl
  | 1, _ => rfl
  | 2, _ => rfl
  | 3, _ => rfl
  | 4, _ => rfl
  | 5, _ => rfl
  | 6, _ => rfl
  | 7, _ => rfl) h5
 obtain ⟨l6, e6⟩ := fitI (α := Chk) (at_ := Chk.at) (fun g => ⟨g 0, g 1, g 2, ⟨g 3, g 4⟩, g 5, g 6⟩) (fun g j hj => by
  match j, hj with
  | 0, _ => rfl
  | 1, _ => rfl
  | 2, _ => rfl
  | 3, _ => rfl
  | 4, _ => rfl
  | 5, _ => rfl
  | 6, _ => rfl) h6
 obtain ⟨l9, e9⟩ := fitI (α := Rpt) (at_ := Rpt.at) (fun g => ⟨g 0, g 1, g 2, g 3, g 4, g 5, g 6, g 7⟩) (fun g j hj => by
  match j, hj with
  | 0, _ => rfl
  | 1, _ => rfl
  | 2, _ => rfl
  | 3, _ => rfl
  | 4, _ => rfl
  | 5, _ => rfl
  | 6, _ => rfl
  | 7, _ => rfl) h9
 exact ⟨⟨⟨⟨⟨n0, n1, l2⟩, l3, l4⟩, ⟨l5, l6⟩⟩, n7, n8, l9⟩, vs, e, zhZ hv ⟨⟨rfl, rfl⟩, ⟨rfl, rfl⟩, e2, e3, e4, e5, e6, ⟨rfl, rfl⟩, ⟨rfl, rfl⟩, e9, trivial⟩⟩
theorem rep_lI {w : World} {ok : Nat -> Prop} {x : D} {v : Value} (hr : Rep1 w ok (.d x) v) (h : All2 Fits [shI 1] [x]) : ∃ l : List Int, Rep1 w ok (.d (lI l)) v := by
 cases h with
 | cons h _ =>
 obtain ⟨l, e⟩ := fitI (α := Int) (at_ := fun a _ => I a) (fun g => g 0) (fun g j hj => by
  match j, hj with
  | 0, _ => rfl) h
 exact ⟨l, Rep.eqv hr e⟩
end Go.Pg
