/- Texts joined and shortened by program. -/
import Derived.Test.YtogcomikcdbopaaGreatMH
import Derived.Test.YtogcomikcdbopaaGreatMF
set_option maxHeartbeats 4000000
set_option linter.all false
set_option maxRecDepth 100000
namespace Go.Pg
open Go.Proofs Go.RowKit Go.Sort Go.Shelf
abbrev smD (s : Svc) (b : Brn) (l : List Rpt) : List D := [I s.c.M.W, I s.c.M.H, lI s.c.M.G, lT s.c.T, lZ s.c.Z, lC s.k.C, lK s.k.K, I b.From, I b.To, I b.Rise, lR l]
theorem app0 {f0 : Nat -> Nat -> D} {g : Nat -> Nat -> D} : appRow 0 f0 g = g := funext fun i => funext fun j => by unfold appRow; rw [if_neg (Nat.not_lt_zero _), Nat.sub_zero]
theorem zoy {l : List Rpt} {r : Rpt} {f0 g : Nat -> Nat -> D} (hg : ∀ j, j < 8 -> D.eqv (g 0 j) (r.at j)) : D.eqv (.slc 8 (0 + l.length + 1) (appRow (0 + l.length) (appRow 0 f0 (rowRp l)) g)) (lR (l ++ [r])) := by
 rw [app0, Nat.zero_add]; exact zoz hg
theorem cutR0 {l : List Rpt} {k : Nat} (hk : k < l.length) {f0 : Nat -> Nat -> D} : D.eqv (.slc 8 (0 + k + (l.length - (k + 1))) (appRow (0 + k) (appRow 0 f0 (rowRp l)) fun q => rowRp l (k + 1 + q))) (lR (rmP l k)) := by
 rw [app0, Nat.zero_add]
 refine ⟨by rw [ziw hk]; omega, .inr ⟨rfl, fun i hi j hj => ?_⟩⟩
 show D.eqv (appRow k (rowRp l) (fun q => rowRp l (k + 1 + q)) i j) (((rmP l k).getD i default).at j)
 have e : (rmP l k).getD i default = if i < k then l.getD i default else l.getD (i + 1) default := by
  rw [gdq, zix hk]
  split <;> rfl
 rw [e]
 unfold appRow
 by_cases h : i < k
 ·rw [if_pos h, if_pos h]; exact dE _
 ·rw [if_neg h, if_neg h]
  show D.eqv (rowRp l (k + 1 + (i - k)) j) _
  rw [show k + 1 + (i - k) = i + 1 by omega]; exact dE _
theorem q_New (s : Svc) (b : Brn) (h0 : givE s b [] = 0) : Spec PP 7 [s.v, b.v] [.agg (smD s b []), N 0] := by
 refine sA Tryz.func7 ?_
 refine CallSt.pureE (zdR s b []) rfl ⟨zaa _, zaa _, rfl, trivial⟩ rfl ?_
 refine sB (fun h1 => absurd h0 (by simpa using h1)) (fun _ => ?_)
 exact ⟨rtC (a := 4) rfl rfl rfl rfl rfl rfl ⟨dE _, dE _, dE _, dE _, dE _, dE _, dE _, dE _, dE _, dE _, rfl, trivial⟩, rtI rfl rfl, trivial⟩
theorem zeo (l : List Rpt) (hn : l.length <= 1000000) : Spec PP 14 [.d (lR l), .d (lR l)] [B true] := by
 refine sA Tryz.func14 ?_
 refine sB (fun h1 => absurd h1 (by simp)) (fun h1 => ?_)
 refine LoopOb.of (σ := Nat) (fun i => ([(0, .d (lR l)), (1, .d (lR l)), (5, .d (I i))], [])) (fun i => i <= l.length) (fun i => l.length - i) 0 ⟨rfl, trivial, wq rfl⟩ (Nat.zero_le _) fun i hi => ?_
 apply sB <;> intro h2
 ·have h2 : i < l.length := by simpa using h2
  refine oL (List.range 9) (FzOb.no ?_)
  refine ⟨⟨rfl, by omega, by omega⟩, ?_⟩
  refine ⟨⟨rfl, by omega, by omega⟩, ?_⟩
  apply sB <;> intro h3
  ·have h3 : (!((l.getD i default).ID == (l.getD i default).ID && ((l.getD i default).Kind == (l.getD i default).Kind && ((l.getD i default).Tower == (l.getD i default).Tower && ((l.getD i default).C == (l.getD i default).C && ((l.getD i default).Tick == (l.getD i default).Tick && ((l.getD i default).From == (l.getD i default).From && ((l.getD i default).To == (l.getD i default).To && ((l.getD i default).Slack == (l.getD i default).Slack && true))))))))) = true := h3
   simp at h3
  ·refine ⟨i6, ?_⟩
   exact ⟨i + 1, ⟨rfl, trivial, wq rfl⟩, h2, (msr (by omega))⟩
 exact r1B rfl rfl
theorem q_Put (s : Svc) (b : Brn) (l : List Rpt) (r : Rpt) (ok : SvcOk s) : Spec PP 8 [.agg (smD s b l), r.v] [.agg (smD s b (putLs s l r)), N (putE s l r)] := by
 refine zcJ [11] Tryz.func8 rfl (by kernel_rfl) rfl ?_
 apply sB <;> intro h1
 ·have h1 : 24 <= l.length := by have := dT h1; omega
  have e : putE s l r = 2 := by unfold putE; rw [if_pos h1]
  have e2 : putLs s l r = l := by unfold putLs; rw [e]; rfl
  rw [e, e2]
  exact ⟨rtC (a := 4) rfl rfl rfl rfl rfl rfl (zaa _), rtI rfl rfl, trivial⟩
 have h1 : ¬ 24 <= l.length := by have := dF h1; omega
 refine cP (zfb s r (by have := ok.c.t; omega) (by have := ok.k.n; omega)) rfl rfl ?_
 apply sB <;> intro h2
 ·have h2 : rptE s r ≠ 0 := by simpa using h2
  have e : putE s l r = rptE s r := by unfold putE; rw [if_neg h1, if_pos h2]
  have e2 : putLs s l r = l := by unfold putLs; rw [e, if_neg h2]
  rw [e, e2]
  exact ⟨rtC (a := 4) rfl rfl rfl rfl rfl rfl (zaa _), rtI rfl rfl, trivial⟩
 have h2 : rptE s r = 0 := by simpa using h2
 refine cP (zc4 l r.ID (by omega)) rfl rfl ?_
 have hany := zck (fun x : Rpt => x.ID == r.ID) l default
 apply sB <;> intro h3
 ·have h3 : 0 <= rptI l r.ID := dT h3
  have e : putE s l r = 6 := by unfold putE; rw [if_neg h1, if_neg (fun hh => hh h2), if_pos (hany.1 h3)]
  have e2 : putLs s l r = l := by unfold putLs; rw [e]; rfl
  rw [e, e2]
  exact ⟨rtC (a := 4) rfl rfl rfl rfl rfl rfl (zaa _), rtI rfl rfl, trivial⟩
 have h3 : ¬ 0 <= rptI l r.ID := fun h => by have := dF h3; exact this h
 have e : putE s l r = 0 := by unfold putE; rw [if_neg h1, if_neg (fun hh => hh h2), if_neg (fun h => h3 (hany.2 h))]
 have e2 : putLs s l r = l ++ [r] := by unfold putLs; rw [if_pos e]
 rw [e, e2]
 refine ⟨⟨.inr rfl, by unfold maxLen; omega, by show (0 + l.length) * 64 <= 140737488355328; omega⟩, ?_⟩
 refine ⟨⟨.inr rfl, by unfold maxLen; omega, by show (0 + l.length + 1) * 64 <= 140737488355328; omega⟩, ?_⟩
 refine CutOb.at [(2, .box 2 0), (4, .box 4 0)] [(2, .box ((smD s b (l ++ [r])).map AV.d)), (4, .box [.any, .any, .any, .any, .any, .any, .any, .any, .any, .any, .any])] ?_ ?_
 ·exact ⟨rfl, ⟨obY rfl ⟨dE _, dE _, dE _, dE _, dE _, dE _, dE _, dE _, dE _, dE _, avOw rfl rfl rfl (zoy (rd8 r)), trivial⟩, obY rfl ⟨trivial, trivial, trivial, trivial, trivial, trivial, trivial, trivial, trivial, trivial, trivial, trivial⟩, trivial⟩, wq rfl⟩
 exact ⟨rtC (a := 4) rfl rfl rfl rfl rfl rfl (zaa _), rtI rfl rfl, trivial⟩
theorem zow (s : Svc) (b : Brn) (l : List Rpt) (id : Int) (hn : l.length <= 1000000) : Spec PP 10 [.agg (smD s b l), N id] [.agg (smD s b (takL l id)), N (takE l id)] := by
 refine zcJ [7] Tryz.func10 rfl (by kernel_rfl) rfl ?_
 refine cP (zc4 l id hn) rfl rfl ?_
 apply sB <;> intro h1
 ·have h1 : rptI l id < 0 := dT h1
  have e1 : takE l id = 5 := by unfold takE; rw [if_pos (show idxL (fun x : Rpt => x.ID == id) l < 0 from h1)]
  have e2 : takL l id = l := by unfold takL; rw [if_pos (show idxL (fun x : Rpt => x.ID == id) l < 0 from h1)]
  rw [e1, e2]
  exact ⟨rtC (a := 4) rfl rfl rfl rfl rfl rfl (zaa _), rtI rfl rfl, trivial⟩
 have h1 : ¬ rptI l id < 0 := dF h1
 have e1 : takE l id = 0 := by unfold takE; rw [if_neg (show ¬ idxL (fun x : Rpt => x.ID == id) l < 0 from h1)]
 have e2 : takL l id = rmP l (rptI l id).toNat := by unfold takL; rw [if_neg (show ¬ idxL (fun x : Rpt => x.ID == id) l < 0 from h1)]; rfl
 have hlt : rptI l id < l.length := by
  rcases idxL_cases (fun x : Rpt => x.ID == id) l default with ⟨h, -⟩ | ⟨i, h2, h3, -⟩
  ·exact absurd (show rptI l id = -1 from h) (by omega)
  ·have : rptI l id = i := h3
   omega
 rw [e1, e2]
 have hi : rptI l id = ((rptI l id).toNat : Int) := by omega
 generalize (rptI l id).toNat = k at hi
 rw [hi] at hlt ⊢
 repeat first | apply sT | apply sF
 refine ⟨⟨.inr rfl, by omega, by omega⟩, ?_⟩
 refine ⟨⟨.inr rfl, by unfold maxLen; omega, by show (0 + k) * 64 <= 140737488355328; omega⟩, ?_⟩
 refine ⟨i6, ?_⟩
 refine ⟨⟨.inr rfl, by omega, by omega⟩, ?_⟩
 have en : ((l.length : Int) - ((k : Int) + 1)).toNat = l.length - (k + 1) := by omega
 have ek : ((k : Int) + 1).toNat = k + 1 := by omega
 refine ⟨⟨.inr rfl, by unfold maxLen; omega, by show (0 + k + (l.length - ((k : Int) + 1).toNat)) * 64 <= 140737488355328; omega⟩, ?_⟩
 refine CutOb.at [(2, .box 2 0), (4, .box 4 0)] [(2, .box ((smD s b (rmP l k)).map AV.d)), (4, .box [.any, .any, .any, .any, .any, .any, .any, .any, .any, .any, .any])] ?_ ?_
 ·exact ⟨rfl, ⟨obY rfl ⟨dE _, dE _, dE _, dE _, dE _, dE _, dE _, dE _, dE _, dE _, avOw rfl rfl rfl (cutR0 (by omega)), trivial⟩, obY rfl ⟨trivial, trivial, trivial, trivial, trivial, trivial, trivial, trivial, trivial, trivial, trivial, trivial⟩, trivial⟩, wq rfl⟩
 exact ⟨rtC (a := 4) rfl rfl rfl rfl rfl rfl (zaa _), rtI rfl rfl, trivial⟩
theorem zm1 (s : Svc) (b : Brn) (h0 : givE s b [] ≠ 0) : Spec PP 7 [s.v, b.v] [.agg [I 0, I 0, .nil, .nil, .nil, .nil, .nil, I 0, I 0, I 0, .nil], N (givE s b [])] := by
 refine sA Tryz.func7 ?_
 refine CallSt.pureE (zdR s b []) rfl ⟨zaa _, zaa _, rfl, trivial⟩ rfl ?_
 refine Split.yes (by simpa using h0) ?_
 exact ⟨rtC (a := 4) rfl rfl rfl rfl rfl rfl (zaa _), rtI rfl rfl, trivial⟩
theorem q_Why (s : Svc) (b : Brn) (l : List Rpt) (p : Place) (h : givE s b l = 0) : Spec PP 13 [.agg (smD s b l), p.v] [N (whyR s l (l.map (alwP s b)) p).1, B (whyR s l (l.map (alwP s b)) p).2] := by
 obtain ⟨g1, g2, hn, g4, g5⟩ := zbg.1 h
 have ok := zcX g1
 refine sA Tryz.func13 ?_
 refine cP (zm0 s.c.M p) rfl rfl ?_
 apply sB <;> intro h1
 ·have h1 : onM s.c.M p = false := by simpa using h1
  have e : whyR s l (l.map (alwP s b)) p = (0, false) := by unfold whyR; rw [if_neg (fun hh => by rw [h1] at hh; cases hh.1)]
  rw [e]
  exact ⟨rtI rfl rfl, rtB rfl rfl, trivial⟩
 have h1 : onM s.c.M p = true := by simpa using h1
 obtain ⟨e1, e2⟩ := zeu h1
 have ef : fstT s b l p = fstI (l.map (alwP s b)) (nOf s.c.M p) := by
  have := zg7 (s := s) (b := b) (l := l) (n := nOf s.c.M p) e2
  rw [e1] at this; exact this
 refine oL (List.range 12) (FzOb.no ?_)
 refine CallOb.ro (zlU s l (by have := ok.c.t; omega) hn fun i hi => zlS (g4 _ (gd1 hi default))) rfl rfl ?_
 refine oP (zgM s b l p hn) rfl rfl ?_
 rw [ef]
 apply sB <;> intro h2
 ·have h2 : fstI (l.map (alwP s b)) (nOf s.c.M p) < 0 := dT h2
  have e : whyR s l (l.map (alwP s b)) p = (0, false) := by unfold whyR; rw [if_neg (fun hh => absurd hh.2 (by omega))]
  rw [e]
  exact ⟨rtI rfl rfl, rtB rfl rfl, trivial⟩
 ·have h2 : ¬ fstI (l.map (alwP s b)) (nOf s.c.M p) < 0 := dF h2
  have e : whyR s l (l.map (alwP s b)) p = ((l.getD (fstI (l.map (alwP s b)) (nOf s.c.M p)).toNat default).ID, true) := by unfold whyR; rw [if_pos ⟨h1, by omega⟩]
  have hlt := zjq (L := l.map (alwP s b)) (n := nOf s.c.M p) (by omega)
  rw [List.length_map] at hlt
  refine ⟨⟨rfl, by omega, by omega⟩, ?_⟩
  rw [e]
  exact ⟨rtI rfl rfl, rtB rfl rfl, trivial⟩
theorem zdK {d : Bool} {P : Program} {f : FuncId} {args : List V1} {e k n : Nat} {g : Nat -> Nat -> D} (h : SpecOG d P f args e k n g) (hg : ∀ m j, m < n -> j < k -> (g m j).flat = true) : SpecF d P f args [.d (.slc k n g)] :=
 ⟨h.1, fun w ok vs hok hv => (h.2 w ok vs hok hv).mono fun en w' ⟨v, he, hb, xs, hown, hone, hr⟩ => ⟨v, he, hb, by
  show Rep w' (fun b => w.heap.size <= b /\ b < w'.heap.size) (.slc k n g) v
  refine zcg hown (fun m hm j hj => ?_) fun b hb' => ?_
  ·obtain ⟨u, hu, h3⟩ := hr m hm j hj
   exact ⟨u, hu, Rep.flat (hg m j hm hj) h3⟩
  ·refine ⟨zgy hown b hb', ?_⟩
   rcases hown.2 with h1 | ⟨g', cap, cur, h1, h2, h3, h4⟩
   ·rw [h1.1] at hb'; cases hb'
   ·rw [h1] at hb'
    cases hb'
    exact (Array.getElem?_eq_some_iff.1 h3).1⟩⟩
theorem zkJ (s : Svc) (P : Nat -> Bool) (hv : validM s.c.M = true) : SpecO PP 48 [s.v, .agg (bD P)] 52 2 (plsL s.c.M P).length (rowP (plsL s.c.M P)) := by
 have hl := zbW hv
 refine zbc Tryz.func48 rfl (by kernel_rfl) rfl ?_
 refine CallSt.ro (zdc s.c.M) rfl rfl ?_
 refine CodeOb.rangeAt (zb4 s.c.M hv) rfl (spEnc s.c.M) (ze0 s.c.M) (fun _ => rfl) (by decide) [(2, .box 2 0), (3, .box 3 0), (5, .box 5 0)] [(5, 0)] (fun pre => obPls s P pre.length) rfl (fun _ => rfl) ?_ (Iv := fun _ => True) trivial (fun v pre x hx _ => ?_) (fun _ => ?_)
 ·exact ⟨rfl, ⟨obX rfl, obX rfl, obN rfl rfl rfl, obZ rfl rfl, trivial⟩, wq rfl⟩
 ·obtain ⟨rfl, hk⟩ := ze5 hx
  have hn := zbu hv (k := pre.length)
  have hp := zkW P pre.length (by omega)
  rw [<- hn] at hp
  have hlen := zcN s.c.M P pre.length
  refine cP hp rfl rfl ?_
  apply sB <;> intro h1
  ·refine ⟨⟨.inr rfl, by unfold maxLen; omega, by show ((plsK s.c.M P pre.length).length + 1) * 16 <= 140737488355328; omega⟩, ?_⟩
   refine ⟨trivial, rfl, ⟨obX rfl, obX rfl, obO rfl, obR rfl ?_, trivial⟩, wq rfl⟩
   rw [List.length_append]
   show D.eqv _ (.slc 2 (plsK s.c.M P (pre.length + 1)).length (rowP (plsK s.c.M P (pre.length + 1))))
   rw [zet h1]
   exact zkz (at2 rfl rfl)
  ·refine ⟨trivial, rfl, ⟨obX rfl, obX rfl, obO rfl, obR rfl ?_, trivial⟩, wq rfl⟩
   rw [List.length_append]
   show D.eqv _ (.slc 2 (plsK s.c.M P (pre.length + 1)).length (rowP (plsK s.c.M P (pre.length + 1))))
   rw [zge h1]; exact dE _
 ·rw [zbN]
  exact ⟨rfl, rfl, rfl, fun i hi j hj => dE _⟩
theorem ziY (s : Svc) (b : Brn) (l : List Rpt) (L : List (Nat -> Bool)) (hn : l.length <= 1000000) : SpecO PP 15 [.d (.ptr 12 (getD' (smC s b l L)))] 50 8 l.length (rowRp l) := by
 refine zbc Tryz.func15 rfl (by kernel_rfl) rfl ?_
 refine CallSt.own (zgZ l hn) rfl rfl (fun m j _ _ => zfx l m j) ?_
 exact ⟨rfl, rfl, rfl, fun i hi j hj => dE _⟩
theorem zl7 (l : List Place) (m j : Nat) : (rowP l m j).flat = true := by
 show ((l.getD m default).at j).flat = true
 unfold Place.at
 split <;> rfl
theorem zoM (s : Svc) (b : Brn) (l : List Rpt) (L : List (Nat -> Bool)) (hv : validM s.c.M = true) (hn : L.length <= 1000000) : SpecO PP 17 [.d (.ptr 12 (getD' (smC s b l L)))] 52 2 (plsL s.c.M (metP L)).length (rowP (plsL s.c.M (metP L))) := by
 refine zbc Tryz.func17 rfl (by kernel_rfl) rfl ?_
 refine Exists.intro [0, 1, 2, 3, 4, 5, 6, 7, 8, 6009, 10] (And.intro (by kernel_rfl) (FzOb.no ?_))
 refine oP (zfk L hn) rfl rfl ?_
 refine ⟨⟨_, _, _, _, _, _, rfl, rfl, rfl, rfl, ?_⟩⟩
 rw [zat]
 refine ⟨_, _, _, _, _, rfl, zkJ s (metP L) hv, fun m j _ _ => zl7 _ m j, ?_⟩
 exact ⟨rfl, rfl, rfl, fun i hi j hj => dE _⟩
theorem zm2 (s : Svc) (b : Brn) (l : List Rpt) (h : givE s b l = 0) : Spec PP 18 [.agg (smD s b l)] [.d (lP (plsL s.c.M (metP (l.map (alwP s b)))))] := by
 refine sA Tryz.func18 ?_
 refine CallSt.ro (zmy h) rfl rfl ?_
 exact ⟨dE _, trivial⟩
theorem s_CellSmokes (s : Svc) (b : Brn) (xs : List Stx) : Spec PP 3 [s.v, b.v, .d (lSt xs)] [B true] := by
 refine zcJ [22] Tryz.func3 rfl (by kernel_rfl) rfl ?_
 refine cP (zmk s) rfl rfl ?_
 apply sB <;> intro h1
 ·repeat first | apply sT | apply sF
  refine cP zcG rfl rfl ?_
  exact r1B rfl rfl
 repeat first | apply sT | apply sF
 apply sB <;> intro h2
 ·repeat first | apply sT | apply sF
  refine cP zcG rfl rfl ?_
  exact r1B rfl rfl
 have h2 : xs.length <= 10 := by have : ¬ (10 : Int) < xs.length := dF h2; omega
 repeat first | apply sT | apply sF
 by_cases h0 : givE s b [] = 0
 case neg =>
  refine CallSt.ro (zni s b h0) rfl rfl ?_
  refine CallSt.ro (zm1 s b h0) rfl rfl ?_
  repeat first | apply sT | apply sF | refine sB (fun h => absurd h (by simp [h0])) (fun _ => ?_)
  refine cP zcG rfl rfl ?_
  exact r1B rfl rfl
 obtain ⟨g1, g2, -, -, -⟩ := zbg.1 h0
 have ok := zcX g1
 refine CallSt.obN [(2, .d (lSt xs)), (3, .box 3 0), (4, .box 4 0), (28, .agg s.ds), (29, .agg b.ds)] [(3, .box (s.ds.map AV.d)), (4, .box (b.ds.map AV.d))] rfl rfl (n_New s b g1 g2)
  ⟨rfl, ⟨obD s.ds rfl, obD b.ds rfl, trivial⟩, wq rfl⟩ rfl ⟨zaa _, zaa _, trivial⟩ rfl rfl rfl ?_
 refine CallSt.ro (q_New s b h0) rfl rfl ?_
 repeat first | apply sT | apply sF
 refine LoopOb.of (σ := Nat × List Rpt) (fun x => ([(2, .d (lSt xs)), (3, .box 3 0), (4, .box 4 0), (7, .box 19 0), (9, .box 9 0), (52, .d (lSt xs)), (53, .d (I xs.length)), (54, .d (I x.1))], smOr s b x.2 (x.2.map (alwP s b)) [(3, .box (s.ds.map AV.d)), (4, .box (b.ds.map AV.d)), (9, .box ((smD s b x.2).map AV.d))]))
  (fun x => x.1 <= xs.length /\ givE s b x.2 = 0) (fun x => xs.length - x.1) (0, [])
  ⟨rfl, ⟨obY rfl (smW s b), obR rfl (dE _), obR rfl (dE _), obD s.ds rfl, obD b.ds rfl, obD (smD s b []) rfl, trivial⟩, wq rfl⟩ ⟨Nat.zero_le _, h0⟩ fun x hx => ?_
 obtain ⟨i, l⟩ := x
 obtain ⟨hi, hg⟩ := hx
 have hi : i <= xs.length := hi
 have hg : givE s b l = 0 := hg
 apply sB <;> intro h3
 ·have h3 : i < xs.length := by have := dT h3; omega
  refine ⟨⟨rfl, by omega, by omega⟩, ?_⟩
  have hn : l.length <= 24 := (zbg.1 hg).2.2.1
  apply two_
  ·intro key
   apply sB <;> intro h4
   ·have h4 : (xs.getD i default).W = 0 := by simpa using h4
    have e4 : stepL s l (xs.getD i default) = putLs s l (xs.getD i default).R := by unfold stepL; rw [if_pos h4]
    refine CallSt.ro (q_Put s b l (xs.getD i default).R ok) rfl rfl ?_
    refine CallSt.ob [(2, .d (lSt xs)), (3, .box 3 0), (4, .box 4 0), (7, .box 19 0), (9, .box 9 0), (12, .box 12 0), (52, .d (lSt xs)), (53, .d (I xs.length)), (54, .d (I i)), (13, .d (I (putE s l (xs.getD i default).R))), (69, .box 19 0), (71, .agg (xs.getD i default).R.ds)] (smO s b l (l.map (alwP s b))) [(3, .box (s.ds.map AV.d)), (4, .box (b.ds.map AV.d)), (9, .box ((smD s b (putLs s l (xs.getD i default).R)).map AV.d)), (12, .box ((xs.getD i default).ds.map AV.d))] rfl rfl (m_Put s b l (xs.getD i default).R ok)
     (zn1 (l := smOr s b l (l.map (alwP s b)) [(3, .box (s.ds.map AV.d)), (4, .box (b.ds.map AV.d)), (9, .box ((smD s b (putLs s l (xs.getD i default).R)).map AV.d)), (12, .box ((xs.getD i default).ds.map AV.d))]) rfl ⟨rfl, ⟨obY rfl (smW s b), obR rfl (dE _), obR rfl (dE _), obD s.ds rfl, obD b.ds rfl, obD (smD s b (putLs s l (xs.getD i default).R)) rfl, obD (xs.getD i default).ds rfl, trivial⟩, wq rfl⟩) ⟨⟨[], rfl, rfl⟩⟩ rfl rfl ?_
    refine sB (fun h => absurd h (by simp)) (fun _ => ?_)
    refine CutOb.at [(2, .d (lSt xs)), (3, .box 3 0), (4, .box 4 0), (7, .box 19 0), (9, .box 9 0), (12, .box 12 0), (52, .d (lSt xs)), (53, .d (I xs.length)), (54, .d (I i))] (smOr s b (stepL s l (xs.getD i default)) ((stepL s l (xs.getD i default)).map (alwP s b)) [(3, .box (s.ds.map AV.d)), (4, .box (b.ds.map AV.d)), (9, .box ((smD s b (stepL s l (xs.getD i default))).map AV.d)), (12, .box ((xs.getD i default).ds.map AV.d))]) ?_ ?_
    ·exact ⟨rfl, ⟨obY rfl (smW s b), obR rfl (by rw [e4]; exact dE _), obR rfl (by rw [e4]; exact dE _), obD s.ds rfl, obD b.ds rfl, (by rw [e4]; exact obD (smD s b _) rfl), obD (xs.getD i default).ds rfl, trivial⟩, wq rfl⟩
    ·exact key.out
   have h4 : (xs.getD i default).W ≠ 0 := by simpa using h4
   apply sB <;> intro h5
   ·have h5 : (xs.getD i default).W = 1 := by simpa using h5
    have e4 : stepL s l (xs.getD i default) = takL l (xs.getD i default).id := by unfold stepL; rw [if_neg h4, if_pos h5]
    refine CallSt.ro (zow s b l (xs.getD i default).id (by omega)) rfl rfl ?_
    refine CallSt.ob [(2, .d (lSt xs)), (3, .box 3 0), (4, .box 4 0), (7, .box 19 0), (9, .box 9 0), (12, .box 12 0), (52, .d (lSt xs)), (53, .d (I xs.length)), (54, .d (I i)), (13, .d (I (takE l (xs.getD i default).id))), (84, .box 19 0), (86, .d (I (xs.getD i default).id))] (smO s b l (l.map (alwP s b))) [(3, .box (s.ds.map AV.d)), (4, .box (b.ds.map AV.d)), (9, .box ((smD s b (takL l (xs.getD i default).id)).map AV.d)), (12, .box ((xs.getD i default).ds.map AV.d))] rfl rfl (zoP s b l (xs.getD i default).id (by omega))
     (zn1 (l := smOr s b l (l.map (alwP s b)) [(3, .box (s.ds.map AV.d)), (4, .box (b.ds.map AV.d)), (9, .box ((smD s b (takL l (xs.getD i default).id)).map AV.d)), (12, .box ((xs.getD i default).ds.map AV.d))]) rfl ⟨rfl, ⟨obY rfl (smW s b), obR rfl (dE _), obR rfl (dE _), obD s.ds rfl, obD b.ds rfl, obD (smD s b (takL l (xs.getD i default).id)) rfl, obD (xs.getD i default).ds rfl, trivial⟩, wq rfl⟩) ⟨⟨[], rfl, rfl⟩⟩ rfl rfl ?_
    refine sB (fun h => absurd h (by simp)) (fun _ => ?_)
    refine CutOb.at [(2, .d (lSt xs)), (3, .box 3 0), (4, .box 4 0), (7, .box 19 0), (9, .box 9 0), (12, .box 12 0), (52, .d (lSt xs)), (53, .d (I xs.length)), (54, .d (I i))] (smOr s b (stepL s l (xs.getD i default)) ((stepL s l (xs.getD i default)).map (alwP s b)) [(3, .box (s.ds.map AV.d)), (4, .box (b.ds.map AV.d)), (9, .box ((smD s b (stepL s l (xs.getD i default))).map AV.d)), (12, .box ((xs.getD i default).ds.map AV.d))]) ?_ ?_
    ·exact ⟨rfl, ⟨obY rfl (smW s b), obR rfl (by rw [e4]; exact dE _), obR rfl (by rw [e4]; exact dE _), obD s.ds rfl, obD b.ds rfl, (by rw [e4]; exact obD (smD s b _) rfl), obD (xs.getD i default).ds rfl, trivial⟩, wq rfl⟩
    ·exact key.out
   ·have h5 : (xs.getD i default).W ≠ 1 := by simpa using h5
    have e4 : stepL s l (xs.getD i default) = l := by unfold stepL; rw [if_neg h4, if_neg h5]
    refine CutOb.at [(2, .d (lSt xs)), (3, .box 3 0), (4, .box 4 0), (7, .box 19 0), (9, .box 9 0), (12, .box 12 0), (52, .d (lSt xs)), (53, .d (I xs.length)), (54, .d (I i))] (smOr s b (stepL s l (xs.getD i default)) ((stepL s l (xs.getD i default)).map (alwP s b)) [(3, .box (s.ds.map AV.d)), (4, .box (b.ds.map AV.d)), (9, .box ((smD s b (stepL s l (xs.getD i default))).map AV.d)), (12, .box ((xs.getD i default).ds.map AV.d))]) ?_ ?_
    ·exact ⟨rfl, ⟨obY rfl (smW s b), obR rfl (by rw [e4]; exact dE _), obR rfl (by rw [e4]; exact dE _), obD s.ds rfl, obD b.ds rfl, (by rw [e4]; exact obD (smD s b _) rfl), obD (xs.getD i default).ds rfl, trivial⟩, wq rfl⟩
    ·exact key.out
  ·have hg' := zj8 hg (xs.getD i default)
   generalize stepL s l (xs.getD i default) = l' at hg' ⊢
   obtain ⟨-, -, hn', -, -⟩ := zbg.1 hg'
   have hWhy := w_Why s b l' (l'.map (alwP s b)) (xs.getD i default).P ok.c.m (by omega) (by rw [List.length_map])
   have hWh2 := q_Why s b l' (xs.getD i default).P hg'
   obtain ⟨⟨wid, wb⟩, hw⟩ : ∃ w, whyR s l' (l'.map (alwP s b)) (xs.getD i default).P = w := ⟨_, rfl⟩
   rw [hw] at hWhy hWh2
   refine CallSt.lend [1001, 1002, 19] rfl hWhy rfl ⟨zgo, zaa _, trivial⟩ rfl ?_
   refine cP hWh2 rfl rfl ?_
   have hpl : (plsL s.c.M (metP (l'.map (alwP s b)))).length <= 1000000 := by
    have := zgU s b l'
    rw [zoE hg'] at this
    exact Nat.le_trans this (by decide)
   cases wb
   all_goals
    refine oL (List.range 24) (FzOb.no ?_)
    refine sB (fun h => absurd h (by simp)) (fun _ => ?_)
    repeat first | apply sT | apply sF
    refine CallOb.deep (zdK (ziY s b l' (l'.map (alwP s b)) (by omega)) (fun m j _ _ => zfx l' m j)) rfl ⟨zgo, trivial⟩ ?_
    refine oP (zeo l' (by omega)) rfl rfl ?_
    repeat first | apply sT | apply sF
    refine CallOb.deep (zdK (zoM s b l' (l'.map (alwP s b)) ok.c.m (by rw [List.length_map]; omega)) (fun m j _ _ => zl7 _ m j)) rfl ⟨zgo, trivial⟩ ?_
    refine CallOb.ro (zm2 s b l' hg') rfl rfl ?_
    refine oP (zcu (plsL s.c.M (metP (l'.map (alwP s b)))) (plsL s.c.M (metP (l'.map (alwP s b)))) hpl) rfl rfl ?_
    repeat first | apply sT | apply sF | refine sB (fun h => absurd h (by simp)) (fun _ => ?_)
    refine ⟨i6, ?_⟩
    exact ⟨(i + 1, l'), ⟨rfl, ⟨obY rfl (smW s b), obR rfl (dE _), obR rfl (dE _), obD s.ds rfl, obD b.ds rfl, obD (smD s b l') rfl, trivial⟩, wq rfl⟩, ⟨h3, hg'⟩, (msr (by omega))⟩
 ·refine cP zcG rfl rfl ?_
  exact r1B rfl rfl
end Go.Pg
