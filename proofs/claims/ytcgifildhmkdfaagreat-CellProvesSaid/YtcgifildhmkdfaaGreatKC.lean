/- Texts joined and shortened by program. -/
import Derived.Test.YtcgifildhmkdfaaGreatKB
import Derived.Test.YtcgifildhmkdfaaGreatKA
set_option linter.all false
set_option maxRecDepth 100000
namespace Go.Pg
open Go.Proofs Go.RowKit
theorem rsn_ok {s : Svc} {b : Brn} {l : List Rpt} (h : givE s b l = 0) : rsnR s b l = (rsnK s l (l.map (alwP s b)) s.n, 0) := by unfold rsnR; rw [if_neg (fun hh => hh h)]
theorem rsn_no {s : Svc} {b : Brn} {l : List Rpt} (h : givE s b l ≠ 0) : rsnR s b l = ([], givE s b l) := by unfold rsnR; rw [if_pos h]
theorem pls_alw {s : Svc} {b : Brn} {l : List Rpt} (h : givE s b l = 0) {p : Place} (hp : p ∈ plsL s.c.M (metP (l.map (alwP s b)))) {r : Rpt} (hr : r ∈ l) : alwR s b r p = (true, 0) := by
  obtain ⟨h1, h2, h3, h4, h5⟩ := giv_iff.1 h
  unfold plsL plsK at hp
  obtain ⟨n, hn, rfl⟩ := List.mem_map.1 hp
  rw [List.mem_filter, List.mem_range] at hn
  have h6 := (alw_iff.1 (met_alw.1 hn.2 r hr)).2
  have h7 := plc_on (giv_ok h).s.c.m hn.1
  unfold alwR
  rw [if_neg (fun hh => hh h1), if_neg (by rw [h2]; decide), if_neg (fun hh => hh (h4 r hr)), if_neg (by rw [h7]; decide), h6]
set_option maxHeartbeats 4000000 in
theorem s_CellProves (s : Svc) (b : Brn) (l : List Rpt) (ps : List Place) (rs : List Rsn) : Spec PP 10 [s.v, b.v, .d (lR l), .d (lP ps), .d (lRs rs)] [B true] := by
  have hP := l_Places s b l
  have hR := l_Reasons s b l
  refine specC_at [11] Tryz.func10 rfl (by kernel_rfl) rfl ?_
  refine CallSt.pure (w_small s) rfl rfl ?_
  refine Split.by (fun h1 => ?_) (fun h1 => ?_)
  · repeat first | refine Split.tt ?_ | refine Split.ff ?_
    refine CallSt.pure w_sanity rfl rfl ?_
    exact r1B rfl rfl
  repeat first | refine Split.tt ?_ | refine Split.ff ?_
  refine Split.by (fun h2 => ?_) (fun h2 => ?_)
  · repeat first | refine Split.tt ?_ | refine Split.ff ?_
    refine CallSt.pure w_sanity rfl rfl ?_
    exact r1B rfl rfl
  have h2 : l.length ≤ 7 := by have : ¬ (7 : Int) < l.length := dF h2; omega
  repeat first | refine Split.tt ?_ | refine Split.ff ?_
  refine Split.by (fun h3 => ?_) (fun h3 => ?_)
  · repeat first | refine Split.tt ?_ | refine Split.ff ?_
    refine CallSt.pure w_sanity rfl rfl ?_
    exact r1B rfl rfl
  have h3 : ps.length ≤ 300 := by have : ¬ (300 : Int) < ps.length := dF h3; omega
  repeat first | refine Split.tt ?_ | refine Split.ff ?_
  refine Split.by (fun h4 => ?_) (fun h4 => ?_)
  · refine CallSt.pure w_sanity rfl rfl ?_
    exact r1B rfl rfl
  have h4 : rs.length ≤ 300 := by have : ¬ (300 : Int) < rs.length := dF h4; omega
  refine CallSt.ro hP rfl rfl ?_
  refine CallSt.ro hR rfl rfl ?_
  have hck := l_CheckCell s b l ps rs (by omega) (by omega)
  by_cases h0 : givE s b l = 0
  · have ok := giv_ok h0
    have hn : s.n ≤ 2401 := spots_lt ok.s.c.m
    have hw := validM_spec ok.s.c.m
    have hlen := pls_rsn_len (s := s) (l := l) (L := l.map (alwP s b))
    have hal : ∀ p ∈ plsL s.c.M (metP (l.map (alwP s b))), ∀ r ∈ l, alwR s b r p = (true, 0) := fun p hp r hr => pls_alw h0 hp hr
    have hcc := l_CheckCell s b l (plsL s.c.M (metP (l.map (alwP s b)))) (rsnK s l (l.map (alwP s b)) s.n) (by omega) (by omega)
    have e3 : chkR s b l (plsL s.c.M (metP (l.map (alwP s b)))) (rsnK s l (l.map (alwP s b)) s.n) = 0 := by
      unfold chkR; rw [if_neg (fun hh => hh h0), if_pos (ck_complete h0)]
    have e4 : chkR s b l ps rs = 0 → plsL s.c.M (metP (l.map (alwP s b))) = ps := fun h => by
      unfold chkR at h
      rw [if_neg (fun hh => hh h0)] at h
      split at h
      · rename_i hc; exact (ck_sound hc).symm
      · cases h
    rw [e3] at hcc
    rw [plc_ok h0, rsn_ok h0]
    generalize plsL s.c.M (metP (l.map (alwP s b))) = Q at *
    generalize rsnK s l (l.map (alwP s b)) s.n = W at *
    repeat first | refine Split.tt ?_ | refine Split.ff ?_
    refine CallSt.pure hcc rfl rfl ?_
    repeat first | refine Split.tt ?_ | refine Split.ff ?_
    refine CallSt.pure hck rfl rfl ?_
    apply two_
    · intro key
      refine Split.by (fun h5 => ?_) (fun h5 => ?_)
      · have h5 : chkR s b l ps rs = 0 := by simpa using h5
        have e5 := e4 h5
        refine CallSt.pure (r_SamePlaces Q ps (by omega)) rfl rfl ?_
        repeat first | refine Split.tt ?_ | refine Split.ff ?_ | refine Split.no (by simp [e5]) ?_
        refine CutOb.at [(2, .d (lR l)), (5, .box 5 0), (6, .box 6 0), (11, .d (lP Q)), (13, .d (lRs W))] [(5, .box (s.ds.map AV.d)), (6, .box (b.ds.map AV.d))] ?_ ?_
        · exact ⟨rfl, ⟨obD s.ds rfl, obD b.ds rfl, trivial⟩, avR _ rfl, avQ rfl, avQ rfl, avR _ rfl, avR _ rfl, trivial⟩
        · exact key.out
      · have h5 : chkR s b l ps rs ≠ 0 := by simpa using h5
        repeat first | refine Split.tt ?_ | refine Split.ff ?_
        refine CutOb.at [(2, .d (lR l)), (5, .box 5 0), (6, .box 6 0), (11, .d (lP Q)), (13, .d (lRs W))] [(5, .box (s.ds.map AV.d)), (6, .box (b.ds.map AV.d))] ?_ ?_
        · exact ⟨rfl, ⟨obD s.ds rfl, obD b.ds rfl, trivial⟩, avR _ rfl, avQ rfl, avQ rfl, avR _ rfl, avR _ rfl, trivial⟩
        · exact key.out
    · refine LoopOb.of (σ := Nat) (fun i => ([(2, .d (lR l)), (5, .box 5 0), (6, .box 6 0), (11, .d (lP Q)), (13, .d (lRs W)), (92, .d (lP Q)), (93, .d (I Q.length)), (94, .d (I i))], [(5, .box (s.ds.map AV.d)), (6, .box (b.ds.map AV.d))])) (fun i => i ≤ Q.length) (fun i => Q.length - i) 0
        ⟨rfl, ⟨obD s.ds rfl, obD b.ds rfl, trivial⟩, avR _ rfl, avQ rfl, avQ rfl, avR _ rfl, avR _ rfl, avR _ rfl, avR _ rfl, avR _ rfl, trivial⟩ (Nat.zero_le _) fun i hi => ?_
      have hi : i ≤ Q.length := hi
      refine Split.by (fun h5 => ?_) (fun h5 => ?_)
      · have h5 : i < Q.length := by have := dT h5; omega
        refine ⟨⟨rfl, by omega, by omega⟩, ?_⟩
        refine LoopOb.of (σ := Nat) (fun k => ([(2, .d (lR l)), (5, .box 5 0), (6, .box 6 0), (11, .d (lP Q)), (13, .d (lRs W)), (16, .box 16 0), (92, .d (lP Q)), (93, .d (I Q.length)), (94, .d (I i)), (98, .d (lR l)), (99, .d (I l.length)), (100, .d (I k))], [(5, .box (s.ds.map AV.d)), (6, .box (b.ds.map AV.d)), (16, .box ([I (Q.getD i default).X, I (Q.getD i default).Y].map AV.d))])) (fun k => k ≤ l.length) (fun k => l.length - k) 0
          ⟨rfl, ⟨obD s.ds rfl, obD b.ds rfl, obX rfl, trivial⟩, avR _ rfl, avQ rfl, avQ rfl, avR _ rfl, avR _ rfl, avQ rfl, avR _ rfl, avR _ rfl, avR _ rfl, avR _ rfl, avR _ rfl, avR _ rfl, trivial⟩ (Nat.zero_le _) fun k hk => ?_
        have hk : k ≤ l.length := hk
        refine Split.by (fun h6 => ?_) (fun h6 => ?_)
        · have h6 : k < l.length := by have := dT h6; omega
          have ha := l_Allows s b (l.getD k default) (Q.getD i default)
          rw [hal _ (gd1 h5 default) _ (gd1 h6 default)] at ha
          refine ⟨⟨rfl, by omega, by omega⟩, ?_⟩
          refine CallSt.pure ha rfl rfl ?_
          repeat first | refine Split.tt ?_ | refine Split.ff ?_
          refine ⟨i6 (by omega), ?_⟩
          exact ⟨k + 1, ⟨rfl, ⟨obD s.ds rfl, obD b.ds rfl, obX rfl, trivial⟩, avR _ rfl, avQ rfl, avQ rfl, avR _ rfl, avR _ rfl, avQ rfl, avR _ rfl, avR _ rfl, avR _ rfl, avR _ rfl, avR _ rfl, avI rfl rfl, trivial⟩, h6, (show l.length - (k + 1) < l.length - k by omega)⟩
        · refine ⟨i6 (by omega), ?_⟩
          exact ⟨i + 1, ⟨rfl, ⟨obD s.ds rfl, obD b.ds rfl, trivial⟩, avR _ rfl, avQ rfl, avQ rfl, avR _ rfl, avR _ rfl, avR _ rfl, avR _ rfl, avI rfl rfl, trivial⟩, h5, (show Q.length - (i + 1) < Q.length - i by omega)⟩
      refine CallSt.pure w_sanity rfl rfl ?_
      repeat first | refine Split.tt ?_ | refine Split.ff ?_
      have ew : ((s.c.M.w : Nat) : Int) = s.c.M.W := by show ((s.c.M.W.toNat : Nat) : Int) = s.c.M.W; omega
      have eh : ((s.c.M.h : Nat) : Int) = s.c.M.H := by show ((s.c.M.H.toNat : Nat) : Int) = s.c.M.H; omega
      have em : s.c.M.W * s.c.M.H = ((s.n : Nat) : Int) := by
        rw [← ew, ← eh]
        show _ = ((s.c.M.w * s.c.M.h : Nat) : Int)
        push_cast; rfl
      refine ⟨i6 (by omega), ⟨inI64 (by rw [em]; omega) (by rw [em]; omega), ?_⟩⟩
      repeat first | refine Split.tt ?_ | refine Split.ff ?_
      refine r1B rfl ?_
      show decide ((Q.length : Int) + (W.length : Int) = s.c.M.W * s.c.M.H) = true
      rw [em]
      exact decide_eq_true (by omega)
  · rw [plc_no h0, rsn_no h0]
    refine Split.no (by simp) ?_
    refine Split.yes (by simpa using h0) ?_
    refine CallSt.pure w_sanity rfl rfl ?_
    repeat first | refine Split.tt ?_ | refine Split.ff ?_
    refine CallSt.pure hck rfl rfl ?_
    repeat first | refine Split.tt ?_ | refine Split.ff ?_
    refine r1B rfl ?_
    unfold chkR; rw [if_pos h0]; simp
theorem app_row {l m : List Rpt} {n k : Nat} {F G : Nat → Nat → D} (hn : n = l.length) (hk : k = m.length) (hF : ∀ i, i < l.length → ∀ j, j < 8 → D.eqv (F i j) ((l.getD i default).at j)) (hG : ∀ i, i < m.length → ∀ j, j < 8 → D.eqv (G i j) ((m.getD i default).at j)) :
    D.eqv (.slc 8 (n + k) (appRow n F G)) (lR (l ++ m)) := by
  subst hn hk
  refine ⟨by rw [List.length_append], .inr ⟨rfl, fun i hi j hj => ?_⟩⟩
  show D.eqv (appRow l.length F G i j) (((l ++ m).getD i default).at j)
  unfold appRow
  by_cases h : i < l.length
  · rw [if_pos h, List.getD_eq_getElem?_getD, List.getElem?_append_left h, ← List.getD_eq_getElem?_getD]
    exact hF i h j hj
  · rw [if_neg h, List.getD_eq_getElem?_getD, List.getElem?_append_right (by omega), ← List.getD_eq_getElem?_getD]
    exact hG (i - l.length) (by omega) j hj
theorem one_row (r : Rpt) : ∀ i, i < [r].length → ∀ j, j < 8 → D.eqv (rowOf 8 r.ds i j) (([r].getD i default).at j) := fun i hi j hj => by
  obtain rfl : i = 0 := by simpa using hi
  exact rd8 r j hj
theorem more_row (l : List Rpt) (r : Rpt) {F : Nat → Nat → D} {n : Nat} (hn : n = l.length) (hF : ∀ i, i < l.length → ∀ j, j < 8 → F i j = (l.getD i default).at j) : D.eqv (.slc 8 (n + 1) (appRow n F (rowOf 8 r.ds))) (lR (l ++ [r])) :=
  app_row hn rfl (fun i hi j hj => by rw [hF i hi j hj]; exact D.eqv_refl _) (one_row r)
theorem nee_ok {s : Svc} {b : Brn} {l : List Rpt} (h : givE s b l = 0) : (neeR s b l).2 = 0 := by unfold neeR; rw [if_neg (fun hh => hh h)]
set_option maxHeartbeats 4000000 in
theorem s_CellMore (s : Svc) (b : Brn) (l : List Rpt) (r : Rpt) (t : Int) (ht : 0 ≤ t ∧ t ≤ 255) : Spec PP 4 [s.v, b.v, .d (lR l), r.v, .d (.int .u8 t)] [B true] := by
  refine specC_at [4, 22, 23] Tryz.func4 rfl (by kernel_rfl) rfl ?_
  refine CallSt.pure (w_small s) rfl rfl ?_
  refine Split.by (fun h1 => ?_) (fun h1 => ?_)
  · repeat first | refine Split.tt ?_ | refine Split.ff ?_
    refine CallSt.pure w_sanity rfl rfl ?_
    exact r1B rfl rfl
  repeat first | refine Split.tt ?_ | refine Split.ff ?_
  refine Split.by (fun h2 => ?_) (fun h2 => ?_)
  · refine CallSt.pure w_sanity rfl rfl ?_
    exact r1B rfl rfl
  have h2 : l.length ≤ 6 := by have : ¬ (6 : Int) < l.length := dF h2; omega
  have hml : (l ++ [r]).length = l.length + 1 := by simp
  refine Exists.intro [1001, 1003, 1004, 0, 2, 5, 6] (And.intro (by kernel_rfl) (FzOb.fz [8] ?_))
  refine ⟨rfl, ⟨rfl, ?_⟩⟩
  refine ⟨rfl, ⟨rfl, ?_⟩⟩
  refine ⟨rfl, ⟨rfl, ?_⟩⟩
  refine ⟨⟨.inr rfl, by simp only [maxLen]; omega, by dsimp only; omega⟩, ?_⟩
  refine ⟨⟨.inr rfl, by simp only [maxLen]; omega, by dsimp only; omega⟩, ?_⟩
  refine CutOb.at [(2, .d (lR l)), (4, .d (.int .u8 t)), (5, .box 5 0), (6, .box 6 0), (8, .roe 8 (getD' r.ds)), (11, .d (lR (l ++ [r])))] [(5, .box (s.ds.map AV.d)), (6, .box (b.ds.map AV.d))] ?_ ?_
  · exact ⟨rfl, ⟨obD s.ds rfl, obD b.ds rfl, trivial⟩, avR _ rfl, avR _ rfl, avQ rfl, avQ rfl, avRo rfl ⟨rfl, fun j _ => by show D.eqv (getD' _ (0 + j)) _; rw [Nat.zero_add]; exact D.eqv_refl _⟩, avOw rfl rfl rfl (more_row l r (Nat.zero_add _) fun i hi j hj => rfl), trivial⟩
  refine CallSt.ro (l_Places s b l) rfl rfl ?_
  refine CallSt.ro (l_Places s b (l ++ [r])) rfl rfl ?_
  by_cases h3 : givE s b l = 0
  · by_cases h4 : givE s b (l ++ [r]) = 0
    · rw [plc_ok h3, plc_ok h4]
      repeat first | refine Split.tt ?_ | refine Split.ff ?_
      have hsub : ∀ p ∈ plsL s.c.M (metP ((l ++ [r]).map (alwP s b))), p ∈ plsL s.c.M (metP (l.map (alwP s b))) := fun p hp => more_pls.subset hp
      have hnl := needed_last h4
      have hN := l_Needed s b (l ++ [r])
      rw [nee_ok h4] at hN
      have hnn := nee_len s b (l ++ [r])
      have hlen : (plsL s.c.M (metP (l.map (alwP s b)))).length ≤ 2401 := by
        have := spots_lt (giv_ok h3).s.c.m
        have := plsK_len s.c.M (metP (l.map (alwP s b))) (s.c.M.w * s.c.M.h)
        show (plsK s.c.M (metP (l.map (alwP s b))) (s.c.M.w * s.c.M.h)).length ≤ 2401
        omega
      have hlen2 : (plsL s.c.M (metP ((l ++ [r]).map (alwP s b)))).length ≤ 2401 := by
        have := (more_pls (s := s) (b := b) (l := l) (r := r)).length_le
        omega
      obtain ⟨k, hk⟩ : ∃ k, (t.tmod ((l ++ [r]).length : Int)).toNat = k := ⟨_, rfl⟩
      have hkt : t.tmod ((l ++ [r]).length : Int) = (k : Int) := by
        rw [Int.tmod_eq_emod_of_nonneg ht.1] at hk ⊢
        have := Int.emod_nonneg t (show ((l ++ [r]).length : Int) ≠ 0 by rw [hml]; omega)
        omega
      have hkl : k < (l ++ [r]).length := by
        rw [Int.tmod_eq_emod_of_nonneg ht.1] at hkt
        have := Int.emod_lt_of_pos t (show (0 : Int) < ((l ++ [r]).length : Int) by rw [hml]; omega)
        omega
      have gt : givE s b ((l ++ [r]).drop k ++ (l ++ [r]).take k) = 0 := giv_perm (rot_perm _ k) h4
      have hT := l_Plc gt
      rw [rot_met] at hT
      generalize (neeR s b (l ++ [r])).1 = C at hN hnl hnn
      generalize hQ : plsL s.c.M (metP ((l ++ [r]).map (alwP s b))) = Q at *
      generalize plsL s.c.M (metP (l.map (alwP s b))) = P at *
      refine LoopOb.of (σ := Nat) (fun i => ([(4, .d (.int .u8 t)), (5, .box 5 0), (6, .box 6 0), (8, .roe 8 (getD' r.ds)), (11, .d (lR (l ++ [r]))), (12, .d (lP P)), (14, .d (lP Q)), (72, .d (lP Q)), (73, .d (I Q.length)), (74, .d (I i))], [(5, .box (s.ds.map AV.d)), (6, .box (b.ds.map AV.d))])) (fun i => i ≤ Q.length) (fun i => Q.length - i) 0
        ⟨rfl, ⟨obD s.ds rfl, obD b.ds rfl, trivial⟩, avR _ rfl, avQ rfl, avQ rfl, avQ rfl, avR _ rfl, avR _ rfl, avR _ rfl, avR _ rfl, avR _ rfl, avR _ rfl, trivial⟩ (Nat.zero_le _) fun i hi => ?_
      have hi : i ≤ Q.length := hi
      refine Split.by (fun h5 => ?_) (fun h5 => ?_)
      · have h5 : i < Q.length := by have := dT h5; omega
        have hh := w_has P (Q.getD i default) (by omega)
        rw [List.contains_iff_mem.2 (hsub _ (gd1 h5 default))] at hh
        refine ⟨⟨rfl, by omega, by omega⟩, ?_⟩
        refine CallSt.pure hh rfl rfl ?_
        repeat first | refine Split.tt ?_ | refine Split.ff ?_
        refine ⟨i6 (by omega), ?_⟩
        exact ⟨i + 1, ⟨rfl, ⟨obD s.ds rfl, obD b.ds rfl, trivial⟩, avR _ rfl, avQ rfl, avQ rfl, avQ rfl, avR _ rfl, avR _ rfl, avR _ rfl, avR _ rfl, avR _ rfl, avI rfl rfl, trivial⟩, h5, (show Q.length - (i + 1) < Q.length - i by omega)⟩
      refine CallSt.ro hN rfl rfl ?_
      refine LoopOb.of (σ := Nat) (fun k => ([(4, .d (.int .u8 t)), (5, .box 5 0), (6, .box 6 0), (8, .roe 8 (getD' r.ds)), (11, .d (lR (l ++ [r]))), (12, .d (lP P)), (14, .d (lP Q)), (19, .d (I 0)), (20, .d (.bool ((C.take k).contains r.ID))), (90, .d (lI C)), (91, .d (I C.length)), (92, .d (I k))], [(5, .box (s.ds.map AV.d)), (6, .box (b.ds.map AV.d))])) (fun k => k ≤ C.length) (fun k => C.length - k) 0
        ⟨rfl, ⟨obD s.ds rfl, obD b.ds rfl, trivial⟩, avR _ rfl, avQ rfl, avQ rfl, avQ rfl, avR _ rfl, avR _ rfl, avR _ rfl, avR _ rfl, avR _ rfl, avR _ rfl, avR _ rfl, avR _ rfl, trivial⟩ (Nat.zero_le _) fun j hj => ?_
      have hj : j ≤ C.length := hj
      refine Split.by (fun h6 => ?_) (fun h6 => ?_)
      · have h6 : j < C.length := by have := dT h6; omega
        have hat := ids_take h6 r.ID
        refine ⟨⟨rfl, by omega, by omega⟩, ?_⟩
        refine Split.by (fun h7 => ?_) (fun h7 => ?_)
        · have h7 : (C.take j).contains r.ID = true := h7
          repeat first | refine Split.tt ?_ | refine Split.ff ?_
          refine ⟨i6 (by omega), ?_⟩
          refine ⟨j + 1, ⟨rfl, ⟨obD s.ds rfl, obD b.ds rfl, trivial⟩, avR _ rfl, avQ rfl, avQ rfl, avQ rfl, avR _ rfl, avR _ rfl, avR _ rfl, avR _ rfl, avE rfl ?_, avR _ rfl, avR _ rfl, avI rfl rfl, trivial⟩, h6, (show C.length - (j + 1) < C.length - j by omega)⟩
          rw [hat, h7]; exact D.eqv_refl _
        · have h7 : (C.take j).contains r.ID = false := h7
          repeat first | refine Split.tt ?_ | refine Split.ff ?_
          refine ⟨i6 (by omega), ?_⟩
          refine ⟨j + 1, ⟨rfl, ⟨obD s.ds rfl, obD b.ds rfl, trivial⟩, avR _ rfl, avQ rfl, avQ rfl, avQ rfl, avR _ rfl, avR _ rfl, avR _ rfl, avR _ rfl, avE rfl ?_, avR _ rfl, avR _ rfl, avI rfl rfl, trivial⟩, h6, (show C.length - (j + 1) < C.length - j by omega)⟩
          rw [hat, h7]
          exact D.eqv_of_eq (congrArg D.bool (Bool.false_or _).symm)
      have h6 : j = C.length := by have := dF h6; omega
      subst h6
      rw [List.take_length, hnl]
      refine ⟨by omega, ?_⟩
      refine CutOb.at [(5, .box 5 0), (6, .box 6 0), (11, .d (lR (l ++ [r]))), (12, .d (lP P)), (14, .d (lP Q)), (19, .d (I 0)), (20, .d (.bool (decide (Q.length < P.length)))), (23, .d (I k))] [(5, .box (s.ds.map AV.d)), (6, .box (b.ds.map AV.d))] ?_ ?_
      · refine ⟨rfl, ⟨obD s.ds rfl, obD b.ds rfl, trivial⟩, avQ rfl, avQ rfl, avR _ rfl, avR _ rfl, avR _ rfl, avR _ rfl, avR _ rfl, avI rfl ?_, trivial⟩
        show (IntKind.i64.wrap t).tmod _ = _
        rw [show IntKind.i64.wrap t = t from wrap_inR (i6 (by omega))]
        exact hkt
      refine Exists.intro [1001, 1002, 1003, 1005, 1006, 1007, 0, 4, 8, 9] (And.intro (by kernel_rfl) (FzOb.no ?_))
      refine ⟨rfl, ⟨rfl, ?_⟩⟩
      refine ⟨rfl, ⟨rfl, ?_⟩⟩
      refine ⟨rfl, ⟨⟨.inr rfl, by omega, by omega⟩, ⟨rfl, ?_⟩⟩⟩
      refine ⟨rfl, ⟨rfl, ?_⟩⟩
      refine ⟨rfl, ⟨rfl, ?_⟩⟩
      refine ⟨rfl, ⟨⟨.inr rfl, by omega, by omega⟩, ⟨rfl, ?_⟩⟩⟩
      refine ⟨⟨.inr rfl, by simp only [maxLen]; omega, by dsimp only; omega⟩, ?_⟩
      refine ⟨⟨.inr rfl, by simp only [maxLen]; omega, by dsimp only; omega⟩, ?_⟩
      refine CutOb.at [(5, .box 5 0), (6, .box 6 0), (12, .d (lP P)), (14, .d (lP Q)), (19, .d (I 0)), (20, .d (.bool (decide (Q.length < P.length)))), (24, .d (lR ((l ++ [r]).drop k ++ (l ++ [r]).take k)))] [(5, .box (s.ds.map AV.d)), (6, .box (b.ds.map AV.d))] ?_ ?_
      · refine ⟨rfl, ⟨obD s.ds rfl, obD b.ds rfl, trivial⟩, avQ rfl, avQ rfl, avR _ rfl, avR _ rfl, avR _ rfl, avR _ rfl, avOw rfl rfl rfl ?_, trivial⟩
        refine app_row (by rw [List.length_drop]; omega) (by rw [List.length_take]; omega) (fun i hi j hj => ?_) (fun i hi j hj => ?_)
        · rw [List.getD_eq_getElem?_getD, List.getElem?_drop, ← List.getD_eq_getElem?_getD]; exact D.eqv_refl _
        · rw [List.length_take] at hi
          rw [show (List.take k (l ++ [r])).getD i default = (l ++ [r]).getD i default by rw [List.getD_eq_getElem?_getD, List.getElem?_take, if_pos (by omega), ← List.getD_eq_getElem?_getD]]
          exact D.eqv_refl _
      refine CallSt.ro hT rfl rfl ?_
      refine CallSt.pure w_sanity rfl rfl ?_
      repeat first | refine Split.tt ?_ | refine Split.ff ?_
      refine Split.yes (by rw [beq_iff_eq]; apply decide_eq_decide.2; omega) ?_
      repeat first | refine Split.tt ?_ | refine Split.ff ?_
      refine CallSt.pure (r_SamePlaces Q Q (by omega)) rfl rfl ?_
      repeat first | refine Split.tt ?_ | refine Split.ff ?_
      exact r1B rfl (by simp)
    · rw [plc_ok h3, plc_no h4]
      repeat first | refine Split.tt ?_ | refine Split.ff ?_
      refine Split.yes (by simpa using h4) ?_
      refine CallSt.pure w_sanity rfl rfl ?_
      repeat first | refine Split.tt ?_ | refine Split.ff ?_
      exact r1B rfl rfl
  · have h4 := giv_app (r := r) h3 h2
    rw [plc_no h3, plc_no (by rw [h4]; exact h3), h4]
    refine Split.yes (by simpa using h3) ?_
    repeat first | refine Split.tt ?_ | refine Split.ff ?_
    refine CallSt.pure w_sanity rfl rfl ?_
    repeat first | refine Split.tt ?_ | refine Split.ff ?_
    refine Split.no (by simpa using h3) ?_
    repeat first | refine Split.tt ?_ | refine Split.ff ?_
    exact r1B rfl (by simp)
theorem w_turned (n : Int) (hn : -1000000000000 ≤ n ∧ n ≤ 1000000000000) : Spec PP 15 [N n] [N (n % 3600)] := by
  have h1 := Int.tmod_lt_of_pos n (show (0 : Int) < 3600 by decide)
  have h2 := Int.tmod_lt_of_pos (-n) (show (0 : Int) < 3600 by decide)
  rw [Int.neg_tmod] at h2
  refine spec_at Tryz.func15 rfl (by kernel_rfl) rfl ?_
  refine ⟨by omega, ⟨i6 (by omega), ⟨by omega, ?_⟩⟩⟩
  refine r1I rfl ?_
  rw [Int.tmod_eq_emod_of_nonneg (by omega), Int.add_emod_right]
  rw [Int.tmod_def, Int.sub_mul_emod_self_left]
def idM (l : List Rpt) : Int := (l.map Rpt.ID).foldl (fun m x => max m (x + 1)) 1
theorem idM_take {l : List Rpt} {i : Nat} (h : i < l.length) : idM (l.take (i + 1)) = max (idM (l.take i)) ((l.getD i default).ID + 1) := by
  unfold idM
  rw [take1 h default, List.map_append, List.foldl_append]; rfl
theorem idM_le (l : List Rpt) : ∀ m : Int, m ≤ (l.map Rpt.ID).foldl (fun m x => max m (x + 1)) m ∧ ∀ r ∈ l, r.ID < (l.map Rpt.ID).foldl (fun m x => max m (x + 1)) m := by
  induction l with
  | nil => intro m; exact ⟨Int.le_refl _, fun r hr => by cases hr⟩
  | cons a r ih =>
    intro m
    obtain ⟨h1, h2⟩ := ih (max m (a.ID + 1))
    refine ⟨?_, fun x hx => ?_⟩
    · show m ≤ (r.map Rpt.ID).foldl (fun m x => max m (x + 1)) (max m (a.ID + 1))
      omega
    · show x.ID < (r.map Rpt.ID).foldl (fun m x => max m (x + 1)) (max m (a.ID + 1))
      rcases List.mem_cons.1 hx with rfl | hx
      · omega
      · exact h2 x hx
theorem idM_bd {l : List Rpt} (h : ∀ i, i < l.length → 1 ≤ (l.getD i default).ID ∧ (l.getD i default).ID ≤ 1099511627776) : ∀ i, i ≤ l.length → 1 ≤ idM (l.take i) ∧ idM (l.take i) ≤ 1099511627777
  | 0, _ => by unfold idM; simp
  | i + 1, hi => by
    have h1 := idM_bd h i (by omega)
    have h2 := h i (by omega)
    rw [idM_take (by omega)]
    omega
set_option maxHeartbeats 4000000 in
theorem s_CellBehind (s : Svc) (b : Brn) (l : List Rpt) (x : Lk) (t : Int) (ht : 0 ≤ t ∧ t ≤ 65535) : Spec PP 3 [s.v, b.v, .d (lR l), x.v, .d (.int .u16 t)] [B true] := by
  refine specC_at [12, 16, 19] Tryz.func3 rfl (by kernel_rfl) rfl ?_
  refine CallSt.pure (w_small s) rfl rfl ?_
  refine Split.by (fun h1 => ?_) (fun h1 => ?_)
  · repeat first | refine Split.tt ?_ | refine Split.ff ?_
    refine CallSt.pure w_sanity rfl rfl ?_
    exact r1B rfl rfl
  repeat first | refine Split.tt ?_ | refine Split.ff ?_
  refine Split.by (fun h2 => ?_) (fun h2 => ?_)
  · refine CallSt.pure w_sanity rfl rfl ?_
    exact r1B rfl rfl
  have h2 : l.length ≤ 6 := by have : ¬ (6 : Int) < l.length := dF h2; omega
  refine CallSt.pure (l_Behind s b l x) rfl rfl ?_
  by_cases h3 : givE s b l = 0
  · have e1 : behR s b l x = fndR s b (metP (l.map (alwP s b))) x := by unfold behR; rw [if_neg (fun hh => hh h3)]
    rw [e1, fnd_e]
    by_cases h4 : lkE s x = 0
    · have hx := lk_ok h4
      have ok := giv_ok h3
      have idb := (ids_ok ok).b
      have e2 : fndR s b (metP (l.map (alwP s b))) x = ((seeK s b (metP (l.map (alwP s b))) x s.n : Int), ((plsL s.c.M (metP [metP (l.map (alwP s b)), alwP s b (blkO x)])).length : Int), 0) := by unfold fndR; rw [h4, if_neg (fun hh => hh rfl)]
      rw [e2, h4]
      repeat first | refine Split.tt ?_ | refine Split.ff ?_
      refine LoopOb.of (σ := Nat) (fun i => ([(2, .d (lR l)), (4, .d (.int .u16 t)), (5, .box 5 0), (6, .box 6 0), (8, .box 8 0), (11, .box 11 0), (13, .d (I (idM (l.take i)))), (47, .d (lR l)), (48, .d (I l.length)), (49, .d (I i))], [(5, .box (s.ds.map AV.d)), (6, .box (b.ds.map AV.d)), (8, .box (x.ds.map AV.d)), (11, .box ([I (seeK s b (metP (l.map (alwP s b))) x s.n), I (plsL s.c.M (metP [metP (l.map (alwP s b)), alwP s b (blkO x)])).length].map AV.d))])) (fun i => i ≤ l.length) (fun i => l.length - i) 0
        ⟨rfl, ⟨obD s.ds rfl, obD b.ds rfl, obX rfl, obX rfl, trivial⟩, avR _ rfl, avR _ rfl, avQ rfl, avQ rfl, avQ rfl, avQ rfl, avI rfl rfl, avR _ rfl, avR _ rfl, avR _ rfl, trivial⟩ (Nat.zero_le _) fun i hi => ?_
      have hi : i ≤ l.length := hi
      have hb := idM_bd idb i hi
      refine Split.by (fun h5 => ?_) (fun h5 => ?_)
      · have h5 : i < l.length := by have := dT h5; omega
        have hbi := idb i h5
        have gI : inR .i64 ((l.getD i default).ID + 1) := i6 (by omega)
        refine ⟨⟨rfl, by omega, by omega⟩, ?_⟩
        refine ⟨gI, ?_⟩
        refine ⟨i6 (by omega), ?_⟩
        refine ⟨i + 1, ⟨rfl, ⟨obD s.ds rfl, obD b.ds rfl, obX rfl, obX rfl, trivial⟩, avR _ rfl, avR _ rfl, avQ rfl, avQ rfl, avQ rfl, avQ rfl, avI rfl ?_, avR _ rfl, avR _ rfl, avI rfl rfl, trivial⟩, h5, (show l.length - (i + 1) < l.length - i by omega)⟩
        rw [idM_take h5]; rfl
      have h5 : i = l.length := by have := dF h5; omega
      subst h5
      rw [List.take_length] at hb ⊢
      have hlt : ∀ r ∈ l, r.ID < idM l := (idM_le l 1).2
      have h1l : 1 ≤ idM l := hb.1
      generalize idM l = id at hb hlt h1l
      have hf := rpt_frm hx.r
      have hfb := frm_b hf (show (2 : Int) ≠ 1 by decide)
      have b1 : 0 ≤ x.From ∧ x.From ≤ 3599 := hfb.f
      have b2 : 0 ≤ x.To ∧ x.To ≤ 3599 := hfb.t
      have d1 := Int.emod_nonneg (x.To - x.From) (show (3600 : Int) ≠ 0 by decide)
      have d2 := Int.emod_lt_of_pos (x.To - x.From) (show (0 : Int) < 3600 by decide)
      obtain ⟨τ, hτ⟩ : ∃ τ, (IntKind.i64.wrap t).tmod ((x.To - x.From) % 3600 + 1) = τ := ⟨_, rfl⟩
      have τ1 : 0 ≤ τ ∧ τ ≤ (x.To - x.From) % 3600 := by
        rw [← hτ, show IntKind.i64.wrap t = t from wrap_inR (i6 (by omega)), Int.tmod_eq_emod_of_nonneg ht.1]
        have := Int.emod_nonneg t (show (x.To - x.From) % 3600 + 1 ≠ 0 by omega)
        have := Int.emod_lt_of_pos t (show 0 < (x.To - x.From) % 3600 + 1 by omega)
        omega
      generalize hP : metP (l.map (alwP s b)) = P
      refine CutOb.at [(2, .d (lR l)), (4, .d (.int .u16 t)), (5, .box 5 0), (6, .box 6 0), (8, .box 8 0), (11, .box 11 0), (13, .d (I id))] [(5, .box (s.ds.map AV.d)), (6, .box (b.ds.map AV.d)), (8, .box (x.ds.map AV.d)), (11, .box ([I (seeK s b P x s.n), I (plsL s.c.M (metP [P, alwP s b (blkO x)])).length].map AV.d))] ?_ ?_
      · exact ⟨rfl, ⟨obD s.ds rfl, obD b.ds rfl, obX rfl, obX rfl, trivial⟩, avR _ rfl, avR _ rfl, avQ rfl, avQ rfl, avQ rfl, avQ rfl, avR _ rfl, trivial⟩
      refine Exists.intro (List.range 16) (And.intro (by kernel_rfl) (FzOb.no ?_))
      refine ⟨i6 (by omega), ?_⟩
      refine CallOb.pure (w_turned (x.To - x.From) (by omega)) rfl rfl ?_
      refine ⟨i6 (by omega), ⟨by omega, ?_⟩⟩
      have gF : inR .i64 (x.From + (IntKind.i64.wrap t).tmod ((x.To - x.From) % 3600 + 1)) := inI64 (by rw [hτ]; omega) (by rw [hτ]; omega)
      refine ⟨gF, ?_⟩
      refine CallOb.pure (w_turned (x.From + (IntKind.i64.wrap t).tmod ((x.To - x.From) % 3600 + 1)) (by rw [hτ]; omega)) rfl rfl ?_
      rw [hτ]
      refine CutOb.at [(2, .d (lR l)), (5, .box 5 0), (6, .box 6 0), (11, .box 11 0), (13, .d (I id)), (16, .box 16 0), (17, .box 17 0)] [(5, .box (s.ds.map AV.d)), (6, .box (b.ds.map AV.d)), (11, .box ([I (seeK s b P x s.n), I (plsL s.c.M (metP [P, alwP s b (blkO x)])).length].map AV.d)), (16, .box ((blkI x id).ds.map AV.d)), (17, .box ((sgtI x id τ).ds.map AV.d))] ?_ ?_
      · exact ⟨rfl, ⟨obD s.ds rfl, obD b.ds rfl, obX rfl, obX rfl, obX rfl, trivial⟩, avR _ rfl, avQ rfl, avQ rfl, avQ rfl, avR _ rfl, avQ rfl, avQ rfl, trivial⟩
      refine Split.by (fun h6 => ?_) (fun h6 => ?_)
      · refine CallSt.pure w_sanity rfl rfl ?_
        exact r1B rfl rfl
      have h6 : id ≤ 1099511627776 := by have : ¬ (1099511627776 : Int) < id := dF h6; omega
      have hid : 1 ≤ id ∧ id ≤ 1099511627776 := ⟨h1l, h6⟩
      obtain ⟨h0, -, -, -, -⟩ := giv_iff.1 h3
      have gb : givE s b (l ++ [blkI x id]) = 0 := giv_snoc h3 (blk_ok hx hid) (fun r hr => hlt r hr) (by omega)
      have gs : givE s b (l ++ [sgtI x id τ]) = 0 := giv_snoc h3 (sgt_ok h0 hx hid) (fun r hr => hlt r hr) (by omega)
      have c1 := blk_cnt s b l x id
      have c2 := sgt_cnt h0 b l hx hid τ1
      have hB := l_Plc gb
      have hS := l_Plc gs
      rw [hP] at c1 c2
      generalize plsL s.c.M (metP ((l ++ [blkI x id]).map (alwP s b))) = A1 at hB c1
      generalize plsL s.c.M (metP ((l ++ [sgtI x id τ]).map (alwP s b))) = A2 at hS c2
      refine Exists.intro [1000, 1001, 1003, 1005, 1006, 2, 4, 7, 5008, 9, 10, 11, 12, 13] (And.intro (by kernel_rfl) (FzOb.no ?_))
      refine ⟨rfl, ⟨rfl, ?_⟩⟩
      refine ⟨rfl, ⟨rfl, ?_⟩⟩
      refine ⟨rfl, ⟨rfl, ?_⟩⟩
      refine ⟨rfl, ⟨rfl, ?_⟩⟩
      refine ⟨rfl, ⟨rfl, ?_⟩⟩
      refine ⟨⟨.inr rfl, by simp only [maxLen]; omega, by dsimp only; omega⟩, ?_⟩
      refine ⟨⟨.inr rfl, by simp only [maxLen]; omega, by dsimp only; omega⟩, ?_⟩
      refine FzOb.no ?_
      refine CallSt.fzE [97] hB rfl ⟨eqvs_refl _, eqvs_refl _, more_row l (blkI x id) (Nat.zero_add _) fun i hi j hj => rfl, trivial⟩ rfl ?_
      refine CutOb.at [(2, .d (lR l)), (5, .box 5 0), (6, .box 6 0), (11, .box 11 0), (17, .box 17 0), (18, .d (lP A1)), (19, .d (I 0))] [(5, .box (s.ds.map AV.d)), (6, .box (b.ds.map AV.d)), (11, .box ([I (seeK s b P x s.n), I (plsL s.c.M (metP [P, alwP s b (blkO x)])).length].map AV.d)), (17, .box ((sgtI x id τ).ds.map AV.d))] ?_ ?_
      · exact ⟨rfl, ⟨obD s.ds rfl, obD b.ds rfl, obX rfl, obX rfl, trivial⟩, avR _ rfl, avQ rfl, avQ rfl, avQ rfl, avQ rfl, avR _ rfl, avR _ rfl, trivial⟩
      refine Exists.intro [1000, 1001, 1003, 1005, 1006, 2, 4, 7, 5008, 9, 10, 11, 12, 13] (And.intro (by kernel_rfl) (FzOb.no ?_))
      refine ⟨rfl, ⟨rfl, ?_⟩⟩
      refine ⟨rfl, ⟨rfl, ?_⟩⟩
      refine ⟨rfl, ⟨rfl, ?_⟩⟩
      refine ⟨rfl, ⟨rfl, ?_⟩⟩
      refine ⟨rfl, ⟨rfl, ?_⟩⟩
      refine ⟨⟨.inr rfl, by simp only [maxLen]; omega, by dsimp only; omega⟩, ?_⟩
      refine ⟨⟨.inr rfl, by simp only [maxLen]; omega, by dsimp only; omega⟩, ?_⟩
      refine FzOb.no ?_
      refine CallSt.fzE [109] hS rfl ⟨eqvs_refl _, eqvs_refl _, more_row l (sgtI x id τ) (Nat.zero_add _) fun i hi j hj => rfl, trivial⟩ rfl ?_
      refine CallSt.pure w_sanity rfl rfl ?_
      repeat first | refine Split.tt ?_ | refine Split.ff ?_
      refine Split.yes (by rw [beq_iff_eq]; omega) ?_
      repeat first | refine Split.tt ?_ | refine Split.ff ?_
      refine r1B rfl ?_
      exact decide_eq_true (by omega)
    · have e2 : fndR s b (metP (l.map (alwP s b))) x = (0, 0, lkE s x) := by unfold fndR; rw [if_pos h4]
      rw [e2]
      refine Split.yes (by simpa using h4) ?_
      refine CallSt.pure w_sanity rfl rfl ?_
      repeat first | refine Split.tt ?_ | refine Split.ff ?_
      exact r1B rfl rfl
  · have e1 : behR s b l x = (0, 0, givE s b l) := by unfold behR; rw [if_pos h3]
    rw [e1]
    refine Split.yes (by simpa using h3) ?_
    refine CallSt.pure w_sanity rfl rfl ?_
    repeat first | refine Split.tt ?_ | refine Split.ff ?_
    exact r1B rfl rfl
end Go.Pg
