/- Texts joined and shortened by program. -/
import Derived.Test.YtcgifildhmkdfaaGreatLD
import Derived.Test.YtcgifildhmkdfaaGreatLB
import Derived.Test.YtcgifildhmkdfaaGreatLA
import Derived.Test.YtcgifildhmkdfaaGreatLC
set_option linter.all false
set_option maxRecDepth 100000
namespace Go.Pg
open Go.Proofs Go.RowKit Go.Sort Go.Shelf
abbrev smO (s : Svc) (b : Brn) (l : List Rpt) (L : List (Nat → Bool)) : List (Nat × Ob) :=
  [(19, .box [.d (I s.c.M.W), .d (I s.c.M.H), .d (lI s.c.M.G), .d (lT s.c.T), .d (lZ s.c.Z), .d (lC s.k.C), .d (lK s.k.K), .d (I b.From), .d (I b.To), .d (I b.Rise), .own 1001, .own 1002]), (1001, .row 49 8 l.length (rowRp l)), (1002, .row 123 38 L.length (rowB L))]
theorem obY {s : St} {ob : Nat → Option Ob} {o : Option Ob} {cs cs' : List AV} (g : o = some (.box cs)) (h : avles s ob cs cs') : Oble s ob o (.box cs') := by subst g; exact h
theorem obNo {s : St} {ob : Nat → Option Ob} {o : Option Ob} {e k n : Nat} {f : Nat → Nat → D} (g : o = none) (h : n = 0) : Oble s ob o (.row e k n f) := by subst g; exact h
theorem cp_ok {s : Svc} (ok : SvcOk s) : CpOk s := by
  obtain ⟨h1, h2, h3, -⟩ := validM_spec ok.c.m
  have h4 : s.c.M.W * s.c.M.H ≤ 49 * 49 := Int.mul_le_mul h1.2 h2.2 (by omega) (by decide)
  have := ok.c.t
  have := ok.c.z
  have := ok.k.n
  have := ok.k.m
  exact ⟨by omega, by omega, by omega, by omega, by omega⟩
theorem n_New (s : Svc) (b : Brn) (h0 : svcE s = 0) (hb : brnB b = true) : SpecN PP 34 [s.v, b.v] (smO s b [] []) 19 [N 0] := by
  refine specN_at [] Tryz.func34 rfl (by kernel_rfl) 4 19 5 [] rfl rfl (by decide) rfl ?_
  refine CallSt.pure (l_Check s) rfl rfl ?_
  refine Split.by (fun h1 => absurd h0 (by simpa using h1)) (fun _ => ?_)
  refine CallSt.pure (l_burns b) rfl rfl ?_
  rw [hb]
  refine Split.ff ?_
  refine Exists.intro [0, 2, 1, 3, 4, 5, 6] (And.intro (by kernel_rfl) (FzOb.no ?_))
  refine CallOb.ro (w_copied s (cp_ok (svc_ok h0))) rfl rfl ?_
  exact ⟨rfl, ⟨obY rfl ⟨D.eqv_refl _, D.eqv_refl _, D.eqv_refl _, D.eqv_refl _, D.eqv_refl _, D.eqv_refl _, D.eqv_refl _, D.eqv_refl _, D.eqv_refl _, D.eqv_refl _, ⟨rfl, _, _, _, rfl⟩, ⟨rfl, _, _, _, rfl⟩, trivial⟩, obNo rfl rfl, obNo rfl rfl, trivial⟩, avQ rfl, avI rfl rfl, trivial⟩
theorem w_conR (l : List Rpt) (g : FuncId) (c0 : D) (p : Rpt → Bool) (hn : l.length ≤ 1000000) (hp : ∀ i, i < l.length → Spec PP g [(l.getD i default).v, .d c0] [B (p (l.getD i default))]) : Spec PP 86 [.d (lR l), .d (cloB g [c0])] [B (l.any p)] := by
  refine spec_at Tryz.func86 rfl (by kernel_rfl) rfl ?_
  refine CallSt.pure (s_idxR l g c0 p hn hp) rfl rfl ?_
  refine r1B rfl ?_
  rw [Bool.eq_iff_iff, decide_eq_true_iff]
  exact idx_any p l default
theorem w_Put1 (x r : Rpt) : Spec PP 87 [x.v, .d (capB r.ds)] [B (x.ID == r.ID)] := by
  refine spec_at Tryz.func87 rfl (by kernel_rfl) rfl ?_
  exact r1B rfl rfl
def putE (s : Svc) (l : List Rpt) (r : Rpt) : Int := if 24 ≤ l.length then 2 else if rptE s r ≠ 0 then rptE s r else if (l.any fun x => x.ID == r.ID) = true then 6 else 0
def putLs (s : Svc) (l : List Rpt) (r : Rpt) : List Rpt := if putE s l r = 0 then l ++ [r] else l
theorem smW {st : St} {ob : Nat → Option Ob} (s : Svc) (b : Brn) : avles st ob [.d (I s.c.M.W), .d (I s.c.M.H), .d (lI s.c.M.G), .d (lT s.c.T), .d (lZ s.c.Z), .d (lC s.k.C), .d (lK s.k.K), .d (I b.From), .d (I b.To), .d (I b.Rise), .own 1001, .own 1002] [.d (I s.c.M.W), .d (I s.c.M.H), .d (lI s.c.M.G), .d (lT s.c.T), .d (lZ s.c.Z), .d (lC s.k.C), .d (lK s.k.K), .d (I b.From), .d (I b.To), .d (I b.Rise), .own 1001, .own 1002] :=
  ⟨D.eqv_refl _, D.eqv_refl _, D.eqv_refl _, D.eqv_refl _, D.eqv_refl _, D.eqv_refl _, D.eqv_refl _, D.eqv_refl _, D.eqv_refl _, D.eqv_refl _, rfl, rfl, trivial⟩
theorem m_Put (s : Svc) (b : Brn) (l : List Rpt) (r : Rpt) (ok : SvcOk s) : SpecM PP 37 [.box 19 0, .agg r.ds] (smO s b l (l.map (alwP s b))) (smO s b (putLs s l r) ((putLs s l r).map (alwP s b))) [19] [N (putE s l r)] := by
  refine specM_at [] Tryz.func37 rfl (by kernel_rfl) [4] [(0, 19)] rfl rfl rfl (by decide) rfl fun γ => ?_
  refine Split.by (fun h1 => ?_) (fun h1 => ?_)
  · have h1 : 24 ≤ l.length := by have := dT h1; omega
    have e : putE s l r = 2 := by unfold putE; rw [if_pos h1]
    have e2 : putLs s l r = l := by unfold putLs; rw [e]; rfl
    rw [e, e2]
    exact ⟨rfl, ⟨obY rfl (smW s b), obR rfl (D.eqv_refl _), obR rfl (D.eqv_refl _), trivial⟩, ⟨rfl, rfl⟩, avI rfl rfl, trivial⟩
  have h1 : ¬ 24 ≤ l.length := by have := dF h1; omega
  refine Exists.intro (List.range 7) (And.intro (by kernel_rfl) (FzOb.no ?_))
  refine CallOb.pure (l_checkReport s r (by have := ok.c.t; omega) (by have := ok.k.n; omega)) rfl rfl ?_
  refine Split.by (fun h2 => ?_) (fun h2 => ?_)
  · have h2 : rptE s r ≠ 0 := by simpa using h2
    have e : putE s l r = rptE s r := by unfold putE; rw [if_neg h1, if_pos h2]
    have e2 : putLs s l r = l := by unfold putLs; rw [e, if_neg h2]
    rw [e, e2]
    exact ⟨rfl, ⟨obY rfl (smW s b), obR rfl (D.eqv_refl _), obR rfl (D.eqv_refl _), trivial⟩, ⟨rfl, rfl⟩, avI rfl rfl, trivial⟩
  have h2 : rptE s r = 0 := by simpa using h2
  refine CallSt.lend [3, 1001] rfl (w_conR l 87 (capB r.ds) (fun x => x.ID == r.ID) (by omega) fun i _ => w_Put1 _ r) rfl ⟨D.eqv_refl _, ⟨rfl, rfl, fun j hj => by obtain rfl : j = 0 := Nat.lt_one_iff.1 hj; exact D.eqv_refl _⟩, trivial⟩ rfl ?_
  refine Split.by (fun h3 => ?_) (fun h3 => ?_)
  · have e : putE s l r = 6 := by unfold putE; rw [if_neg h1, if_neg (fun hh => hh h2), if_pos h3]
    have e2 : putLs s l r = l := by unfold putLs; rw [e]; rfl
    rw [e, e2]
    exact ⟨rfl, ⟨obY rfl (smW s b), obR rfl (D.eqv_refl _), obR rfl (D.eqv_refl _), trivial⟩, ⟨rfl, rfl⟩, avI rfl rfl, trivial⟩
  have e : putE s l r = 0 := by unfold putE; rw [if_neg h1, if_neg (fun hh => hh h2), if_neg (by rw [h3]; decide)]
  have e2 : putLs s l r = l ++ [r] := by unfold putLs; rw [if_pos e]
  rw [e, e2]
  refine Exists.intro [1000, 1, 2, 3, 4, 5, 6, 7, 8, 9, 10, 11, 12, 13, 14, 15, 16, 17, 18, 19] (And.intro (by kernel_rfl) (FzOb.no ⟨rfl, ⟨rfl, ?_⟩⟩))
  refine CallOb.pure (l_allowed s b r ok.c.m (rpt_frm h2) (by have := ok.c.t; omega)) rfl rfl ?_
  have hlen : (l.map (alwP s b)).length = l.length := List.length_map ..
  refine ⟨⟨.inr rfl, by unfold maxLen; omega, by show ((l.map (alwP s b)).length + 1) * 304 ≤ 140737488355328; omega⟩, ?_⟩
  refine Exists.intro [1000, 1, 2, 3, 4, 5, 6, 7, 8, 9, 10] (And.intro (by kernel_rfl) (FzOb.no ⟨rfl, ⟨rfl, ?_⟩⟩))
  refine ⟨⟨.inr rfl, by unfold maxLen; omega, by show (l.length + 1) * 64 ≤ 140737488355328; omega⟩, ?_⟩
  refine ⟨rfl, ⟨obY rfl (smW s b), obR rfl (pushR (rd8 r)), obR rfl ?_, trivial⟩, ⟨rfl, rfl⟩, avI rfl rfl, trivial⟩
  rw [List.map_append]
  exact pushB fun j hj => bD_0j (alwP s b r) hj
theorem o_cloneR (l : List Rpt) (hn : l.length ≤ 1000000) : SpecO PP 92 [.d (lR l)] 49 8 l.length (rowRp l) := by
  refine specO_at Tryz.func92 rfl (by kernel_rfl) rfl ?_
  refine fun b hb => ?_
  refine Split.by (fun h1 => ?_) (fun h1 => ?_)
  · have h0 := hb h1
    refine ⟨rfl, rfl, h0.symm, fun i hi => ?_⟩
    omega
  · refine ⟨⟨.inr rfl, by unfold maxLen; omega, by show (0 + l.length) * 64 ≤ 140737488355328; omega⟩, ?_⟩
    refine ⟨rfl, rfl, Nat.zero_add _, fun i hi j hj => ?_⟩
    exact D.eqv_refl _
theorem flatRp (l : List Rpt) (m j : Nat) : (rowRp l m j).flat = true := by
  show ((l.getD m default).at j).flat = true
  unfold Rpt.at
  split <;> rfl
theorem m_Reports (s : Svc) (b : Brn) (l : List Rpt) (L : List (Nat → Bool)) (hn : l.length ≤ 1000000) : SpecM PP 43 [.box 19 0] (smO s b l L) (smO s b l L) [19] [.d (lR l)] := by
  refine specM_at [] Tryz.func43 rfl (by kernel_rfl) [2] [(0, 19)] rfl rfl rfl (by decide) rfl fun γ => ?_
  refine CallSt.own (o_cloneR l hn) rfl rfl (fun m j _ _ => flatRp l m j) ?_
  exact ⟨rfl, ⟨obY rfl (smW s b), obR rfl (D.eqv_refl _), obR rfl (D.eqv_refl _), trivial⟩, ⟨rfl, rfl⟩, avOw rfl rfl rfl (D.eqv_refl _), trivial⟩
theorem m_Cell (s : Svc) (b : Brn) (l : List Rpt) (ok : SvcOk s) (hn : l.length ≤ 1000000) : SpecM PP 44 [.box 19 0] (smO s b l (l.map (alwP s b))) (smO s b l (l.map (alwP s b))) [19] [.d (lP (plsL s.c.M (metP (l.map (alwP s b)))))] := by
  refine specM_at [] Tryz.func44 rfl (by kernel_rfl) [2] [(0, 19)] rfl rfl rfl (by decide) rfl fun γ => ?_
  refine Exists.intro (List.range 11) (And.intro (by kernel_rfl) (FzOb.no ?_))
  refine CallOb.pure (l_meet (l.map (alwP s b)) (by rw [List.length_map]; omega)) rfl rfl ?_
  refine CallOb.ro (l_places s (metP (l.map (alwP s b))) ok.c.m) rfl rfl ?_
  exact ⟨rfl, ⟨obY rfl (smW s b), obR rfl (D.eqv_refl _), obR rfl (D.eqv_refl _), trivial⟩, ⟨rfl, rfl⟩, avR _ rfl, trivial⟩
@[irreducible] def rmP (l : List Rpt) (i : Nat) : List Rpt := l.take i ++ l.drop (i + 1)
theorem rmP_len {l : List Rpt} {i : Nat} (hi : i < l.length) : (rmP l i).length = l.length - 1 := by unfold rmP; simp; omega
theorem rmP_get {l : List Rpt} {i j : Nat} (hi : i < l.length) : (rmP l i)[j]? = if j < i then l[j]? else l[j + 1]? := by
  unfold rmP
  by_cases h : j < i
  · rw [if_pos h, List.getElem?_append_left (by rw [List.length_take]; omega), List.getElem?_take_of_lt h]
  · rw [if_neg h, List.getElem?_append_right (by rw [List.length_take]; omega), List.length_take, List.getElem?_drop]
    congr 1
    omega
theorem rmP_map (f : Rpt → Nat → Bool) (l : List Rpt) (i : Nat) : (rmP l i).map f = rmB (l.map f) i := by
  unfold rmP rmB
  rw [List.map_append, List.map_take, List.map_drop]
theorem t_delR (l : List Rpt) (i : Nat) (hi : i < l.length) : SpecT PP 145 [] [.d (.int .i64 i), .d (.int .i64 ((i + 1 : Nat) : Int))] 49 8 l.length (rowRp l) (rmP l i).length (rowRp (rmP l i)) := by
  obtain ⟨i0, z, h1, h2, h3, h4, h5, h6⟩ := agg_facts (e := 49) (ei := ⟨8, true, 64, List.replicate 8 (.int .i64 0), .struct [(0, 3), (1, 3), (2, 3), (3, 3), (4, 3), (5, 3), (6, 3), (7, 3)]⟩) (by kernel_rfl) rfl
  have h := specT_deleteK Tryz.delR ⟨_, Tryz.func145, by kernel_rfl, by kernel_rfl⟩ (k := 8) (by decide) h3 h4 i0 h1 h2 z h5 (by rw [← Array.length_toList, h6]; rfl) (by rw [h6]; intro v hv; rw [List.eq_of_mem_replicate hv]; rfl) 49 l.length i (rowRp l) (fun m j _ hj => flatRp l m j) hi
  refine h.congr (rmP_len hi).symm fun m hm j hj => ?_
  have e : (rmP l i).getD m default = if m < i then l.getD m default else l.getD (m + 1) default := by
    rw [List.getD_eq_getElem?_getD, rmP_get hi]
    split <;> rfl
  show (if m < i then rowRp l m else rowRp l (m + 1)) j = ((rmP l i).getD m default).at j
  rw [e]
  split <;> rfl
theorem o_withoutR (l : List Rpt) (i : Nat) (hi : i < l.length) (hn : l.length ≤ 1000000) : SpecO PP 90 [.d (lR l), N i] 49 8 (rmP l i).length (rowRp (rmP l i)) := by
  refine specO_at Tryz.func90 rfl (by kernel_rfl) rfl ?_
  refine CallSt.own (o_cloneR l hn) rfl rfl (fun m j _ hj => flatRp l m j) ?_
  refine ⟨i6 (by omega), ?_⟩
  refine CallSt.tk rfl (t_delR l i hi) ⟨⟨[], .tmp 6, [.tmp 7, .tmp 9], [], rfl, rfl, rfl, rfl, rfl, rfl, rfl⟩⟩ rfl ?_
  exact ⟨rfl, rfl, rfl, fun i hi j hj => D.eqv_refl _⟩
theorem o_withoutB (L : List (Nat → Bool)) (i : Nat) (hi : i < L.length) (hn : L.length ≤ 1000000) : SpecO PP 58 [.d (lB L), N i] 123 38 (rmB L i).length (rowB (rmB L i)) := by
  refine specO_at Tryz.func58 rfl (by kernel_rfl) rfl ?_
  refine CallSt.own (o_cloneB L hn) rfl rfl (fun m j _ hj => flatB L m j hj) ?_
  refine ⟨i6 (by omega), ?_⟩
  refine CallSt.tk rfl (t_delB L i hi) ⟨⟨[], .tmp 6, [.tmp 7, .tmp 9], [], rfl, rfl, rfl, rfl, rfl, rfl, rfl⟩⟩ rfl ?_
  exact ⟨rfl, rfl, rfl, fun i hi j hj => D.eqv_refl _⟩
theorem w_Take1 (x : Rpt) (id : Int) : Spec PP 89 [x.v, .d (capB [I id])] [B (x.ID == id)] := by
  refine spec_at Tryz.func89 rfl (by kernel_rfl) rfl ?_
  exact r1B rfl rfl
def takE (l : List Rpt) (id : Int) : Int := if idxL (fun x : Rpt => x.ID == id) l < 0 then 5 else 0
def takL (l : List Rpt) (id : Int) : List Rpt := if idxL (fun x : Rpt => x.ID == id) l < 0 then l else rmP l (idxL (fun x : Rpt => x.ID == id) l).toNat
theorem m_Take (s : Svc) (b : Brn) (l : List Rpt) (id : Int) (hn : l.length ≤ 1000000) : SpecM PP 39 [.box 19 0, .d (I id)] (smO s b l (l.map (alwP s b))) (smO s b (takL l id) ((takL l id).map (alwP s b))) [19] [N (takE l id)] := by
  by_cases hneg : idxL (fun x : Rpt => x.ID == id) l < 0
  · have e1 : takE l id = 5 := by unfold takE; rw [if_pos hneg]
    have e2 : takL l id = l := by unfold takL; rw [if_pos hneg]
    rw [e1, e2]
    refine specM_at [] Tryz.func39 rfl (by kernel_rfl) [4] [(0, 19)] rfl rfl rfl (by decide) rfl fun γ => ?_
    refine CallSt.lend [3, 1001] rfl (s_idxR l 89 (capB [I id]) (fun x => x.ID == id) hn fun i _ => w_Take1 _ id) rfl ⟨D.eqv_refl _, ⟨rfl, rfl, fun j hj => by obtain rfl : j = 0 := Nat.lt_one_iff.1 hj; exact D.eqv_refl _⟩, trivial⟩ rfl ?_
    refine Split.by (fun h1 => ?_) (fun h1 => absurd hneg (by have := dF h1; omega))
    exact ⟨rfl, ⟨obY rfl (smW s b), obR rfl (D.eqv_refl _), obR rfl (D.eqv_refl _), trivial⟩, ⟨rfl, rfl⟩, avI rfl rfl, trivial⟩
  · have e1 : takE l id = 0 := by unfold takE; rw [if_neg hneg]
    have e2 : takL l id = rmP l (idxL (fun x : Rpt => x.ID == id) l).toNat := by unfold takL; rw [if_neg hneg]
    rw [e1, e2, rmP_map]
    have hlt : (idxL (fun x : Rpt => x.ID == id) l).toNat < l.length := by
      rcases idxL_cases (fun x : Rpt => x.ID == id) l default with ⟨h, -⟩ | ⟨i, h1, h2, -⟩
      · omega
      · omega
    have hi : idxL (fun x : Rpt => x.ID == id) l = ((idxL (fun x : Rpt => x.ID == id) l).toNat : Int) := by omega
    generalize (idxL (fun x : Rpt => x.ID == id) l).toNat = k at hlt hi
    have hL : (l.map (alwP s b)).length = l.length := List.length_map ..
    refine SpecM.ren (obs' := [(19, .box [.d (I s.c.M.W), .d (I s.c.M.H), .d (lI s.c.M.G), .d (lT s.c.T), .d (lZ s.c.Z), .d (lC s.k.C), .d (lK s.k.K), .d (I b.From), .d (I b.To), .d (I b.Rise), .own 21, .own 27]), (21, .row 49 8 (rmP l k).length (rowRp (rmP l k))), (27, .row 123 38 (rmB (l.map (alwP s b)) k).length (rowB (rmB (l.map (alwP s b)) k)))]) ?_
      (fun i => bif Nat.beq i 21 then 1001 else bif Nat.beq i 27 then 1002 else i) (fun i => bif Nat.beq i 1001 then 21 else bif Nat.beq i 1002 then 27 else i) rfl rfl
    refine specM_at [] Tryz.func39 rfl (by kernel_rfl) [4] [(0, 19)] rfl rfl rfl (by decide) rfl fun γ => ?_
    refine CallSt.lend [3, 1001] rfl (s_idxR l 89 (capB [I id]) (fun x => x.ID == id) hn fun i _ => w_Take1 _ id) rfl ⟨D.eqv_refl _, ⟨rfl, rfl, fun j hj => by obtain rfl : j = 0 := Nat.lt_one_iff.1 hj; exact D.eqv_refl _⟩, trivial⟩ rfl ?_
    rw [hi]
    refine Split.by (fun h1 => absurd hneg (by have := dT h1; omega)) (fun h1 => ?_)
    refine Exists.intro [0, 1, 2, 3, 4, 5, 6, 8, 9, 10, 11, 12, 6007, 6013, 14, 15, 16, 17, 18, 19] (And.intro (by kernel_rfl) (FzOb.no ?_))
    refine ⟨⟨_, _, _, _, _, _, rfl, rfl, rfl, rfl, ?_⟩⟩
    rw [CallOwn_iff]
    refine ⟨_, _, _, _, _, rfl, o_withoutR l k hlt hn, fun m j _ hj => flatRp _ m j, ?_⟩
    refine ⟨⟨_, _, _, _, _, _, rfl, rfl, rfl, rfl, ?_⟩⟩
    rw [CallOwn_iff]
    refine ⟨_, _, _, _, _, rfl, o_withoutB (l.map (alwP s b)) k (by omega) (by omega), fun m j _ hj => flatB _ m j hj, ?_⟩
    exact ⟨rfl, ⟨obY rfl ⟨D.eqv_refl _, D.eqv_refl _, D.eqv_refl _, D.eqv_refl _, D.eqv_refl _, D.eqv_refl _, D.eqv_refl _, D.eqv_refl _, D.eqv_refl _, D.eqv_refl _, rfl, rfl, trivial⟩, obR rfl (D.eqv_refl _), obR rfl (D.eqv_refl _), trivial⟩, ⟨rfl, rfl⟩, avI rfl rfl, trivial⟩
theorem rtCD {T : TT} {s : St} {a t i : Nat} {ti : TI} {x y : D} (h1 : s.sl a = .box i 0) (h2 : T t = some ti) (h3 : s.ob i = some (.box [.d x])) (h4 : Nat.beq 1 ti.size = true) (h5 : ti.agg = false) (he : D.eqv x y) : RetCell T s t (s.sl a) (.d y) := (r1CD h1 h2 h3 h4 h5 he).1
abbrev smC (s : Svc) (b : Brn) (l : List Rpt) (L : List (Nat → Bool)) : List D := [I s.c.M.W, I s.c.M.H, lI s.c.M.G, lT s.c.T, lZ s.c.Z, lC s.k.C, lK s.k.K, I b.From, I b.To, I b.Rise, lR l, lB L]
def nOf (m : Mp) (p : Place) : Nat := (p.Y * m.W + p.X).toNat
def whyR (s : Svc) (l : List Rpt) (L : List (Nat → Bool)) (p : Place) : Int × Bool := if onM s.c.M p = true ∧ 0 ≤ fstI L (nOf s.c.M p) then ((l.getD (fstI L (nOf s.c.M p)).toNat default).ID, true) else (0, false)
theorem plc_xy {m : Mp} {y x : Nat} (hx : x < m.w) : plc m (y * m.w + x) = ⟨(x : Int), (y : Int)⟩ := by
  unfold plc
  have e1 : (y * m.w + x) % m.w = x := by rw [Nat.add_comm, Nat.add_mul_mod_self_right, Nat.mod_eq_of_lt hx]
  have e2 : (y * m.w + x) / m.w = y := by rw [Nat.add_comm, Nat.add_mul_div_right _ _ (by omega), Nat.div_eq_of_lt hx, Nat.zero_add]
  rw [e1, e2]
theorem plc_nOf {m : Mp} {p : Place} (hp : onM m p = true) : plc m (nOf m p) = p ∧ nOf m p < m.w * m.h := by
  unfold onM at hp
  simp only [Bool.and_eq_true, within_spec] at hp
  obtain ⟨⟨h1, h2⟩, h3, h4⟩ := hp
  obtain ⟨a, ha⟩ := Int.eq_ofNat_of_zero_le h1
  obtain ⟨c, hc⟩ := Int.eq_ofNat_of_zero_le h3
  have hw : ((m.w : Nat) : Int) = m.W := by show ((m.W.toNat : Nat) : Int) = m.W; omega
  have hh : ((m.h : Nat) : Int) = m.H := by show ((m.H.toNat : Nat) : Int) = m.H; omega
  have hax : a < m.w := by omega
  have hcy : c < m.h := by omega
  have e : nOf m p = c * m.w + a := by
    unfold nOf
    rw [ha, hc, ← hw]
    have : (c : Int) * (m.w : Int) + (a : Int) = ((c * m.w + a : Nat) : Int) := by push_cast; rfl
    rw [this]; rfl
  refine ⟨?_, ?_⟩
  · rw [e, plc_xy hax]
    cases p
    simp only at ha hc
    rw [ha, hc]
  · rw [e]
    have : (c + 1) * m.w ≤ m.h * m.w := Nat.mul_le_mul_right _ hcy
    rw [Nat.add_mul] at this
    rw [Nat.mul_comm m.w m.h]
    omega
def obWhy (s : Svc) (b : Brn) (l : List Rpt) (L : List (Nat → Bool)) (p : Place) (id : Int) (ok : Bool) : List (Nat × Ob) :=
  [(2, .box [.d (.ptr 12 (getD' (smC s b l L)))]), (3, .box [.d (I p.X), .d (I p.Y)]), (4, .box [.d (I id)]), (5, .box [.d (.bool ok)])]
abbrev whySl : List (Nat × AV) := [(2, .box 2 0), (3, .box 3 0), (4, .box 4 0), (5, .box 5 0)]
theorem w_Why (s : Svc) (b : Brn) (l : List Rpt) (L : List (Nat → Bool)) (p : Place) (hv : validM s.c.M = true) (hn : l.length ≤ 1000000) (hL : L.length = l.length) :
    Spec PP 40 [.d (.ptr 12 (getD' (smC s b l L))), p.v] [N (whyR s l L p).1, B (whyR s l L p).2] := by
  obtain ⟨bw, bh, -, -⟩ := validM_spec hv
  have hnn0 : s.n ≤ 49 * 49 := Nat.mul_le_mul (by show s.c.M.W.toNat ≤ 49; omega) (by show s.c.M.H.toNat ≤ 49; omega)
  have hw0 : 0 < s.c.M.w := by show 0 < s.c.M.W.toNat; omega
  refine spec_at Tryz.func40 rfl (by kernel_rfl) rfl ?_
  refine CallSt.ro (l_spots s.c.M) rfl rfl ?_
  refine CodeOb.rangeAt (l_spots1 s.c.M hv) rfl (spEnc s.c.M) (val_sp s.c.M) (fun _ => rfl) (by decide) whySl [] (fun _ => obWhy s b l L p 0 false) rfl (fun _ => rfl) ?_ (Iv := fun pre => ∀ n, n < pre.length → plc s.c.M n ≠ p) (fun n hn => absurd hn (Nat.not_lt_zero _)) (fun v pre x hx hI => ?_) (fun hI => ?_)
  · exact ⟨rfl, ⟨obY rfl ⟨D.eqv_refl _, trivial⟩, obY rfl ⟨D.eqv_refl _, D.eqv_refl _, trivial⟩, obY rfl ⟨D.eqv_refl _, trivial⟩, obY rfl ⟨D.eqv_refl _, trivial⟩, trivial⟩, avQ rfl, avQ rfl, avQ rfl, avQ rfl, trivial⟩
  · obtain ⟨rfl, hk⟩ := sp_get hx
    have hnn := spots_nat hv (k := pre.length)
    have hk' : pre.length < 2402 := Nat.lt_of_lt_of_le hk (Nat.le_trans hnn0 (by decide))
    have hpl : (pre ++ [(pre.length / s.c.M.w, pre.length % s.c.M.w)]).length = pre.length + 1 := by simp
    refine Split.by (fun h1 => ?_) (fun h1 => ?_)
    · have h1 : (plc s.c.M pre.length == p) = false := by
        have h1 : (!((plc s.c.M pre.length).X == p.X && ((plc s.c.M pre.length).Y == p.Y && true))) = true := h1
        rw [eqPs] at h1
        simpa using h1
      refine ⟨fun n hn => ?_, rfl, ⟨obY rfl ⟨D.eqv_refl _, trivial⟩, obY rfl ⟨D.eqv_refl _, D.eqv_refl _, trivial⟩, obY rfl ⟨D.eqv_refl _, trivial⟩, obY rfl ⟨D.eqv_refl _, trivial⟩, trivial⟩, avQ rfl, avQ rfl, avQ rfl, avQ rfl, trivial⟩
      rw [hpl] at hn
      by_cases e : n = pre.length
      · subst e; simpa using h1
      · exact hI n (by omega)
    have h1 : plc s.c.M pre.length = p := by
      have h1 : (!((plc s.c.M pre.length).X == p.X && ((plc s.c.M pre.length).Y == p.Y && true))) = false := h1
      rw [eqPs] at h1
      simpa using h1
    have hon : onM s.c.M p = true := by rw [← h1]; exact plc_on hv hk
    have hno : nOf s.c.M p = pre.length := plc_inj hw0 ((plc_nOf hon).1.trans h1.symm)
    refine CallSt.pure (l_first L pre.length _ hnn (by omega) (by omega)) rfl rfl ?_
    refine Split.by (fun h2 => ?_) (fun h2 => ?_)
    · have h2 : 0 ≤ fstI L pre.length := dT h2
      have hlt := fstI_lt h2
      have e : whyR s l L p = ((l.getD (fstI L pre.length).toNat default).ID, true) := by unfold whyR; rw [hno, if_pos ⟨hon, h2⟩]
      refine ⟨⟨rfl, h2, by omega⟩, ?_⟩
      refine ⟨obWhy s b l L p (l.getD (fstI L pre.length).toNat default).ID true, rfl, ⟨rfl, ⟨obY rfl ⟨D.eqv_refl _, trivial⟩, obY rfl ⟨D.eqv_refl _, D.eqv_refl _, trivial⟩, obY rfl ⟨D.eqv_refl _, trivial⟩, obY rfl ⟨D.eqv_refl _, trivial⟩, trivial⟩, avQ rfl, avQ rfl, avQ rfl, avQ rfl, trivial⟩, ?_⟩
      rw [e]
      exact ⟨rtCD rfl rfl rfl rfl rfl ⟨rfl, rfl⟩, rtCD rfl rfl rfl rfl rfl rfl, trivial⟩
    · have h2 : ¬ 0 ≤ fstI L pre.length := dF h2
      have e : whyR s l L p = (0, false) := by unfold whyR; rw [hno, if_neg (fun h => h2 h.2)]
      refine ⟨obWhy s b l L p 0 false, rfl, ⟨rfl, ⟨obY rfl ⟨D.eqv_refl _, trivial⟩, obY rfl ⟨D.eqv_refl _, D.eqv_refl _, trivial⟩, obY rfl ⟨D.eqv_refl _, trivial⟩, obY rfl ⟨D.eqv_refl _, trivial⟩, trivial⟩, avQ rfl, avQ rfl, avQ rfl, avQ rfl, trivial⟩, ?_⟩
      rw [e]
      exact ⟨rtCD rfl rfl rfl rfl rfl ⟨rfl, rfl⟩, rtCD rfl rfl rfl rfl rfl rfl, trivial⟩
  · rw [spL_len] at hI
    have hoff : ¬ onM s.c.M p = true := fun h => hI _ (plc_nOf h).2 (plc_nOf h).1
    have e : whyR s l L p = (0, false) := by unfold whyR; rw [if_neg (fun h => hoff h.1)]
    rw [e]
    exact ⟨rtCD rfl rfl rfl rfl rfl ⟨rfl, rfl⟩, rtCD rfl rfl rfl rfl rfl rfl, trivial⟩
theorem put_giv {s : Svc} {b : Brn} {l : List Rpt} (h : givE s b l = 0) (r : Rpt) : givE s b (putLs s l r) = 0 := by
  unfold putLs
  split
  · rename_i e
    obtain ⟨h1, h2, h3, h4, h5⟩ := giv_iff.1 h
    unfold putE at e
    split at e
    · cases e
    rename_i c1
    split at e
    · rename_i c2; exact absurd e c2
    rename_i c2
    split at e
    · cases e
    rename_i c3
    refine giv_iff.2 ⟨h1, h2, by rw [List.length_append, List.length_singleton]; omega, fun x hx => ?_, ?_⟩
    · rcases List.mem_append.1 hx with hx | hx
      · exact h4 x hx
      · obtain rfl : x = r := by simpa using hx
        exact Classical.byContradiction c2
    · rw [List.map_append, List.nodup_append]
      refine ⟨h5, by simp, fun a ha c hc e => c3 ?_⟩
      obtain rfl : c = r.ID := by simpa using hc
      obtain ⟨x, hx, rfl⟩ := List.mem_map.1 ha
      exact List.any_eq_true.2 ⟨x, hx, by simpa using e⟩
  · exact h
theorem rmP_sub (l : List Rpt) (i : Nat) : (rmP l i).Sublist l := by
  unfold rmP
  have h : (l.take i ++ l.drop (i + 1)).Sublist (l.take i ++ l.drop i) := List.Sublist.append (List.Sublist.refl _) (List.drop_sublist_drop_left l (Nat.le_succ i))
  rwa [List.take_append_drop] at h
theorem tak_giv {s : Svc} {b : Brn} {l : List Rpt} (h : givE s b l = 0) (id : Int) : givE s b (takL l id) = 0 := by
  unfold takL
  split
  · exact h
  · obtain ⟨h1, h2, h3, h4, h5⟩ := giv_iff.1 h
    have hs := rmP_sub l (idxL (fun x : Rpt => x.ID == id) l).toNat
    exact giv_sub h (Nat.le_trans hs.length_le h3) (fun r hr => hs.subset hr) (h5.sublist (hs.map _))
theorem fst_none {s : Svc} {b : Brn} {l : List Rpt} {n : Nat} : (0 ≤ fstI (l.map (alwP s b)) n) ↔ ¬ metP (l.map (alwP s b)) n = true := by
  rw [metP_iff]
  have := idx_any (fun P : Nat → Bool => !P n) (l.map (alwP s b)) default
  rw [show fstI (l.map (alwP s b)) n = idxL (fun P : Nat → Bool => !P n) (l.map (alwP s b)) from rfl, this, List.any_eq_true]
  constructor
  · rintro ⟨P, hP, e⟩ h
    rw [h P hP] at e; cases e
  · intro h
    refine Classical.byContradiction fun hn => h fun P hP => ?_
    cases e : P n with
    | true => rfl
    | false => exact absurd ⟨P, hP, by rw [e]; rfl⟩ hn
theorem why_off {s : Svc} {l : List Rpt} {L : List (Nat → Bool)} {p : Place} (h : onM s.c.M p = false) : (whyR s l L p).2 = false := by
  unfold whyR; rw [if_neg (fun hh => by rw [h] at hh; cases hh.1)]
theorem why_has {s : Svc} {b : Brn} {l : List Rpt} {p : Place} (hv : validM s.c.M = true) (hon : onM s.c.M p = true) : (plsL s.c.M (metP (l.map (alwP s b)))).contains p = !(whyR s l (l.map (alwP s b)) p).2 := by
  obtain ⟨e1, e2⟩ := plc_nOf hon
  have hw0 : 0 < s.c.M.w := by
    obtain ⟨bw, -⟩ := validM_spec hv
    show 0 < s.c.M.W.toNat; omega
  have hm : p ∈ plsL s.c.M (metP (l.map (alwP s b))) ↔ metP (l.map (alwP s b)) (nOf s.c.M p) = true := by
    unfold plsL plsK
    rw [List.mem_map]
    constructor
    · rintro ⟨n, hn, e⟩
      rw [List.mem_filter] at hn
      rw [plc_inj hw0 (e1.trans e.symm)]; exact hn.2
    · intro h
      exact ⟨nOf s.c.M p, List.mem_filter.2 ⟨List.mem_range.2 e2, h⟩, e1⟩
  rw [Bool.eq_iff_iff, List.contains_iff_mem, hm]
  unfold whyR
  by_cases h : 0 ≤ fstI (l.map (alwP s b)) (nOf s.c.M p)
  · rw [if_pos ⟨hon, h⟩]
    have := fst_none.1 h
    simp [this]
  · rw [if_neg (fun hh => h hh.2)]
    have : metP (l.map (alwP s b)) (nOf s.c.M p) = true := Classical.byContradiction fun hn => h (fst_none.2 hn)
    simp [this]
theorem why_alw {s : Svc} {b : Brn} {l : List Rpt} {p : Place} (h : givE s b l = 0) (hb : (whyR s l (l.map (alwP s b)) p).2 = true) {r : Rpt} (hr : r ∈ l) (he : r.ID = (whyR s l (l.map (alwP s b)) p).1) : alwR s b r p = (false, 0) := by
  obtain ⟨h1, h2, h3, h4, h5⟩ := giv_iff.1 h
  unfold whyR at hb he
  by_cases hc : onM s.c.M p = true ∧ 0 ≤ fstI (l.map (alwP s b)) (nOf s.c.M p)
  · rw [if_pos hc] at he
    obtain ⟨hon, h0⟩ := hc
    obtain ⟨e1, e2⟩ := plc_nOf hon
    rcases idxL_cases (fun P : Nat → Bool => !P (nOf s.c.M p)) (l.map (alwP s b)) default with ⟨g, -⟩ | ⟨i, g1, g2, g3, -⟩
    · exact absurd h0 (by unfold fstI; rw [g]; decide)
    · have g2 : fstI (l.map (alwP s b)) (nOf s.c.M p) = (i : Int) := g2
      rw [List.length_map] at g1
      rw [g2] at he
      have er : r = l.getD i default := giv_id h hr (gd1 g1 default) he
      have ea : alwP s b r (nOf s.c.M p) = false := by
        rw [List.getD_eq_getElem?_getD, List.getElem?_map, List.getElem?_eq_getElem g1] at g3
        rw [er, List.getD_eq_getElem?_getD, List.getElem?_eq_getElem g1]
        simpa using g3
      have e3 : allB s b r p = false := by
        cases q : allB s b r p with
        | false => rfl
        | true => rw [alw_iff.2 ⟨e2, by rw [e1]; exact q⟩] at ea; cases ea
      unfold alwR
      rw [if_neg (fun hh => hh h1), if_neg (by rw [h2]; decide), if_neg (fun hh => hh (h4 r hr)), if_neg (by rw [hon]; decide), e3]
  · rw [if_neg hc] at hb; cases hb
structure Stx where
  W : Int
  R : Rpt
  id : Int
  P : Place
  deriving Inhabited
def Stx.at (x : Stx) : Nat → D
  | 0 => I x.W
  | 1 => I x.R.ID
  | 2 => I x.R.Kind
  | 3 => I x.R.Tower
  | 4 => I x.R.C
  | 5 => I x.R.Tick
  | 6 => I x.R.From
  | 7 => I x.R.To
  | 8 => I x.R.Slack
  | 9 => I x.id
  | 10 => I x.P.X
  | _ => I x.P.Y
abbrev Stx.ds (x : Stx) : List D := [I x.W, I x.R.ID, I x.R.Kind, I x.R.Tower, I x.R.C, I x.R.Tick, I x.R.From, I x.R.To, I x.R.Slack, I x.id, I x.P.X, I x.P.Y]
abbrev lSt (l : List Stx) : D := .slc 12 l.length fun i => (l.getD i default).at
def stepL (s : Svc) (l : List Rpt) (x : Stx) : List Rpt := if x.W = 0 then putLs s l x.R else if x.W = 1 then takL l x.id else l
theorem step_giv {s : Svc} {b : Brn} {l : List Rpt} (h : givE s b l = 0) (x : Stx) : givE s b (stepL s l x) = 0 := by
  unfold stepL
  split
  · exact put_giv h _
  · split
    · exact tak_giv h _
    · exact h
theorem n_NewNo (s : Svc) (b : Brn) (h : givE s b [] ≠ 0) : Spec PP 34 [s.v, b.v] [.d (.val (.pointer none)), N (givE s b [])] := by
  refine spec_at Tryz.func34 rfl (by kernel_rfl) rfl ?_
  refine CallSt.pure (l_Check s) rfl rfl ?_
  refine Split.by (fun h1 => ?_) (fun h1 => ?_)
  · have h1 : svcE s ≠ 0 := by simpa using h1
    refine ⟨rfl, rtI rfl ?_, trivial⟩
    unfold givE; rw [if_pos h1]
  have h1 : svcE s = 0 := by simpa using h1
  refine CallSt.pure (l_burns b) rfl rfl ?_
  have hb : brnB b = false := by
    cases e : brnB b with
    | false => rfl
    | true => exact absurd ((giv_iff (b := b) (l := [])).2 ⟨h1, e, Nat.zero_le _, fun r hr => absurd hr (by simp), List.nodup_nil⟩) h
  rw [hb]
  refine Split.tt ?_
  refine ⟨rfl, rtI rfl ?_, trivial⟩
  unfold givE; rw [if_neg (fun hh => hh h1), if_pos hb]
theorem eqv_smC {s : Svc} {b : Brn} {l : List Rpt} {L : List (Nat → Bool)} : D.eqv (.ptr ([I s.c.M.W, I s.c.M.H, lI s.c.M.G, lT s.c.T, lZ s.c.Z, lC s.k.C, lK s.k.K, I b.From, I b.To, I b.Rise, D.slc 8 l.length (rowRp l), D.slc 38 L.length (rowB L)].length - 0) fun j => getD' [I s.c.M.W, I s.c.M.H, lI s.c.M.G, lT s.c.T, lZ s.c.Z, lC s.k.C, lK s.k.K, I b.From, I b.To, I b.Rise, D.slc 8 l.length (rowRp l), D.slc 38 L.length (rowB L)] (0 + j)) (.ptr 12 (getD' (smC s b l L))) :=
  ⟨rfl, fun j hj => by
    show D.eqv (getD' _ (0 + j)) _
    rw [Nat.zero_add]; exact D.eqv_refl _⟩
abbrev smOr (s : Svc) (b : Brn) (l : List Rpt) (L : List (Nat → Bool)) (rest : List (Nat × Ob)) : List (Nat × Ob) :=
  (19, .box [.d (I s.c.M.W), .d (I s.c.M.H), .d (lI s.c.M.G), .d (lT s.c.T), .d (lZ s.c.Z), .d (lC s.k.C), .d (lK s.k.K), .d (I b.From), .d (I b.To), .d (I b.Rise), .own 1001, .own 1002]) :: (1001, .row 49 8 l.length (rowRp l)) :: (1002, .row 123 38 L.length (rowB L)) :: rest
theorem wkApp {s : St} {sl : List (Nat × AV)} {obs rest l : List (Nat × Ob)} (e : obs ++ rest = l) (h : Weak s sl l) : Weak s sl (obs ++ rest) := e ▸ h
set_option maxHeartbeats 8000000 in
theorem s_CellOneByOne (s : Svc) (b : Brn) (xs : List Stx) : Spec PP 11 [s.v, b.v, .d (lSt xs)] [B true] := by
  refine specC_at [14] Tryz.func11 rfl (by kernel_rfl) rfl ?_
  refine CallSt.pure (w_small s) rfl rfl ?_
  refine Split.by (fun h1 => ?_) (fun h1 => ?_)
  · repeat first | refine Split.tt ?_ | refine Split.ff ?_
    refine CallSt.pure w_sanity rfl rfl ?_
    exact r1B rfl rfl
  repeat first | refine Split.tt ?_ | refine Split.ff ?_
  refine Split.by (fun h2 => ?_) (fun h2 => ?_)
  · repeat first | refine Split.tt ?_ | refine Split.ff ?_
    refine CallSt.pure w_sanity rfl rfl ?_
    exact r1B rfl rfl
  have h2 : xs.length ≤ 8 := by have : ¬ (8 : Int) < xs.length := dF h2; omega
  repeat first | refine Split.tt ?_ | refine Split.ff ?_
  by_cases h0 : givE s b [] = 0
  case neg =>
    refine CallSt.ro (n_NewNo s b h0) rfl rfl ?_
    refine Split.yes (by simpa using h0) ?_
    refine CallSt.pure w_sanity rfl rfl ?_
    exact r1B rfl rfl
  obtain ⟨g1, g2, -, -, -⟩ := giv_iff.1 h0
  have ok := svc_ok g1
  refine CallSt.obN [(2, .d (lSt xs)), (3, .box 3 0), (4, .box 4 0), (30, .agg s.ds), (31, .agg b.ds)] [(3, .box (s.ds.map AV.d)), (4, .box (b.ds.map AV.d))] rfl rfl (n_New s b g1 g2)
    ⟨rfl, ⟨obD s.ds rfl, obD b.ds rfl, trivial⟩, avR _ rfl, avQ rfl, avQ rfl, avQ rfl, avQ rfl, trivial⟩ rfl ⟨eqvs_refl _, eqvs_refl _, trivial⟩ rfl rfl rfl ?_
  repeat first | refine Split.tt ?_ | refine Split.ff ?_
  refine LoopOb.of (σ := Nat × List Rpt) (fun x => ([(2, .d (lSt xs)), (3, .box 3 0), (4, .box 4 0), (7, .box 19 0), (38, .d (lSt xs)), (39, .d (I xs.length)), (40, .d (I x.1))], smOr s b x.2 (x.2.map (alwP s b)) [(3, .box (s.ds.map AV.d)), (4, .box (b.ds.map AV.d))]))
    (fun x => x.1 ≤ xs.length ∧ givE s b x.2 = 0) (fun x => xs.length - x.1) (0, [])
    ⟨rfl, ⟨obY rfl (smW s b), obR rfl (D.eqv_refl _), obR rfl (D.eqv_refl _), obD s.ds rfl, obD b.ds rfl, trivial⟩, avR _ rfl, avQ rfl, avQ rfl, avQ rfl, avR _ rfl, avR _ rfl, avR _ rfl, trivial⟩ ⟨Nat.zero_le _, h0⟩ fun x hx => ?_
  obtain ⟨i, l⟩ := x
  obtain ⟨hi, hg⟩ := hx
  have hi : i ≤ xs.length := hi
  have hg : givE s b l = 0 := hg
  refine Split.by (fun h3 => ?_) (fun h3 => ?_)
  · have h3 : i < xs.length := by have := dT h3; omega
    refine ⟨⟨rfl, by omega, by omega⟩, ?_⟩
    have hn : l.length ≤ 24 := (giv_iff.1 hg).2.2.1
    apply two_
    · intro key
      refine Split.by (fun h4 => ?_) (fun h4 => ?_)
      · have h4 : (xs.getD i default).W = 0 := by simpa using h4
        have e4 : stepL s l (xs.getD i default) = putLs s l (xs.getD i default).R := by unfold stepL; rw [if_pos h4]
        refine CallSt.ob [(2, .d (lSt xs)), (3, .box 3 0), (4, .box 4 0), (7, .box 19 0), (10, .box 10 0), (38, .d (lSt xs)), (39, .d (I xs.length)), (40, .d (I i)), (48, .box 19 0), (50, .agg (xs.getD i default).R.ds)] (smO s b l (l.map (alwP s b))) [(3, .box (s.ds.map AV.d)), (4, .box (b.ds.map AV.d)), (10, .box ((xs.getD i default).ds.map AV.d))] rfl rfl (m_Put s b l (xs.getD i default).R ok)
          (wkApp (l := smOr s b l (l.map (alwP s b)) [(3, .box (s.ds.map AV.d)), (4, .box (b.ds.map AV.d)), (10, .box ((xs.getD i default).ds.map AV.d))]) rfl ⟨rfl, ⟨obY rfl (smW s b), obR rfl (D.eqv_refl _), obR rfl (D.eqv_refl _), obD s.ds rfl, obD b.ds rfl, obD (xs.getD i default).ds rfl, trivial⟩, avR _ rfl, avQ rfl, avQ rfl, avQ rfl, avQ rfl, avR _ rfl, avR _ rfl, avR _ rfl, avQ rfl, avQ rfl, trivial⟩) ⟨⟨[], rfl, rfl⟩⟩ rfl rfl ?_
        refine CutOb.at [(2, .d (lSt xs)), (3, .box 3 0), (4, .box 4 0), (7, .box 19 0), (10, .box 10 0), (38, .d (lSt xs)), (39, .d (I xs.length)), (40, .d (I i))] (smOr s b (stepL s l (xs.getD i default)) ((stepL s l (xs.getD i default)).map (alwP s b)) [(3, .box (s.ds.map AV.d)), (4, .box (b.ds.map AV.d)), (10, .box ((xs.getD i default).ds.map AV.d))]) ?_ ?_
        · exact ⟨rfl, ⟨obY rfl (smW s b), obR rfl (by rw [e4]; exact D.eqv_refl _), obR rfl (by rw [e4]; exact D.eqv_refl _), obD s.ds rfl, obD b.ds rfl, obD (xs.getD i default).ds rfl, trivial⟩, avR _ rfl, avQ rfl, avQ rfl, avQ rfl, avQ rfl, avR _ rfl, avR _ rfl, avR _ rfl, trivial⟩
        · exact key.out
      have h4 : (xs.getD i default).W ≠ 0 := by simpa using h4
      refine Split.by (fun h5 => ?_) (fun h5 => ?_)
      · have h5 : (xs.getD i default).W = 1 := by simpa using h5
        have e4 : stepL s l (xs.getD i default) = takL l (xs.getD i default).id := by unfold stepL; rw [if_neg h4, if_pos h5]
        refine CallSt.ob [(2, .d (lSt xs)), (3, .box 3 0), (4, .box 4 0), (7, .box 19 0), (10, .box 10 0), (38, .d (lSt xs)), (39, .d (I xs.length)), (40, .d (I i)), (54, .box 19 0), (56, .d (I (xs.getD i default).id))] (smO s b l (l.map (alwP s b))) [(3, .box (s.ds.map AV.d)), (4, .box (b.ds.map AV.d)), (10, .box ((xs.getD i default).ds.map AV.d))] rfl rfl (m_Take s b l (xs.getD i default).id (by omega))
          (wkApp (l := smOr s b l (l.map (alwP s b)) [(3, .box (s.ds.map AV.d)), (4, .box (b.ds.map AV.d)), (10, .box ((xs.getD i default).ds.map AV.d))]) rfl ⟨rfl, ⟨obY rfl (smW s b), obR rfl (D.eqv_refl _), obR rfl (D.eqv_refl _), obD s.ds rfl, obD b.ds rfl, obD (xs.getD i default).ds rfl, trivial⟩, avR _ rfl, avQ rfl, avQ rfl, avQ rfl, avQ rfl, avR _ rfl, avR _ rfl, avR _ rfl, avQ rfl, avR _ rfl, trivial⟩) ⟨⟨[], rfl, rfl⟩⟩ rfl rfl ?_
        refine CutOb.at [(2, .d (lSt xs)), (3, .box 3 0), (4, .box 4 0), (7, .box 19 0), (10, .box 10 0), (38, .d (lSt xs)), (39, .d (I xs.length)), (40, .d (I i))] (smOr s b (stepL s l (xs.getD i default)) ((stepL s l (xs.getD i default)).map (alwP s b)) [(3, .box (s.ds.map AV.d)), (4, .box (b.ds.map AV.d)), (10, .box ((xs.getD i default).ds.map AV.d))]) ?_ ?_
        · exact ⟨rfl, ⟨obY rfl (smW s b), obR rfl (by rw [e4]; exact D.eqv_refl _), obR rfl (by rw [e4]; exact D.eqv_refl _), obD s.ds rfl, obD b.ds rfl, obD (xs.getD i default).ds rfl, trivial⟩, avR _ rfl, avQ rfl, avQ rfl, avQ rfl, avQ rfl, avR _ rfl, avR _ rfl, avR _ rfl, trivial⟩
        · exact key.out
      · have h5 : (xs.getD i default).W ≠ 1 := by simpa using h5
        have e4 : stepL s l (xs.getD i default) = l := by unfold stepL; rw [if_neg h4, if_neg h5]
        refine CutOb.at [(2, .d (lSt xs)), (3, .box 3 0), (4, .box 4 0), (7, .box 19 0), (10, .box 10 0), (38, .d (lSt xs)), (39, .d (I xs.length)), (40, .d (I i))] (smOr s b (stepL s l (xs.getD i default)) ((stepL s l (xs.getD i default)).map (alwP s b)) [(3, .box (s.ds.map AV.d)), (4, .box (b.ds.map AV.d)), (10, .box ((xs.getD i default).ds.map AV.d))]) ?_ ?_
        · exact ⟨rfl, ⟨obY rfl (smW s b), obR rfl (by rw [e4]; exact D.eqv_refl _), obR rfl (by rw [e4]; exact D.eqv_refl _), obD s.ds rfl, obD b.ds rfl, obD (xs.getD i default).ds rfl, trivial⟩, avR _ rfl, avQ rfl, avQ rfl, avQ rfl, avQ rfl, avR _ rfl, avR _ rfl, avR _ rfl, trivial⟩
        · exact key.out
    · have hg' := step_giv hg (xs.getD i default)
      generalize stepL s l (xs.getD i default) = l' at hg' ⊢
      obtain ⟨-, -, hn', -, -⟩ := giv_iff.1 hg'
      refine CallSt.ob [(2, .d (lSt xs)), (3, .box 3 0), (4, .box 4 0), (7, .box 19 0), (10, .box 10 0), (38, .d (lSt xs)), (39, .d (I xs.length)), (40, .d (I i)), (58, .box 19 0)] (smO s b l' (l'.map (alwP s b))) [(3, .box (s.ds.map AV.d)), (4, .box (b.ds.map AV.d)), (10, .box ((xs.getD i default).ds.map AV.d))] rfl rfl (m_Reports s b l' (l'.map (alwP s b)) (by omega))
          (wkApp (l := smOr s b l' (l'.map (alwP s b)) [(3, .box (s.ds.map AV.d)), (4, .box (b.ds.map AV.d)), (10, .box ((xs.getD i default).ds.map AV.d))]) rfl ⟨rfl, ⟨obY rfl (smW s b), obR rfl (D.eqv_refl _), obR rfl (D.eqv_refl _), obD s.ds rfl, obD b.ds rfl, obD (xs.getD i default).ds rfl, trivial⟩, avR _ rfl, avQ rfl, avQ rfl, avQ rfl, avQ rfl, avR _ rfl, avR _ rfl, avR _ rfl, avQ rfl, trivial⟩) ⟨⟨[], rfl, rfl⟩⟩ rfl rfl ?_
      have hpl : (plsL s.c.M (metP (l'.map (alwP s b)))).length ≤ 1000000 := by
        have := plcR_len s b l'
        rw [plc_ok hg'] at this
        exact Nat.le_trans this (by decide)
      refine CallSt.ro (l_Plc hg') rfl rfl ?_
      repeat first | refine Split.tt ?_ | refine Split.ff ?_
      refine CallSt.ob [(2, .d (lSt xs)), (3, .box 3 0), (4, .box 4 0), (7, .box 19 0), (10, .box 10 0), (38, .d (lSt xs)), (39, .d (I xs.length)), (40, .d (I i)), (11, .d (lR l')), (12, .d (lP (plsL s.c.M (metP (l'.map (alwP s b)))))), (69, .d (.bool false)), (70, .box 19 0)] (smO s b l' (l'.map (alwP s b))) [(3, .box (s.ds.map AV.d)), (4, .box (b.ds.map AV.d)), (10, .box ((xs.getD i default).ds.map AV.d))] rfl rfl (m_Cell s b l' ok (by omega))
          (wkApp (l := smOr s b l' (l'.map (alwP s b)) [(3, .box (s.ds.map AV.d)), (4, .box (b.ds.map AV.d)), (10, .box ((xs.getD i default).ds.map AV.d))]) rfl ⟨rfl, ⟨obY rfl (smW s b), obR rfl (D.eqv_refl _), obR rfl (D.eqv_refl _), obD s.ds rfl, obD b.ds rfl, obD (xs.getD i default).ds rfl, trivial⟩, avR _ rfl, avQ rfl, avQ rfl, avQ rfl, avQ rfl, avR _ rfl, avR _ rfl, avR _ rfl, avR _ rfl, avR _ rfl, avR _ rfl, avQ rfl, trivial⟩) ⟨⟨[], rfl, rfl⟩⟩ rfl rfl ?_
      refine CallSt.pure (r_SamePlaces (plsL s.c.M (metP (l'.map (alwP s b)))) (plsL s.c.M (metP (l'.map (alwP s b)))) hpl) rfl rfl ?_
      refine Split.by (fun h => absurd h (by simp)) (fun _ => ?_)
      have hWhy := w_Why s b l' (l'.map (alwP s b)) (xs.getD i default).P ok.c.m (by omega) (by rw [List.length_map])
      obtain ⟨⟨wid, wb⟩, hw⟩ : ∃ w, whyR s l' (l'.map (alwP s b)) (xs.getD i default).P = w := ⟨_, rfl⟩
      rw [hw] at hWhy
      refine Split.by (fun h => absurd h (by simp)) (fun _ => ?_)
      refine CallSt.lend [1001, 1002, 19] rfl hWhy rfl ⟨eqv_smC, eqvs_refl _, trivial⟩ rfl ?_
      refine CallSt.pure (g_On s.c.M (xs.getD i default).P ok.c.m) rfl rfl ?_
      refine Split.by (fun h5 => ?_) (fun h5 => ?_)
      · have h5 : onM s.c.M (xs.getD i default).P = false := by simpa using h5
        have e := why_off (l := l') (L := l'.map (alwP s b)) h5
        rw [hw] at e
        have e : wb = false := e
        subst e
        repeat first | refine Split.tt ?_ | refine Split.ff ?_
        refine ⟨i6 (by omega), ?_⟩
        exact ⟨(i + 1, l'), ⟨rfl, ⟨obY rfl (smW s b), obR rfl (D.eqv_refl _), obR rfl (D.eqv_refl _), obD s.ds rfl, obD b.ds rfl, trivial⟩, avR _ rfl, avQ rfl, avQ rfl, avQ rfl, avR _ rfl, avR _ rfl, avI rfl rfl, trivial⟩, ⟨h3, hg'⟩, (show xs.length - (i + 1) < xs.length - i by omega)⟩
      have h5 : onM s.c.M (xs.getD i default).P = true := by simpa using h5
      have hH := w_has (plsL s.c.M (metP (l'.map (alwP s b)))) (xs.getD i default).P hpl
      rw [why_has ok.c.m h5, hw] at hH
      cases wb with
      | false =>
        refine CallSt.pure hH rfl rfl ?_
        repeat first | refine Split.tt ?_ | refine Split.ff ?_
        refine LoopOb.of (σ := Nat) (fun j => ([(2, .d (lSt xs)), (3, .box 3 0), (4, .box 4 0), (7, .box 19 0), (10, .box 10 0), (14, .d (I wid)), (15, .d (.bool false)), (38, .d (lSt xs)), (39, .d (I xs.length)), (40, .d (I i)), (97, .d (lR l')), (98, .d (I l'.length)), (99, .d (I j))], smOr s b l' (l'.map (alwP s b)) [(3, .box (s.ds.map AV.d)), (4, .box (b.ds.map AV.d)), (10, .box ((xs.getD i default).ds.map AV.d))])) (fun j => j ≤ l'.length) (fun j => l'.length - j) 0
          ⟨rfl, ⟨obY rfl (smW s b), obR rfl (D.eqv_refl _), obR rfl (D.eqv_refl _), obD s.ds rfl, obD b.ds rfl, obD (xs.getD i default).ds rfl, trivial⟩, avR _ rfl, avQ rfl, avQ rfl, avQ rfl, avQ rfl, avR _ rfl, avR _ rfl, avR _ rfl, avR _ rfl, avR _ rfl, avR _ rfl, avR _ rfl, avR _ rfl, trivial⟩ (Nat.zero_le _) fun j hj => ?_
        have hj : j ≤ l'.length := hj
        refine Split.by (fun h7 => ?_) (fun h7 => ?_)
        · have h7 : j < l'.length := by have := dT h7; omega
          refine ⟨⟨rfl, by omega, by omega⟩, ?_⟩
          obtain ⟨a, ha⟩ : ∃ a, alwR s b (l'.getD j default) (xs.getD i default).P = a := ⟨_, rfl⟩
          have hA := l_Allows s b (l'.getD j default) (xs.getD i default).P
          rw [ha] at hA
          refine CallSt.pure hA rfl rfl ?_
          repeat first | refine Split.tt ?_ | refine Split.ff ?_
          refine ⟨i6 (by omega), ?_⟩
          exact ⟨j + 1, ⟨rfl, ⟨obY rfl (smW s b), obR rfl (D.eqv_refl _), obR rfl (D.eqv_refl _), obD s.ds rfl, obD b.ds rfl, obD (xs.getD i default).ds rfl, trivial⟩, avR _ rfl, avQ rfl, avQ rfl, avQ rfl, avQ rfl, avR _ rfl, avR _ rfl, avR _ rfl, avR _ rfl, avR _ rfl, avR _ rfl, avR _ rfl, avI rfl rfl, trivial⟩, h7, (show l'.length - (j + 1) < l'.length - j by omega)⟩
        · refine ⟨i6 (by omega), ?_⟩
          exact ⟨(i + 1, l'), ⟨rfl, ⟨obY rfl (smW s b), obR rfl (D.eqv_refl _), obR rfl (D.eqv_refl _), obD s.ds rfl, obD b.ds rfl, trivial⟩, avR _ rfl, avQ rfl, avQ rfl, avQ rfl, avR _ rfl, avR _ rfl, avI rfl rfl, trivial⟩, ⟨h3, hg'⟩, (show xs.length - (i + 1) < xs.length - i by omega)⟩
      | true =>
        refine CallSt.pure hH rfl rfl ?_
        repeat first | refine Split.tt ?_ | refine Split.ff ?_
        refine LoopOb.of (σ := Nat) (fun j => ([(2, .d (lSt xs)), (3, .box 3 0), (4, .box 4 0), (7, .box 19 0), (10, .box 10 0), (14, .d (I wid)), (15, .d (.bool true)), (38, .d (lSt xs)), (39, .d (I xs.length)), (40, .d (I i)), (97, .d (lR l')), (98, .d (I l'.length)), (99, .d (I j))], smOr s b l' (l'.map (alwP s b)) [(3, .box (s.ds.map AV.d)), (4, .box (b.ds.map AV.d)), (10, .box ((xs.getD i default).ds.map AV.d))])) (fun j => j ≤ l'.length) (fun j => l'.length - j) 0
          ⟨rfl, ⟨obY rfl (smW s b), obR rfl (D.eqv_refl _), obR rfl (D.eqv_refl _), obD s.ds rfl, obD b.ds rfl, obD (xs.getD i default).ds rfl, trivial⟩, avR _ rfl, avQ rfl, avQ rfl, avQ rfl, avQ rfl, avR _ rfl, avR _ rfl, avR _ rfl, avR _ rfl, avR _ rfl, avR _ rfl, avR _ rfl, avR _ rfl, trivial⟩ (Nat.zero_le _) fun j hj => ?_
        have hj : j ≤ l'.length := hj
        refine Split.by (fun h7 => ?_) (fun h7 => ?_)
        · have h7 : j < l'.length := by have := dT h7; omega
          refine ⟨⟨rfl, by omega, by omega⟩, ?_⟩
          obtain ⟨a, ha⟩ : ∃ a, alwR s b (l'.getD j default) (xs.getD i default).P = a := ⟨_, rfl⟩
          have hA := l_Allows s b (l'.getD j default) (xs.getD i default).P
          rw [ha] at hA
          refine CallSt.pure hA rfl rfl ?_
          repeat first | refine Split.tt ?_ | refine Split.ff ?_
          refine Split.by (fun h9 => ?_) (fun h9 => ?_)
          · have h9' : (l'.getD j default).ID = wid := by
              have h9 : ((l'.getD j default).ID == wid) = true := h9
              simpa using h9
            have := why_alw hg' (by rw [hw]) (gd1 h7 default) (by rw [hw]; exact h9')
            obtain rfl : a = (false, 0) := ha.symm.trans this
            repeat first | refine Split.tt ?_ | refine Split.ff ?_ | refine Split.yes h9 ?_
            refine ⟨i6 (by omega), ?_⟩
            exact ⟨j + 1, ⟨rfl, ⟨obY rfl (smW s b), obR rfl (D.eqv_refl _), obR rfl (D.eqv_refl _), obD s.ds rfl, obD b.ds rfl, obD (xs.getD i default).ds rfl, trivial⟩, avR _ rfl, avQ rfl, avQ rfl, avQ rfl, avQ rfl, avR _ rfl, avR _ rfl, avR _ rfl, avR _ rfl, avR _ rfl, avR _ rfl, avR _ rfl, avI rfl rfl, trivial⟩, h7, (show l'.length - (j + 1) < l'.length - j by omega)⟩
          · repeat first | refine Split.tt ?_ | refine Split.ff ?_ | refine Split.no h9 ?_
            refine ⟨i6 (by omega), ?_⟩
            exact ⟨j + 1, ⟨rfl, ⟨obY rfl (smW s b), obR rfl (D.eqv_refl _), obR rfl (D.eqv_refl _), obD s.ds rfl, obD b.ds rfl, obD (xs.getD i default).ds rfl, trivial⟩, avR _ rfl, avQ rfl, avQ rfl, avQ rfl, avQ rfl, avR _ rfl, avR _ rfl, avR _ rfl, avR _ rfl, avR _ rfl, avR _ rfl, avR _ rfl, avI rfl rfl, trivial⟩, h7, (show l'.length - (j + 1) < l'.length - j by omega)⟩
        · refine ⟨i6 (by omega), ?_⟩
          exact ⟨(i + 1, l'), ⟨rfl, ⟨obY rfl (smW s b), obR rfl (D.eqv_refl _), obR rfl (D.eqv_refl _), obD s.ds rfl, obD b.ds rfl, trivial⟩, avR _ rfl, avQ rfl, avQ rfl, avQ rfl, avR _ rfl, avR _ rfl, avI rfl rfl, trivial⟩, ⟨h3, hg'⟩, (show xs.length - (i + 1) < xs.length - i by omega)⟩
  · refine CallSt.pure w_sanity rfl rfl ?_
    exact r1B rfl rfl
end Go.Pg
