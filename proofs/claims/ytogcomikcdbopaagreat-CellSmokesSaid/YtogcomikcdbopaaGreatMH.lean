/- Texts joined and shortened by program. -/
import Derived.Test.YtogcomikcdbopaaGreatMG
import Derived.Test.YtogcomikcdbopaaGreatME
import Derived.Test.YtogcomikcdbopaaGreatMD
import Derived.Test.YtogcomikcdbopaaGreatMF
set_option maxHeartbeats 4000000
set_option linter.all false
set_option maxRecDepth 100000
namespace Go.Pg
open Go.Proofs Go.RowKit Go.Sort Go.Shelf
abbrev smO (s : Svc) (b : Brn) (l : List Rpt) (L : List (Nat -> Bool)) : List (Nat × Ob) :=
 [(19, .box [.d (I s.c.M.W), .d (I s.c.M.H), .d (lI s.c.M.G), .d (lT s.c.T), .d (lZ s.c.Z), .d (lC s.k.C), .d (lK s.k.K), .d (I b.From), .d (I b.To), .d (I b.Rise), .own 1001, .own 1002]), (1001, .row 50 8 l.length (rowRp l)), (1002, .row 101 38 L.length (rowB L))]
theorem obY {s : St} {ob : Nat -> Option Ob} {o : Option Ob} {cs cs' : List AV} (g : o = some (.box cs)) (h : avles s ob cs cs') : Oble s ob o (.box cs') := by subst g; exact h
theorem obNo {s : St} {ob : Nat -> Option Ob} {o : Option Ob} {e k n : Nat} {f : Nat -> Nat -> D} (g : o = none) (h : n = 0) : Oble s ob o (.row e k n f) := by subst g; exact h
theorem cp_ok {s : Svc} (ok : SvcOk s) : CpOk s := by
 obtain ⟨h1, h2, h3, -⟩ := zad ok.c.m
 have h4 : s.c.M.W * s.c.M.H <= 49 * 49 := Int.mul_le_mul h1.2 h2.2 (by omega) (by decide)
 have := ok.c.t
 have := ok.c.z
 have := ok.k.n
 have := ok.k.m
 exact ⟨by omega, by omega, by omega, by omega, by omega⟩
theorem n_New (s : Svc) (b : Brn) (h0 : svcE s = 0) (hb : brnB b = true) : SpecN PP 6 [s.v, b.v] (smO s b [] []) 19 [N 0] := by
 refine zke [] Tryz.func6 rfl (by kernel_rfl) 4 19 5 [] rfl rfl (by decide) rfl ?_
 refine cP (zeK s) rfl rfl ?_
 refine sB (fun h1 => absurd h0 (by simpa using h1)) (fun _ => ?_)
 refine cP (zgi b) rfl rfl ?_
 rw [hb]
 refine sF ?_
 refine Exists.intro [0, 2, 1, 3, 4, 5, 6] (And.intro (by kernel_rfl) (FzOb.no ?_))
 refine CallOb.ro (zjU s (cp_ok (zcX h0))) rfl rfl ?_
 exact ⟨rfl, ⟨obY rfl ⟨dE _, dE _, dE _, dE _, dE _, dE _, dE _, dE _, dE _, dE _, ⟨rfl, _, _, _, rfl⟩, ⟨rfl, _, _, _, rfl⟩, trivial⟩, obNo rfl rfl, obNo rfl rfl, trivial⟩, wq rfl⟩
theorem zn4 (l : List Rpt) (g : FuncId) (c0 : D) (p : Rpt -> Bool) (hn : l.length <= 1000000) (hp : ∀ i, i < l.length -> Spec PP g [(l.getD i default).v, .d c0] [B (p (l.getD i default))]) : Spec PP 35 [.d (lR l), .d (cloB g [c0])] [B (l.any p)] := by
 refine sA Tryz.func35 ?_
 refine cP (zis l g c0 p hn hp) rfl rfl ?_
 refine r1B rfl ?_
 rw [Bool.eq_iff_iff, decide_eq_true_iff]
 exact zck p l default
theorem zn5 (x r : Rpt) : Spec PP 36 [x.v, .d (capB r.ds)] [B (x.ID == r.ID)] := by
 refine sA Tryz.func36 ?_
 exact r1B rfl rfl
def putE (s : Svc) (l : List Rpt) (r : Rpt) : Int := if 24 <= l.length then 2 else if rptE s r ≠ 0 then rptE s r else if (l.any fun x => x.ID == r.ID) = true then 6 else 0
def putLs (s : Svc) (l : List Rpt) (r : Rpt) : List Rpt := if putE s l r = 0 then l ++ [r] else l
theorem smW {st : St} {ob : Nat -> Option Ob} (s : Svc) (b : Brn) : avles st ob [.d (I s.c.M.W), .d (I s.c.M.H), .d (lI s.c.M.G), .d (lT s.c.T), .d (lZ s.c.Z), .d (lC s.k.C), .d (lK s.k.K), .d (I b.From), .d (I b.To), .d (I b.Rise), .own 1001, .own 1002] [.d (I s.c.M.W), .d (I s.c.M.H), .d (lI s.c.M.G), .d (lT s.c.T), .d (lZ s.c.Z), .d (lC s.k.C), .d (lK s.k.K), .d (I b.From), .d (I b.To), .d (I b.Rise), .own 1001, .own 1002] :=
 ⟨dE _, dE _, dE _, dE _, dE _, dE _, dE _, dE _, dE _, dE _, rfl, rfl, trivial⟩
theorem m_Put (s : Svc) (b : Brn) (l : List Rpt) (r : Rpt) (ok : SvcOk s) : SpecM PP 9 [.box 19 0, .agg r.ds] (smO s b l (l.map (alwP s b))) (smO s b (putLs s l r) ((putLs s l r).map (alwP s b))) [19] [N (putE s l r)] := by
 refine zeh [] Tryz.func9 rfl (by kernel_rfl) [4] [(0, 19)] rfl rfl rfl (by decide) rfl fun γ => ?_
 apply sB <;> intro h1
 ·have h1 : 24 <= l.length := by have := dT h1; omega
  have e : putE s l r = 2 := by unfold putE; rw [if_pos h1]
  have e2 : putLs s l r = l := by unfold putLs; rw [e]; rfl
  rw [e, e2]
  exact ⟨rfl, ⟨obY rfl (smW s b), obR rfl (dE _), obR rfl (dE _), trivial⟩, ⟨rfl, rfl⟩, avI rfl rfl, trivial⟩
 have h1 : ¬ 24 <= l.length := by have := dF h1; omega
 refine oL (List.range 7) (FzOb.no ?_)
 refine oP (za0 s r (by have := ok.c.t; omega) (by have := ok.k.n; omega)) rfl rfl ?_
 apply sB <;> intro h2
 ·have h2 : rptE s r ≠ 0 := by simpa using h2
  have e : putE s l r = rptE s r := by unfold putE; rw [if_neg h1, if_pos h2]
  have e2 : putLs s l r = l := by unfold putLs; rw [e, if_neg h2]
  rw [e, e2]
  exact ⟨rfl, ⟨obY rfl (smW s b), obR rfl (dE _), obR rfl (dE _), trivial⟩, ⟨rfl, rfl⟩, avI rfl rfl, trivial⟩
 have h2 : rptE s r = 0 := by simpa using h2
 refine CallSt.lend [3, 1001] rfl (zn4 l 36 (capB r.ds) (fun x => x.ID == r.ID) (by omega) fun i _ => zn5 _ r) rfl ⟨dE _, ⟨rfl, rfl, fun j hj => by obtain rfl : j = 0 := Nat.lt_one_iff.1 hj; exact dE _⟩, trivial⟩ rfl ?_
 apply sB <;> intro h3
 ·have e : putE s l r = 6 := by unfold putE; rw [if_neg h1, if_neg (fun hh => hh h2), if_pos h3]
  have e2 : putLs s l r = l := by unfold putLs; rw [e]; rfl
  rw [e, e2]
  exact ⟨rfl, ⟨obY rfl (smW s b), obR rfl (dE _), obR rfl (dE _), trivial⟩, ⟨rfl, rfl⟩, avI rfl rfl, trivial⟩
 have e : putE s l r = 0 := by unfold putE; rw [if_neg h1, if_neg (fun hh => hh h2), if_neg (by rw [h3]; decide)]
 have e2 : putLs s l r = l ++ [r] := by unfold putLs; rw [if_pos e]
 rw [e, e2]
 refine Exists.intro [1000, 1, 2, 3, 4, 5, 6, 7, 8, 9, 10, 11, 12, 13, 14, 15, 16, 17, 18, 19] (And.intro (by kernel_rfl) (FzOb.no ⟨rfl, ⟨rfl, ?_⟩⟩))
 refine oP (zdd s b r ok.c.m (zfW h2) (by have := ok.c.t; omega)) rfl rfl ?_
 have hlen : (l.map (alwP s b)).length = l.length := List.length_map ..
 refine ⟨⟨.inr rfl, by unfold maxLen; omega, by show ((l.map (alwP s b)).length + 1) * 304 <= 140737488355328; omega⟩, ?_⟩
 refine Exists.intro [1000, 1, 2, 3, 4, 5, 6, 7, 8, 9, 10] (And.intro (by kernel_rfl) (FzOb.no ⟨rfl, ⟨rfl, ?_⟩⟩))
 refine ⟨⟨.inr rfl, by unfold maxLen; omega, by show (l.length + 1) * 64 <= 140737488355328; omega⟩, ?_⟩
 refine ⟨rfl, ⟨obY rfl (smW s b), obR rfl (zoz (rd8 r)), obR rfl ?_, trivial⟩, ⟨rfl, rfl⟩, avI rfl rfl, trivial⟩
 rw [List.map_append]
 exact zm8 fun j hj => znV (alwP s b r) hj
theorem zgZ (l : List Rpt) (hn : l.length <= 1000000) : SpecO PP 47 [.d (lR l)] 50 8 l.length (rowRp l) := by
 refine zbc Tryz.func47 rfl (by kernel_rfl) rfl ?_
 refine fun b hb => ?_
 apply sB <;> intro h1
 ·have h0 := hb h1
  refine ⟨rfl, rfl, h0.symm, fun i hi => ?_⟩
  omega
 ·refine ⟨⟨.inr rfl, by unfold maxLen; omega, by show (0 + l.length) * 64 <= 140737488355328; omega⟩, ?_⟩
  refine ⟨rfl, rfl, Nat.zero_add _, fun i hi j hj => ?_⟩
  exact dE _
theorem zfx (l : List Rpt) (m j : Nat) : (rowRp l m j).flat = true := by
 show ((l.getD m default).at j).flat = true
 unfold Rpt.at
 split <;> rfl
@[irreducible] def rmP (l : List Rpt) (i : Nat) : List Rpt := l.take i ++ l.drop (i + 1)
theorem ziw {l : List Rpt} {i : Nat} (hi : i < l.length) : (rmP l i).length = l.length - 1 := by unfold rmP; simp; omega
theorem zix {l : List Rpt} {i j : Nat} (hi : i < l.length) : (rmP l i)[j]? = if j < i then l[j]? else l[j + 1]? := by
 unfold rmP
 by_cases h : j < i
 ·rw [if_pos h, List.getElem?_append_left (by rw [List.length_take]; omega), List.getElem?_take_of_lt h]
 ·rw [if_neg h, List.getElem?_append_right (by rw [List.length_take]; omega), List.length_take, List.getElem?_drop]
  congr 1
  omega
theorem zmJ (f : Rpt -> Nat -> Bool) (l : List Rpt) (i : Nat) : (rmP l i).map f = rmB (l.map f) i := by
 unfold rmP rmB
 rw [List.map_append, List.map_take, List.map_drop]
theorem zoe (l : List Rpt) (i : Nat) (hi : i < l.length) : SpecT PP 90 [] [.d (.int .i64 i), .d (.int .i64 ((i + 1 : Nat) : Int))] 50 8 l.length (rowRp l) (rmP l i).length (rowRp (rmP l i)) := by
 obtain ⟨i0, z, h1, h2, h3, h4, h5, h6⟩ := zfK (e := 50) (ei := ⟨8, true, 64, List.replicate 8 (.int .i64 0), .struct [(0, 3), (1, 3), (2, 3), (3, 3), (4, 3), (5, 3), (6, 3), (7, 3)]⟩) (by kernel_rfl) rfl
 have h := zbX Tryz.delR ⟨_, Tryz.func90, by kernel_rfl, by kernel_rfl⟩ (k := 8) (by decide) h3 h4 i0 h1 h2 z h5 (by rw [<- Array.length_toList, h6]; rfl) (by rw [h6]; intro v hv; rw [List.eq_of_mem_replicate hv]; rfl) 50 l.length i (rowRp l) (fun m j _ hj => zfx l m j) hi
 refine h.congr (ziw hi).symm fun m hm j hj => ?_
 have e : (rmP l i).getD m default = if m < i then l.getD m default else l.getD (m + 1) default := by
  rw [gdq, zix hi]
  split <;> rfl
 show (if m < i then rowRp l m else rowRp l (m + 1)) j = ((rmP l i).getD m default).at j
 rw [e]
 split <;> rfl
theorem zhE (l : List Rpt) (i : Nat) (hi : i < l.length) (hn : l.length <= 1000000) : SpecO PP 40 [.d (lR l), N i] 50 8 (rmP l i).length (rowRp (rmP l i)) := by
 refine zbc Tryz.func40 rfl (by kernel_rfl) rfl ?_
 refine CallSt.own (zgZ l hn) rfl rfl (fun m j _ hj => zfx l m j) ?_
 refine ⟨i6, ?_⟩
 refine CallSt.tk rfl (zoe l i hi) ⟨⟨[], .tmp 6, [.tmp 7, .tmp 9], [], rfl, rfl, rfl, rfl, rfl, rfl, rfl⟩⟩ rfl ?_
 exact ⟨rfl, rfl, rfl, fun i hi j hj => dE _⟩
theorem zhF (L : List (Nat -> Bool)) (i : Nat) (hi : i < L.length) (hn : L.length <= 1000000) : SpecO PP 41 [.d (lB L), N i] 101 38 (rmB L i).length (rowB (rmB L i)) := by
 refine zbc Tryz.func41 rfl (by kernel_rfl) rfl ?_
 refine CallSt.own (zkL L hn) rfl rfl (fun m j _ hj => znC L m j hj) ?_
 refine ⟨i6, ?_⟩
 refine CallSt.tk rfl (zog L i hi) ⟨⟨[], .tmp 6, [.tmp 7, .tmp 9], [], rfl, rfl, rfl, rfl, rfl, rfl, rfl⟩⟩ rfl ?_
 exact ⟨rfl, rfl, rfl, fun i hi j hj => dE _⟩
theorem zh4 (x : Rpt) (id : Int) : Spec PP 39 [x.v, .d (capB [I id])] [B (x.ID == id)] := by
 refine sA Tryz.func39 ?_
 exact r1B rfl rfl
def takE (l : List Rpt) (id : Int) : Int := if idxL (fun x : Rpt => x.ID == id) l < 0 then 5 else 0
def takL (l : List Rpt) (id : Int) : List Rpt := if idxL (fun x : Rpt => x.ID == id) l < 0 then l else rmP l (idxL (fun x : Rpt => x.ID == id) l).toNat
theorem zoP (s : Svc) (b : Brn) (l : List Rpt) (id : Int) (hn : l.length <= 1000000) : SpecM PP 11 [.box 19 0, .d (I id)] (smO s b l (l.map (alwP s b))) (smO s b (takL l id) ((takL l id).map (alwP s b))) [19] [N (takE l id)] := by
 by_cases hneg : idxL (fun x : Rpt => x.ID == id) l < 0
 ·have e1 : takE l id = 5 := by unfold takE; rw [if_pos hneg]
  have e2 : takL l id = l := by unfold takL; rw [if_pos hneg]
  rw [e1, e2]
  refine zeh [] Tryz.func11 rfl (by kernel_rfl) [4] [(0, 19)] rfl rfl rfl (by decide) rfl fun γ => ?_
  refine CallSt.lend [3, 1001] rfl (zis l 39 (capB [I id]) (fun x => x.ID == id) hn fun i _ => zh4 _ id) rfl ⟨dE _, ⟨rfl, rfl, fun j hj => by obtain rfl : j = 0 := Nat.lt_one_iff.1 hj; exact dE _⟩, trivial⟩ rfl ?_
  refine sB (fun h1 => ?_) (fun h1 => absurd hneg (by have := dF h1; omega))
  exact ⟨rfl, ⟨obY rfl (smW s b), obR rfl (dE _), obR rfl (dE _), trivial⟩, ⟨rfl, rfl⟩, avI rfl rfl, trivial⟩
 ·have e1 : takE l id = 0 := by unfold takE; rw [if_neg hneg]
  have e2 : takL l id = rmP l (idxL (fun x : Rpt => x.ID == id) l).toNat := by unfold takL; rw [if_neg hneg]
  rw [e1, e2, zmJ]
  have hlt : (idxL (fun x : Rpt => x.ID == id) l).toNat < l.length := by
   rcases idxL_cases (fun x : Rpt => x.ID == id) l default with ⟨h, -⟩ | ⟨i, h1, h2, -⟩
   ·omega
   ·omega
  have hi : idxL (fun x : Rpt => x.ID == id) l = ((idxL (fun x : Rpt => x.ID == id) l).toNat : Int) := by omega
  generalize (idxL (fun x : Rpt => x.ID == id) l).toNat = k at hlt hi
  have hL : (l.map (alwP s b)).length = l.length := List.length_map ..
  refine SpecM.ren (obs' := [(19, .box [.d (I s.c.M.W), .d (I s.c.M.H), .d (lI s.c.M.G), .d (lT s.c.T), .d (lZ s.c.Z), .d (lC s.k.C), .d (lK s.k.K), .d (I b.From), .d (I b.To), .d (I b.Rise), .own 21, .own 27]), (21, .row 50 8 (rmP l k).length (rowRp (rmP l k))), (27, .row 101 38 (rmB (l.map (alwP s b)) k).length (rowB (rmB (l.map (alwP s b)) k)))]) ?_
   (fun i => bif Nat.beq i 21 then 1001 else bif Nat.beq i 27 then 1002 else i) (fun i => bif Nat.beq i 1001 then 21 else bif Nat.beq i 1002 then 27 else i) rfl rfl
  refine zeh [] Tryz.func11 rfl (by kernel_rfl) [4] [(0, 19)] rfl rfl rfl (by decide) rfl fun γ => ?_
  refine CallSt.lend [3, 1001] rfl (zis l 39 (capB [I id]) (fun x => x.ID == id) hn fun i _ => zh4 _ id) rfl ⟨dE _, ⟨rfl, rfl, fun j hj => by obtain rfl : j = 0 := Nat.lt_one_iff.1 hj; exact dE _⟩, trivial⟩ rfl ?_
  rw [hi]
  refine sB (fun h1 => absurd hneg (by have := dT h1; omega)) (fun h1 => ?_)
  refine Exists.intro [0, 1, 2, 3, 4, 5, 6, 8, 9, 10, 11, 12, 6007, 6013, 14, 15, 16, 17, 18, 19] (And.intro (by kernel_rfl) (FzOb.no ?_))
  refine ⟨⟨_, _, _, _, _, _, rfl, rfl, rfl, rfl, ?_⟩⟩
  rw [zat]
  refine ⟨_, _, _, _, _, rfl, zhE l k hlt hn, fun m j _ hj => zfx _ m j, ?_⟩
  refine ⟨⟨_, _, _, _, _, _, rfl, rfl, rfl, rfl, ?_⟩⟩
  rw [zat]
  refine ⟨_, _, _, _, _, rfl, zhF (l.map (alwP s b)) k (by omega) (by omega), fun m j _ hj => znC _ m j hj, ?_⟩
  exact ⟨rfl, ⟨obY rfl ⟨dE _, dE _, dE _, dE _, dE _, dE _, dE _, dE _, dE _, dE _, rfl, rfl, trivial⟩, obR rfl (dE _), obR rfl (dE _), trivial⟩, ⟨rfl, rfl⟩, avI rfl rfl, trivial⟩
theorem rtCD {T : TT} {s : St} {a t i : Nat} {ti : TI} {x y : D} (h1 : s.sl a = .box i 0) (h2 : T t = some ti) (h3 : s.ob i = some (.box [.d x])) (h4 : Nat.beq 1 ti.size = true) (h5 : ti.agg = false) (he : D.eqv x y) : RetCell T s t (s.sl a) (.d y) := (r1CD h1 h2 h3 h4 h5 he).1
abbrev smC (s : Svc) (b : Brn) (l : List Rpt) (L : List (Nat -> Bool)) : List D := [I s.c.M.W, I s.c.M.H, lI s.c.M.G, lT s.c.T, lZ s.c.Z, lC s.k.C, lK s.k.K, I b.From, I b.To, I b.Rise, lR l, lB L]
def nOf (m : Mp) (p : Place) : Nat := (p.Y * m.W + p.X).toNat
def whyR (s : Svc) (l : List Rpt) (L : List (Nat -> Bool)) (p : Place) : Int × Bool := if onM s.c.M p = true /\ 0 <= fstI L (nOf s.c.M p) then ((l.getD (fstI L (nOf s.c.M p)).toNat default).ID, true) else (0, false)
theorem zoD {m : Mp} {y x : Nat} (hx : x < m.w) : plc m (y * m.w + x) = ⟨(x : Int), (y : Int)⟩ := by
 unfold plc
 have e1 : (y * m.w + x) % m.w = x := by rw [Nat.add_comm, Nat.add_mul_mod_self_right, Nat.mod_eq_of_lt hx]
 have e2 : (y * m.w + x) / m.w = y := by rw [Nat.add_comm, Nat.add_mul_div_right _ _ (by omega), Nat.div_eq_of_lt hx, Nat.zero_add]
 rw [e1, e2]
theorem zeu {m : Mp} {p : Place} (hp : onM m p = true) : plc m (nOf m p) = p /\ nOf m p < m.w * m.h := by
 unfold onM at hp
 simp only [Bool.and_eq_true, zab] at hp
 obtain ⟨⟨h1, h2⟩, h3, h4⟩ := hp
 obtain ⟨a, ha⟩ := Int.eq_ofNat_of_zero_le h1
 obtain ⟨c, hc⟩ := Int.eq_ofNat_of_zero_le h3
 have hw : ((m.w : Nat) : Int) = m.W := by show ((m.W.toNat : Nat) : Int) = m.W; omega
 have hh : ((m.h : Nat) : Int) = m.H := by show ((m.H.toNat : Nat) : Int) = m.H; omega
 have hax : a < m.w := by omega
 have hcy : c < m.h := by omega
 have e : nOf m p = c * m.w + a := by
  unfold nOf
  rw [ha, hc, <- hw]
  have : (c : Int) * (m.w : Int) + (a : Int) = ((c * m.w + a : Nat) : Int) := by push_cast; rfl
  rw [this]; rfl
 refine ⟨?_, ?_⟩
 ·rw [e, zoD hax]
  cases p
  simp only at ha hc
  rw [ha, hc]
 ·rw [e]
  have : (c + 1) * m.w <= m.h * m.w := Nat.mul_le_mul_right _ hcy
  rw [Nat.add_mul] at this
  rw [Nat.mul_comm m.w m.h]
  omega
def obWhy (s : Svc) (b : Brn) (l : List Rpt) (L : List (Nat -> Bool)) (p : Place) (id : Int) (ok : Bool) : List (Nat × Ob) :=
 [(2, .box [.d (.ptr 12 (getD' (smC s b l L)))]), (3, .box [.d (I p.X), .d (I p.Y)]), (4, .box [.d (I id)]), (5, .box [.d (.bool ok)])]
abbrev whySl : List (Nat × AV) := [(2, .box 2 0), (3, .box 3 0), (4, .box 4 0), (5, .box 5 0)]
theorem w_Why (s : Svc) (b : Brn) (l : List Rpt) (L : List (Nat -> Bool)) (p : Place) (hv : validM s.c.M = true) (hn : l.length <= 1000000) (hL : L.length = l.length) :
  Spec PP 12 [.d (.ptr 12 (getD' (smC s b l L))), p.v] [N (whyR s l L p).1, B (whyR s l L p).2] := by
 obtain ⟨bw, bh, -, -⟩ := zad hv
 have hnn0 : s.n <= 49 * 49 := Nat.mul_le_mul (by show s.c.M.W.toNat <= 49; omega) (by show s.c.M.H.toNat <= 49; omega)
 have hw0 : 0 < s.c.M.w := by show 0 < s.c.M.W.toNat; omega
 refine sA Tryz.func12 ?_
 refine CallSt.ro (zdc s.c.M) rfl rfl ?_
 refine CodeOb.rangeAt (zb4 s.c.M hv) rfl (spEnc s.c.M) (ze0 s.c.M) (fun _ => rfl) (by decide) whySl [] (fun _ => obWhy s b l L p 0 false) rfl (fun _ => rfl) ?_ (Iv := fun pre => ∀ n, n < pre.length -> plc s.c.M n ≠ p) (fun n hn => absurd hn (Nat.not_lt_zero _)) (fun v pre x hx hI => ?_) (fun hI => ?_)
 ·exact ⟨rfl, ⟨obY rfl ⟨dE _, trivial⟩, obY rfl ⟨dE _, dE _, trivial⟩, obY rfl ⟨dE _, trivial⟩, obY rfl ⟨dE _, trivial⟩, trivial⟩, wq rfl⟩
 ·obtain ⟨rfl, hk⟩ := ze5 hx
  have hnn := zbu hv (k := pre.length)
  have hk' : pre.length < 2402 := Nat.lt_of_lt_of_le hk (Nat.le_trans hnn0 (by decide))
  have hpl : (pre ++ [(pre.length / s.c.M.w, pre.length % s.c.M.w)]).length = pre.length + 1 := by simp
  apply sB <;> intro h1
  ·have h1 : (plc s.c.M pre.length == p) = false := by
    have h1 : (!((plc s.c.M pre.length).X == p.X && ((plc s.c.M pre.length).Y == p.Y && true))) = true := h1
    rw [eqPs] at h1
    simpa using h1
   refine ⟨fun n hn => ?_, rfl, ⟨obY rfl ⟨dE _, trivial⟩, obY rfl ⟨dE _, dE _, trivial⟩, obY rfl ⟨dE _, trivial⟩, obY rfl ⟨dE _, trivial⟩, trivial⟩, wq rfl⟩
   rw [hpl] at hn
   by_cases e : n = pre.length
   ·subst e; simpa using h1
   ·exact hI n (by omega)
  have h1 : plc s.c.M pre.length = p := by
   have h1 : (!((plc s.c.M pre.length).X == p.X && ((plc s.c.M pre.length).Y == p.Y && true))) = false := h1
   rw [eqPs] at h1
   simpa using h1
  have hon : onM s.c.M p = true := by rw [<- h1]; exact ziO hv hk
  have hno : nOf s.c.M p = pre.length := znc hw0 ((zeu hon).1.trans h1.symm)
  refine cP (zno L pre.length _ hnn (by omega) (by omega)) rfl rfl ?_
  apply sB <;> intro h2
  ·have h2 : 0 <= fstI L pre.length := dT h2
   have hlt := zjq h2
   have e : whyR s l L p = ((l.getD (fstI L pre.length).toNat default).ID, true) := by unfold whyR; rw [hno, if_pos ⟨hon, h2⟩]
   refine ⟨⟨rfl, h2, by omega⟩, ?_⟩
   refine ⟨obWhy s b l L p (l.getD (fstI L pre.length).toNat default).ID true, rfl, ⟨rfl, ⟨obY rfl ⟨dE _, trivial⟩, obY rfl ⟨dE _, dE _, trivial⟩, obY rfl ⟨dE _, trivial⟩, obY rfl ⟨dE _, trivial⟩, trivial⟩, wq rfl⟩, ?_⟩
   rw [e]
   exact ⟨rtCD rfl rfl rfl rfl rfl ⟨rfl, rfl⟩, rtCD rfl rfl rfl rfl rfl rfl, trivial⟩
  ·have h2 : ¬ 0 <= fstI L pre.length := dF h2
   have e : whyR s l L p = (0, false) := by unfold whyR; rw [hno, if_neg (fun h => h2 h.2)]
   refine ⟨obWhy s b l L p 0 false, rfl, ⟨rfl, ⟨obY rfl ⟨dE _, trivial⟩, obY rfl ⟨dE _, dE _, trivial⟩, obY rfl ⟨dE _, trivial⟩, obY rfl ⟨dE _, trivial⟩, trivial⟩, wq rfl⟩, ?_⟩
   rw [e]
   exact ⟨rtCD rfl rfl rfl rfl rfl ⟨rfl, rfl⟩, rtCD rfl rfl rfl rfl rfl rfl, trivial⟩
 ·rw [zbN] at hI
  have hoff : ¬ onM s.c.M p = true := fun h => hI _ (zeu h).2 (zeu h).1
  have e : whyR s l L p = (0, false) := by unfold whyR; rw [if_neg (fun h => hoff h.1)]
  rw [e]
  exact ⟨rtCD rfl rfl rfl rfl rfl ⟨rfl, rfl⟩, rtCD rfl rfl rfl rfl rfl rfl, trivial⟩
theorem zm4 {s : Svc} {b : Brn} {l : List Rpt} (h : givE s b l = 0) (r : Rpt) : givE s b (putLs s l r) = 0 := by
 unfold putLs
 split
 ·rename_i e
  obtain ⟨h1, h2, h3, h4, h5⟩ := zbg.1 h
  unfold putE at e
  split at e
  ·cases e
  rename_i c1
  split at e
  ·rename_i c2; exact absurd e c2
  rename_i c2
  split at e
  ·cases e
  rename_i c3
  refine zbg.2 ⟨h1, h2, by rw [List.length_append, List.length_singleton]; omega, fun x hx => ?_, ?_⟩
  ·rcases List.mem_append.1 hx with hx | hx
   ·exact h4 x hx
   ·obtain rfl : x = r := by simpa using hx
    exact Classical.byContradiction c2
  ·rw [List.map_append, List.nodup_append]
   refine ⟨h5, by simp, fun a ha c hc e => c3 ?_⟩
   obtain rfl : c = r.ID := by simpa using hc
   obtain ⟨x, hx, rfl⟩ := List.mem_map.1 ha
   exact List.any_eq_true.2 ⟨x, hx, by simpa using e⟩
 ·exact h
theorem zmI (l : List Rpt) (i : Nat) : (rmP l i).Sublist l := by
 unfold rmP
 have h : (l.take i ++ l.drop (i + 1)).Sublist (l.take i ++ l.drop i) := List.Sublist.append (List.Sublist.refl _) (List.drop_sublist_drop_left l (Nat.le_succ i))
 rwa [List.take_append_drop] at h
theorem zmA {s : Svc} {b : Brn} {l : List Rpt} (h : givE s b l = 0) (id : Int) : givE s b (takL l id) = 0 := by
 unfold takL
 split
 ·exact h
 ·obtain ⟨h1, h2, h3, h4, h5⟩ := zbg.1 h
  have hs := zmI l (idxL (fun x : Rpt => x.ID == id) l).toNat
  exact znw h (Nat.le_trans hs.length_le h3) (fun r hr => hs.subset hr) (h5.sublist (hs.map _))
structure Stx where
  W : Int
  R : Rpt
  id : Int
  P : Place
  deriving Inhabited
def Stx.at (x : Stx) : Nat -> D
 | 0 => I x.W
 | 1 => I x.R.ID
 | 2 => I x.R.Kind
 | 3 => I x.R.Tower
 | 4 => I x.R.C
 | 5 => I x.R.Tick
 | 6 => I x.R.From
 | 7 => I x.R.To
 | 8 => I x.R.Slack
 | 9 => I x.id
 | 10 => I x.P.X
 | _ => I x.P.Y
abbrev Stx.ds (x : Stx) : List D := [I x.W, I x.R.ID, I x.R.Kind, I x.R.Tower, I x.R.C, I x.R.Tick, I x.R.From, I x.R.To, I x.R.Slack, I x.id, I x.P.X, I x.P.Y]
abbrev lSt (l : List Stx) : D := .slc 12 l.length fun i => (l.getD i default).at
def stepL (s : Svc) (l : List Rpt) (x : Stx) : List Rpt := if x.W = 0 then putLs s l x.R else if x.W = 1 then takL l x.id else l
theorem zj8 {s : Svc} {b : Brn} {l : List Rpt} (h : givE s b l = 0) (x : Stx) : givE s b (stepL s l x) = 0 := by
 unfold stepL
 split
 ·exact zm4 h _
 ·split
  ·exact zmA h _
  ·exact h
theorem zni (s : Svc) (b : Brn) (h : givE s b [] ≠ 0) : Spec PP 6 [s.v, b.v] [.d (.val (.pointer none)), N (givE s b [])] := by
 refine sA Tryz.func6 ?_
 refine cP (zeK s) rfl rfl ?_
 apply sB <;> intro h1
 ·have h1 : svcE s ≠ 0 := by simpa using h1
  refine ⟨rfl, rtI rfl ?_, trivial⟩
  unfold givE; rw [if_pos h1]
 have h1 : svcE s = 0 := by simpa using h1
 refine cP (zgi b) rfl rfl ?_
 have hb : brnB b = false := by
  cases e : brnB b with
  | false => rfl
  | true => exact absurd ((zbg (b := b) (l := [])).2 ⟨h1, e, Nat.zero_le _, fun r hr => absurd hr (by simp), List.nodup_nil⟩) h
 rw [hb]
 refine sT ?_
 refine ⟨rfl, rtI rfl ?_, trivial⟩
 unfold givE; rw [if_neg (fun hh => hh h1), if_pos hb]
theorem zgo {s : Svc} {b : Brn} {l : List Rpt} {L : List (Nat -> Bool)} : D.eqv (.ptr ([I s.c.M.W, I s.c.M.H, lI s.c.M.G, lT s.c.T, lZ s.c.Z, lC s.k.C, lK s.k.K, I b.From, I b.To, I b.Rise, D.slc 8 l.length (rowRp l), D.slc 38 L.length (rowB L)].length - 0) fun j => getD' [I s.c.M.W, I s.c.M.H, lI s.c.M.G, lT s.c.T, lZ s.c.Z, lC s.k.C, lK s.k.K, I b.From, I b.To, I b.Rise, D.slc 8 l.length (rowRp l), D.slc 38 L.length (rowB L)] (0 + j)) (.ptr 12 (getD' (smC s b l L))) :=
 ⟨rfl, fun j hj => by
  show D.eqv (getD' _ (0 + j)) _
  rw [Nat.zero_add]; exact dE _⟩
abbrev smOr (s : Svc) (b : Brn) (l : List Rpt) (L : List (Nat -> Bool)) (rest : List (Nat × Ob)) : List (Nat × Ob) :=
 (19, .box [.d (I s.c.M.W), .d (I s.c.M.H), .d (lI s.c.M.G), .d (lT s.c.T), .d (lZ s.c.Z), .d (lC s.k.C), .d (lK s.k.K), .d (I b.From), .d (I b.To), .d (I b.Rise), .own 1001, .own 1002]) :: (1001, .row 50 8 l.length (rowRp l)) :: (1002, .row 101 38 L.length (rowB L)) :: rest
theorem zn1 {s : St} {sl : List (Nat × AV)} {obs rest l : List (Nat × Ob)} (e : obs ++ rest = l) (h : Weak s sl l) : Weak s sl (obs ++ rest) := e ▸ h
end Go.Pg
