/- Texts joined and shortened by program. -/
import Derived.Test.YtcgifildhmkdfaaGreatJ4
import Derived.Shelf.SlLaysE0
import Derived.Shelf.RegionOpenPlain
import Derived.WalkKit
import Derived.Deep.LoopGhost
import Derived.Deep.RegionLaw
import Derived.Lib.Walk
import Derived.Sort.WalkB12
import Derived.Lib.SliceRun
import Derived.Lib.SlicesDelete
import Derived.Test.YtcgifildhmkdfaaGreatJD
import Derived.Test.YtcgifildhmkdfaaGreatJ8
import Derived.Test.YtcgifildhmkdfaaGreatJA
import Derived.Test.YtcgifildhmkdfaaGreatJC
set_option linter.all false
namespace Go.Pg
open Go.Proofs Go.Shelf Go.RowKit Go.Lib Go.Sort
variable {P : Program} {ρ : Ren}
theorem SpecT.congr {P : Program} {f : FuncId} {pre post : List V1} {e k n n' n2 : Nat} {g g' g2 : Nat → Nat → D} (h : SpecT P f pre post e k n g n' g') (hn : n' = n2) (hg : ∀ m, m < n2 → ∀ j, j < k → g' m j = g2 m j) : SpecT P f pre post e k n g n2 g2 := by
 subst hn
 refine ⟨h.1, fun w ok vs us v xs h1 h2 h3 h4 => (h.2 w ok vs us v xs h1 h2 h3 h4).mono ?_⟩
 rintro en w' ⟨v', e1, e2, e3, xs', e4, e5, e6⟩
 exact ⟨v', e1, e2, e3, xs', e4, e5, fun m hm j hj => by rw [← hg m hm j hj]; exact e6 m hm j hj⟩
section
variable {s : St} {o : Oper} {fo : Operand} {f : FuncId} {K : St → Prop} {E : Env}
theorem CallSt.lend (ids : List Nat) {args : Array Operand} {at' : Array TypeId} (hop : o.op = .call { callee := .value fo, args, argTypes := at' }) {xs ys res : List V1} (h : SpecG E.dr PP f ys res) (hx : toV1c (s.freezes ids) fo args.toList = some (f, xs)) (he : eqV1s xs ys)
    (hr : res.all V1.flat = true) (hk : K (s.putO o.dst (resAV res))) : CallSt E PP s o fo args.toList K := by
  obtain ⟨ex, h1, h2⟩ := toV1c_some hx
  rw [CallSt_iff]
  refine .inr (.inr (.inl ⟨_, ⟨fun cx a w hD hd hR => ?_⟩, hk⟩))
  obtain ⟨γ, hg⟩ := hR
  obtain ⟨γ', h'⟩ := R.freezes ids ⟨γ, hg⟩
  obtain ⟨cvs, hcx, hcm⟩ := callee_m h1 (ev_m h' fo).1
  have hm := (toV1s_m h' h2 ((evs_m h' args.toList).append hcm)).1
  refine .enter (enter_run hop hcx h.1) ?_
  refine ((h.eqv he).2 w _ _ (fun b hb => hb) hm).mono fun en w' ⟨v, e, hb, hres⟩ => ⟨v, e, γ, ?_⟩
  exact (hg.grow hb.1 fun e => hb.2 (hD e)).putO hd (resRep_m (.inr hr) hres) (fun j hj => by rw [resAV_refs] at hj; cases hj)
end
theorem CodeOb.rangeC (ids : List Nat) {K : KK} {s : St} {fo : Operand} {ps : Array Tmp} {asg body : Code} {g m : Nat} {cap : Nat → D} {τ : Type} {encV : τ → List Value} {xs : List τ} (hseq : SeqC PP g m cap encV xs) (hc : callee (ev s fo) = some (g, (List.range m).map fun j => AV.d (cap j)))
  (enc : τ → List V1) (henc : ∀ x (w : World) ok, All2 (Rep1 w ok) (enc x) (encV x)) (hps : ∀ x, (enc x).length = ps.size) (hnd : ps.toList.Nodup)
  (sl : List (Nat × AV)) (rc : List (Nat × Nat)) (ob : List τ → List (Nat × Ob)) (hsl : okSl sl = true) (hob : ∀ pre, okOb sl rc (ob pre) = true) (hw : Weak s sl (ob []))
  {Iv : List τ → Prop} (hI0 : Iv [])
  (hbody : ∀ (v : Nat → Value) pre x, pre ++ [x] <+: xs → Iv pre → awp PP TTab (EC ids) asg (St.of (psl ps.toList (enc x) ++ pinS v sl) (ob pre)) (Ka PP TTab (EC ids) K sl rc v ob Iv body pre x))
  (hend : Iv xs → K .normal (St.of sl (ob xs))) : CodeOb (EC ids).dr (EC ids).it PP (.rangeFunc fo ps asg body) s K :=
 CodeOb.range (E := EC ids) hT hE hM hseq hc enc henc hps hnd sl rc ob hsl hob hw hI0 hbody hend
theorem s_idxR2 (l : List Rpt) (g : FuncId) (c0 c1 : D) (p : Rpt → Bool) (hn : l.length ≤ 1000000) (hp : ∀ i, i < l.length → Spec PP g [(l.getD i default).v, .d c0, .d c1] [B (p (l.getD i default))]) : Spec PP 73 [.d (lR l), .d (cloB g [c0, c1])] [N (idxL p l)] := by
 refine spec_at Tryz.func73 rfl (by kernel_rfl) rfl ?_
 refine LoopOb.of (σ := Nat) (fun i => ([(0, .d (lR l)), (1, .d (cloB g [c0, c1])), (6, .d (lR l)), (7, .d (I l.length)), (8, .d (I i))], [])) (fun i => i ≤ l.length ∧ ∀ j, j < i → p (l.getD j default) = false) (fun i => l.length - i) 0
  ⟨rfl, trivial, avR _ rfl, avR _ rfl, avR _ rfl, avR _ rfl, avR _ rfl, trivial⟩ ⟨Nat.zero_le _, fun j hj => absurd hj (Nat.not_lt_zero _)⟩ fun i hi => ?_
 obtain ⟨hi, ha⟩ := hi
 refine Split.by (fun h1 => ?_) (fun h1 => ?_)
 ·have h1 : i < l.length := by have := dT h1; omega
  refine ⟨⟨rfl, by omega, by omega⟩, ?_⟩
  refine CallSt.pure (hp i h1) rfl rfl ?_
  refine Split.by (fun h2 => ?_) (fun h2 => ?_)
  ·refine r1I rfl ?_
   exact (idxL_stop default h1 h2 ha).symm
  ·refine ⟨i6 (by omega), ?_⟩
   refine ⟨i + 1, ⟨rfl, trivial, avR _ rfl, avR _ rfl, avR _ rfl, avR _ rfl, avI rfl rfl, trivial⟩, ⟨h1, fun j hj => ?_⟩, (show l.length - (i + 1) < l.length - i by omega)⟩
   by_cases e : j = i
   ·subst e; exact h2
   ·exact ha j (by omega)
 have h1 : i = l.length := by have := dF h1; omega
 subst h1
 refine r1I rfl ?_
 exact (idxL_none default ha).symm
theorem l_CheckCell1 (r : Rpt) (rs : List Rsn) (w : Nat) (hw : w < rs.length) : Spec PP 74 [r.v, .d (capB [lRs rs]), .d (capB [I (w : Int)])] [B (r.ID == (rs.getD w default).R)] := by
 refine spec_at Tryz.func74 rfl (by kernel_rfl) rfl ?_
 refine Exists.intro (List.range 9) (And.intro (by kernel_rfl) (FzOb.no ?_))
 refine ⟨⟨rfl, by omega, by omega⟩, ?_⟩
 exact r1B rfl rfl
theorem ckR_none {s : Svc} {l : List Rpt} {L : List (Nat → Bool)} {ps : List Place} {rs : List Rsn} {n : Nat} (h : ckR s l L ps rs n = none) : ∀ m, n ≤ m → ckR s l L ps rs m = none
 | 0, hm => by
  have : n = 0 := by omega
  rw [this] at h; exact h
 | m + 1, hm => by
  by_cases e : n = m + 1
  ·rw [← e]; exact h
  ·have := ckR_none h m (by omega)
   show (ckR s l L ps rs m).bind _ = none
   rw [this]; rfl
def ckQ (s : Svc) (l : List Rpt) (L : List (Nat → Bool)) (ps : List Place) (rs : List Rsn) (n : Nat) : Nat × Nat := (ckR s l L ps rs n).getD (0, 0)
def chkR (s : Svc) (b : Brn) (l : List Rpt) (ps : List Place) (rs : List Rsn) : Int := if givE s b l ≠ 0 then givE s b l else if ckE s l (l.map (alwP s b)) ps rs = true then 0 else 8
def obCk (s : Svc) (l : List Rpt) (L : List (Nat → Bool)) (ps : List Place) (rs : List Rsn) (e : Int) (q : Nat × Nat) : List (Nat × Ob) :=
 [(7, .box [.d (lR l)]), (8, .box [.d (lP ps)]), (9, .box [.d (lRs rs)]), (10, .box [.d (I e)]), (11, .box [.d (lB L)]), (13, .box [.d (I (q.1 : Int))]), (14, .box [.d (I (q.2 : Int))])]
structure Key (G : Prop) : Prop where
  out : G
theorem two_ {G T : Prop} (h : Key G → T) (g : G) : T := h ⟨g⟩
section
variable {s : Svc} {l : List Rpt} {L : List (Nat → Bool)} {ps : List Place} {rs : List Rsn} {n : Nat} {q : Nat × Nat}
theorem ck_no (hq : ckR s l L ps rs n = some q) (hn : n < s.n) (h : cks s l L ps rs n q = none) : ckE s l L ps rs = false := by
 have h1 : ckR s l L ps rs (n + 1) = none := by
  show (ckR s l L ps rs n).bind _ = none
  rw [hq]; exact h
 unfold ckE
 rw [ckR_none h1 s.n (by omega)]
theorem ck_yes {q' : Nat × Nat} (hq : ckR s l L ps rs n = some q) (h : cks s l L ps rs n q = some q') : ckR s l L ps rs (n + 1) = some q' := by
 show (ckR s l L ps rs n).bind _ = _
 rw [hq]; exact h
theorem cks_eq (h : inB s ps q.1 n = outB s rs q.2 n) : cks s l L ps rs n q = none := by unfold cks; rw [if_pos h]
theorem cks_in (h1 : inB s ps q.1 n = true) (h2 : outB s rs q.2 n = false) : cks s l L ps rs n q = if 0 ≤ fstI L n then none else some (q.1 + 1, q.2) := by
 unfold cks; rw [if_neg (by rw [h1, h2]; decide), if_pos h1]
theorem cks_out (h1 : inB s ps q.1 n = false) (h2 : outB s rs q.2 n = true) : cks s l L ps rs n q = if rptI l (rs.getD q.2 default).R < 0 ∨ L.getD (rptI l (rs.getD q.2 default).R).toNat default n = true then none else some (q.1, q.2 + 1) := by
 unfold cks; rw [if_neg (by rw [h1, h2]; decide), if_neg (by rw [h1]; decide)]
theorem outB_lt (h : outB s rs q.2 n = true) : q.2 < rs.length := by
 unfold outB at h
 rw [Bool.and_eq_true, decide_eq_true_iff] at h
 exact h.1
end
theorem rptI_lt {l : List Rpt} {id : Int} (h : ¬ rptI l id < 0) : (rptI l id).toNat < l.length ∧ 0 ≤ rptI l id := by
 rcases idxL_cases (fun r : Rpt => r.ID == id) l default with ⟨h1, _⟩ | ⟨i, h1, h2, _⟩
 ·exact absurd (show rptI l id < 0 by unfold rptI; rw [h1]; decide) h
 ·unfold rptI; rw [h2]; exact ⟨h1, by omega⟩
theorem capB2 (x y : D) {f : Nat → D} (h0 : f 0 = .ptr 1 (getD' [x])) (h1 : f 1 = .ptr 1 (getD' [y])) : ∀ j, j < 2 → D.eqv (f j) (getD' [capB [x], capB [y]] j)
 | 0, _ => by rw [h0]; exact D.eqv_refl _
 | 1, _ => by rw [h1]; exact D.eqv_refl _
abbrev ckSl : List (Nat × AV) := [(7, .box 7 0), (8, .box 8 0), (9, .box 9 0), (10, .box 10 0), (11, .box 11 0), (13, .box 13 0), (14, .box 14 0)]
abbrev ckP (s : Svc) (n : Nat) : List (Nat × Ob) := [(16, .box [.d (I (plc s.c.M n).X), .d (I (plc s.c.M n).Y)])]
set_option maxHeartbeats 4000000 in
theorem l_CheckCell (s : Svc) (b : Brn) (l : List Rpt) (ps : List Place) (rs : List Rsn) (hp : ps.length ≤ 1000000) (hr : rs.length ≤ 1000000) : Spec PP 32 [s.v, b.v, .d (lR l), .d (lP ps), .d (lRs rs)] [.d (.int .i64 (chkR s b l ps rs))] := by
 refine specC_at [9, 14] Tryz.func32 rfl (by kernel_rfl) rfl ?_
 refine CallSt.ro (l_all s b l) rfl rfl ?_
 by_cases h0 : givE s b l = 0
 ·have e : allR s b l = (l.map (alwP s b), 0) := by unfold allR; rw [if_neg (fun hh => hh h0)]
  have e1 : chkR s b l ps rs = if ckE s l (l.map (alwP s b)) ps rs = true then 0 else 8 := by unfold chkR; rw [if_neg (fun hh => hh h0)]
  have ok := giv_ok h0
  have hn := ok.n
  have hL : (l.map (alwP s b)).length = l.length := List.length_map _
  have hl := spots_lt ok.s.c.m
  rw [e, e1]
  generalize l.map (alwP s b) = L at hL
  refine Split.ff ?_
  refine CallSt.ro (l_spots s.c.M) rfl rfl ?_
  refine CodeOb.rangeC [9, 14] (l_spots1 s.c.M ok.s.c.m) rfl (spEnc s.c.M) (val_sp s.c.M) (fun _ => rfl) (by decide) ckSl []
   (fun pre => obCk s l L ps rs 0 (ckQ s l L ps rs pre.length)) rfl (fun _ => rfl) ?_ (Iv := fun pre => ckR s l L ps rs pre.length = some (ckQ s l L ps rs pre.length)) rfl (fun v pre x hx hI => ?_) (fun hI => ?_)
  ·exact ⟨rfl, ⟨obX rfl, obX rfl, obX rfl, obX rfl, obX rfl, obX rfl, obX rfl, trivial⟩, avQ rfl, avQ rfl, avQ rfl, avQ rfl, avQ rfl, avQ rfl, avQ rfl, trivial⟩
  ·obtain ⟨rfl, hk⟩ := sp_get hx
   have hnn := spots_nat ok.s.c.m (k := pre.length)
   obtain ⟨q, hq⟩ : ∃ q, ckQ s l L ps rs pre.length = q := ⟨_, rfl⟩
   have hle := ckR_le hI
   have hpl : (pre ++ [(pre.length / s.c.M.w, pre.length % s.c.M.w)]).length = pre.length + 1 := by simp
   rw [hq] at hI hle ⊢
   have nx : ∀ q', cks s l L ps rs pre.length q = some q' → ckR s l L ps rs (pre ++ [(pre.length / s.c.M.w, pre.length % s.c.M.w)]).length = some (ckQ s l L ps rs (pre ++ [(pre.length / s.c.M.w, pre.length % s.c.M.w)]).length) ∧ ckQ s l L ps rs (pre ++ [(pre.length / s.c.M.w, pre.length % s.c.M.w)]).length = q' := fun q' h => by
    have h1 := ck_yes hI h
    rw [hpl]
    have h2 : ckQ s l L ps rs (pre.length + 1) = q' := by unfold ckQ; rw [h1]; rfl
    exact ⟨by rw [h1, h2], h2⟩
   have stop : cks s l L ps rs pre.length q = none → (8 : Int) = if ckE s l L ps rs = true then 0 else 8 := fun h => by rw [if_neg (by rw [ck_no hI hk h]; decide)]
   refine Exists.intro (List.range 13) (And.intro (by kernel_rfl) (FzOb.no ?_))
   apply two_
   ·intro key
    refine Split.by (fun h1 => ?_) (fun h1 => ?_)
    ·have h1 : q.1 < ps.length := by have := dT h1; omega
     refine ⟨⟨rfl, by omega, by omega⟩, ?_⟩
     repeat first | refine Split.tt ?_ | refine Split.ff ?_
     refine CutOb.at (pinS v ckSl ++ [(15, .d (I pre.length)), (16, .box 16 0), (17, .d (.bool (inB s ps q.1 pre.length)))]) (obCk s l L ps rs 0 q ++ ckP s pre.length) ?_ ?_
     refine ⟨rfl, ⟨obX rfl, obX rfl, obX rfl, obX rfl, obX rfl, obX rfl, obX rfl, obX rfl, trivial⟩, avQ rfl, avQ rfl, avQ rfl, avQ rfl, avQ rfl, avQ rfl, avQ rfl, avI rfl hnn, avQ rfl, avE rfl ?_, trivial⟩
     ·refine D.eqv_of_eq (congrArg D.bool ?_)
      unfold inB
      rw [decide_eq_true h1, Bool.true_and]
      exact eqPW (ps.getD q.1 default) (plc s.c.M pre.length)
     ·exact key.out
    ·have h1 : ¬ q.1 < ps.length := by have := dF h1; omega
     repeat first | refine Split.tt ?_ | refine Split.ff ?_
     refine CutOb.at (pinS v ckSl ++ [(15, .d (I pre.length)), (16, .box 16 0), (17, .d (.bool (inB s ps q.1 pre.length)))]) (obCk s l L ps rs 0 q ++ ckP s pre.length) ?_ ?_
     refine ⟨rfl, ⟨obX rfl, obX rfl, obX rfl, obX rfl, obX rfl, obX rfl, obX rfl, obX rfl, trivial⟩, avQ rfl, avQ rfl, avQ rfl, avQ rfl, avQ rfl, avQ rfl, avQ rfl, avI rfl hnn, avQ rfl, avE rfl ?_, trivial⟩
     ·refine D.eqv_of_eq (congrArg D.bool ?_)
      unfold inB
      rw [decide_eq_false h1]; rfl
     ·exact key.out
   ·refine Exists.intro (List.range 14) (And.intro (by kernel_rfl) (FzOb.no ?_))
    apply two_
    ·intro key
     refine Split.by (fun h1 => ?_) (fun h1 => ?_)
     ·have h1 : q.2 < rs.length := by have := dT h1; omega
      refine ⟨⟨rfl, by omega, by omega⟩, ?_⟩
      repeat first | refine Split.tt ?_ | refine Split.ff ?_
      refine CutOb.at (pinS v ckSl ++ [(15, .d (I pre.length)), (16, .box 16 0), (17, .d (.bool (inB s ps q.1 pre.length))), (18, .d (.bool (outB s rs q.2 pre.length)))]) (obCk s l L ps rs 0 q ++ ckP s pre.length) ?_ ?_
      refine ⟨rfl, ⟨obX rfl, obX rfl, obX rfl, obX rfl, obX rfl, obX rfl, obX rfl, obX rfl, trivial⟩, avQ rfl, avQ rfl, avQ rfl, avQ rfl, avQ rfl, avQ rfl, avQ rfl, avR _ rfl, avQ rfl, avR _ rfl, avE rfl ?_, trivial⟩
      ·refine D.eqv_of_eq (congrArg D.bool ?_)
       unfold outB
       rw [decide_eq_true h1, Bool.true_and]
       exact eqPW (rs.getD q.2 default).At (plc s.c.M pre.length)
      ·exact key.out
     ·have h1 : ¬ q.2 < rs.length := by have := dF h1; omega
      repeat first | refine Split.tt ?_ | refine Split.ff ?_
      refine CutOb.at (pinS v ckSl ++ [(15, .d (I pre.length)), (16, .box 16 0), (17, .d (.bool (inB s ps q.1 pre.length))), (18, .d (.bool (outB s rs q.2 pre.length)))]) (obCk s l L ps rs 0 q ++ ckP s pre.length) ?_ ?_
      refine ⟨rfl, ⟨obX rfl, obX rfl, obX rfl, obX rfl, obX rfl, obX rfl, obX rfl, obX rfl, trivial⟩, avQ rfl, avQ rfl, avQ rfl, avQ rfl, avQ rfl, avQ rfl, avQ rfl, avR _ rfl, avQ rfl, avR _ rfl, avE rfl ?_, trivial⟩
      ·refine D.eqv_of_eq (congrArg D.bool ?_)
       unfold outB
       rw [decide_eq_false h1]; rfl
      ·exact key.out
    ·have fail : cks s l L ps rs pre.length q = none → _ := fun h => stop h
     refine Split.by (fun h1 => ?_) (fun h1 => ?_)
     ·have h1 : inB s ps q.1 pre.length = outB s rs q.2 pre.length := by simpa using h1
      refine ⟨obCk s l L ps rs 8 q, rfl, ⟨rfl, ⟨obX rfl, obX rfl, obX rfl, obX rfl, obX rfl, obX rfl, obX rfl, trivial⟩, avQ rfl, avQ rfl, avQ rfl, avQ rfl, avQ rfl, avQ rfl, avQ rfl, trivial⟩, ?_⟩
      exact r1CD rfl rfl rfl rfl rfl ⟨rfl, stop (cks_eq h1)⟩
     have h1 : inB s ps q.1 pre.length ≠ outB s rs q.2 pre.length := by simpa using h1
     refine Split.by (fun h2 => ?_) (fun h2 => ?_)
     ·have h2 : inB s ps q.1 pre.length = true := h2
      have h3 : outB s rs q.2 pre.length = false := by
       cases ho : outB s rs q.2 pre.length with
       | false => rfl
       | true => rw [h2, ho] at h1; exact absurd rfl h1
      have hc := cks_in h2 h3 (l := l) (L := L)
      refine ⟨i6 (by omega), ?_⟩
      refine CallSt.pure (l_first L pre.length pre.length rfl (by omega) (by omega)) rfl rfl ?_
      refine Split.by (fun h4 => ?_) (fun h4 => ?_)
      ·have h4 : 0 ≤ fstI L pre.length := dT h4
       refine ⟨obCk s l L ps rs 8 (q.1 + 1, q.2), rfl, ⟨rfl, ⟨obX rfl, obX rfl, obX rfl, obX rfl, obX rfl, obX rfl, obX rfl, trivial⟩, avQ rfl, avQ rfl, avQ rfl, avQ rfl, avQ rfl, avQ rfl, avQ rfl, trivial⟩, ?_⟩
       exact r1CD rfl rfl rfl rfl rfl ⟨rfl, stop (by rw [hc, if_pos h4])⟩
      ·have h4 : ¬ 0 ≤ fstI L pre.length := dF h4
       obtain ⟨n1, n2⟩ := nx _ (by rw [hc, if_neg h4])
       exact ⟨n1, rfl, ⟨obX rfl, obX rfl, obX rfl, obX rfl, obX rfl, obX (by rw [n2]; rfl), obX (by rw [n2]; rfl), trivial⟩, avQ rfl, avQ rfl, avQ rfl, avQ rfl, avQ rfl, avQ rfl, avQ rfl, trivial⟩
     ·have h2 : inB s ps q.1 pre.length = false := h2
      have h3 : outB s rs q.2 pre.length = true := by
       cases ho : outB s rs q.2 pre.length with
       | true => rfl
       | false => rw [h2, ho] at h1; exact absurd rfl h1
      have hc := cks_out h2 h3 (l := l) (L := L)
      have hw := outB_lt h3
      refine CallSt.lend [9, 14] rfl (s_idxR2 l 74 (capB [lRs rs]) (capB [I (q.2 : Int)]) (fun r => r.ID == (rs.getD q.2 default).R) (by omega) (fun i hi => l_CheckCell1 _ rs q.2 hw)) rfl ⟨D.eqv_refl _, ⟨rfl, rfl, capB2 _ _ rfl rfl⟩, trivial⟩ rfl ?_
      refine Split.by (fun h4 => ?_) (fun h4 => ?_)
      ·have h4 : rptI l (rs.getD q.2 default).R < 0 := dT h4
       repeat first | refine Split.tt ?_ | refine Split.ff ?_
       refine ⟨obCk s l L ps rs 8 q, rfl, ⟨rfl, ⟨obX rfl, obX rfl, obX rfl, obX rfl, obX rfl, obX rfl, obX rfl, trivial⟩, avQ rfl, avQ rfl, avQ rfl, avQ rfl, avQ rfl, avQ rfl, avQ rfl, trivial⟩, ?_⟩
       exact r1CD rfl rfl rfl rfl rfl ⟨rfl, stop (by rw [hc, if_pos (.inl h4)])⟩
      ·have h4 : ¬ rptI l (rs.getD q.2 default).R < 0 := dF h4
       obtain ⟨h5, h6⟩ := rptI_lt h4
       have h7 : (rptI l (rs.getD q.2 default).R).toNat < L.length := by omega
       have hh := l_has (L.getD (rptI l (rs.getD q.2 default).R).toNat default) pre.length (by omega)
       refine ⟨⟨rfl, h6, by show rptI l (rs.getD q.2 default).R < (L.length : Int); omega⟩, ?_⟩
       refine CallSt.pure hh rfl rfl ?_
       repeat first | refine Split.tt ?_ | refine Split.ff ?_
       refine Split.by (fun h8 => ?_) (fun h8 => ?_)
       ·have h8 : L.getD (rptI l (rs.getD q.2 default).R).toNat default pre.length = true := h8
        refine ⟨obCk s l L ps rs 8 q, rfl, ⟨rfl, ⟨obX rfl, obX rfl, obX rfl, obX rfl, obX rfl, obX rfl, obX rfl, trivial⟩, avQ rfl, avQ rfl, avQ rfl, avQ rfl, avQ rfl, avQ rfl, avQ rfl, trivial⟩, ?_⟩
        exact r1CD rfl rfl rfl rfl rfl ⟨rfl, stop (by rw [hc, if_pos (.inr h8)])⟩
       ·have h8 : L.getD (rptI l (rs.getD q.2 default).R).toNat default pre.length = false := h8
        obtain ⟨n1, n2⟩ := nx _ (by rw [hc, if_neg (fun h => h.elim h4 (fun g => by rw [h8] at g; cases g))])
        refine ⟨i6 (by omega), ?_⟩
        exact ⟨n1, rfl, ⟨obX rfl, obX rfl, obX rfl, obX rfl, obX rfl, obX (by rw [n2]; rfl), obX (by rw [n2]; rfl), trivial⟩, avQ rfl, avQ rfl, avQ rfl, avQ rfl, avQ rfl, avQ rfl, avQ rfl, trivial⟩
  ·rw [spL_len] at hI ⊢
   obtain ⟨q, hq⟩ : ∃ q, ckQ s l L ps rs (s.c.M.w * s.c.M.h) = q := ⟨_, rfl⟩
   rw [hq] at hI ⊢
   have hle := ckR_le hI
   have ee : ckE s l L ps rs = (decide (ps.length ≤ q.1) && decide (rs.length ≤ q.2)) := by unfold ckE; rw [show ckR s l L ps rs s.n = some q from hI]
   refine Split.by (fun h1 => ?_) (fun h1 => ?_)
   ·have h1 : q.1 < ps.length := by have := dT h1; omega
    repeat first | refine Split.tt ?_ | refine Split.ff ?_
    exact r1CD rfl rfl rfl rfl rfl ⟨rfl, by rw [ee, decide_eq_false (show ¬ ps.length ≤ q.1 by omega), Bool.false_and, if_neg (by decide)]⟩
   ·have h1 : ¬ q.1 < ps.length := by have := dF h1; omega
    repeat first | refine Split.tt ?_ | refine Split.ff ?_
    refine Split.by (fun h2 => ?_) (fun h2 => ?_)
    ·have h2 : q.2 < rs.length := by have := dT h2; omega
     exact r1CD rfl rfl rfl rfl rfl ⟨rfl, by rw [ee, decide_eq_false (show ¬ rs.length ≤ q.2 by omega), Bool.and_false, if_neg (by decide)]⟩
    ·have h2 : ¬ q.2 < rs.length := by have := dF h2; omega
     exact r1CD rfl rfl rfl rfl rfl ⟨rfl, by rw [ee, decide_eq_true (show ps.length ≤ q.1 by omega), decide_eq_true (show rs.length ≤ q.2 by omega)]; rfl⟩
 ·have e : allR s b l = ([], givE s b l) := by unfold allR; rw [if_pos h0]
  have e1 : chkR s b l ps rs = givE s b l := by unfold chkR; rw [if_pos h0]
  rw [e, e1]
  refine Split.yes (by simpa using h0) ?_
  exact r1CD rfl rfl rfl rfl rfl (D.eqv_refl _)
end Go.Pg
