/-
  Regions in the order of the text. For every program.
-/
import Derived.Test.YtlmljmgappiehaaPgM
set_option linter.all false
namespace Go.Pg
open Go.RowKit

def FW (F : Fence) : Prop := F = Fence.wide ∨ ∃ l, F = Fence.wide.inRound l
theorem FWc.fw {cx : Cx} {F : Fence} (h : FWc cx F) : FW F := h.imp id fun ⟨l, _, h, _⟩ => ⟨l, h⟩
theorem FW.fn {F : Fence} (h : FW F) (f : FuncId) : F.fn f := by rcases h with rfl | ⟨l, rfl⟩ <;> exact trivial
theorem FW.depth {F : Fence} (h : FW F) : F.depth = none := by rcases h with rfl | ⟨l, rfl⟩ <;> rfl
theorem FW.calls {F : Fence} (h : FW F) {n : Nat} {P : Program} {f : FuncId} {args : Array Value} {w : World} {R : Ending → World → Prop} (hc : Calls P f args w R) : CallsIn F n P f args w R := by
  rcases h with rfl | ⟨l, rfl⟩
  · exact callsIn_wide.2 hc
  · exact (callsIn_wide (n := n)).2 hc

section
variable {P : Program} {T : TT} {E : Env} {cx : Cx} {γ : Nat → Value} {s : St} {a : Act} {w : World} {F : Fence} {n : Nat}

theorem OpOK.noDefer {o : Oper} {Post : Act → World → Prop} (h : OpOK P o a w Post) (c : Call) : o.op ≠ .defer c := by
  intro e
  unfold OpOK at h
  simp only [execOp, e, Sem.run_bind] at h
  cases hr : (resolve a.eval c o.type).run P w with
  | ok d w' => simp [hr] at h
  | halt x w' => simp [hr] at h
theorem OpOK.wpIn (hF : FW F) {o : Oper} {K : Act → World → Prop} {Q : Exit → Act → World → Prop} (h : OpOK P o a w K) : o.wpIn F n P a w K Q := by
  refine ⟨fun f _ => hF.fn f, ?_⟩
  rw [Oper.semAt_eq _ _ _ h.noDefer]
  unfold OpOK at h
  generalize (execOp a.eval o).run P w = r at *
  cases r with
  | halt x w' => exact h.elim
  | ok x w' =>
    cases x <;> simp only at h <;> simp only [Oper.uponIn]
    case value v => exact h
    case skip => exact h
    case round l fn tmps asg body =>
      have : RoundIn F (n - 1) P l fn tmps asg body w' fun e w'' => ∃ v, e = .returned v ∧ K (a.put o.dst v) w'' := by
        rcases hF with rfl | ⟨l, rfl⟩ <;> exact ⟨trivial, fun c cs _ => h.2 c cs (room_wide _)⟩
      refine ⟨fun hd => (by rw [hF.depth] at hd; cases hd), roundIn_mono this fun e w'' ⟨v, he, hp⟩ => ?_⟩
      subst he; exact hp
    case enter f args =>
      refine ⟨fun hd => (by rw [hF.depth] at hd; cases hd), hF.calls (h.mono fun e w'' ⟨v, he, hp⟩ => ?_)⟩
      subst he; exact hp

theorem splitAt_out {ops : List Oper} {i : Nat} {d : Option Nat} {K : St → Prop} (h : splitAt ops i d s K) : K s := by
  unfold splitAt at h
  cases hg : guardUsed ops i with
  | false => simp only [hg] at h; exact h
  | true =>
    cases d with
    | none => simp only [hg] at h; exact h
    | some t =>
      simp only [hg] at h
      cases hs : s.sl t with
      | d p =>
        cases p with
        | bool b =>
          simp only [hs] at h
          have := h.out
          rw [← hs, put_self] at this
          exact this
        | _ => simp only [hs] at h; exact h
      | _ => simp only [hs] at h; exact h

theorem yield_bool {Fm : Cx → Prop} (h : RF Fm s a w) {ops : Array Oper} {j : Nat} {b : Bool} (hg : gval s ops.toList j = .d (.bool b)) : yielded ops a.tmps j = some b := by
  obtain ⟨_, _, γ, h⟩ := h
  unfold gval dstOf at hg
  rw [nth_eq] at hg
  unfold yielded
  cases hj : ops.toList[j]? with
  | none => simp [hj] at hg
  | some o =>
    have hj' : ops[j]? = some o := by simpa using hj
    cases hd : o.dst with
    | none => simp [hj, hd] at hg
    | some t =>
      simp only [hj, hd] at hg
      have hm := h.slots t
      rw [hg] at hm
      have hv : a.tmps.getD t Go.undef = .bool b := hm
      have : a.tmps[t]? = some (.bool b) := by
        rw [Array.getD_eq_getD_getElem?] at hv
        cases hx : a.tmps[t]? with
        | none => rw [hx] at hv; simp [Go.undef] at hv
        | some x => rw [hx] at hv; simp at hv; rw [hv]
      simp [hj', hd, this]
theorem yield_undef {Fm : Cx → Prop} (h : RF Fm s a w) {ops : Array Oper} {j : Nat} (hg : gval s ops.toList j = .undef) : yielded ops a.tmps j = none := by
  obtain ⟨_, _, γ, h⟩ := h
  unfold gval dstOf at hg
  rw [nth_eq] at hg
  unfold yielded
  cases hj : ops.toList[j]? with
  | none => simp [hj] at hg
  | some o =>
    have hj' : ops[j]? = some o := by simpa using hj
    cases hd : o.dst with
    | none => simp [hj, hd] at hg
    | some t =>
      simp only [hj, hd] at hg
      have hm := h.slots t
      rw [hg] at hm
      have hv : a.tmps.getD t Go.undef = Go.undef := hm
      rw [Array.getD_eq_getD_getElem?] at hv
      cases hx : a.tmps[t]? with
      | none => simp [hj', hd, hx]
      | some x => rw [hx] at hv; simp at hv; subst hv; simp [hj', hd, hx, Go.undef]
theorem put_undef (h : R cx s a w) {d : Option Nat} (hd : ∀ t, d = some t → t < cx.N) : R cx (s.putO d .undef) (a.put d Go.undef) w := by
  obtain ⟨γ, h⟩ := h
  exact ⟨γ, h.putO hd rfl (fun j hj => by simp [AV.refs] at hj)⟩

theorem put_undefF {Fm : Cx → Prop} {N : Nat} (hNf : ∀ cx, Fm cx → cx.N = N) (h : RF Fm s a w) {d : Option Nat} (hd : ∀ t, d = some t → t < N) : RF Fm (s.putO d .undef) (a.put d Go.undef) w := by
  obtain ⟨cx, hcx, h⟩ := h
  exact ⟨cx, hcx, put_undef h (by rw [hNf cx hcx]; exact hd)⟩

theorem dstsOK_mem {N : Nat} {ops : List Oper} (h : dstsOK N ops = true) {o : Oper} (ho : o ∈ ops) : ∀ d, o.dst = some d → d < N := fun d hd => by
  have := List.all_eq_true.1 h o ho
  rw [hd] at this
  exact Nat.le_of_ble_eq_true this

variable (hT : ∀ t i, T t = some i → TI.of P t = some i) (hE : ∀ t, E.eq t = true → EqFact P t)
include hT hE
variable {Fm : Cx → Prop} {N : Nat} (hNf : ∀ cx, Fm cx → cx.N = N) (hD : ∀ cx, Fm cx → cx.dr = true → E.dr = true) (hY : YLaw Fm P E)
include hNf hD hY

theorem runOps_ok (hF : FW F) {ops : Array Oper} (hN : dstsOK N ops.toList = true) {Q : Exit → Act → World → Prop} {K : St → Prop} (hQ : ∀ s a w, RF Fm s a w → K s → Q .normal a w) :
    ∀ (rest : List Oper) (i : Nat), (∀ j, rest[j]? = ops.toList[i + j]?) → ∀ {s : St} {a : Act} {w : World}, RF Fm s a w → runOps P T E ops.toList i rest s K → wpOpsIn F n P ops Q (List.range' i rest.length) a w
  | [], i, hr, s, a, w, h, hl => by simpa [wpOpsIn] using hQ s a w h hl
  | o :: r, i, hr, s, a, w, h, hl => by
    have ho : ops[i]? = some o := by have := hr 0; simpa using this.symm
    have hmem : o ∈ ops.toList := by simpa using Array.mem_of_getElem? ho
    have hd := dstsOK_mem hN hmem
    have hr' : ∀ j, r[j]? = ops.toList[i + 1 + j]? := fun j => by have := hr (j + 1); rw [show i + 1 + j = i + (j + 1) by omega]; simpa using this
    simp only [List.length_cons, List.range'_succ, wpOpsIn, ho]
    have go : (stF P T E s o fun s' => splitAt ops.toList i o.dst s' fun s' => runOps P T E ops.toList (i + 1) r s' K) → o.wpIn F n P a w (wpOpsIn F n P ops Q (List.range' (i + 1) r.length)) Q := fun hl => by
      refine OpOK.wpIn hF ((stE_ok hT hE hNf hD hY h hd (stF_out hl)).mono fun a' w' ⟨s', h1, h2⟩ => ?_)
      exact runOps_ok hF hN hQ r (i + 1) hr' h1 (splitAt_out h2)
    have no : runOps P T E ops.toList (i + 1) r (s.putO o.dst .undef) K → (∀ f, o.about P w a.eval = some f → F.fn f) ∧ wpOpsIn F n P ops Q (List.range' (i + 1) r.length) (a.put o.dst Go.undef) w := fun hl =>
      ⟨fun f _ => hF.fn f, runOps_ok hF hN hQ r (i + 1) hr' (put_undefF hNf h hd) hl⟩
    simp only [runOps_cons] at hl
    cases hg : o.guard with
    | none =>
      have : Region.wanted o (yielded ops a.tmps) = true := by simp [Region.wanted, hg]
      simp only [this, if_true]
      simp only [hg] at hl
      exact go hl
    | some p =>
      obtain ⟨j, want⟩ := p
      simp only [hg] at hl
      cases hv : gval s ops.toList j with
      | d q =>
        cases q with
        | bool b =>
          simp only [hv] at hl
          have hy := yield_bool h hv
          cases hbw : (b == want) with
          | true =>
            have hw : Region.wanted o (yielded ops a.tmps) = true := by
              have : b = want := by simpa using hbw
              simp [Region.wanted, hg, hy, this]
            simp only [hw, if_true]
            simp only [hbw] at hl
            exact go hl
          | false =>
            have hw : Region.wanted o (yielded ops a.tmps) = false := by
              have : b ≠ want := by simpa using hbw
              simp [Region.wanted, hg, hy, this]
            simp only [hw, Bool.false_eq_true, if_false]
            simp only [hbw] at hl
            exact no hl
        | _ => simp [hv] at hl
      | undef =>
        simp only [hv] at hl
        have hy := yield_undef h hv
        have hw : Region.wanted o (yielded ops a.tmps) = false := by simp [Region.wanted, hg, hy]
        simp only [hw, Bool.false_eq_true, if_false]
        exact no hl
      | _ => simp [hv] at hl

theorem region_ok (hF : FW F) {id : Nat} {ops : Array Oper} (hN : dstsOK N ops.toList = true) {Q : Exit → Act → World → Prop} {K : St → Prop} (hQ : ∀ s a w, RF Fm s a w → K s → Q .normal a w) (h : RF Fm s a w) (hl : runOps P T E ops.toList 0 ops.toList s K) :
    (Code.region id ops false).wpIn F n P Q a w := by
  refine wpIn_region ?_
  have := runOps_ok hT hE hNf hD hY (n := n) hF hN hQ ops.toList 0 (by simp) h hl
  rw [List.range_eq_range']
  simpa using this
end
end Go.Pg
