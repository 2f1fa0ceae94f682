/-
  Ranges over functions: the iterator's contract, out of the evaluator; the loop over it. For every program.
-/
import Derived.Test.YtlmljmgappiehaaPgR
set_option linter.all false
namespace Go.Pg
open Go.RowKit

/-! ### The loop's own blocks -/
/-- The blocks that the loop's body may write: variables, and the rows that stand in some of their cells. -/
def Ow (B : Nat → Prop) (Q : Nat → Nat → Prop) (W : World) (k : Nat) : Prop := B k ∨ ∃ b c v, B b ∧ Q b c ∧ W.cell? ⟨b, c, none⟩ = some v ∧ blk v = some k
/-- What a round leaves as it lies. -/
def KpB (B : Nat → Prop) (Q : Nat → Nat → Prop) (W W' : World) : Prop :=
  W.heap.size ≤ W'.heap.size ∧ (∀ k, Ow B Q W' k → Ow B Q W k ∨ (W.heap.size ≤ k ∧ k < W'.heap.size)) ∧ ∀ k o, W.heap[k]? = some o → o.isCells = true → ¬ Ow B Q W k → W'.heap[k]? = some o
section
variable {B : Nat → Prop} {Q : Nat → Nat → Prop}
theorem KpB.trans {W1 W2 W3 : World} (h : KpB B Q W1 W2) (k : KpB B Q W2 W3) : KpB B Q W1 W3 := by
  obtain ⟨h1, h2, h3⟩ := h
  obtain ⟨k1, k2, k3⟩ := k
  refine ⟨Nat.le_trans h1 k1, fun i hi => ?_, fun i o hi ho hn => ?_⟩
  · rcases k2 i hi with h4 | h4
    · rcases h2 i h4 with h5 | h5
      · exact .inl h5
      · exact .inr ⟨h5.1, by omega⟩
    · exact .inr ⟨by omega, h4.2⟩
  · refine k3 i o (h3 i o hi ho hn) ho fun hw => ?_
    rcases h2 i hw with h4 | h4
    · exact hn h4
    · have := (Array.getElem?_eq_some_iff.1 hi).1; omega
/-- The own blocks are what they were where the variables are. -/
theorem Ow.same {W W' : World} (hB : ∀ b, B b → W'.heap[b]? = W.heap[b]?) {k : Nat} : Ow B Q W' k ↔ Ow B Q W k := by
  refine or_congr Iff.rfl (exists_congr fun b => exists_congr fun c => exists_congr fun v => ⟨fun ⟨h1, h2, h3, h4⟩ => ⟨h1, h2, ?_, h4⟩, fun ⟨h1, h2, h3, h4⟩ => ⟨h1, h2, ?_, h4⟩⟩)
  · rwa [World.cell?_of_block (hB b h1)] at h3
  · rwa [World.cell?_of_block (hB b h1)]
theorem KpB.book {w : World} (hB : ∀ b, B b → b < w.heap.size) (W : World) (l : Nat) (o o' : Obj) (hl : w.heap.size ≤ l) (hW : W.heap[l]? = some o) (hc : o.isCells = false) : KpB B Q W (W.putObj l o') := by
  have hb : ∀ k, k ≠ l → (W.putObj l o').heap[k]? = W.heap[k]? := fun k hk => World.putObj_heap_other hk
  refine ⟨(grownBy_putObj' W l o').size, fun k hk => .inl ((Ow.same fun b h => hb b fun e => by have := hB b h; omega).1 hk), fun k p hk hp _ => ?_⟩
  by_cases e : k = l
  · subst e; rw [hW] at hk; cases hk; rw [hc] at hp; cases hp
  · rw [hb k e]; exact hk
end

/-! ### The iterator's contract -/
/-- The iterator yields xs, in order; each round may lean on that. -/
def SeqX {α : Type} (F : Fence) (n : Nat) (P : Program) (g : Nat) (lb : Array Value) (encs : α → Array Value) (Kp : World → World → Prop) (xs : List α) (w : World) : Prop :=
  ∀ (l : Nat) (J Jx : List α → World → Prop) (W : World), Below w.heap.size w W → AbidesFrom W.heap.size J → AbidesFrom W.heap.size Jx →
    (∀ pre x W1, J pre W1 → pre ++ [x] <+: xs → YieldAt F (n - 1) P l (encs x) W1 fun e W' =>
      (e = .returned (.bool true) ∧ J (pre ++ [x]) W' ∧ Kp W1 W') ∨ (e = .returned (.bool false) ∧ Jx (pre ++ [x]) W')) →
    J [] W →
    CallsIn F n P g (#[.func (.yield l) #[] #[]] ++ lb) W fun e W' => (∃ v, e = .returned v) ∧ ((∃ ys, ys = xs ∧ J ys W') ∨ (∃ pre, pre <+: xs ∧ Jx pre W'))
/-- The function value of g with the m captured data cap yields xs, in order. -/
def SeqC (P : Program) (g : FuncId) (m : Nat) (cap : Nat → D) {τ : Type} (encV : τ → List Value) (xs : List τ) : Prop :=
  Ent P g ∧ ∀ (w : World) (ok : Nat → Prop) (lb : List Value) (B : Nat → Prop) (Q : Nat → Nat → Prop), (∀ b, ok b → b < w.heap.size) → lb.length = m → (∀ j, j < m → ∃ u, lb[j]? = some u ∧ Rep w ok (cap j) u) →
    (∀ k, Ow B Q w k → k < w.heap.size ∧ ¬ ok k) → SeqX Fence.wide 4 P g lb.toArray (fun x => (encV x).toArray) (KpB B Q) xs w
theorem roundIn_any {n m : Nat} {P : Program} {l : Nat} {fn : FuncId} {tmps : Array Value} {asg body : Code} {w : World} {R : Ending → World → Prop} (h : RoundIn Fence.wide n P l fn tmps asg body w R) : RoundIn Fence.wide m P l fn tmps asg body w R :=
  ⟨trivial, fun c cs _ => h.2 c cs (room_wide _)⟩
theorem yieldAt_any {n m : Nat} {P : Program} {l : Nat} {args : Array Value} {w : World} {R : Ending → World → Prop} (h : YieldAt Fence.wide n P l args w R) : YieldAt Fence.wide m P l args w R :=
  let ⟨fn, tmps, asg, body, h1, h2⟩ := h; ⟨fn, tmps, asg, body, h1, roundIn_any h2⟩
theorem yieldAt_mono {n : Nat} {P : Program} {l : Nat} {args : Array Value} {w : World} {R R' : Ending → World → Prop} (h : YieldAt Fence.wide n P l args w R) (hr : ∀ e w, R e w → R' e w) : YieldAt Fence.wide n P l args w R' :=
  let ⟨fn, tmps, asg, body, h1, h2⟩ := h; ⟨fn, tmps, asg, body, h1, roundIn_mono h2 hr⟩
theorem callsIn_wides {n m : Nat} {P : Program} {f : FuncId} {args : Array Value} {w : World} {R : Ending → World → Prop} (h : CallsIn Fence.wide n P f args w R) : CallsIn Fence.wide m P f args w R := callsIn_wide.2 (callsIn_wide.1 h)

/-- The frames of an iterator that has yielded some of xs. -/
def Fam (N : Nat) {τ : Type} (xs : List τ) (B : Nat → Prop) (Q : Nat → Nat → Prop) (J Jx : List τ → World → Prop) (cx : Cx) : Prop :=
  cx.N = N ∧ cx.lent = (fun _ => False) ∧ cx.hold = (fun _ _ => False) ∧ cx.dr = false ∧ cx.nod = true ∧
    match cx.gn with
    | some n => J (xs.take n) cx.w0 ∧ n ≤ xs.length ∧ (∀ b, cx.okA b → ¬ Ow B Q cx.w0 b) ∧ (∀ k, Ow B Q cx.w0 k → k < cx.w0.heap.size)
    | none => ∃ n, n ≤ xs.length ∧ Jx (xs.take n) cx.w0
theorem grown_of_lent {cx : Cx} {w : World} (h : Bel cx w) (hl : cx.lent = fun _ => False) : cx.w0.grownBy w none :=
  ⟨h.os, h.tape, h.output, h.size, fun k hk _ => h.block k hk (by rw [hl]; exact id)⟩
theorem still_m {w w' : World} {ok ok' : Nat → Prop} {γ : Nat → Value} {v : AV} {x : Value} (h : M w ok γ v x) : M w' ok' γ v.still x := by
  cases v with
  | d y =>
    simp only [AV.still]
    cases hf : y.flat with
    | true => exact Rep.flat hf h
    | false => exact trivial
  | agg ys =>
    simp only [AV.still]
    cases hf : ys.all D.flat with
    | true => obtain ⟨vs, h1, h2⟩ := h; exact ⟨vs, h1, h2.imp fun y _ hy hr => Rep.flat (List.all_eq_true.1 hf y hy) hr⟩
    | false => exact trivial
  | undef => exact h
  | _ => exact trivial
theorem still_refs (v : AV) : v.still.refs = [] := by
  cases v with
  | d y => simp only [AV.still]; split <;> rfl
  | agg ys => simp only [AV.still]; split <;> rfl
  | _ => rfl
theorem look_still : ∀ (sl : List (Nat × AV)) (t : Nat), look (stillS sl) t = (look sl t).map AV.still
  | [], _ => rfl
  | (i, v) :: r, t => by
    simp only [stillS, look]
    cases Nat.beq t i with
    | true => rfl
    | false => exact look_still r t
theorem ylaw {P : Program} {E : Env} {N : Nat} (hN : N ≤ G) {τ : Type} {enc : τ → List V1} {encV : τ → List Value} (henc : ∀ x (w : World) ok us, All2 (Rep1 w ok) (enc x) us → us = encV x) {xs : List τ} {B : Nat → Prop} {Q : Nat → Nat → Prop} {J Jx : List τ → World → Prop} {W0 : Nat}
    (hyd : ∀ n vs, E.yd n vs → ∃ x, xs[n]? = some x ∧ vs = enc x)
    (hJ : AbidesFrom W0 J) (hJx : AbidesFrom W0 Jx)
    (hY : ∀ pre x W1, J pre W1 → pre ++ [x] <+: xs → YieldAt Fence.wide 3 P E.l (encV x).toArray W1 fun e W' => (e = .returned (.bool true) ∧ J (pre ++ [x]) W' ∧ KpB B Q W1 W') ∨ (e = .returned (.bool false) ∧ Jx (pre ++ [x]) W')) :
    YLaw (Fam N xs B Q J Jx) P E := by
  intro cx hcx n hgn γ sl a w vs us hG h hv hus
  obtain ⟨x, hx, rfl⟩ := hyd n vs hv
  obtain rfl := henc x w _ us hus
  obtain ⟨f1, f2, f3, f4, f5, f7⟩ := hcx
  rw [hgn] at f7
  obtain ⟨j1, j2, j3, j4⟩ := f7
  have hn : n < xs.length := (List.getElem?_eq_some_iff.1 hx).1
  have htk : xs.take n ++ [x] = xs.take (n + 1) := by rw [List.take_succ, hx]; rfl
  have hgr := grown_of_lent h.below f2
  have hJw : J (xs.take n) w := hJ _ _ _ none j1 hgr (fun r e => by cases e)
  have hOw : ∀ k, Ow B Q w k ↔ Ow B Q cx.w0 k := fun k => Ow.same fun b hb => hgr.block b (j4 b (.inl hb)) (by simp)
  have hds : a.defers = [] := h.defers.1 f5
  have hok : ∀ b, okOf cx (St.of sl []) γ w b → ¬ Ow B Q w b := fun b hb hw => by
    rw [hOw] at hw
    rcases hb with h1 | ⟨h1, _⟩
    · exact j3 b h1 hw
    · have := j4 b hw
      rcases h1 with h1 | h1
      · omega
      · rw [f2] at h1; exact h1
  have hundef : a.tmps.getD G undef = undef := by
    rw [Array.getD_eq_getD_getElem?, Array.getElem?_eq_none (by rw [h.size, f1]; exact hN)]; rfl
  have hsr : ∀ t, ∀ x, look sl t = some x → x.refs = [] := fun t x hx' => by
    have := h.srefs t
    rw [show (St.of sl []).sl t = (look sl t).getD .any from rfl, hx'] at this
    cases hr : x.refs with
    | nil => rfl
    | cons j r => have := this j (by simp [hr]); cases this
  have look2 : ∀ (m : Option Nat) (l : List (Nat × AV)) (t : Nat), look ((G, AV.gho m) :: l) t = if t = G then some (.gho m) else look l t := fun m l t => by
    simp only [look]
    by_cases e : t = G
    · subst e; simp [Nat.beq_refl]
    · rw [if_neg e, beq_ne e]; rfl
  refine yieldAt_mono (yieldAt_any (hY _ x w hJw (by rw [htk]; exact List.take_prefix _ _))) ?_
  rintro e W' (⟨rfl, hj, kp⟩ | ⟨rfl, hj⟩)
  · refine .inl ⟨rfl, ⟨W', okOf cx (St.of sl []) γ w, N, fun _ => False, fun _ _ => False, 0, false, some (n + 1), true⟩, ⟨rfl, rfl, rfl, rfl, rfl, ?_⟩, ?_⟩
    · rw [htk] at hj
      refine ⟨hj, by omega, fun b hb hw => ?_, fun k hk => ?_⟩
      · rcases kp.2.1 b hw with h1 | h1
        · exact hok b hb h1
        · have := okOf_lt h hb; omega
      · rcases kp.2.1 k hk with h1 | h1
        · rw [hOw] at h1
          have := j4 k h1
          have := hgr.size
          have := kp.1
          show k < W'.heap.size
          omega
        · exact h1.2
    · exact { defers := ⟨fun _ => hds, [], hds, List.nodup_nil, fun D hD => by cases hD⟩
              size := by rw [h.size, f1]
              okA := fun b hb => ⟨Nat.lt_of_lt_of_le (okOf_lt h hb) kp.1, id⟩
              lent := fun b hb => hb.elim
              below := ⟨rfl, rfl, rfl, fun _ => Nat.le_refl _, Nat.le_refl _, fun _ _ _ => rfl⟩
              hold := fun k o hk => hk.elim
              least := Nat.zero_le _
              objs := fun i o hi => by cases hi
              refs := fun i cs hi => by cases hi
              sep := fun i j o o' hi => by cases hi
              slots := fun t => by
                show M W' _ γ ((look ((G, AV.gho (some (n + 1))) :: sl) t).getD .any) _
                rw [look2]
                by_cases e : t = G
                · subst e; rw [if_pos rfl]; exact hundef
                · rw [if_neg e]
                  refine (h.slots t).keep0 (fun b hb => ⟨.inl hb, fun ad u hb' hc => ?_⟩) fun _ _ => rfl
                  subst hb'
                  simp only [World.cell?] at hc ⊢
                  cases ho : w.heap[ad.block]? with
                  | none => rw [ho] at hc; cases hc
                  | some o =>
                    cases o with
                    | cells c T fr => rw [kp.2.2 _ _ ho rfl (hok _ hb)]; rw [ho] at hc; exact hc
                    | _ => rw [ho] at hc; cases hc
              srefs := fun t j hj => by
                have hj' : j ∈ ((look ((G, AV.gho (some (n + 1))) :: sl) t).getD .any).refs := hj
                rw [look2] at hj'
                by_cases e : t = G
                · rw [if_pos e] at hj'; cases hj'
                · rw [if_neg e] at hj'; exact h.srefs t j hj'
              gho := fun m hm => by
                have hm' : (look ((G, AV.gho (some (n + 1))) :: sl) G).getD .any = .gho m := hm
                rw [look2, if_pos rfl] at hm'
                cases hm'; rfl
              ng := hN }
  · refine .inr ⟨rfl, ⟨W', fun _ => False, N, fun _ => False, fun _ _ => False, 0, false, none, true⟩, ⟨rfl, rfl, rfl, rfl, rfl, n + 1, by omega, by rw [← htk]; exact hj⟩, ?_⟩
    · exact { defers := ⟨fun _ => hds, [], hds, List.nodup_nil, fun D hD => by cases hD⟩
              size := by rw [h.size, f1]
              okA := fun b hb => hb.elim
              lent := fun b hb => hb.elim
              below := ⟨rfl, rfl, rfl, fun _ => Nat.le_refl _, Nat.le_refl _, fun _ _ _ => rfl⟩
              hold := fun k o hk => hk.elim
              least := Nat.zero_le _
              objs := fun i o hi => by cases hi
              refs := fun i cs hi => by cases hi
              sep := fun i j o o' hi => by cases hi
              slots := fun t => by
                show M W' _ γ ((look ((G, AV.gho none) :: stillS sl) t).getD .any) _
                rw [look2]
                by_cases e : t = G
                · subst e; rw [if_pos rfl]; exact hundef
                · rw [if_neg e, look_still]
                  have := h.slots t
                  rw [show (St.of sl []).sl t = (look sl t).getD .any from rfl] at this
                  cases hl : look sl t with
                  | none => exact trivial
                  | some v => rw [hl] at this; exact still_m this
              srefs := fun t j hj => by
                have hj' : j ∈ ((look ((G, AV.gho none) :: stillS sl) t).getD .any).refs := hj
                rw [look2] at hj'
                by_cases e : t = G
                · rw [if_pos e] at hj'; cases hj'
                · rw [if_neg e, look_still] at hj'
                  cases hl : look sl t with
                  | none => rw [hl] at hj'; cases hj'
                  | some v => rw [hl] at hj'; rw [show ((some v).map AV.still).getD .any = v.still from rfl, still_refs] at hj'; cases hj'
              gho := fun m hm => by
                have hm' : (look ((G, AV.gho none) :: stillS sl) G).getD .any = .gho m := hm
                rw [look2, if_pos rfl] at hm'
                cases hm'; rfl
              ng := hN }

/-- The iterator has yielded all, or was told no more. -/
def retY (len : Nat) : KK := fun x s =>
  let fin : Prop := s.sl G = .gho (some len) ∨ s.sl G = .gho none
  match x with
  | .normal => fin
  | .ret => fin
  | _ => False
theorem seqC_of {P : Program} {T : TT} (hT : ∀ t i, T t = some i → TI.of P t = some i) {eq : Nat → Bool} (hE : ∀ t, eq t = true → EqFact P t) (hm : P.follows .mixedOrders = true)
    {f : FuncId} {fn : Func} {c : Code} (hf : P.funcs[f]? = some fn) (hb : fn.body = some c) (hn : (fn.name == "runtime.NumGoroutine") = false) (hN : codeN fn.ntmps c = true) (hres : fn.results.toList = []) (hng : fn.ntmps ≤ G)
    {m : Nat} {cap : Nat → D} (hsz : m + 1 ≤ fn.ntmps) {τ : Type} (enc : τ → List V1) {encV : τ → List Value} (henc : ∀ x (w : World) ok us, All2 (Rep1 w ok) (enc x) us → us = encV x) (xs : List τ)
    (h : ∀ l, awp P T ⟨eq, false, l, fun n vs => ∃ x, xs[n]? = some x ∧ vs = enc x, true⟩ c (St.of ((G, .gho (some 0)) :: (0, .yl l) :: argSlots 1 ((List.range m).map fun j => .d (cap j))) []) (retY xs.length)) : SeqC P f m cap encV xs := by
  refine ⟨⟨fn, hf, hn, by rw [hb]; rfl⟩, fun w ok lb B Q hok hl hcap hOw l J Jx W hW hJ hJx hY h0 => ?_⟩
  have hBs : ∀ k, Ow B Q W k ↔ Ow B Q w k := fun k => Ow.same fun b hb => hW.block b (hOw b (.inl hb)).1
  let vs : List Value := .func (.yield l) #[] #[] :: lb
  have hvs : (#[.func (.yield l) #[] #[]] ++ lb.toArray : Array Value) = vs.toArray := by simp [vs]
  have hargs : All2 (Rep1 W ok) ((List.range m).map fun j => V1.d (cap j)) lb := by
    refine .map_left (All2.of_get (by simp [hl]) fun j q y hx hy => ?_)
    have hj : j < m := by have := (List.getElem?_eq_some_iff.1 hx).1; simpa using this
    rw [List.getElem?_range hj] at hx
    cases hx
    obtain ⟨u, hu, hr⟩ := hcap j hj
    rw [hy] at hu; cases hu
    exact Rep.keep (x := cap j) (fun b hb => ⟨hb, hW.block b (hok b hb)⟩) hr
  let cx : Cx := ⟨W, ok, fn.ntmps, fun _ => False, fun _ _ => False, 0, false, some 0, true⟩
  let a : Act := { tmps := vs.toArray ++ Array.replicate (fn.ntmps - vs.toArray.size) undef, defers := [] }
  have hsize : a.tmps.size = fn.ntmps := by simp [a, vs, hl]; omega
  have hcx : Fam fn.ntmps xs B Q J Jx cx := ⟨rfl, rfl, rfl, rfl, rfl, by simpa using h0, Nat.zero_le _, fun b hb hw => (hOw b ((hBs b).1 hw)).2 hb, fun k hk => Nat.lt_of_lt_of_le (hOw k ((hBs k).1 hk)).1 hW.size⟩
  let sl0 : List (Nat × AV) := (G, .gho (some 0)) :: (0, .yl l) :: argSlots 1 ((List.range m).map fun j => .d (cap j))
  have lk : ∀ t x, look sl0 t = some x → x.refs = [] ∧ M W (okOf cx (St.of sl0 []) (fun _ => undef) W) (fun _ => undef) x (a.tmps.getD t undef) ∧ (∀ q, x = .gho q → q = some 0) := fun t x hx => by
    simp only [sl0, look] at hx
    cases hb1 : Nat.beq t G with
    | true =>
      rw [hb1] at hx; cases hx
      have := Nat.eq_of_beq_eq_true hb1
      subst this
      refine ⟨rfl, ?_, fun q e => by cases e; rfl⟩
      show a.tmps.getD G undef = undef
      rw [Array.getD_eq_getD_getElem?, Array.getElem?_eq_none (by rw [hsize]; exact hng)]; rfl
    | false =>
      rw [hb1] at hx
      simp only [cond_false] at hx
      cases hb2 : Nat.beq t 0 with
      | true =>
        rw [hb2] at hx; cases hx
        have := Nat.eq_of_beq_eq_true hb2
        subst this
        refine ⟨rfl, ?_, fun q e => by cases e⟩
        exact frame_get (vs := vs) (N := fn.ntmps) (j := 0) rfl
      | false =>
        rw [hb2] at hx
        obtain ⟨j, u, y, g1, g2, g3, g4⟩ := argSlots_m (ok := ok) _ lb 1 t hargs x hx
        subst g3
        refine ⟨avOf_refs y, ?_, fun q e => ?_⟩
        · have := frame_get (vs := vs) (N := fn.ntmps) (j := t) (u := u) (by rw [g1, Nat.add_comm]; exact g2)
          rw [show a.tmps.getD t undef = u from this]
          exact m_avOf.2 (rep1_mono (fun b hb => .inl hb) g4)
        · cases y with
          | d z => cases z <;> cases e
          | agg z => cases e
  have hR0 : R cx (St.of sl0 []) a W := ⟨fun _ => undef,
    { defers := ⟨fun _ => rfl, [], rfl, List.nodup_nil, fun D hD => by cases hD⟩
      size := hsize
      okA := fun b hb => ⟨Nat.lt_of_lt_of_le (hok b hb) hW.size, id⟩
      lent := fun b hb => hb.elim
      below := ⟨rfl, rfl, rfl, fun _ => Nat.le_refl _, Nat.le_refl _, fun _ _ _ => rfl⟩
      hold := fun k o hk => hk.elim
      least := Nat.zero_le _
      objs := fun i o hi => by cases hi
      refs := fun i cs hi => by cases hi
      sep := fun i j o o' hi => by cases hi
      slots := fun t => by
        show M W _ _ ((look sl0 t).getD .any) _
        cases hx : look sl0 t with
        | none => exact trivial
        | some x => exact (lk t x hx).2.1
      srefs := fun t j hj => by
        have hj' : j ∈ ((look sl0 t).getD .any).refs := hj
        cases hx : look sl0 t with
        | none => rw [hx] at hj'; cases hj'
        | some x => rw [hx] at hj'; rw [show (some x).getD .any = x from rfl, (lk t x hx).1] at hj'; cases hj'
      gho := fun q hq => by
        have hq' : (look sl0 G).getD .any = .gho q := hq
        cases hx : look sl0 G with
        | none => rw [hx] at hq'; cases hq'
        | some x => rw [hx] at hq'; exact ((lk G x hx).2.2 q hq').symm
      ng := hng }⟩
  rw [hvs]
  refine callsIn_wides (n := 0) (callsIn_of_wp_marks hf hb trivial ?_)
  refine awp_ok (Fm := Fam fn.ntmps xs B Q J Jx) (N := fn.ntmps) hT hE (fun c hc => hc.1) (fun c hc hd => by rw [hc.2.2.2.1] at hd; cases hd) (ylaw hng henc (fun n vs h => h) hJ hJx hY) (.inl rfl) (fun _ _ _ => rfl) (fun c hc => .inl rfl) hm c hN (fun x s a w' hR hk => ?_) ⟨cx, hcx, hR0⟩ (h l)
  have fin : (s.sl G = .gho (some xs.length) ∨ s.sl G = .gho none) → LeavesInM Fence.wide 0 P fn a.tmps (fun e W' => (∃ v, e = .returned v) ∧ ((∃ ys, ys = xs ∧ J ys W') ∨ (∃ pre, pre <+: xs ∧ Jx pre W'))) a.defers .returning w' := fun hk => by
    obtain ⟨cx', ⟨f1, f2, f3, f4, f5, f7⟩, γ, hg⟩ := hR
    rw [hg.defers.1 f5]
    refine ⟨_, run_results (P := P) (fn := fn) (a := a) (w := w') (vs := []) (by rw [hres]; rfl), ⟨_, rfl⟩, ?_⟩
    have hgr := grown_of_lent hg.below f2
    rcases hk with hk | hk
    · rw [hg.gho _ hk] at f7
      obtain ⟨j1, _⟩ := f7
      rw [List.take_length] at j1
      exact .inl ⟨xs, rfl, hJ _ _ _ none j1 hgr (fun r e => by cases e)⟩
    · rw [hg.gho _ hk] at f7
      obtain ⟨n, _, j1⟩ := f7
      exact .inr ⟨xs.take n, List.take_prefix n xs, hJx _ _ _ none j1 hgr (fun r e => by cases e)⟩
  cases x with
  | normal => exact fin hk
  | ret => exact fin hk
  | _ => exact hk.elim
end Go.Pg
