/-
  What a step of the world does to an abstract state: a slot is written, the world grows, an object is made, changed, given up. No program in sight.
-/
import Derived.Test.YtlmljmgappiehaaPgA
set_option linter.all false
namespace Go.Pg
open Go.RowKit
section
variable {cx : Cx} {γ : Nat → Value} {s : St} {a : Act} {w w' : World}

theorem okOf_lt (h : RG cx γ s a w) {b : Nat} (hb : okOf cx s γ w b) : b < w.heap.size := by
  rcases hb with hb | ⟨_, hb, _⟩
  · exact Nat.lt_of_lt_of_le (h.okA b hb).1 h.below.size
  · exact hb
theorem holds_blk {O ok : Nat → Prop} {i : Nat} {o : Ob} (hh : Holds w O ok γ i o) {b : Nat} (hb : blk (γ i) = some b) : O b ∧ b < w.heap.size ∧ ∃ cs T x, w.heap[b]? = some (.cells cs T x) := by
  cases o with
  | box cs =>
    obtain ⟨b', vs, T, h1, h2, h3, _⟩ := hh
    rw [h1] at hb; simp [blk] at hb; subst hb
    exact ⟨h2, (Array.getElem?_eq_some_iff.1 h3).1, _, _, _, h3⟩
  | row e' k n f =>
    obtain ⟨xs, h1, h0, _⟩ := hh
    have hO := h0 b hb
    rcases h1.2 with ⟨h2, _⟩ | ⟨g, cap, cur, h2, _, h4, _⟩
    · rw [h2] at hb; simp [blk] at hb
    · rw [h2] at hb; simp [blk] at hb; subst hb
      exact ⟨hO, (Array.getElem?_eq_some_iff.1 h4).1, _, _, _, h4⟩
theorem O_not_okA (h : RG cx γ s a w) {b : Nat} (hO : cx.O b) : ¬ cx.okA b := fun hA => by
  obtain ⟨h1, h2⟩ := h.okA b hA
  rcases hO with hO | hO
  · omega
  · exact h2 hO
theorem ok_ne (h : RG cx γ s a w) {b i : Nat} {o : Ob} (hb : okOf cx s γ w b) (hi : s.ob i = some o) : blk (γ i) ≠ some b := by
  rcases hb with hb | ⟨_, _, hb⟩
  · exact fun e => O_not_okA h (holds_blk (h.objs i o hi) e).1 hb
  · exact hb i o hi
theorem blk_lt (h : RG cx γ s a w) {b i : Nat} {o : Ob} (hi : s.ob i = some o) (hb : blk (γ i) = some b) : cx.O b ∧ b < w.heap.size :=
  ⟨(holds_blk (h.objs i o hi) hb).1, (holds_blk (h.objs i o hi) hb).2.1⟩
/-- What the call's frame says abides a step that turns an own block, or makes new ones. -/
structure Stp (cx : Cx) (a : Act) (w' : World) : Prop where
  defers : Marks cx w' a.defers
  below : Bel cx w'
  hold : ∀ k o, cx.hold k o → w'.heap[k]? = some o
  least : cx.least ≤ w'.heap.size
theorem RG.step (h : RG cx γ s a w) {row : Option Nat} (hg : w.grownBy w' row) (hdr : cx.dr = true → w.drawn ≤ w'.drawn) (hrow : ∀ b, row = some b → ∃ i o, s.ob i = some o ∧ blk (γ i) = some b) : Stp cx a w' where
  defers := by
    obtain ⟨h0, ms, h1, h2, h3⟩ := h.defers
    refine ⟨h0, ms, h1, h2, fun D hD => ⟨(h3 D hD).1, ?_⟩⟩
    have hd := (h3 D hD).2
    rw [hg.block D (Array.getElem?_eq_some_iff.1 hd).1 fun e => ?_]
    · exact hd
    · obtain ⟨i, o, hi, hb⟩ := hrow D e.symm
      obtain ⟨_, _, cs, T, x, hc⟩ := holds_blk (h.objs i o hi) hb
      rw [hd] at hc; cases hc
  below := by
    refine ⟨hg.os.trans h.below.os, hg.tape.trans h.below.tape, hg.output.trans h.below.output, fun e => Nat.le_trans (h.below.drawn e) (hdr e), Nat.le_trans h.below.size hg.size, fun k hk hl => ?_⟩
    rw [hg.block k (Nat.lt_of_lt_of_le hk h.below.size) fun e => ?_]
    · exact h.below.block k hk hl
    · obtain ⟨i, o, hi, hb⟩ := hrow k e.symm
      rcases (blk_lt h hi hb).1 with h1 | h1
      · omega
      · exact hl h1
  hold := fun k o hk => by
    obtain ⟨h1, h2⟩ := h.hold k o hk
    rw [hg.block k (Array.getElem?_eq_some_iff.1 h1).1 fun e => ?_]
    · exact h1
    · obtain ⟨i, p, hi, hb⟩ := hrow k e.symm
      exact h2 i p hi hb
  least := Nat.le_trans h.least hg.size
theorem hold_lt (h : RG cx γ s a w) {k : Nat} {o : Obj} (hk : cx.hold k o) : k < w.heap.size := (Array.getElem?_eq_some_iff.1 (h.hold k o hk).1).1

theorem getD_put (a : Act) (t u : Nat) (v : Value) (h : t < a.tmps.size) : (a.put (some t) v).tmps.getD u undef = if u = t then v else a.tmps.getD u undef := by
  simp only [Act.put]
  by_cases hu : u = t
  · subst hu; simp [Array.getD, h]
  · simp only [hu, if_false, Array.getD_eq_getD_getElem?]
    rw [Array.getElem?_setIfInBounds_ne (by omega)]

/-- A slot is written. -/
theorem RG.put (h : RG cx γ s a w) {t : Nat} {v : AV} {x : Value} (ht : t < cx.N) (hv : M w (okOf cx s γ w) γ v x) (hr : ∀ j ∈ v.refs, (s.ob j).isSome = true) :
    RG cx γ (s.put t v) (a.put (some t) x) w where
  defers := h.defers
  size := by simp [Act.put, h.size]
  okA := h.okA
  lent := h.lent
  below := h.below
  hold := h.hold
  least := h.least
  objs := h.objs
  refs := h.refs
  sep := h.sep
  slots := by
    intro u
    rw [getD_put _ _ _ _ (by rw [h.size]; exact ht)]
    show M w (okOf cx s γ w) γ (upd s.sl t v u) _
    rw [upd_eq]
    split
    · exact hv
    · exact h.slots u
  srefs := by
    intro u
    show ∀ j ∈ (upd s.sl t v u).refs, _
    rw [upd_eq]
    split
    · exact hr
    · exact h.srefs u
  gho := fun m hm => h.gho m (by
    have : upd s.sl t v G = .gho m := hm
    rwa [upd_ne _ _ (by have := h.ng; omega)] at this)
  ng := h.ng
theorem RG.putO (h : RG cx γ s a w) {t : Option Nat} {v : AV} {x : Value} (ht : ∀ d, t = some d → d < cx.N) (hv : M w (okOf cx s γ w) γ v x) (hr : ∀ j ∈ v.refs, (s.ob j).isSome = true) :
    RG cx γ (s.putO t v) (a.put t x) w := by
  cases t with
  | none => exact h
  | some t => exact h.put (ht t rfl) hv hr

/-- What holds of an object holds where its block, and the blocks that data may read, are as they were. -/
theorem Holds.keep0 {ok ok' : Nat → Prop} {γ' : Nat → Value} {O : Nat → Prop} {i : Nat} {o : Ob} (hk : ∀ b, ok b → ok' b ∧ Kpt w w' b) (hγ : γ' i = γ i) (hcs : ∀ cs, o = .box cs → ∀ c ∈ cs, ∀ j ∈ c.refs, γ' j = γ j)
    (hb : ∀ b, blk (γ i) = some b → w'.heap[b]? = w.heap[b]?) (h : Holds w O ok γ i o) : Holds w' O ok' γ' i o := by
  cases o with
  | box cs =>
    obtain ⟨b, vs, T, h1, h2, h3, h4⟩ := h
    refine ⟨b, vs, T, by rw [hγ]; exact h1, h2, by rw [hb b (by rw [h1]; rfl)]; exact h3, h4.imp fun c v hc ⟨h5, h6⟩ => ⟨M.keep0 hk (hcs cs rfl c hc) h5, h6⟩⟩
  | row e k n f =>
    obtain ⟨xs, h1, h0, h2, h3⟩ := h
    refine ⟨xs, ⟨h1.1, ?_⟩, by rw [hγ]; exact h0, h2, fun m hm j hj => ?_⟩
    · rw [hγ]
      rcases h1.2 with h4 | ⟨g, cap, cur, h4, h5, h6, h7⟩
      · exact .inl h4
      · exact .inr ⟨g, cap, cur, h4, h5, by rw [hb g (by rw [h4]; rfl)]; exact h6, h7⟩
    · obtain ⟨u, hu, hr⟩ := h3 m hm j hj
      exact ⟨u, hu, Rep.keep0 hk hr⟩
theorem Holds.keep {ok ok' : Nat → Prop} {γ' : Nat → Value} {O : Nat → Prop} {i : Nat} {o : Ob} (hk : ∀ b, ok b → ok' b ∧ w'.heap[b]? = w.heap[b]?) (hγ : γ' i = γ i) (hcs : ∀ cs, o = .box cs → ∀ c ∈ cs, ∀ j ∈ c.refs, γ' j = γ j)
    (hb : ∀ b, blk (γ i) = some b → w'.heap[b]? = w.heap[b]?) (h : Holds w O ok γ i o) : Holds w' O ok' γ' i o := Holds.keep0 (kpts hk) hγ hcs hb h

/-- The world grows: all blocks that lay are as they were. -/
theorem RG.grow (h : RG cx γ s a w) (hb : Below w.heap.size w w') (hdr : cx.dr = true → w.drawn ≤ w'.drawn) : RG cx γ s a w' := by
  have hg : w.grownBy w' none := ⟨hb.os, hb.tape, hb.output, hb.size, fun k hk _ => hb.block k hk⟩
  have hst := h.step hg hdr (fun b hb => by cases hb)
  have hk : ∀ b, okOf cx s γ w b → okOf cx s γ w' b ∧ w'.heap[b]? = w.heap[b]? := fun b hb' => by
    refine ⟨?_, hb.block b (okOf_lt h hb')⟩
    rcases hb' with h1 | ⟨h1, h2, h3⟩
    · exact .inl h1
    · exact .inr ⟨h1, Nat.lt_of_lt_of_le h2 hb.size, h3⟩
  exact {
    defers := hst.defers, size := h.size, okA := h.okA, lent := h.lent, below := hst.below, least := hst.least
    hold := fun k o hk => ⟨hst.hold k o hk, (h.hold k o hk).2⟩
    objs := fun i o hi => (h.objs i o hi).keep hk rfl (fun _ _ _ _ _ _ => rfl) fun b hb' => hb.block b (blk_lt h hi hb').2
    refs := h.refs, sep := h.sep
    slots := fun t => (h.slots t).keep hk fun _ _ => rfl
    srefs := h.srefs, gho := h.gho, ng := h.ng }
theorem RG.drew (h : RG cx γ s a w) : RG cx γ s a w.drew := h.grow ⟨rfl, rfl, rfl, Nat.le_refl _, fun _ _ => rfl⟩ (fun _ => Nat.le_succ _)

/-- An object's contents change; its value stays. -/
theorem RG.change (h : RG cx γ s a w) {i : Nat} {o o' : Ob} (hi : s.ob i = some o) (hg : w.grownBy w' (blk (γ i))) (hdr : cx.dr = true → w.drawn ≤ w'.drawn)
    (ho : ∀ ok : Nat → Prop, (∀ b, okOf cx s γ w b → ok b ∧ w'.heap[b]? = w.heap[b]?) → Holds w' cx.O ok γ i o') (hr : ∀ cs, o' = .box cs → ∀ c ∈ cs, ∀ j ∈ c.refs, (s.ob j).isSome = true) :
    RG cx γ (s.setOb i (some o')) a w' := by
  have hsome : ∀ j, ((s.setOb i (some o')).ob j).isSome = (s.ob j).isSome := fun j => by
    show (upd s.ob i (some o') j).isSome = _
    rw [upd_eq]; split
    · rename_i e; subst e; rw [hi]; rfl
    · rfl
  have hex : ∀ {j : Nat} {p : Ob}, (s.setOb i (some o')).ob j = some p → ∃ p', s.ob j = some p' := fun {j p} hp => by
    have := hsome j; rw [hp] at this; exact Option.isSome_iff_exists.1 this.symm
  have hok : ∀ W b, okOf cx (s.setOb i (some o')) γ W b ↔ okOf cx s γ W b := fun W b => by
    unfold okOf
    refine or_congr Iff.rfl (and_congr Iff.rfl (and_congr Iff.rfl ⟨fun H j p hp => ?_, fun H j p hp => ?_⟩))
    · by_cases e : j = i
      · subst e; exact H j o' (by show upd s.ob j (some o') j = _; simp)
      · exact H j p (by show upd s.ob i (some o') j = _; rw [upd_ne _ _ e]; exact hp)
    · obtain ⟨p', hp'⟩ := hex hp; exact H j p' hp'
  have hk : ∀ b, okOf cx s γ w b → okOf cx (s.setOb i (some o')) γ w' b ∧ w'.heap[b]? = w.heap[b]? := fun b hb' => by
    refine ⟨(hok w' b).2 ?_, hg.block b (okOf_lt h hb') fun e => ok_ne h hb' hi e.symm⟩
    rcases hb' with h1 | ⟨h1, h2, h3⟩
    · exact .inl h1
    · exact .inr ⟨h1, Nat.lt_of_lt_of_le h2 hg.size, h3⟩
  have hst := h.step hg hdr (fun b hb => ⟨i, o, hi, hb⟩)
  exact {
    defers := hst.defers, size := h.size, okA := h.okA, lent := h.lent, below := hst.below, least := hst.least
    hold := fun k p hk => ⟨hst.hold k p hk, fun j q hq => by obtain ⟨q', hq'⟩ := hex hq; exact (h.hold k p hk).2 j q' hq'⟩
    objs := fun j p hp => by
      by_cases e : j = i
      · subst e
        have : p = o' := by
          have : upd s.ob j (some o') j = some p := hp
          simpa using this.symm
        subst this
        exact ho _ hk
      · have hp' : s.ob j = some p := by
          have : upd s.ob i (some o') j = some p := hp
          rwa [upd_ne _ _ e] at this
        exact (h.objs j p hp').keep hk rfl (fun _ _ _ _ _ _ => rfl) fun b hb' => hg.block b (blk_lt h hp' hb').2 fun e' => h.sep j i p o hp' hi e b hb' e'.symm
    refs := fun j cs hj c hc m hm => by
      rw [hsome]
      by_cases e : j = i
      · subst e
        have : upd s.ob j (some o') j = some (.box cs) := hj
        rw [upd_same] at this
        exact hr cs (by simpa using this) c hc m hm
      · have : upd s.ob i (some o') j = some (.box cs) := hj
        rw [upd_ne _ _ e] at this
        exact h.refs j cs this c hc m hm
    sep := fun j m p q hp hq hne b hb' => by
      obtain ⟨p', hp'⟩ := hex hp
      obtain ⟨q', hq'⟩ := hex hq
      exact h.sep j m p' q' hp' hq' hne b hb'
    slots := fun t => (h.slots t).keep hk fun _ _ => rfl
    srefs := fun t j hj => by rw [hsome]; exact h.srefs t j hj
    gho := h.gho, ng := h.ng }

/-- A block that is no cells turns, one that the call need not keep. -/
theorem RG.other (h : RG cx γ s a w) {r : Nat} {o : Obj} (hg : w.grownBy w' (some r)) (hdr : cx.dr = true → w.drawn ≤ w'.drawn) (hr : w.heap[r]? = some o) (hc : o.isCells = false) (hm : mark r ∉ a.defers) (hh : ∀ p, ¬ cx.hold r p) (h0 : cx.w0.heap.size ≤ r) : RG cx γ s a w' := by
  have nb : ∀ i p, s.ob i = some p → blk (γ i) ≠ some r := fun i p hi e => by
    obtain ⟨_, _, cs, T, x, hcs⟩ := holds_blk (h.objs i p hi) e
    rw [hr] at hcs; cases hcs; simp [Obj.isCells] at hc
  have hk : ∀ b, okOf cx s γ w b → okOf cx s γ w' b ∧ Kpt w w' b := fun b hb => by
    refine ⟨?_, fun ad u hb' hcell => ?_⟩
    · rcases hb with h1 | ⟨h1, h2, h3⟩
      · exact .inl h1
      · exact .inr ⟨h1, Nat.lt_of_lt_of_le h2 hg.size, h3⟩
    · subst hb'
      by_cases e : ad.block = r
      · exfalso
        simp only [World.cell?, e, hr] at hcell
        cases o <;> simp [Obj.isCells] at hc hcell
      · rw [World.cell?_of_block (w := w) (hg.block _ (okOf_lt h hb) fun e' => e (by cases e'; rfl))]; exact hcell
  exact {
    defers := by
      obtain ⟨h0, ms, h1, h2, h3⟩ := h.defers
      refine ⟨h0, ms, h1, h2, fun D hD => ⟨(h3 D hD).1, ?_⟩⟩
      have hd := (h3 D hD).2
      rw [hg.block D (Array.getElem?_eq_some_iff.1 hd).1 fun e => hm (by cases e; rw [h1]; exact List.mem_map.2 ⟨_, hD, rfl⟩)]
      exact hd
    size := h.size, okA := h.okA, lent := h.lent
    below := ⟨hg.os.trans h.below.os, hg.tape.trans h.below.tape, hg.output.trans h.below.output, fun e => Nat.le_trans (h.below.drawn e) (hdr e), Nat.le_trans h.below.size hg.size, fun k hk' hl => by
      rw [hg.block k (Nat.lt_of_lt_of_le hk' h.below.size) fun e => by cases e; omega]
      exact h.below.block k hk' hl⟩
    hold := fun k p hk' => by
      obtain ⟨h1, h2⟩ := h.hold k p hk'
      refine ⟨?_, h2⟩
      rw [hg.block k (Array.getElem?_eq_some_iff.1 h1).1 fun e => by cases e; exact hh p hk']
      exact h1
    least := Nat.le_trans h.least hg.size
    objs := fun i p hi => (h.objs i p hi).keep0 hk rfl (fun _ _ _ _ _ _ => rfl) fun b hb' => hg.block b (blk_lt h hi hb').2 fun e => nb i p hi (by cases e; exact hb')
    refs := h.refs, sep := h.sep
    slots := fun t => (h.slots t).keep0 hk fun _ _ => rfl
    srefs := h.srefs, gho := h.gho, ng := h.ng }
end
end Go.Pg
