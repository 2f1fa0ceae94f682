/-
  An object is made anew, given up, or read as plain data; a state is weakened. No program in sight.
-/
import Derived.Test.YtlmljmgappiehaaPgB
set_option linter.all false
namespace Go.Pg
open Go.RowKit
section
variable {cx : Cx} {γ : Nat → Value} {s : St} {a : Act} {w w' : World}

theorem hasRef_false {i : Nat} {v : AV} (h : v.hasRef i = false) : i ∉ v.refs := by
  intro hm
  have : v.hasRef i = true := List.any_eq_true.2 ⟨i, hm, beq_self i⟩
  rw [h] at this; cases this
theorem refs_purge {i : Nat} {v : AV} {j : Nat} (hj : j ∈ (v.purge i).refs) : j ∈ v.refs ∧ j ≠ i := by
  unfold AV.purge at hj
  cases h : v.hasRef i with
  | true => rw [h] at hj; simp [AV.refs] at hj
  | false => rw [h] at hj; exact ⟨hj, fun e => hasRef_false h (e ▸ hj)⟩
theorem purge_id {i : Nat} {v : AV} (h : i ∉ v.refs) : v.purge i = v := by
  unfold AV.purge
  cases hv : v.hasRef i with
  | false => rfl
  | true =>
    obtain ⟨j, hj, e⟩ := List.any_eq_true.1 hv
    exact absurd hj (by rw [← Nat.eq_of_beq_eq_true e]; exact h)
theorem M.purge {ok : Nat → Prop} {γ : Nat → Value} {v : AV} {x : Value} (i : Nat) (h : M w ok γ v x) : M w ok γ (v.purge i) x := by
  unfold AV.purge
  cases v.hasRef i with
  | true => exact trivial
  | false => exact h

theorem drop_ob (s : St) (i j : Nat) : (s.drop i).ob j = if j = i then none else (s.ob j).map (Ob.purge i) := by
  show upd (fun j => (s.ob j).map (Ob.purge i)) i none j = _
  rw [upd_eq]

/-- Object i is made anew (its value may be another one now), or made. -/
theorem RG.renew (h : RG cx γ s a w) {i : Nat} {o' : Ob} {v : Value} {row : Option Nat} (hg : w.grownBy w' row) (hdr : cx.dr = true → w.drawn ≤ w'.drawn) (hrow : ∀ b, row = some b → ∃ o, s.ob i = some o ∧ blk (γ i) = some b)
    (hv : ∀ b, blk v = some b → row = some b ∨ w.heap.size ≤ b)
    (ho : ∀ ok : Nat → Prop, (∀ b, okOf cx s γ w b → ok b ∧ w'.heap[b]? = w.heap[b]?) → Holds w' cx.O ok (upd γ i v) i o') (hr : ∀ cs, o' = .box cs → ∀ c ∈ cs, c.refs = []) :
    RG cx (upd γ i v) ((s.drop i).setOb i (some o')) a w' := by
  have hob : ∀ j, ((s.drop i).setOb i (some o')).ob j = if j = i then some o' else (s.ob j).map (Ob.purge i) := fun j => by
    show upd (s.drop i).ob i (some o') j = _
    rw [upd_eq, drop_ob]; split <;> rfl
  have hkeep : ∀ b, okOf cx s γ w b → w'.heap[b]? = w.heap[b]? := fun b hb' => hg.block b (okOf_lt h hb') fun e => by
    obtain ⟨o, h1, h2⟩ := hrow b e.symm
    exact ok_ne h hb' h1 h2
  have hk : ∀ b, okOf cx s γ w b → okOf cx ((s.drop i).setOb i (some o')) (upd γ i v) w' b ∧ w'.heap[b]? = w.heap[b]? := fun b hb' => by
    refine ⟨?_, hkeep b hb'⟩
    rcases id hb' with h1 | ⟨h1, h2, h3⟩
    · exact .inl h1
    · refine .inr ⟨h1, Nat.lt_of_lt_of_le h2 hg.size, fun j p hp => ?_⟩
      rw [hob] at hp
      rw [upd_eq]
      split at hp
      · rename_i e; rw [if_pos e]
        intro e'
        rcases hv b e' with h4 | h4
        · obtain ⟨o, h5, h6⟩ := hrow b h4
          exact ok_ne h hb' h5 h6
        · omega
      · rename_i e; rw [if_neg e]
        cases hs : s.ob j with
        | none => rw [hs] at hp; cases hp
        | some p' => exact h3 j p' hs
  have hpres : ∀ j, j ≠ i → (s.ob j).isSome = true → (((s.drop i).setOb i (some o')).ob j).isSome = true := fun j e hj => by rw [hob, if_neg e]; simpa using hj
  have hst := h.step hg hdr (fun b hb => by obtain ⟨o, h1, h2⟩ := hrow b hb; exact ⟨i, o, h1, h2⟩)
  have old' : ∀ {j : Nat} {p : Ob}, (s.ob j).map (Ob.purge i) = some p → ∃ p', s.ob j = some p' := fun {j p} hj => by
    cases hs : s.ob j with
    | none => rw [hs] at hj; cases hj
    | some q => exact ⟨q, rfl⟩
  exact {
    defers := hst.defers, size := h.size, okA := h.okA, lent := h.lent, below := hst.below, least := hst.least
    hold := fun k p hk => ⟨hst.hold k p hk, fun j q hq => by
      rw [hob] at hq
      rw [upd_eq]
      split at hq
      · rename_i e; rw [if_pos e]
        intro e'
        rcases hv k e' with h4 | h4
        · obtain ⟨o, h5, h6⟩ := hrow k h4
          exact (h.hold k p hk).2 i o h5 h6
        · have := hold_lt h hk; omega
      · rename_i e; rw [if_neg e]
        obtain ⟨q', hq'⟩ := old' hq
        exact (h.hold k p hk).2 j q' hq'⟩
    objs := fun j p hp => by
      rw [hob] at hp
      split at hp
      · rename_i e; subst e
        cases hp
        exact ho _ hk
      · rename_i e
        cases hs : s.ob j with
        | none => rw [hs] at hp; cases hp
        | some q =>
          rw [hs] at hp; cases hp
          have hq := h.objs j q hs
          have hblk : ∀ b, blk (γ j) = some b → w'.heap[b]? = w.heap[b]? := fun b hb' => hg.block b (blk_lt h hs hb').2 fun e' => by
            obtain ⟨o, h1, h2⟩ := hrow b e'.symm
            exact h.sep j i q o hs h1 e b hb' h2
          cases q with
          | row e' k n f => exact hq.keep hk (by rw [upd_ne _ _ e]) (fun _ hc => by cases hc) hblk
          | box cs =>
            have h1 : Holds w' cx.O (okOf cx ((s.drop i).setOb i (some o')) (upd γ i v) w') (upd γ i v) j (.box (cs.map (AV.purge i))) := by
              obtain ⟨b, vs, T, h2, h3, h4, h5⟩ := hq
              refine ⟨b, vs, T, by rw [upd_ne _ _ e]; exact h2, h3, by rw [hblk b (by rw [h2]; rfl)]; exact h4, ?_⟩
              refine All2.of_get (by simpa using h5.length) fun m x y hx hy => ?_
              rw [List.getElem?_map] at hx
              cases hc : cs[m]? with
              | none => rw [hc] at hx; cases hx
              | some c =>
                rw [hc] at hx; cases hx
                obtain ⟨y', hy', h6, h7⟩ := h5.get m c hc
                rw [hy] at hy'; cases hy'
                exact ⟨(h6.purge i).keep hk fun j' hj' => by rw [upd_ne _ _ (refs_purge hj').2], h7⟩
            exact h1
    refs := fun j cs hj c hc m hm => by
      rw [hob] at hj
      split at hj
      · cases hj
        rw [hr cs rfl c hc] at hm; cases hm
      · cases hs : s.ob j with
        | none => rw [hs] at hj; cases hj
        | some q =>
          rw [hs] at hj
          cases q with
          | row e' k n f => cases hj
          | box cs' =>
            simp only [Option.map_some, Ob.purge, Option.some.injEq, Ob.box.injEq] at hj
            subst hj
            obtain ⟨c', hc', rfl⟩ := List.mem_map.1 hc
            have hm' := refs_purge hm
            exact hpres m hm'.2 (h.refs j cs' hs c' hc' m hm'.1)
    sep := fun j m p q hp hq hne b hb' => by
      rw [hob] at hp hq
      rw [upd_eq] at hb' ⊢
      intro hb2
      have old : ∀ {j : Nat} {p : Ob}, (s.ob j).map (Ob.purge i) = some p → ∃ p', s.ob j = some p' := fun {j p} hj => by
        cases hs : s.ob j with
        | none => rw [hs] at hj; cases hj
        | some q => exact ⟨q, rfl⟩
      have key : ∀ {m : Nat} {q : Ob}, m ≠ i → (s.ob m).map (Ob.purge i) = some q → blk (γ m) = some b → blk v = some b → False := fun {m q} hmi hq h1 h2 => by
        obtain ⟨q', hq'⟩ := old hq
        rcases hv b h2 with h4 | h4
        · obtain ⟨o, h5, h6⟩ := hrow b h4
          exact h.sep m i q' o hq' h5 hmi b h1 h6
        · have := (blk_lt h hq' h1).2; omega
      by_cases hj : j = i
      · subst hj
        rw [if_pos rfl] at hb'
        have hmi : m ≠ j := fun e => hne e.symm
        rw [if_neg hmi] at hq hb2
        exact key hmi hq hb2 hb'
      · rw [if_neg hj] at hp hb'
        by_cases hm : m = i
        · subst hm
          rw [if_pos rfl] at hb2
          exact key hj hp hb' hb2
        · rw [if_neg hm] at hq hb2
          obtain ⟨p', hp'⟩ := old hp
          obtain ⟨q', hq'⟩ := old hq
          exact h.sep j m p' q' hp' hq' hne b hb' hb2
    slots := fun t => by
      show M w' _ (upd γ i v) ((s.sl t).purge i) _
      exact ((h.slots t).purge i).keep hk fun j hj => by rw [upd_ne _ _ (refs_purge hj).2]
    srefs := fun t j hj => by
      have hj' := refs_purge (show j ∈ ((s.sl t).purge i).refs from hj)
      exact hpres j hj'.2 (h.srefs t j hj'.1)
    gho := fun m hm => h.gho m (by
      have : (s.sl G).purge i = .gho m := hm
      unfold AV.purge at this
      split at this
      · cases this
      · exact this)
    ng := h.ng }

/-- Where object i is not there, nothing refers to it. -/
theorem RG.drop_self (h : RG cx γ s a w) {i : Nat} (hi : s.ob i = none) : s.drop i = s := by
  have hno : ∀ v : AV, (∀ j ∈ v.refs, (s.ob j).isSome = true) → v.purge i = v := fun v hv => purge_id fun hm => by
    have := hv i hm; rw [hi] at this; cases this
  cases s with
  | mk sl ob =>
    unfold St.drop
    congr 1
    · funext t; exact hno _ (h.srefs t)
    · funext j
      rw [upd_eq]
      split
      · rename_i e; subst e; exact hi.symm
      · cases hs : ob j with
        | none => simp [hs]
        | some o =>
          cases o with
          | row e k n f => simp [hs, Ob.purge]
          | box cs =>
            simp only [hs, Option.map_some, Ob.purge, Option.some.injEq, Ob.box.injEq]
            exact (List.map_congr_left fun c hc => hno c (h.refs j cs hs c hc)).trans (List.map_id _)
theorem RG.make (h : RG cx γ s a w) {i : Nat} {o' : Ob} {v : Value} (hi : s.ob i = none) (hg : Below w.heap.size w w') (hdr : cx.dr = true → w.drawn ≤ w'.drawn)
    (hv : ∀ b, blk v = some b → w.heap.size ≤ b)
    (ho : ∀ ok : Nat → Prop, (∀ b, okOf cx s γ w b → ok b ∧ w'.heap[b]? = w.heap[b]?) → Holds w' cx.O ok (upd γ i v) i o') (hr : ∀ cs, o' = .box cs → ∀ c ∈ cs, c.refs = []) :
    RG cx (upd γ i v) (s.setOb i (some o')) a w' := by
  have hg' : w.grownBy w' none := ⟨hg.os, hg.tape, hg.output, hg.size, fun k hk _ => hg.block k hk⟩
  have := h.renew (i := i) (o' := o') (v := v) (row := none) hg' hdr (fun b hb => by cases hb) (fun b hb => .inr (hv b hb)) ho hr
  rwa [h.drop_self hi] at this

/-! ### A state is weakened -/
/-- The same datum, as far as it can be read. -/
def D.eqv : D → D → Prop
  | .int k a, .int k' b => k = k' ∧ a = b
  | .bool a, .bool b => a = b
  | .slc k n f, .slc k' n' f' => n = n' ∧ (n = 0 ∨ (k = k' ∧ ∀ i, i < n → ∀ j, j < k → D.eqv (f i j) (f' i j)))
  | .ptr m h, .ptr m' h' => m = m' ∧ ∀ j, j < m → D.eqv (h j) (h' j)
  | .clo f m g, .clo f' m' g' => f = f' ∧ m = m' ∧ ∀ j, j < m → D.eqv (g j) (g' j)
  | x, y => x = y
theorem D.eqv_refl : ∀ x : D, D.eqv x x := by
  intro x
  induction x with
  | slc k n f ih => exact ⟨rfl, .inr ⟨rfl, fun i _ j _ => ih i j⟩⟩
  | ptr m h ih => exact ⟨rfl, fun j _ => ih j⟩
  | clo f m g ih => exact ⟨rfl, rfl, fun j _ => ih j⟩
  | _ => simp [D.eqv]
theorem D.eqv_of_eq {x y : D} (h : x = y) : D.eqv x y := h ▸ D.eqv_refl x
theorem Rep.eqv {ok : Nat → Prop} {x y : D} {v : Value} (h : Rep w ok x v) (he : D.eqv x y) : Rep w ok y v := by
  induction x generalizing y v with
  | slc k n f ih =>
    cases y with
    | slc k' n' f' =>
      obtain ⟨rfl, he⟩ := he
      rcases h with h | ⟨a, cap, h1, h2, h3, h4⟩
      · exact .inl h
      · refine .inr ⟨a, cap, h1, h2, h3, fun i hi j hj => ?_⟩
        rcases he with he | ⟨rfl, he⟩
        · omega
        · obtain ⟨h5, u, h6, h7⟩ := h4 i hi j hj
          exact ⟨h5, u, h6, ih i j h7 (he i hi j hj)⟩
    | _ => simp [D.eqv] at he
  | ptr m g ih =>
    cases y with
    | ptr m' g' =>
      obtain ⟨rfl, he⟩ := he
      obtain ⟨a, h1, h4⟩ := h
      refine ⟨a, h1, fun j hj => ?_⟩
      obtain ⟨h5, u, h6, h7⟩ := h4 j hj
      exact ⟨h5, u, h6, ih j h7 (he j hj)⟩
    | _ => simp [D.eqv] at he
  | clo f m g ih =>
    cases y with
    | clo f' m' g' =>
      obtain ⟨rfl, rfl, he⟩ := he
      obtain ⟨vs, h1, h2, h4⟩ := h
      refine ⟨vs, h1, h2, fun j hj => ?_⟩
      obtain ⟨u, h6, h7⟩ := h4 j hj
      exact ⟨u, h6, ih j h7 (he j hj)⟩
    | _ => simp [D.eqv] at he
  | int k n => cases y with
    | int k' n' => obtain ⟨rfl, rfl⟩ := he; exact h
    | _ => simp [D.eqv] at he
  | bool b => cases y with
    | bool b' => simp only [D.eqv] at he; subst he; exact h
    | _ => simp [D.eqv] at he
  | str s => cases y with
    | str s' => simp only [D.eqv, D.str.injEq] at he; subst he; exact h
    | _ => simp [D.eqv] at he
  | fn s => cases y with
    | fn s' => simp only [D.eqv, D.fn.injEq] at he; subst he; exact h
    | _ => simp [D.eqv] at he

def eqvs : List D → List D → Prop
  | [], [] => True
  | x :: xs, y :: ys => D.eqv x y ∧ eqvs xs ys
  | _, _ => False
theorem eqvs_all2 {ok : Nat → Prop} : ∀ {xs ys : List D} {vs : List Value}, eqvs xs ys → All2 (Rep w ok) xs vs → All2 (Rep w ok) ys vs
  | [], [], _, _, h => h
  | x :: xs, y :: ys, _, he, .cons h1 h2 => .cons (h1.eqv he.1) (eqvs_all2 he.2 h2)
  | [], _ :: _, _, he, _ => he.elim
  | _ :: _, [], _, he, _ => he.elim
theorem eqvs_refl : ∀ xs : List D, eqvs xs xs
  | [] => trivial
  | x :: xs => ⟨D.eqv_refl x, eqvs_refl xs⟩

def look {α : Type} : List (Nat × α) → Nat → Option α
  | [], _ => none
  | (i, x) :: r, t => bif Nat.beq t i then some x else look r t
/-- A state that is written out. -/
def St.of (sl : List (Nat × AV)) (ob : List (Nat × Ob)) : St := ⟨fun t => (look sl t).getD .any, look ob⟩

def dflt : D := .bool false
def nth {α : Type} : List α → Nat → Option α
  | [], _ => none
  | x :: _, 0 => some x
  | _ :: r, n + 1 => nth r n
theorem nth_eq {α : Type} : ∀ (l : List α) (n : Nat), nth l n = l[n]?
  | [], _ => by simp [nth]
  | _ :: _, 0 => by simp [nth]
  | _ :: r, n + 1 => by simp [nth, nth_eq r n]
def getD' (l : List D) (i : Nat) : D := (nth l i).getD dflt
def capsDat : List Cap → Option (List D)
  | [] => some []
  | .dat x :: r => match capsDat r with | some xs => some (x :: xs) | none => none
  | _ => none
/-- A cell that is plain data. -/
def avD : AV → Option D
  | .d x => some x
  | .nilsl => some (.slc 0 0 fun _ _ => dflt)
  | .roe m h => some (.ptr m h)
  | .clo f caps => match capsDat caps with | some xs => some (.clo f xs.length (getD' xs)) | none => none
  | _ => none
def allD : List AV → Option (List D)
  | [] => some []
  | c :: r => match avD c, allD r with
    | some x, some xs => some (x :: xs)
    | _, _ => none
theorem capsDat_m {ok : Nat → Prop} {γ : Nat → Value} : ∀ {caps : List Cap} {xs : List D} {vs : List Value}, capsDat caps = some xs → All2 (CapM w ok γ) caps vs → All2 (Rep w ok) xs vs ∧ capRefs caps = []
  | [], xs, [], h, .nil => by simp [capsDat] at h; subst h; exact ⟨.nil, rfl⟩
  | c :: r, xs, v :: vs, h, .cons h1 h2 => by
    cases c with
    | own i => simp [capsDat] at h
    | dat x =>
      simp only [capsDat] at h
      cases hr : capsDat r with
      | none => simp [hr] at h
      | some ys => simp only [hr, Option.some.injEq] at h; subst h; exact ⟨.cons h1 (capsDat_m hr h2).1, (capsDat_m hr h2).2⟩
theorem avD_rep {ok : Nat → Prop} {γ : Nat → Value} {c : AV} {x : D} {v : Value} (h : avD c = some x) (hm : M w ok γ c v) : Rep w ok x v ∧ c.refs = [] := by
  cases c with
  | d y => simp [avD] at h; subst h; exact ⟨hm, rfl⟩
  | nilsl => simp [avD] at h; subst h; exact ⟨.inl ⟨hm, rfl⟩, rfl⟩
  | roe m g => simp [avD] at h; subst h; exact ⟨hm, rfl⟩
  | clo f caps =>
    simp only [avD] at h
    cases hc : capsDat caps with
    | none => simp [hc] at h
    | some xs =>
      simp only [hc, Option.some.injEq] at h; subst h
      obtain ⟨vs, h1, h2⟩ := hm
      obtain ⟨h3, h4⟩ := capsDat_m hc h2
      refine ⟨⟨vs, h1, h3.length.symm, fun j hj => ?_⟩, h4⟩
      obtain ⟨u, hu, hr⟩ := h3.get j xs[j] (by simp [hj])
      refine ⟨u, hu, ?_⟩
      have : getD' xs j = xs[j] := by simp [getD', nth_eq, hj]
      rw [this]; exact hr
  | _ => simp [avD] at h
theorem allD_rep {ok : Nat → Prop} {γ : Nat → Value} : ∀ {cs : List AV} {xs : List D} {vs : List Value}, allD cs = some xs → All2 (fun c v => M w ok γ c v ∧ v.oneCell' = true) cs vs → All2 (Rep w ok) xs vs
  | [], xs, [], h, .nil => by simp [allD] at h; subst h; exact .nil
  | c :: r, xs, v :: vs, h, .cons h1 h2 => by
    simp only [allD] at h
    cases hc : avD c with
    | none => simp [hc] at h
    | some x =>
      cases hr : allD r with
      | none => simp [hc, hr] at h
      | some ys => simp only [hc, hr, Option.some.injEq] at h; subst h; exact .cons (avD_rep hc h1.1).1 (allD_rep hr h2)
theorem allD_len : ∀ {cs : List AV} {xs : List D}, allD cs = some xs → xs.length = cs.length
  | [], xs, h => by simp [allD] at h; subst h; rfl
  | c :: r, xs, h => by
    simp only [allD] at h
    cases hc : avD c with
    | none => simp [hc] at h
    | some x =>
      cases hr : allD r with
      | none => simp [hc, hr] at h
      | some ys => simp only [hc, hr, Option.some.injEq] at h; subst h; simp [allD_len hr]

def caple (s : St) (ob' : Nat → Option Ob) : Cap → Cap → Prop
  | .own i, .own j => i = j
  | .dat x, .dat y => D.eqv x y
  | .own i, .dat y => ob' i = none ∧ ∃ cs xs, s.ob i = some (.box cs) ∧ allD cs = some xs ∧ D.eqv (.ptr xs.length (getD' xs)) y
  | _, _ => False
def capsle (s : St) (ob' : Nat → Option Ob) : List Cap → List Cap → Prop
  | [], [] => True
  | x :: xs, y :: ys => caple s ob' x y ∧ capsle s ob' xs ys
  | _, _ => False
/-- The second one says no more of a slot than the first one. -/
def AVle (s : St) (ob' : Nat → Option Ob) : AV → AV → Prop
  | _, .any => True
  | .d x, .d y => D.eqv x y
  | .nilsl, .d (.slc _ n _) => n = 0
  | .own i, .d y => ob' i = none ∧ ∃ e k n f, s.ob i = some (.row e k n f) ∧ D.eqv (.slc k n f) y
  | .own i, .own j => i = j
  | .nilsl, .own j => s.ob j = none ∧ ∃ e k f, ob' j = some (.row e k 0 f)
  | .nilsl, .nilsl => True
  | .agg xs, .agg ys => eqvs xs ys
  | .box i o, .box j p => i = j ∧ o = p
  | .box i o, .roe m h => ob' i = none ∧ ∃ cs xs, s.ob i = some (.box cs) ∧ allD cs = some xs ∧ D.eqv (.ptr (xs.length - o) fun j => getD' xs (o + j)) (.ptr m h)
  | .roe m h, .roe m' h' => D.eqv (.ptr m h) (.ptr m' h')
  | .roe m h, .d y => D.eqv (.ptr m h) y
  | .elt i k n c, .elt i' k' n' c' => i = i' ∧ k = k' ∧ n = n' ∧ c = c'
  | .sub i k lo n, .sub i' k' lo' n' => i = i' ∧ k = k' ∧ lo = lo' ∧ n = n'
  | .clo f l, .clo g m => f = g ∧ capsle s ob' l m
  | .clo f l, .d (.clo f' m g) => f = f' ∧ l.length = m ∧ ∀ j, j < m → ∃ c, l[j]? = some c ∧ caple s ob' c (.dat (g j))
  | .pin i v, .pin j u => i = j ∧ v = u
  | .pin i _, .own j => i = j
  | .pbox i v, .pbox j u => i = j ∧ v = u
  | .pbox i _, .box j p => i = j ∧ p = 0
  | v, v' => v = v'
def avles (s : St) (ob' : Nat → Option Ob) : List AV → List AV → Prop
  | [], [] => True
  | x :: xs, y :: ys => AVle s ob' x y ∧ avles s ob' xs ys
  | _, _ => False
def Oble (s : St) (ob' : Nat → Option Ob) : Option Ob → Ob → Prop
  | some (.box cs), .box cs' => avles s ob' cs cs'
  | some (.row e k n f), .row e' k' n' f' => e = e' ∧ D.eqv (.slc k n f) (.slc k' n' f') ∧ k = k'
  | none, .row _ _ n _ => n = 0
  | _, _ => False

/-- A variable that is from now on plain data. -/
def BoxD (w : World) (ok : Nat → Prop) (xs : List D) (v : Value) : Prop :=
  ∃ b, v = .pointer (some ⟨b, 0, none⟩) ∧ ok b ∧ ∀ j, j < xs.length → ∃ u, w.cell? ⟨b, j, none⟩ = some u ∧ Rep w ok (getD' xs j) u
theorem BoxD.rep {ok : Nat → Prop} {xs : List D} {v : Value} (h : BoxD w ok xs v) : Rep w ok (.ptr xs.length (getD' xs)) v := by
  obtain ⟨b, h1, h2, h3⟩ := h
  refine ⟨_, h1, fun j hj => ⟨h2, ?_⟩⟩
  obtain ⟨u, hu, hr⟩ := h3 j hj
  exact ⟨u, by rw [add_lit', Nat.zero_add]; exact hu, hr⟩
theorem caple.le {s : St} {ob' : Nat → Option Ob} {ok ok' : Nat → Prop} {γ γ' : Nat → Value} {c c' : Cap} {x : Value} (h : caple s ob' c c') (hm : CapM w ok γ c x) (hk : ∀ b, ok b → ok' b)
    (hγ : ∀ i, (s.ob i).isSome = true → γ' i = γ i) (hv : ∀ j ∈ capRefs [c], (s.ob j).isSome = true)
    (hb : ∀ i cs xs, s.ob i = some (.box cs) → allD cs = some xs → ob' i = none → BoxD w ok' xs (γ i)) : CapM w ok' γ' c' x := by
  cases c with
  | own i =>
    have hx : x = γ i := hm
    cases c' with
    | own j =>
      have hij : i = j := h
      subst hij
      exact hx.trans (hγ i (hv i (by simp [capRefs]))).symm
    | dat y =>
      obtain ⟨h0, cs, xs, h1, h2, h3⟩ := h
      rw [hx]
      exact Rep.eqv (hb i cs xs h1 h2 h0).rep h3
  | dat y =>
    cases c' with
    | own j => exact h.elim
    | dat z => exact Rep.eqv (Rep.keep (fun b hb => ⟨hk b hb, rfl⟩) hm) h
theorem capsle.le {s : St} {ob' : Nat → Option Ob} {ok ok' : Nat → Prop} {γ γ' : Nat → Value} (hk : ∀ b, ok b → ok' b)
    (hγ : ∀ i, (s.ob i).isSome = true → γ' i = γ i)
    (hb : ∀ i cs xs, s.ob i = some (.box cs) → allD cs = some xs → ob' i = none → BoxD w ok' xs (γ i)) : ∀ {l m : List Cap} {vs : List Value}, capsle s ob' l m → All2 (CapM w ok γ) l vs → (∀ j ∈ capRefs l, (s.ob j).isSome = true) → All2 (CapM w ok' γ') m vs
  | [], [], _, _, .nil, _ => .nil
  | c :: l, d :: m, _, h, .cons h1 h2, hv => .cons (caple.le h.1 h1 hk hγ (fun j hj => hv j (capRefs_mem (by simp) hj)) hb) (capsle.le hk hγ hb h.2 h2 fun j hj => hv j (by cases c <;> simp [capRefs, hj]))
  | [], _ :: _, _, h, _, _ => h.elim
  | _ :: _, [], _, h, _, _ => h.elim
theorem AVle.le {s : St} {ob' : Nat → Option Ob} {ok ok' : Nat → Prop} {γ γ' : Nat → Value} {v v' : AV} {x : Value} (h : AVle s ob' v v') (hm : M w ok γ v x) (hk : ∀ b, ok b → ok' b)
    (hγ : ∀ i, (s.ob i).isSome = true → γ' i = γ i) (hn : ∀ i, s.ob i = none → γ' i = .slice none 0 0) (hv : ∀ j ∈ v.refs, (s.ob j).isSome = true)
    (hf : ∀ i e k n f, s.ob i = some (.row e k n f) → ob' i = none → Rep w ok' (.slc k n f) (γ i))
    (hb : ∀ i cs xs, s.ob i = some (.box cs) → allD cs = some xs → ob' i = none → BoxD w ok' xs (γ i)) : M w ok' γ' v' x := by
  have same : v = v' → M w ok' γ' v' x := fun e => e ▸ hm.keep (fun b hb => ⟨hk b hb, rfl⟩) fun j hj => hγ j (hv j hj)
  cases v' with
  | any => exact trivial
  | d y =>
    cases v with
    | d x' => exact Rep.eqv (x := x') (Rep.keep (fun b hb => ⟨hk b hb, rfl⟩) hm) (by cases y <;> exact h)
    | nilsl =>
      cases y with
      | slc k n f => exact .inl ⟨hm, h⟩
      | _ => simp [AVle] at h
    | own i =>
      have h' : ob' i = none ∧ ∃ e k n f, s.ob i = some (.row e k n f) ∧ D.eqv (.slc k n f) y := by cases y <;> exact h
      obtain ⟨h0, e, k, n, f, h1, h2⟩ := h'
      have hr := (hf i e k n f h1 h0).eqv h2
      rw [← show x = γ i from hm] at hr
      exact hr
    | roe m g => exact Rep.eqv (x := .ptr m g) (Rep.keep (x := .ptr m g) (fun b hb => ⟨hk b hb, rfl⟩) hm) (by cases y <;> exact h)
    | clo f caps =>
      cases y with
      | clo f' m g =>
        obtain ⟨rfl, rfl, h2⟩ := h
        obtain ⟨vs, h3, h4⟩ := hm
        refine ⟨vs, h3, h4.length.symm, fun j hj => ?_⟩
        obtain ⟨c, hc, hcl⟩ := h2 j hj
        obtain ⟨u, hu, hr⟩ := h4.get j c hc
        exact ⟨u, hu, caple.le hcl hr hk hγ (fun i hi => hv i (capRefs_mem (List.mem_of_getElem? hc) hi)) hb⟩
      | _ => simp [AVle] at h
    | _ => cases y <;> simp [AVle] at h
  | own j =>
    cases v with
    | own i => exact same (by rw [show i = j from h])
    | pin i u =>
      have hij : i = j := h
      subst hij
      exact hm.1.trans (hγ i (hv i (by simp [AV.refs]))).symm
    | nilsl => exact Eq.trans (show x = _ from hm) (hn j h.1).symm
    | _ => simp [AVle] at h
  | nilsl =>
    cases v with
    | nilsl => exact same rfl
    | _ => simp [AVle] at h
  | agg ys =>
    cases v with
    | agg xs =>
      obtain ⟨vs, h1, h2⟩ := hm
      exact ⟨vs, h1, eqvs_all2 h (h2.imp fun _ _ _ => Rep.keep fun b hb => ⟨hk b hb, rfl⟩)⟩
    | _ => simp [AVle] at h
  | box j p =>
    cases v with
    | box i o => obtain ⟨rfl, rfl⟩ := h; exact same rfl
    | pbox i u =>
      obtain ⟨rfl, rfl⟩ := h
      obtain ⟨⟨b, h1, h2⟩, _⟩ := hm
      exact ⟨b, (hγ i (hv i (by simp [AV.refs]))).trans h1, h2⟩
    | _ => simp [AVle] at h
  | pbox j p =>
    cases v with
    | pbox i o => obtain ⟨rfl, rfl⟩ := h; exact same rfl
    | _ => simp [AVle] at h
  | gho m => exact same (by cases v <;> simpa [AVle] using h)
  | yl m => exact same (by cases v <;> simpa [AVle] using h)
  | pin j p =>
    cases v with
    | pin i o => obtain ⟨rfl, rfl⟩ := h; exact same rfl
    | _ => simp [AVle] at h
  | elt i' k' n' c' =>
    cases v with
    | elt i k n c => obtain ⟨rfl, rfl, rfl, rfl⟩ := h; exact same rfl
    | _ => simp [AVle] at h
  | sub i' k' n' c' =>
    cases v with
    | sub i k n c => obtain ⟨rfl, rfl, rfl, rfl⟩ := h; exact same rfl
    | _ => simp [AVle] at h
  | clo g m =>
    cases v with
    | clo f l =>
      obtain ⟨rfl, h2⟩ := h
      obtain ⟨vs, h3, h4⟩ := hm
      exact ⟨vs, h3, capsle.le hk hγ hb h2 h4 hv⟩
    | _ => simp [AVle] at h
  | roe m g =>
    cases v with
    | roe m' g' => exact Rep.eqv (x := .ptr m' g') (y := .ptr m g) (Rep.keep (x := .ptr m' g') (fun b hb => ⟨hk b hb, rfl⟩) hm) h
    | box i o =>
      obtain ⟨h0, cs, xs, h1, h2, h3⟩ := h
      obtain ⟨b, hg, hx⟩ := hm
      obtain ⟨b', hg', hok, hc⟩ := hb i cs xs h1 h2 h0
      rw [hg] at hg'
      obtain rfl : b = b' := by simpa using hg'
      refine Rep.eqv (x := .ptr (xs.length - o) fun j => getD' xs (o + j)) (y := .ptr m g) ⟨_, hx, fun j hj => ⟨hok, ?_⟩⟩ h3
      obtain ⟨u, hu, hr⟩ := hc (o + j) (by omega)
      exact ⟨u, by rw [add_lit']; exact hu, hr⟩
    | _ => simp [AVle] at h
  | tup l => exact same (by cases v <;> simpa [AVle] using h)
  | undef => exact same (by cases v <;> simpa [AVle] using h)

theorem avles_all2 {s : St} {ob' : Nat → Option Ob} {r r' : AV → Value → Prop} : ∀ {xs ys : List AV} {vs : List Value}, avles s ob' xs ys → All2 r xs vs → (∀ x y v, x ∈ xs → AVle s ob' x y → r x v → r' y v) → All2 r' ys vs
  | [], [], _, _, .nil, _ => .nil
  | x :: xs, y :: ys, _, he, .cons h1 h2, hr => .cons (hr _ _ _ (by simp) he.1 h1) (avles_all2 he.2 h2 fun x y v hx => hr x y v (by simp [hx]))
  | [], _ :: _, _, he, _, _ => he.elim
  | _ :: _, [], _, he, _, _ => he.elim

theorem rep_of_row {ok : Nat → Prop} {base e k n : Nat} {f : Nat → Nat → D} {v : Value} {xs : List Value} (h : w.ownsRow base e k v n xs) (hr : ∀ m, m < n → ∀ j, j < k → ∃ u, xs[m * k + j]? = some u ∧ Rep w ok (f m j) u)
    (hok : ∀ b, blk v = some b → ok b) : Rep w ok (.slc k n f) v := by
  rcases h.2 with h1 | ⟨g, cap, cur, hv, h2, h3, h4, h5, h6, h7⟩
  · exact .inl h1
  · refine .inr ⟨⟨g, 0, none⟩, cap, hv, h4, h5, fun i hi j hj => ⟨hok g (by rw [hv]; rfl), ?_⟩⟩
    obtain ⟨u, hu, hr'⟩ := hr i hi j hj
    exact ⟨u, h.cells (g := g) (by rw [hv]; rfl) _ _ hu, hr'⟩

open Classical in
theorem RG.weakK {s' : St} (h : RG cx γ s a w) (hsl : ∀ t, AVle s s'.ob (s.sl t) (s'.sl t)) (hob : ∀ i o', s'.ob i = some o' → Oble s s'.ob (s.ob i) o')
    (hr1 : ∀ t, ∀ j ∈ (s'.sl t).refs, (s'.ob j).isSome = true) (hr2 : ∀ i cs, s'.ob i = some (.box cs) → ∀ c ∈ cs, ∀ j ∈ c.refs, (s'.ob j).isSome = true) : ∃ γ', RG cx γ' s' a w ∧ ∀ b, okOf cx s γ w b → okOf cx s' γ' w b := by
  let γ' : Nat → Value := fun i => if (s.ob i).isSome = true then γ i else .slice none 0 0
  have hγ : ∀ i, (s.ob i).isSome = true → γ' i = γ i := fun i hi => if_pos hi
  have hn : ∀ i, s.ob i = none → γ' i = .slice none 0 0 := fun i hi => if_neg (by rw [hi]; simp)
  have hblk : ∀ i b, blk (γ' i) = some b → ∃ o, s.ob i = some o ∧ blk (γ i) = some b := fun i b hb => by
    by_cases hi : (s.ob i).isSome = true
    · rw [hγ i hi] at hb; obtain ⟨o, ho⟩ := Option.isSome_iff_exists.1 hi; exact ⟨o, ho, hb⟩
    · rw [hn i (by simpa using hi)] at hb; cases hb
  have hk : ∀ b, okOf cx s γ w b → okOf cx s' γ' w b := fun b hb => by
    rcases id hb with h1 | ⟨h1, h2, h3⟩
    · exact .inl h1
    · refine .inr ⟨h1, h2, fun i o ho e => ?_⟩
      obtain ⟨p, hp, he⟩ := hblk i b e
      exact h3 i p hp he
  have hf : ∀ i e k n f, s.ob i = some (.row e k n f) → s'.ob i = none → Rep w (okOf cx s' γ' w) (.slc k n f) (γ i) := fun i e k n f hi hi' => by
    obtain ⟨xs, h1, _, _, h3⟩ := h.objs i _ hi
    refine rep_of_row h1 (fun m hm j hj => ?_) fun b hb => ?_
    · obtain ⟨u, hu, hr⟩ := h3 m hm j hj
      exact ⟨u, hu, Rep.keep (fun b hb => ⟨hk b hb, rfl⟩) hr⟩
    · have hlt := blk_lt h hi hb
      refine .inr ⟨hlt.1, hlt.2, fun j o ho e' => ?_⟩
      obtain ⟨p, hp, he⟩ := hblk j b e'
      have : j ≠ i := fun e'' => by subst e''; rw [hi'] at ho; cases ho
      exact h.sep j i p _ hp hi this b he hb
  have hgho : ∀ m, s'.sl G = .gho m → cx.gn = m := fun m hm => h.gho m (by
    have h1 := hsl G
    rw [hm] at h1
    cases hG : s.sl G <;> rw [hG] at h1 <;> simp [AVle] at h1
    rw [h1])
  have hbx : ∀ i cs xs, s.ob i = some (.box cs) → allD cs = some xs → s'.ob i = none → BoxD w (okOf cx s' γ' w) xs (γ i) := fun i cs xs hi hx hi' => by
    obtain ⟨b, vs, T, h1, h2, h3, h4⟩ := h.objs i _ hi
    have hr := allD_rep hx h4
    refine ⟨b, h1, .inr ⟨h2, (Array.getElem?_eq_some_iff.1 h3).1, fun j o ho e' => ?_⟩, fun j hj => ?_⟩
    · obtain ⟨p, hp, he⟩ := hblk j b e'
      have : j ≠ i := fun e'' => by subst e''; rw [hi'] at ho; cases ho
      exact h.sep j i p _ hp hi this b he (by rw [h1]; rfl)
    · obtain ⟨u, hu, hr⟩ := hr.get j xs[j] (by simp [hj])
      have : getD' xs j = xs[j] := by simp [getD', nth_eq, hj]
      rw [this]
      exact ⟨u, by simp [World.cell?, h3, hu], Rep.keep (fun b hb => ⟨hk b hb, rfl⟩) hr⟩
  refine ⟨γ', { defers := h.defers, size := h.size, okA := h.okA, lent := h.lent, below := h.below, least := h.least, hold := fun k o ho => ⟨(h.hold k o ho).1, fun i p hi e => by
    obtain ⟨q, hq, he⟩ := hblk i k e
    exact (h.hold k o ho).2 i q hq he⟩, objs := fun i o' hi' => ?_, refs := hr2, sep := fun i j o o' _ _ hne b hb => ?_, slots := fun t => ?_, srefs := hr1, gho := hgho, ng := h.ng }, hk⟩
  · have hle := hob i o' hi'
    cases hs : s.ob i with
    | none =>
      rw [hs] at hle
      cases o' with
      | box cs => exact hle.elim
      | row e k n f =>
        have hn0 : n = 0 := hle
        subst hn0
        refine ⟨[], by rw [hn i hs]; exact World.ownsRow_nil w _ e k, (fun b hb => by rw [hn i hs] at hb; cases hb), by simp, fun m hm => absurd hm (Nat.not_lt_zero _)⟩
    | some o =>
      rw [hs] at hle
      have ho := h.objs i o hs
      have hgi := hγ i (by rw [hs]; rfl)
      cases o with
      | box cs =>
        cases o' with
        | row e k n f => exact hle.elim
        | box cs' =>
          obtain ⟨b, vs, T, h1, h2, h3, h4⟩ := ho
          refine ⟨b, vs, T, by rw [hgi]; exact h1, h2, h3, avles_all2 hle h4 fun x y v hx hxy hv => ⟨hxy.le hv.1 hk hγ hn (h.refs i cs hs x hx) hf hbx, hv.2⟩⟩
      | row e k n f =>
        cases o' with
        | box cs => exact hle.elim
        | row e' k' n' f' =>
          obtain ⟨rfl, ⟨rfl, he⟩, rfl⟩ := hle
          obtain ⟨xs, h1, h0, h2, h3⟩ := ho
          refine ⟨xs, by rw [hgi]; exact h1, by rw [hgi]; exact h0, h2, fun m hm j hj => ?_⟩
          obtain ⟨u, hu, hr⟩ := h3 m hm j hj
          refine ⟨u, hu, (Rep.keep (fun b hb => ⟨hk b hb, rfl⟩) hr).eqv ?_⟩
          rcases he with he | ⟨_, he⟩
          · omega
          · exact he m hm j hj
  · intro hb2
    obtain ⟨p, hp, h1⟩ := hblk i b hb
    obtain ⟨q, hq, h2⟩ := hblk j b hb2
    exact h.sep i j p q hp hq hne b h1 h2
  · exact (hsl t).le (h.slots t) hk hγ hn (h.srefs t) hf hbx

theorem RG.weak {s' : St} (h : RG cx γ s a w) (hsl : ∀ t, AVle s s'.ob (s.sl t) (s'.sl t)) (hob : ∀ i o', s'.ob i = some o' → Oble s s'.ob (s.ob i) o')
    (hr1 : ∀ t, ∀ j ∈ (s'.sl t).refs, (s'.ob j).isSome = true) (hr2 : ∀ i cs, s'.ob i = some (.box cs) → ∀ c ∈ cs, ∀ j ∈ c.refs, (s'.ob j).isSome = true) : ∃ γ', RG cx γ' s' a w :=
  let ⟨γ', h', _⟩ := h.weakK hsl hob hr1 hr2; ⟨γ', h'⟩

/-- The same, the weaker state written out: finitely many facts. -/
def wkS (s : St) (ob' : Nat → Option Ob) : List (Nat × AV) → Prop
  | [] => True
  | (t, v) :: r => AVle s ob' (s.sl t) v ∧ wkS s ob' r
def wkO (s : St) (ob' : Nat → Option Ob) : List (Nat × Ob) → Prop
  | [] => True
  | (i, o) :: r => Oble s ob' (s.ob i) o ∧ wkO s ob' r
def hasAll (ob : List (Nat × Ob)) (l : List Nat) : Bool := l.all fun i => (look ob i).isSome
def closedS (ob : List (Nat × Ob)) : List (Nat × AV) → Bool
  | [] => true
  | (_, v) :: r => hasAll ob v.refs && closedS ob r
def closedO (ob : List (Nat × Ob)) : List (Nat × Ob) → Bool
  | [] => true
  | (_, .box cs) :: r => cs.all (fun c => hasAll ob c.refs) && closedO ob r
  | _ :: r => closedO ob r
def Weak (s : St) (sl : List (Nat × AV)) (ob : List (Nat × Ob)) : Prop :=
  (closedS ob sl && closedO ob ob) = true ∧ wkO s (look ob) ob ∧ wkS s (look ob) sl

theorem look_mem {α : Type} : ∀ {l : List (Nat × α)} {t : Nat} {x : α}, look l t = some x → (t, x) ∈ l
  | [], _, _, h => by cases h
  | (i, y) :: r, t, x, h => by
    simp only [look] at h
    cases hb : Nat.beq t i with
    | true => rw [hb] at h; have := Nat.eq_of_beq_eq_true hb; subst this; cases h; simp
    | false => rw [hb] at h; simp [look_mem (l := r) h]
theorem wkS_mem {s : St} {ob' : Nat → Option Ob} : ∀ {l : List (Nat × AV)} {t : Nat} {v : AV}, wkS s ob' l → (t, v) ∈ l → AVle s ob' (s.sl t) v
  | (_, _) :: _, _, _, h, .head _ => h.1
  | _ :: _, _, _, h, .tail _ hm => wkS_mem h.2 hm
theorem wkO_mem {s : St} {ob' : Nat → Option Ob} : ∀ {l : List (Nat × Ob)} {t : Nat} {v : Ob}, wkO s ob' l → (t, v) ∈ l → Oble s ob' (s.ob t) v
  | (_, _) :: _, _, _, h, .head _ => h.1
  | _ :: _, _, _, h, .tail _ hm => wkO_mem h.2 hm
theorem hasAll_mem {ob : List (Nat × Ob)} {l : List Nat} (h : hasAll ob l = true) : ∀ j ∈ l, (look ob j).isSome = true := List.all_eq_true.1 h
theorem closedS_mem {ob : List (Nat × Ob)} : ∀ {l : List (Nat × AV)} {t : Nat} {v : AV}, closedS ob l = true → (t, v) ∈ l → ∀ j ∈ v.refs, (look ob j).isSome = true
  | (_, _) :: _, _, _, h, .head _ => by simp only [closedS, Bool.and_eq_true] at h; exact hasAll_mem h.1
  | (_, _) :: _, _, _, h, .tail _ hm => by simp only [closedS, Bool.and_eq_true] at h; exact closedS_mem h.2 hm
theorem closedO_mem {ob : List (Nat × Ob)} : ∀ {l : List (Nat × Ob)} {t : Nat} {cs : List AV}, closedO ob l = true → (t, Ob.box cs) ∈ l → ∀ c ∈ cs, ∀ j ∈ c.refs, (look ob j).isSome = true
  | (_, .box _) :: _, _, _, h, .head _ => by simp only [closedO, Bool.and_eq_true] at h; exact fun c hc => hasAll_mem (List.all_eq_true.1 h.1 c hc)
  | (_, .box _) :: _, _, _, h, .tail _ hm => by simp only [closedO, Bool.and_eq_true] at h; exact closedO_mem h.2 hm
  | (_, .row ..) :: _, _, _, h, .tail _ hm => by simp only [closedO] at h; exact closedO_mem h hm
theorem RG.weakL {sl : List (Nat × AV)} {ob : List (Nat × Ob)} (h : RG cx γ s a w) (hw : Weak s sl ob) : ∃ γ', RG cx γ' (St.of sl ob) a w ∧ ∀ b, okOf cx s γ w b → okOf cx (St.of sl ob) γ' w b := by
  obtain ⟨hc, h2, h3⟩ := hw
  simp only [Bool.and_eq_true] at hc
  refine h.weakK (s' := St.of sl ob) (fun t => ?_) (fun i o hi => wkO_mem h2 (look_mem hi)) (fun t j hj => ?_) (fun i cs hi c hc' j hj => closedO_mem hc.2 (look_mem hi) c hc' j hj)
  · show AVle s (look ob) (s.sl t) ((look sl t).getD .any)
    cases hl : look sl t with
    | none => exact trivial
    | some v => exact wkS_mem h3 (look_mem hl)
  · have hj' : j ∈ ((look sl t).getD .any).refs := hj
    cases hl : look sl t with
    | none => rw [hl] at hj'; simp [AV.refs] at hj'
    | some v => rw [hl] at hj'; exact closedS_mem hc.1 (look_mem hl) j hj'
theorem R.weak {sl : List (Nat × AV)} {ob : List (Nat × Ob)} (h : R cx s a w) (hw : Weak s sl ob) : R cx (St.of sl ob) a w :=
  let ⟨_, h⟩ := h; let ⟨γ', h', _⟩ := h.weakL hw; ⟨γ', h'⟩
end
end Go.Pg
