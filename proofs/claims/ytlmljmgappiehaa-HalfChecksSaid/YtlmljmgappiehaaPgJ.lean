/-
  The operations that make or change an object. For every program.
-/
import Derived.Test.YtlmljmgappiehaaPgI
import Derived.Laws.CopyRow
import Derived.Maps.AppendAt
import Derived.Deep.AppendLies
set_option linter.all false
namespace Go.Pg
open Go.RowKit
section
variable {P : Program} {T : TT} {E : Env} {cx : Cx} {γ : Nat → Value} {s : St} {a : Act} {w : World}

theorem mk_ok (h : RG cx γ s a w) {d : Nat} {o' : Ob} {v : Value} {w' : World} {av : AV} (hd : d < cx.N) (hb : Below w.heap.size w w') (hdr : cx.dr = true → w.drawn ≤ w'.drawn) (hv : ∀ b, blk v = some b → w.heap.size ≤ b)
    (ho : ∀ ok : Nat → Prop, (∀ b, okOf cx s γ w b → ok b ∧ w'.heap[b]? = w.heap[b]?) → Holds w' cx.O ok (upd γ d v) d o') (hr : ∀ cs, o' = .box cs → ∀ c ∈ cs, c.refs = [])
    (hav : ∀ ok, M w' ok (upd γ d v) av v) (hrf : ∀ j ∈ av.refs, j = d) : RG cx (upd γ d v) (mk s d o' av) (a.put (some d) v) w' := by
  unfold mk
  cases hs : s.ob d with
  | none =>
    refine (h.make hs hb hdr hv ho hr).put hd (hav _) fun j hj => ?_
    rw [hrf j hj]
    show (upd s.ob d (some o') d).isSome = true
    simp
  | some o =>
    have hg : w.grownBy w' none := ⟨hb.os, hb.tape, hb.output, hb.size, fun k hk _ => hb.block k hk⟩
    refine (h.renew (i := d) (row := none) hg hdr (fun b hb => by cases hb) (fun b hb => .inr (hv b hb)) ho hr).put hd (hav _) fun j hj => ?_
    rw [hrf j hj]
    show (upd (s.drop d).ob d (some o') d).isSome = true
    simp

theorem below_alloc (w : World) (o : Obj) : Below w.heap.size w (w.alloc o) := (Below.refl _ _).alloc (Nat.le_refl _) o

theorem cellsA_m {ok : Nat → Prop} {γ : Nat → Value} {v : AV} {x : Value} {cs : List AV} (h : cellsA v = some cs) (hm : M w ok γ v x) (hrow : ∀ i, v = .own i → x.oneCell' = true) :
    All2 (fun c u => M w ok γ c u ∧ u.oneCell' = true) cs x.cells.toList ∧ ∀ c ∈ cs, ∀ j ∈ c.refs, j ∈ v.refs := by
  have one : x.oneCell' = true → x.cells.toList = [x] := fun h => by cases x <;> first | rfl | (simp [Value.oneCell'] at h)
  cases v with
  | d y =>
    simp only [cellsA, Option.some.injEq] at h; subst h
    have h1 := Rep.one hm
    rw [one h1]; exact ⟨.cons ⟨hm, h1⟩ .nil, fun c hc j hj => by simp at hc; subst hc; exact hj⟩
  | agg xs =>
    simp only [cellsA, Option.some.injEq] at h; subst h
    obtain ⟨vs, rfl, h⟩ := hm
    refine ⟨?_, fun c hc j hj => by simp at hc; obtain ⟨y, _, rfl⟩ := hc; simp [AV.refs] at hj⟩
    simp only [Value.cells]
    refine All2.of_get (by simp [h.length]) fun j c u hc hu => ?_
    rw [List.getElem?_map] at hc
    cases hx : xs[j]? with
    | none => simp [hx] at hc
    | some y =>
      simp only [hx, Option.map_some, Option.some.injEq] at hc; subst hc
      obtain ⟨u', hu', hr⟩ := h.get j y hx
      have : u' = u := by simpa [hu] using hu'.symm
      subst this
      exact ⟨hr, Rep.one hr⟩
  | nilsl =>
    simp only [cellsA, Option.some.injEq] at h; subst h
    have hx : x = .slice none 0 0 := hm
    subst hx
    exact ⟨.cons ⟨rfl, rfl⟩ .nil, fun c hc j hj => by simp at hc; subst hc; exact hj⟩
  | own i =>
    simp only [cellsA, Option.some.injEq] at h; subst h
    have h1 := hrow i rfl
    rw [one h1]; exact ⟨.cons ⟨hm, h1⟩ .nil, fun c hc j hj => by simp at hc; subst hc; exact hj⟩
  | box i o =>
    simp only [cellsA, Option.some.injEq] at h; subst h
    obtain ⟨b, h1, rfl⟩ := hm
    exact ⟨.cons ⟨⟨b, h1, rfl⟩, rfl⟩ .nil, fun c hc j hj => by simp at hc; subst hc; exact hj⟩
  | clo f l =>
    simp only [cellsA, Option.some.injEq] at h; subst h
    obtain ⟨vs, rfl, hm⟩ := hm
    exact ⟨.cons ⟨⟨vs, rfl, hm⟩, rfl⟩ .nil, fun c hc j hj => by simp at hc; subst hc; exact hj⟩
  | roe m g =>
    simp only [cellsA, Option.some.injEq] at h; subst h
    obtain ⟨ad, rfl, hm⟩ := hm
    exact ⟨.cons ⟨⟨ad, rfl, hm⟩, rfl⟩ .nil, fun c hc j hj => by simp at hc; subst hc; exact hj⟩
  | _ => simp [cellsA] at h

theorem own_one (h : RG cx γ s a w) {i : Nat} (hi : (s.ob i).isSome = true) : (γ i).oneCell' = true := by
  obtain ⟨o, ho⟩ := Option.isSome_iff_exists.1 hi
  have hh := h.objs i o ho
  cases o with
  | box cs => obtain ⟨b, vs, T', h1, _⟩ := hh; rw [h1]; rfl
  | row e k n f =>
    obtain ⟨xs, h1, _⟩ := hh
    rcases h1.2 with ⟨h2, _⟩ | ⟨g, cap, cur, h2, _⟩ <;> rw [h2] <;> rfl

theorem Rep.ones {ok : Nat → Prop} {ys : List D} {vs : List Value} (h : All2 (Rep w ok) ys vs) : ∀ v ∈ vs, v.oneCell' = true := by
  induction h with
  | nil => simp
  | cons h1 _ ih => intro v hv; rcases List.mem_cons.1 hv with rfl | hv; exact Rep.one h1; exact ih v hv

/-- What a run of cells becomes where some are written over. -/
theorem set_cells {cur : List Value} {off : Nat} {us m : List Value} (h : setRange cur off us = some m) (hf : off + us.length ≤ cur.length) : cur.take off ++ us ++ cur.drop (off + us.length) = m := by
  obtain ⟨h1, _, h3⟩ := setRange_get h
  refine List.ext_getElem? fun i => ?_
  rw [h3]
  by_cases hc : off ≤ i ∧ i < off + us.length
  · rw [if_pos hc, List.getElem?_append_left (by simp; omega), List.getElem?_append_right (by simp; omega)]
    congr 1; simp; omega
  · rw [if_neg hc]
    by_cases hlt : i < off
    · rw [List.getElem?_append_left (by simp; omega), List.getElem?_append_left (by simp; omega), List.getElem?_take, if_pos hlt]
    · rw [List.getElem?_append_right (by simp; omega), List.getElem?_drop]
      congr 1; simp; omega

theorem grown_setRow (w : World) (g : Nat) (cs : Array Value) : w.grownBy (w.setRow g cs) (some g) :=
  ⟨rfl, rfl, rfl, by simp [World.setRow], fun k _ hk => setRow_other w g k _ fun e => hk (by rw [e])⟩

variable (hT : ∀ t i, T t = some i → TI.of P t = some i)
include hT

theorem storeE_ok (h : RG cx γ s a w) {t : TypeId} {av xv : AV} {ad x : Value} (hm : M w (okOf cx s γ w) γ av ad) (hx : M w (okOf cx s γ w) γ xv x) (hxr : ∀ j ∈ xv.refs, (s.ob j).isSome = true) {K : St → Prop} (hl : storeE T s t av xv K) :
    ∃ w' s', (Instr.storeAt t ad x).run P w = .ok () w' ∧ RG cx γ s' a w' ∧ K s' := by
  unfold storeE at hl
  cases ht : T t with
  | none => simp [ht] at hl
  | some ti =>
    have hsz := run_sizeOf' (hT t _ ht)
    cases av with
    | box i off =>
      simp only [ht] at hl
      obtain ⟨b, hb, rfl⟩ := hm
      cases ho : s.ob i with
      | none => simp [ho] at hl
      | some o =>
        cases o with
        | row e k n f => simp [ho] at hl
        | box cs =>
          cases hc : cellsA xv with
          | none => simp [ho, hc] at hl
          | some ys =>
            simp only [ho, hc] at hl
            cases hbq : Nat.beq ys.length ti.size with
            | false => simp [hbq] at hl
            | true =>
              simp only [hbq, cond_true] at hl
              have hlen := Nat.eq_of_beq_eq_true hbq
              cases hs : setRange cs off ys with
              | none => simp [hs] at hl
              | some cs' =>
                simp only [hs] at hl
                obtain ⟨b', vs, T', h1, h2, h3, h4⟩ := h.objs i _ ho
                rw [hb] at h1; simp at h1; subst h1
                obtain ⟨hxc, hxr'⟩ := cellsA_m hc hx fun j e => by
                  subst e
                  have hxj : x = γ j := hx
                  rw [hxj]; exact own_one h (hxr j (by simp [AV.refs]))
                obtain ⟨m, hm1, hm2⟩ := setRange_all2 h4 hxc hs
                obtain ⟨g1, g2, _⟩ := setRange_get hm1
                have hcell : x.cells.toList.length = ti.size := by rw [← hxc.length]; exact hlen
                have ones : ∀ v ∈ x.cells.toList, v.oneCell' = true := fun v hv => by
                  obtain ⟨j, hj, rfl⟩ := List.getElem_of_mem hv
                  have hj2 : j < ys.length := by rw [hxc.length]; exact hj
                  obtain ⟨y, hy, _, h5⟩ := hxc.get j _ (List.getElem?_eq_getElem hj2)
                  rw [List.getElem?_eq_getElem hj] at hy; cases hy; exact h5
                have hrefs : ∀ c ∈ cs', ∀ j ∈ c.refs, (s.ob j).isSome = true := fun c hc' j hj => by
                  obtain ⟨p, hp⟩ := List.getElem?_of_mem hc'
                  obtain ⟨_, _, q3⟩ := setRange_get hs
                  rw [q3] at hp
                  split at hp
                  · exact hxr j (hxr' c (List.mem_of_getElem? hp) j hj)
                  · exact h.refs i cs ho c (List.mem_of_getElem? hp) j hj
                rcases g2 with g2 | g2
                · -- nothing is written
                  have hz : ti.size = 0 := by rw [← hcell, g2]; rfl
                  have hmv : m = vs := by rw [g2] at hm1; simp [setRange] at hm1; exact hm1.symm
                  subst hmv
                  refine ⟨w, _, ?_, h.change (i := i) (o' := .box cs') ho ⟨rfl, rfl, rfl, Nat.le_refl _, fun _ _ _ => rfl⟩ (fun _ => Nat.le_refl _) (fun ok hok => ⟨b, _, T', hb, h2, h3, hm2.imp fun c v _ ⟨p1, p2⟩ => ⟨M.keep hok (fun _ _ => rfl) p1, p2⟩⟩) (fun cs'' e c hc' j hj => by cases e; exact hrefs c hc' j hj), hl⟩
                  have : x.cells.size = 0 := by rw [← Array.length_toList, hcell, hz]
                  simp [Instr.storeAt, Instr.sureAddr, storeVar, hsz, this, hz, g2, storeCells]
                · have hrun := run_storeCells_at P b off T' x.cells.toList 0 vs.toArray w h3 (by simpa using g2) ones
                  simp only [Nat.add_zero] at hrun
                  rw [set_cells hm1 g2] at hrun
                  refine ⟨_, _, ?_, h.change (i := i) (o' := .box cs') ho (by rw [hb]; exact grown_setRow w b _) (fun _ => run_drawn _ hrun) (fun ok hok => ⟨b, m, T', hb, h2, setRow_heap w b _ _ T' _ h3, hm2.imp fun c v _ ⟨p1, p2⟩ => ⟨M.keep hok (fun _ _ => rfl) p1, p2⟩⟩) (fun cs'' e c hc' j hj => by cases e; exact hrefs c hc' j hj), hl⟩
                  have : x.cells.size = ti.size := by rw [← Array.length_toList, hcell]
                  simp [Instr.storeAt, Instr.sureAddr, storeVar, hsz, this, hrun]
    | elt i k n c =>
      simp only [ht] at hl
      obtain ⟨g, len, cap, hg, rfl⟩ := hm
      cases ho : s.ob i with
      | none => simp [ho] at hl
      | some o =>
        cases o with
        | box cs => simp [ho] at hl
        | row e k' N f =>
          cases hc : cellsD xv with
          | none => simp [ho, hc] at hl
          | some ys =>
            simp only [ho, hc] at hl
            cases hbq : (Nat.beq k k' && Nat.beq ys.length ti.size && Nat.ble (c + ti.size) k) with
            | false => simp [hbq] at hl
            | true =>
              simp only [hbq, cond_true] at hl
              simp only [Bool.and_eq_true] at hbq
              have hk := Nat.eq_of_beq_eq_true hbq.1.1
              subst hk
              have hlen := Nat.eq_of_beq_eq_true hbq.1.2
              have hle := Nat.le_of_ble_eq_true hbq.2
              obtain ⟨hn, hK⟩ := hl
              have hxc := cellsD_m hc hx
              have hcell : x.cells.toList.length = ti.size := by rw [← hxc.length]; exact hlen
              obtain ⟨xs, h1, h0, h2, h3⟩ := h.objs i _ ho
              rcases h1.2 with ⟨e1, _⟩ | ⟨g', cap', cur, e1, e2, e3, e4, e5, e6, e7⟩
              · rw [e1] at hg; cases hg
              · rw [e1] at hg
                obtain ⟨rfl, rfl, rfl⟩ : g' = g ∧ N = len ∧ cap' = cap := by simpa using hg
                have hcs : x.cells.size = ti.size := by rw [← Array.length_toList, hcell]
                have hbound : n * k + c + ti.size ≤ N * k := by
                  have : (n + 1) * k ≤ N * k := Nat.mul_le_mul_right k hn
                  rw [Nat.add_mul] at this; omega
                have hNk : N * k ≤ cap' * k := Nat.mul_le_mul_right k e4
                have hrun := run_storeCells_at P g' (n * k + c) e x.cells.toList 0 cur w e3 (by rw [hcell, e6]; omega) (Rep.ones hxc)
                simp only [Nat.add_zero] at hrun
                generalize hnew : (cur.toList.take (n * k + c) ++ x.cells.toList ++ cur.toList.drop (n * k + c + x.cells.toList.length)) = new at hrun
                have hnl : new.length = cur.size := by rw [← hnew]; simp only [List.length_append, List.length_take, List.length_drop, Array.length_toList, hcs]; omega
                have hget : ∀ q, new[q]? = if n * k + c ≤ q ∧ q < n * k + c + ti.size then x.cells.toList[q - (n * k + c)]? else cur.toList[q]? := fun q => by
                  rw [← hnew]
                  by_cases hq : n * k + c ≤ q ∧ q < n * k + c + ti.size
                  · rw [if_pos hq, List.getElem?_append_left (by simp only [List.length_append, List.length_take, Array.length_toList, hcs]; omega), List.getElem?_append_right (by simp only [List.length_take, Array.length_toList]; omega)]
                    congr 1; simp only [List.length_take, Array.length_toList]; omega
                  · rw [if_neg hq]
                    by_cases hlt : q < n * k + c
                    · rw [List.getElem?_append_left (by simp only [List.length_append, List.length_take, Array.length_toList, hcs]; omega), List.getElem?_append_left (by simp only [List.length_take, Array.length_toList]; omega), List.getElem?_take, if_pos hlt]
                    · rw [List.getElem?_append_right (by simp only [List.length_append, List.length_take, Array.length_toList, hcs]; omega), List.getElem?_drop]
                      congr 1; simp only [List.length_append, List.length_take, Array.length_toList, hcs]; omega
                have hxs : ∀ q, q < N * k → xs[q]? = cur.toList[q]? := fun q hq => by rw [← e7, List.getElem?_take, if_pos hq]
                refine ⟨_, _, ?_, h.change (i := i) (o' := .row e k N (storeRow f n c ys)) ho (by rw [e1]; exact grown_setRow w g' _) (fun _ => run_drawn _ hrun) (fun ok hok => ⟨new.take (N * k), ⟨by simp; omega, .inr ⟨g', cap', new.toArray, e1, e2, setRow_heap w g' _ _ e _ e3, e4, e5, by simp [hnl, e6], by simp⟩⟩, h0, ?_, ?_⟩) (fun cs'' e' => by cases e'), hK⟩
                · have : x.cells.size = ti.size := by rw [← Array.length_toList, hcell]
                  simp [Instr.storeAt, Instr.sureAddr, storeVar, hsz, this, hrun]
                · intro u hu
                  obtain ⟨q, hq⟩ := List.getElem?_of_mem hu
                  rw [List.getElem?_take] at hq
                  split at hq
                  · rename_i hlt
                    rw [hget] at hq
                    split at hq
                    · exact Rep.ones hxc u (List.mem_of_getElem? hq)
                    · rw [← hxs q hlt] at hq; exact h2 u (List.mem_of_getElem? hq)
                  · cases hq
                · intro m hm j hj
                  have hmj : m * k + j < N * k := by
                    have : (m + 1) * k ≤ N * k := Nat.mul_le_mul_right k hm
                    rw [Nat.add_mul] at this; omega
                  rw [List.getElem?_take, if_pos hmj, hget]
                  by_cases hq : m = n ∧ c ≤ j ∧ j < c + ys.length
                  · obtain ⟨rfl, hq1, hq2⟩ := hq
                    rw [if_pos (by omega)]
                    have hyl : j - c < ys.length := by omega
                    obtain ⟨u, hu, hr⟩ := hxc.get (j - c) _ (List.getElem?_eq_getElem hyl)
                    refine ⟨u, ?_, ?_⟩
                    · rw [← hu]; congr 1; omega
                    · have : storeRow f m c ys m j = ys[j - c] := by
                        simp [storeRow, hq1, hq2, getD', nth_eq, hyl]
                      rw [this]; exact Rep.keep hok hr
                  · have hno : ¬ (n * k + c ≤ m * k + j ∧ m * k + j < n * k + c + ti.size) := by
                      intro hh
                      refine hq ?_
                      have hmn : m = n := by
                        rcases Nat.lt_trichotomy m n with hlt | heq | hgt
                        · have : (m + 1) * k ≤ n * k := Nat.mul_le_mul_right k hlt
                          rw [Nat.add_mul] at this; omega
                        · exact heq
                        · have : (n + 1) * k ≤ m * k := Nat.mul_le_mul_right k hgt
                          rw [Nat.add_mul] at this; omega
                      subst hmn
                      exact ⟨rfl, by omega, by omega⟩
                    rw [if_neg hno, ← hxs _ hmj]
                    obtain ⟨u, hu, hr⟩ := h3 m hm j hj
                    refine ⟨u, hu, ?_⟩
                    have : storeRow f n c ys m j = f m j := by simp only [storeRow, if_neg hq]
                    rw [this]; exact Rep.keep hok hr
    | _ => simp [ht] at hl
end
end Go.Pg
