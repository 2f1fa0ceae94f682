/-
  New objects, appends, slices of a row; one operation as the evaluator takes it. For every program.
-/
import Derived.Test.YtlmljmgappiehaaPgJ
import Derived.Lib.LazyBuf
set_option linter.all false
namespace Go.Pg
open Go.RowKit
section
variable {P : Program} {T : TT} {E : Env} {cx : Cx} {γ : Nat → Value} {s : St} {a : Act} {w : World}

theorem ownBlock_blk {base e k n : Nat} {v : Value} {xs : List Value} (h : w.ownsRow base e k v n xs) : v.ownBlock = blk v := by
  rcases h.2 with ⟨rfl, _⟩ | ⟨g, cap, cur, rfl, _⟩ <;> rfl

theorem repD_get {z : List D} (hk : 0 < z.length) : ∀ (n q : Nat), (repD n z)[q]? = if q < n * z.length then z[q % z.length]? else none
  | 0, q => by simp [repD]
  | n + 1, q => by
    simp only [repD]
    by_cases hq : q < z.length
    · rw [List.getElem?_append_left hq, Nat.mod_eq_of_lt hq, if_pos]
      rw [Nat.add_mul]; omega
    · rw [List.getElem?_append_right (by omega), repD_get hk n]
      have e1 : q % z.length = (q - z.length) % z.length := Nat.mod_eq_sub_mod (by omega)
      by_cases hc : q - z.length < n * z.length
      · rw [if_pos hc, if_pos (by rw [Nat.add_mul]; omega), e1]
      · rw [if_neg hc, if_neg (by rw [Nat.add_mul]; omega)]
theorem repD_length (z : List D) : ∀ n : Nat, (repD n z).length = n * z.length
  | 0 => by simp [repD]
  | n + 1 => by simp only [repD, List.length_append, repD_length z n, Nat.add_mul]; omega
theorem repD_rep {ok : Nat → Prop} {z : List D} {zv : Array Value} (h : All2 (Rep w ok) z zv.toList) (hk : 0 < z.length) (n : Nat) : All2 (Rep w ok) (repD n z) ((Array.range (n * z.length)).map (zv[· % zv.size]!)).toList := by
  have hl : zv.size = z.length := by rw [← Array.length_toList, h.length]
  refine All2.of_get (by simp [repD_length]) fun q x y hx hy => ?_
  rw [repD_get hk] at hx
  split at hx
  · rename_i hq
    obtain ⟨u, hu, hr⟩ := h.get _ x hx
    simp only [Array.toList_map, Array.toList_range, List.getElem?_map, List.getElem?_range hq, Option.map_some, Option.some.injEq] at hy
    subst hy
    have hlt : q % z.length < zv.size := by rw [hl]; exact Nat.mod_lt _ hk
    have : zv[q % zv.size]! = u := by
      rw [hl, getElem!_pos zv _ hlt]
      have : zv.toList[q % z.length]? = some zv[q % z.length] := by simp [hlt]
      rw [this] at hu; exact Option.some.inj hu
    rw [this]; exact hr
  · cases hx

/-- Where an append's elements come from. -/
def Src (w : World) (ok : Nat → Prop) (size m : Nat) (g : Nat → Nat → D) (x : Value) : Prop :=
  (∃ c, x = .slice none 0 c ∧ m = 0) ∨ ∃ (ad : Addr) (c : Nat) (news : List Value), x = .slice (some ad) m c ∧ news.length = m * size ∧ (∀ j u, news[j]? = some u → w.cell? (ad.add j) = some u) ∧ (∀ u ∈ news, u.oneCell' = true) ∧
    ∀ i, i < m → ∀ j, j < size → ∃ u, news[i * size + j]? = some u ∧ Rep w ok (g i j) u
theorem srcE_sound (h : RG cx γ s a w) {v : AV} {x : Value} {size : Nat} (hsz : 0 < size) (hm : M w (okOf cx s γ w) γ v x) {K : Nat → Nat → (Nat → Nat → D) → Prop} (hl : srcE s v K) :
    ∃ k m g, K k m g ∧ ((m = 0 ∨ k = size) → Src w (okOf cx s γ w) size m g x) := by
  cases v with
  | d p =>
    cases p with
    | slc k m g =>
      refine ⟨k, m, g, hl, fun hk => ?_⟩
      rcases hm with ⟨rfl, h0⟩ | ⟨ad, cap, rfl, h1, h2, h3⟩
      · exact .inl ⟨0, rfl, h0⟩
      · refine .inr ?_
        rcases hk with hk | hk
        · exact ⟨ad, cap, [], rfl, by simp [hk], by simp, by simp, fun i hi => by omega⟩
        · subst hk
          have hex : ∀ q, ∃ u, q < m * k → w.cell? (ad.add q) = some u ∧ Rep w (okOf cx s γ w) (g (q / k) (q % k)) u := fun q => by
            by_cases hq : q < m * k
            · have h4 : q / k < m := Nat.div_lt_of_lt_mul (by rwa [Nat.mul_comm] at hq)
              obtain ⟨_, u, h5, h6⟩ := h3 (q / k) h4 (q % k) (Nat.mod_lt _ hsz)
              refine ⟨u, fun _ => ⟨?_, h6⟩⟩
              rw [← h5]; congr 2; rw [Nat.mul_comm]; exact (Nat.div_add_mod q k).symm
            · exact ⟨Go.undef, fun h => absurd h hq⟩
          obtain ⟨f, hf⟩ := Classical.axiomOfChoice hex
          have get : ∀ q, q < m * k → ((List.range (m * k)).map f)[q]? = some (f q) := fun q hq => by simp [hq]
          refine ⟨ad, cap, (List.range (m * k)).map f, rfl, by simp, fun j u hj => ?_, fun u hu => ?_, fun i hi j hj => ?_⟩
          · have hlt : j < m * k := by have := (List.getElem?_eq_some_iff.1 hj).1; simpa using this
            rw [get j hlt] at hj; cases hj; exact (hf j hlt).1
          · obtain ⟨q, hq, rfl⟩ := List.mem_map.1 hu
            exact Rep.one (hf q (by simpa using hq)).2
          · have hlt : i * k + j < m * k := by
              have : (i + 1) * k ≤ m * k := Nat.mul_le_mul_right k hi
              rw [Nat.add_mul] at this; omega
            refine ⟨_, get _ hlt, ?_⟩
            have := (hf _ hlt).2
            have e1 : (i * k + j) / k = i := by rw [Nat.mul_comm, Nat.mul_add_div hsz, Nat.div_eq_of_lt hj]; simp
            have e2 : (i * k + j) % k = j := by rw [Nat.mul_comm, Nat.mul_add_mod, Nat.mod_eq_of_lt hj]
            rwa [e1, e2] at this
    | _ => simp [srcE] at hl
  | nilsl => exact ⟨0, 0, _, hl, fun _ => .inl ⟨0, hm, rfl⟩⟩
  | own i =>
    simp only [srcE] at hl
    cases ho : s.ob i with
    | none => simp [ho] at hl
    | some o =>
      cases o with
      | box cs => simp [ho] at hl
      | row e k m g =>
        simp only [ho] at hl
        refine ⟨k, m, g, hl, fun hk => ?_⟩
        obtain ⟨xs, h1, _, h2, h3⟩ := h.objs i _ ho
        have hx : x = γ i := hm
        rcases h1.2 with ⟨e1, h0⟩ | ⟨g', cap, cur, e1, _⟩
        · exact .inl ⟨0, hx.trans e1, h0⟩
        · refine .inr ?_
          rcases hk with hk | hk
          · exact ⟨⟨g', 0, none⟩, cap, [], hx.trans e1, by simp [hk], by simp, by simp, fun i hi => by omega⟩
          · subst hk
            exact ⟨⟨g', 0, none⟩, cap, xs, hx.trans e1, h1.1, h1.cells (g := g') (by rw [e1]; rfl), h2, h3⟩
  | _ => simp [srcE] at hl

theorem run_append_of_nil {base : Nat} {t ty e : TypeId} {i : TypeInfo} {size : Nat} (ht : P.underlying t = some (.slice e)) (hi : P.info? e = some i)
    {v : Value} {n : Nat} {xs : List Value} (hown : w.ownsRow base e size v n xs) (c : Nat) : (Builtin.append_ #[t, t] ty #[v, .slice none 0 c]).run P w = .ok v w := by
  rcases hown.2 with ⟨rfl, rfl⟩ | ⟨g, cap, cur, rfl, _, _, hnc, _⟩
  · simp [Builtin.append_, run_underlying ht, sizeOf, typeInfo, hi, Builtin.lenOf, Builtin.firstCells]
  · simp [Builtin.append_, run_underlying ht, sizeOf, typeInfo, hi, Builtin.lenOf, Builtin.firstCells, hnc, storeCells]

/-- An append to an owned row, whatever the source. -/
theorem append_run {t ty e : TypeId} {ei : TI} (ht : P.underlying t = some (.slice e)) (he : TI.of P e = some ei) (hsz : 0 < ei.size) (hzl : ei.zero.length = ei.size) {base n : Nat} {v : Value} {xs : List Value} (hown : w.ownsRow base e ei.size v n xs) (h1 : ∀ u ∈ xs, u.oneCell' = true)
    {ok : Nat → Prop} {f g : Nat → Nat → D} {m : Nat} {x : Value} (hf : ∀ i, i < n → ∀ j, j < ei.size → ∃ u, xs[i * ei.size + j]? = some u ∧ Rep w ok (f i j) u) (hs : Src w ok ei.size m g x)
    (hlen : n + m ≤ maxLen) (hby : (n + m) * ei.bytes ≤ 140737488355328) (hbase : base ≤ w.heap.size) :
    ∃ v' w' ys, (Builtin.append_ #[t, t] ty #[v, x]).run P w = .ok v' w' ∧ w'.ownsRow base e ei.size v' (n + m) ys ∧ w.grownBy w' (blk v) ∧ (blk v' = blk v ∨ blk v' = some w.heap.size) ∧ (∀ u ∈ ys, u.oneCell' = true) ∧
      ∀ ok' : Nat → Prop, (∀ b, ok b → ok' b ∧ w'.heap[b]? = w.heap[b]?) → ∀ i, i < n + m → ∀ j, j < ei.size → ∃ u, ys[i * ei.size + j]? = some u ∧ Rep w' ok' (appRow n f g i j) u := by
  obtain ⟨info, d, z, hi, hd, hz, h4, h5, h6, h7, h8⟩ := ti_facts he
  have inrow : ∀ i j, i < n → j < ei.size → i * ei.size + j < n * ei.size := fun i j hi hj => by
    have : (i + 1) * ei.size ≤ n * ei.size := Nat.mul_le_mul_right _ hi
    rw [Nat.add_mul] at this; omega
  rcases hs with ⟨c, rfl, rfl⟩ | ⟨ad, c, news, rfl, hl, hc, hn1, hg⟩
  · refine ⟨v, w, xs, run_append_of_nil ht hi hown c, by simpa using hown, ⟨rfl, rfl, rfl, Nat.le_refl _, fun _ _ _ => rfl⟩, .inl rfl, h1, fun ok' hok i hi j hj => ?_⟩
    obtain ⟨u, hu, hr⟩ := hf i (by omega) j hj
    exact ⟨u, hu, by rw [show appRow n f g i j = f i j from if_pos (by omega)]; exact Rep.keep hok hr⟩
  · have hzs' : z.cells.size = ei.size := by rw [← Array.length_toList, h7, hzl]
    obtain ⟨v', w', hrun, h2, h3, _, h9⟩ := run_append_own_at (P := P) w base t ty e info z ei.size ei.bytes ht hi hz h4 h5 hzs' hsz v n xs hown ad m c news hl hc hn1 hlen hby hbase
    rw [ownBlock_blk hown] at h3 h9
    rw [ownBlock_blk h2] at h9
    refine ⟨v', w', xs ++ news, hrun, h2, h3, h9, fun u hu => ?_, fun ok' hok i hi j hj => ?_⟩
    · rcases List.mem_append.1 hu with hu | hu
      · exact h1 u hu
      · exact hn1 u hu
    · by_cases hin : i < n
      · obtain ⟨u, hu, hr⟩ := hf i hin j hj
        refine ⟨u, ?_, by rw [show appRow n f g i j = f i j from if_pos hin]; exact Rep.keep hok hr⟩
        rw [List.getElem?_append_left (by rw [hown.1]; exact inrow i j hin hj)]; exact hu
      · obtain ⟨u, hu, hr⟩ := hg (i - n) (by omega) j hj
        refine ⟨u, ?_, by rw [show appRow n f g i j = g (i - n) j from if_neg hin]; exact Rep.keep hok hr⟩
        have e1 : n * ei.size + ((i - n) * ei.size + j) = i * ei.size + j := by
          rw [← Nat.add_assoc, ← Nat.add_mul]; congr 2; omega
        rw [List.getElem?_append_right (by rw [hown.1, ← e1]; omega), hown.1, ← hu]; congr 1; omega

/-- A run of a row's cells is written over. -/
theorem row_write (h : RG cx γ s a w) {i e k N : Nat} {f f' : Nat → Nat → D} (ho : s.ob i = some (.row e k N f)) {g len cap : Nat} (hg : γ i = .slice (some ⟨g, 0, none⟩) len cap) (off : Nat) (vs : List Value) (hle : off + vs.length ≤ N * k) (h1 : ∀ v ∈ vs, v.oneCell' = true)
    (hin : ∀ m, m < N → ∀ j, j < k → off ≤ m * k + j → m * k + j < off + vs.length → ∃ u, vs[m * k + j - off]? = some u ∧ Rep w (okOf cx s γ w) (f' m j) u)
    (hout : ∀ m, m < N → ∀ j, j < k → ¬ (off ≤ m * k + j ∧ m * k + j < off + vs.length) → f' m j = f m j) :
    ∃ w', (storeCells ⟨g, off, none⟩ vs).run P w = .ok () w' ∧ RG cx γ (s.setOb i (some (.row e k N f'))) a w' := by
  obtain ⟨xs, p1, p0, p2, p3⟩ := h.objs i _ ho
  rcases p1.2 with ⟨e1, _⟩ | ⟨g', cap', cur, e1, e2, e3, e4, e5, e6, e7⟩
  · rw [e1] at hg; cases hg
  · rw [e1] at hg
    obtain ⟨rfl, rfl, rfl⟩ : g' = g ∧ N = len ∧ cap' = cap := by simpa using hg
    have hNk : N * k ≤ cap' * k := Nat.mul_le_mul_right k e4
    have hrun := run_storeCells_at P g' off e vs 0 cur w e3 (by rw [e6]; omega) h1
    simp only [Nat.add_zero] at hrun
    generalize hnew : (cur.toList.take off ++ vs ++ cur.toList.drop (off + vs.length)) = new at hrun
    have hnl : new.length = cur.size := by rw [← hnew]; simp only [List.length_append, List.length_take, List.length_drop, Array.length_toList]; omega
    have hget : ∀ q, new[q]? = if off ≤ q ∧ q < off + vs.length then vs[q - off]? else cur.toList[q]? := fun q => by
      rw [← hnew]
      by_cases hq : off ≤ q ∧ q < off + vs.length
      · rw [if_pos hq, List.getElem?_append_left (by simp only [List.length_append, List.length_take, Array.length_toList]; omega), List.getElem?_append_right (by simp only [List.length_take, Array.length_toList]; omega)]
        congr 1; simp only [List.length_take, Array.length_toList]; omega
      · rw [if_neg hq]
        by_cases hlt : q < off
        · rw [List.getElem?_append_left (by simp only [List.length_append, List.length_take, Array.length_toList]; omega), List.getElem?_append_left (by simp only [List.length_take, Array.length_toList]; omega), List.getElem?_take, if_pos hlt]
        · rw [List.getElem?_append_right (by simp only [List.length_append, List.length_take, Array.length_toList]; omega), List.getElem?_drop]
          congr 1; simp only [List.length_append, List.length_take, Array.length_toList]; omega
    have hxs : ∀ q, q < N * k → xs[q]? = cur.toList[q]? := fun q hq => by rw [← e7, List.getElem?_take, if_pos hq]
    refine ⟨_, hrun, h.change (i := i) (o' := .row e k N f') ho (by rw [e1]; exact grown_setRow w g' _) (fun _ => run_drawn _ hrun) (fun ok hok => ⟨new.take (N * k), ⟨by simp; omega, .inr ⟨g', cap', new.toArray, e1, e2, setRow_heap w g' _ _ e _ e3, e4, e5, by simp [hnl, e6], by simp⟩⟩, p0, ?_, ?_⟩) (fun cs'' e' => by cases e')⟩
    · intro u hu
      obtain ⟨q, hq⟩ := List.getElem?_of_mem hu
      rw [List.getElem?_take] at hq
      split at hq
      · rename_i hlt
        rw [hget] at hq
        split at hq
        · exact h1 u (List.mem_of_getElem? hq)
        · rw [← hxs q hlt] at hq; exact p2 u (List.mem_of_getElem? hq)
      · cases hq
    · intro m hm j hj
      have hmj : m * k + j < N * k := by
        have : (m + 1) * k ≤ N * k := Nat.mul_le_mul_right k hm
        rw [Nat.add_mul] at this; omega
      rw [List.getElem?_take, if_pos hmj, hget]
      by_cases hq : off ≤ m * k + j ∧ m * k + j < off + vs.length
      · rw [if_pos hq]
        obtain ⟨u, hu, hr⟩ := hin m hm j hj hq.1 hq.2
        exact ⟨u, hu, Rep.keep hok hr⟩
      · rw [if_neg hq, ← hxs _ hmj, hout m hm j hj hq]
        obtain ⟨u, hu, hr⟩ := p3 m hm j hj
        exact ⟨u, hu, Rep.keep hok hr⟩
theorem zeroCells_get (z : Array Value) (n q : Nat) (h : q < n * z.size) : (Builtin.zeroCells z n).toList[q]? = z.toList[q % z.size]? := by
  have hz : 0 < z.size := by
    rcases Nat.eq_zero_or_pos z.size with h0 | h0
    · rw [h0] at h; simp at h
    · exact h0
  have hm := Nat.mod_lt q hz
  simp [Builtin.zeroCells, h, hm, getElem!_pos]
theorem zeroCells_len (z : Array Value) (n : Nat) : (Builtin.zeroCells z n).toList.length = n * z.size := by simp [Builtin.zeroCells]
section
variable (hT : ∀ t i, T t = some i → TI.of P t = some i)
include hT
theorem clearE_ok (h : RG cx γ s a w) {t ty : TypeId} {v : AV} {x : Value} (hm : M w (okOf cx s γ w) γ v x) {K : St → Prop} (hl : clearE T s t v K) :
    ∃ w' s', (Builtin.clear_ #[t] ty #[x]).run P w = .ok (.tuple #[]) w' ∧ RG cx γ s' a w' ∧ K s' := by
  unfold clearE at hl
  cases ht : T t with
  | none => simp [ht] at hl
  | some ti =>
    obtain ⟨size, ag, bytes, zero, kind⟩ := ti
    cases kind with
    | slice e =>
      cases v with
      | sub i k lo n =>
        simp only [ht] at hl
        cases he : T e with
        | none => simp [he] at hl
        | some ei =>
          cases ho : s.ob i with
          | none => simp [he, ho] at hl
          | some o =>
            cases o with
            | box cs => simp [he, ho] at hl
            | row e' k' N f =>
              simp only [he, ho] at hl
              cases hz : cds ei.zero with
              | none => simp [hz] at hl
              | some zs =>
                simp only [hz] at hl
                cases hb : (Nat.beq k k' && Nat.beq ei.size k && Nat.beq ei.zero.length k && Nat.ble 1 k) with
                | false => simp [hb] at hl
                | true =>
                  simp only [hb, cond_true] at hl
                  simp only [Bool.and_eq_true] at hb
                  obtain ⟨hN, hK⟩ := hl
                  have hkk := Nat.eq_of_beq_eq_true hb.1.1.1
                  subst hkk
                  have hek := Nat.eq_of_beq_eq_true hb.1.1.2
                  have hzl := Nat.eq_of_beq_eq_true hb.1.2
                  have hk1 := Nat.le_of_ble_eq_true hb.2
                  obtain ⟨info, ds, _, _, hds, _, _, _, _, _, hkd⟩ := ti_facts (hT t _ ht)
                  have hds' := TK.of_slice hkd
                  subst hds'
                  obtain ⟨info', ds', z, hi', _, hz', _, _, _, hzc, _⟩ := ti_facts (hT e _ he)
                  have hzero : (zeroValue e).run P w = .ok z w := by simp [zeroValue, typeInfo, hi', hz']
                  have hzs : z.cells.size = k := by rw [← Array.length_toList, hzc, hzl]
                  by_cases hn : n = 0
                  · subst hn
                    refine ⟨w, _, ?_, ?_, hK⟩
                    · rcases hm with ⟨_, ad, c, rfl⟩ | ⟨_, _, _, _, _, rfl⟩
                      · cases ad <;> simp [Builtin.clear_, run_underlying hds]
                      · simp [Builtin.clear_, run_underlying hds]
                    · have : clrRow f lo 0 zs = f := by funext m j; simp only [clrRow]; rw [if_neg (by omega)]
                      rw [this, setOb_self ho]; exact h
                  · rcases hm with ⟨h0, _⟩ | ⟨g, len, cap, cap', hg, rfl⟩
                    · exact absurd h0 hn
                    · have hrz : All2 (Rep w (okOf cx s γ w)) zs z.cells.toList := by rw [hzc]; exact cds_rep hz
                      have hlen := zeroCells_len z.cells n
                      rw [hzs] at hlen
                      have hnk : (lo + n) * k ≤ N * k := Nat.mul_le_mul_right k hN
                      rw [Nat.add_mul] at hnk
                      have hgetz : ∀ q, q < n * k → (Builtin.zeroCells z.cells n).toList[q]? = z.cells.toList[q % k]? := fun q hq => by
                        rw [zeroCells_get _ _ _ (by rw [hzs]; exact hq), hzs]
                      have hones : ∀ v ∈ z.cells.toList, v.oneCell' = true := Rep.ones hrz
                      obtain ⟨w', hrun, hr⟩ := row_write (P := P) (f' := clrRow f lo n zs) h ho hg (lo * k) (Builtin.zeroCells z.cells n).toList (by omega) (fun v hv => by
                        obtain ⟨q, hq⟩ := List.getElem?_of_mem hv
                        have hql : q < n * k := by have := (List.getElem?_eq_some_iff.1 hq).1; omega
                        rw [hgetz q hql] at hq
                        exact hones v (List.mem_of_getElem? hq)) (fun m hm' j hj q1 q2 => by
                        have hlm : lo ≤ m := by
                          rcases Nat.lt_or_ge m lo with hlt | hge
                          · have : (m + 1) * k ≤ lo * k := Nat.mul_le_mul_right k hlt
                            rw [Nat.add_mul] at this; omega
                          · exact hge
                        have hmn : m < lo + n := by
                          rcases Nat.lt_or_ge m (lo + n) with hlt | hge
                          · exact hlt
                          · have : (lo + n) * k ≤ m * k := Nat.mul_le_mul_right k hge
                            rw [Nat.add_mul] at this; omega
                        have e1 : m * k + j - lo * k = (m - lo) * k + j := by
                          rw [Nat.sub_mul]
                          have : lo * k ≤ m * k := Nat.mul_le_mul_right k hlm
                          omega
                        have e2 : ((m - lo) * k + j) % k = j := by rw [Nat.mul_comm, Nat.mul_add_mod, Nat.mod_eq_of_lt hj]
                        have hlz : j < zs.length := by rw [hrz.length, Array.length_toList, hzs]; exact hj
                        obtain ⟨u, hu, hru⟩ := hrz.get j _ (List.getElem?_eq_getElem hlz)
                        refine ⟨u, ?_, ?_⟩
                        · rw [hgetz _ (by omega), e1, e2]; exact hu
                        · have : clrRow f lo n zs m j = zs[j] := by simp [clrRow, hlm, hmn, getD', nth_eq, hlz]
                          rw [this]; exact hru) (fun m hm' j hj hno => by
                        unfold clrRow
                        rw [if_neg fun hh => hno ?_]
                        have q1 : lo * k ≤ m * k := Nat.mul_le_mul_right k hh.1
                        have q2 : (m + 1) * k ≤ (lo + n) * k := Nat.mul_le_mul_right k hh.2
                        rw [Nat.add_mul, Nat.add_mul] at q2
                        omega)
                      obtain ⟨n', rfl⟩ : ∃ n', n = n' + 1 := ⟨n - 1, by omega⟩
                      exact ⟨w', _, by simp [Builtin.clear_, run_underlying hds, hzero, hrun], hr, hK⟩
      | _ => simp [ht] at hl
    | _ => simp [ht] at hl
end
end
end Go.Pg
