/-
  Regions that draw their order, second part: the theorem. For every program.
-/
import Derived.Test.YtlmljmgappiehaaPgO
set_option linter.all false
namespace Go.Pg
open Go.RowKit
section
variable {P : Program} {T : TT} {E : Env} {cx : Cx} {γ : Nat → Value} {s s' : St} {a : Act} {w : World} {F : Fence} {n : Nat} {ops : Array Oper}

/-- Is the operation wanted? -/
def gd (s : St) (ops : Array Oper) (o : Oper) : Option Bool :=
  match o.guard with
  | none => some true
  | some (j, want) => match gval s ops.toList j with
    | .d (.bool b) => some (b == want)
    | .undef => some false
    | _ => none
/-- One operation in state s. -/
def stG (P : Program) (T : TT) (E : Env) (ops : Array Oper) (o : Oper) (s : St) (K : St → Prop) : Prop :=
  match gd s ops o with
  | some true => stD P T E s o K
  | some false => K (s.putO o.dst .undef)
  | none => False
def opG (P : Program) (T : TT) (E : Env) (ops : Array Oper) (i : Nat) (K : St → Prop) (s : St) : Prop :=
  match ops[i]? with
  | none => K s
  | some o => stG P T E ops o s K
def anyA (P : Program) (T : TT) (E : Env) (ops : Array Oper) (Q : St → Prop) : Nat → Array Bool → St → Prop
  | 0, listed, s => Region.ready .any ops listed = [] ∧ Q s
  | fuel + 1, listed, s => (Region.ready .any ops listed = [] → Q s) ∧ ∀ i ∈ Region.ready .any ops listed, opG P T E ops i (anyA P T E ops Q fuel (listed.setIfInBounds i true)) s

theorem putO_comm (s : St) {x y : Option Nat} (v u : AV) (h : ∀ d, x = some d → y ≠ some d) : (s.putO x v).putO y u = (s.putO y u).putO x v := by
  cases x with
  | none => rfl
  | some d =>
    cases y with
    | none => rfl
    | some e =>
      have hne : d ≠ e := fun he => h d rfl (he ▸ rfl)
      show (⟨upd (upd s.sl d v) e u, s.ob⟩ : St) = ⟨upd (upd s.sl e u) d v, s.ob⟩
      congr 1
      funext t
      simp only [upd_eq]
      by_cases h1 : t = e
      · subst h1; simp [Ne.symm hne]
      · simp [h1]
theorem ev_putO {s : St} {d : Option Nat} {v : AV} {x : Operand} (h : ∀ t, d = some t → x ≠ .tmp t) : ev (s.putO d v) x = ev s x := by
  cases d with
  | none => rfl
  | some t =>
    cases x with
    | tmp u =>
      show (upd s.sl t v u).unpin = (s.sl u).unpin
      rw [upd_ne _ _ fun e => h t rfl (by rw [e])]
    | _ => rfl
theorem looks_op {o : Oper} {d : Nat} (h : d ∉ o.looksAt ops) : ∀ x ∈ o.op.operands, x ≠ .tmp d := fun x hx e => by
  subst e
  refine h ?_
  unfold Oper.looksAt
  refine List.mem_append.2 (.inl (List.mem_filterMap.2 ⟨_, by simpa using hx, rfl⟩))
theorem sameOn_put {o : Oper} {d : Option Nat} {v : AV} (h : ∀ t, d = some t → t ∉ o.looksAt ops) (s : St) : SameOn s (s.putO d v) o.op := fun x hx => ev_putO fun t ht => looks_op (h t ht) x hx
theorem sameOn_put' {o : Oper} {d : Option Nat} {v : AV} (h : ∀ t, d = some t → t ∉ o.looksAt ops) (s : St) : SameOn (s.putO d v) s o.op := fun x hx => (ev_putO fun t ht => looks_op (h t ht) x hx).symm
theorem more_put (s : St) (d : Option Nat) (v : AV) : More s (s.putO d v) := fun i o h => by cases d <;> exact h
theorem more_put' (s : St) (d : Option Nat) (v : AV) : More (s.putO d v) s := fun i o h => by cases d <;> exact h
theorem gd_put {o : Oper} {d : Option Nat} {v : AV} (h : ∀ t, d = some t → t ∉ o.looksAt ops) (s : St) : gd (s.putO d v) ops o = gd s ops o := by
  unfold gd
  cases hg : o.guard with
  | none => rfl
  | some p =>
    obtain ⟨j, want⟩ := p
    have : gval (s.putO d v) ops.toList j = gval s ops.toList j := by
      unfold gval dstOf
      rw [nth_eq]
      cases hj : ops.toList[j]? with
      | none => rfl
      | some oj =>
        cases hd : oj.dst with
        | none => simp [hd]
        | some t =>
          simp only [hd]
          cases d with
          | none => rfl
          | some e =>
            refine upd_ne _ _ fun he => h e rfl ?_
            unfold Oper.looksAt
            refine List.mem_append.2 (.inr ?_)
            have hj' : ops[j]? = some oj := by simpa using hj
            simp [hg, hj', hd, he]
    simp only [this]
theorem gd_ob {o : Oper} {s s' : St} (h : s'.sl = s.sl) : gd s' ops o = gd s ops o := by
  unfold gd gval; simp only [h]

/-- Operation o, one that makes and changes nothing, yields v in state s. -/
def Yl (P : Program) (T : TT) (E : Env) (ops : Array Oper) (o : Oper) (v : AV) (s : St) : Prop :=
  (gd s ops o = some true ∧ valD P T E s o.op fun u => u = v) ∨ (gd s ops o = some false ∧ v = .undef)
theorem Yl.opG {i : Nat} {o : Oper} {v : AV} (hi : ops[i]? = some o) (hb : isB o.op = true) (hy : Yl P T E ops o v s) {K : St → Prop} (h : K (s.putO o.dst v)) : opG P T E ops i K s := by
  unfold Go.Pg.opG stG
  simp only [hi]
  rcases hy with ⟨h1, h2⟩ | ⟨h1, rfl⟩
  · simp only [h1, stD, hb]
    exact (valD_spl P T E s o.op _).2 ⟨v, h2, h⟩
  · simp only [h1]; exact h
theorem yl_of_opG {i : Nat} {o : Oper} {K : St → Prop} (hi : ops[i]? = some o) (hb : isB o.op = true) (h : opG P T E ops i K s) : ∃ v, Yl P T E ops o v s ∧ K (s.putO o.dst v) := by
  unfold opG stG at h
  simp only [hi] at h
  cases hg : gd s ops o with
  | none => simp [hg] at h
  | some b =>
    cases b with
    | true =>
      simp only [hg, stD, hb] at h
      obtain ⟨v, h1, h2⟩ := (valD_spl P T E s o.op _).1 h
      exact ⟨v, .inl ⟨hg, h1⟩, h2⟩
    | false => simp only [hg] at h; exact ⟨.undef, .inr ⟨hg, rfl⟩, h⟩

def Mon (f : (St → Prop) → Prop) : Prop := ∀ K K' : St → Prop, (∀ s, K s → K' s) → f K → f K'
theorem Mon.k (s : St) : Mon fun K => K s := fun _ _ h => h s
theorem Mon.false : Mon fun _ => False := fun _ _ _ h => h
theorem Mon.and {p : Prop} {f : (St → Prop) → Prop} (h : Mon f) : Mon fun K => p ∧ f K := fun _ _ hk ⟨hp, hf⟩ => ⟨hp, h _ _ hk hf⟩
theorem Mon.ex {α : Type} {f : α → (St → Prop) → Prop} (h : ∀ x, Mon (f x)) : Mon fun K => ∃ x, f x K := fun _ _ hk ⟨x, hf⟩ => ⟨x, h x _ _ hk hf⟩
theorem Mon.cond {b : Bool} {f g : (St → Prop) → Prop} (h1 : Mon f) (h2 : Mon g) : Mon fun K => bif b then f K else g K := by
  cases b
  · exact h2
  · exact h1
theorem Mon.spl {f : (AV → Prop) → Prop} (h : Spl f) (g : AV → St) : Mon fun K => f fun v => K (g v) := fun K K' hk hf => by
  obtain ⟨v, h1, h2⟩ := (h _).1 hf
  exact (h _).2 ⟨v, h1, hk _ h2⟩
theorem callSt_mon (E : Env) (P : Program) (s : St) (o : Oper) (f : Operand) (args : List Operand) : Mon (CallSt E P s o f args) := fun K K' hk h => by
  simp only [CallSt_iff] at *
  rcases h with ⟨ids, f, ex, h0, h⟩ | ⟨ids, f, ex, d, h0, h1, h⟩ | ⟨s', h1, h2⟩ | ⟨⟨n, d, sl, vs, h1, h2, h3, h4, h5, h6, h7, h8, h9, h10⟩⟩
  · exact .inl ⟨ids, f, ex, h0, Mon.spl (callOb_spl E.dr P (s.freezes ids) f _) (fun v => (s.freezes ids).putO o.dst v) K K' hk h⟩
  · refine .inr (.inl ⟨ids, f, ex, d, h0, h1, ?_⟩)
    simp only [CallOwn_iff] at *
    obtain ⟨xs, e, k, n, g, g1, g2, g3, g4⟩ := h
    exact ⟨xs, e, k, n, g, g1, g2, g3, hk _ g4⟩
  · exact .inr (.inr (.inl ⟨s', h1, hk _ h2⟩))
  · exact .inr (.inr (.inr ⟨⟨n, d, sl, vs, h1, h2, h3, h4, h5, h6, h7, h8, hk _ h9, hk _ h10⟩⟩))
theorem storeE_mon (T : TT) (s : St) (t : Nat) (a x : AV) : Mon (storeE T s t a x) := by
  unfold storeE
  split
  · split
    · refine .cond ?_ .false
      split
      · exact .k _
      · exact .false
    · exact .false
  · split
    · exact .cond (.and (.k _)) .false
    · exact .false
  · exact .false
theorem srcE_mon {s : St} {x : AV} {f : Nat → Nat → (Nat → Nat → D) → (St → Prop) → Prop} (h : ∀ k m g, Mon (f k m g)) : Mon fun K => srcE s x fun k m g => f k m g K := by
  unfold srcE
  split
  · exact h _ _ _
  · exact h _ _ _
  · split
    · exact h _ _ _
    · exact .false
  · exact .false
theorem appendE_mon (T : TT) (s : St) (dst : Option Nat) (t : Nat) (a x : AV) : Mon (appendE T s dst t a x) := by
  unfold appendE
  split
  · split
    · refine srcE_mon fun k m g => ?_
      split
      · split
        · exact .cond (.and (.k _)) .false
        · exact .false
      · exact .cond (.and (.k _)) .false
      · exact .false
    · exact .false
  · exact .false
theorem buildSliceE_mon (T : TT) (s : St) (t len : Nat) (parts : List (Nat × Operand)) (g : Nat → TI → (Nat → Nat → D) → St) : Mon fun K => buildSliceE T s t len parts fun e ei f => K (g e ei f) := by
  unfold buildSliceE
  split
  · split
    · split
      · split
        · exact .cond (.k _) .false
        · exact .false
      · exact .false
    · exact .false
  · exact .false
theorem clearE_mon (T : TT) (s : St) (t : Nat) (v : AV) : Mon (clearE T s t v) := by
  unfold clearE
  split
  · split
    · split
      · exact .cond (.and (.k _)) .false
      · exact .false
    · exact .false
  · exact .false
theorem Mon.all {α : Type} {p : α → Prop} {f : α → (St → Prop) → Prop} (h : ∀ x, Mon (f x)) : Mon fun K => ∀ x, p x → f x K := fun _ _ hk H x hp => h x _ _ hk (H x hp)
theorem stE_mon (P : Program) (T : TT) (E : Env) (s : St) (o : Oper) : Mon (stE P T E s o) := by
  have plain : ∀ s : St, Mon fun K => opE P T E s o.op fun v => K (s.putO o.dst v) := fun s => .spl (opE_spl P T E s o.op) _
  unfold stE
  split
  · split
    · exact .cond (.k _) .false
    · exact .false
  · split
    · exact .cond (.k _) .false
    · exact .false
  · split
    · exact storeE_mon _ _ _ _ _
    · exact .false
  · split
    · exact buildSliceE_mon _ _ _ _ _ _
    · exact .false
  · split
    · split
      · split
        · exact .k _
        · exact .false
      · exact .false
    · exact .k _
  · split
    · split
      · exact .and (.k _)
      · exact .false
    · rename_i h _ _ _; rw [← h] at *; exact plain s
  · exact plain _
  · split
    · exact .cond (appendE_mon _ _ _ _ _ _) .false
    · exact .false
  · exact callSt_mon _ _ _ _ _ _
  · exact plain s
  · exact plain s
  · exact plain s
  · split
    · exact clearE_mon _ _ _ _
    · exact .false
  · exact .ex fun s' => .and (.k _)
  · split
    · exact .all fun b => .k _
    · exact plain s
  · exact plain s
theorem stD_mon (P : Program) (T : TT) (E : Env) (s : St) (o : Oper) : Mon (stD P T E s o) := by
  unfold stD
  split
  · exact .spl (valD_spl P T E s o.op) _
  · split
    · split
      · exact stE_mon _ _ _ _ _
      · exact .false
    · exact stE_mon _ _ _ _ _
theorem stE_mono {o : Oper} {K K' : St → Prop} (hal : isAl o.op = true) (h : ∀ s, K s → K' s) (hl : stE P T E s o K) : stE P T E s o K' := stE_mon P T E s o K K' h hl

theorem storeE_put {d : Option Nat} {v : AV} {t : Nat} {A X : AV} {K ps : St → Prop} (h : storeE T (s.putO d v) t A X K) (hp : ∀ s' : St, s'.sl = s.sl → ps s') : storeE T s t A X fun s' => ps s' ∧ K (s'.putO d v) := by
  have hob : (s.putO d v).ob = s.ob := by cases d <;> rfl
  have hset : ∀ i o, (s.putO d v).setOb i o = (s.setOb i o).putO d v := fun i o => by cases d <;> rfl
  unfold storeE at *
  cases ht : T t with
  | none => simp [ht] at h
  | some ti =>
    cases A with
    | box i off =>
      simp only [ht, hob, hset] at h ⊢
      cases h1 : s.ob i with
      | none => simp [h1] at h
      | some o =>
        cases o with
        | row e k n f => simp [h1] at h
        | box cs =>
          cases h2 : cellsA X with
          | none => simp [h1, h2] at h
          | some ys =>
            simp only [h1, h2] at h ⊢
            cases hc : (Nat.beq ys.length ti.size) with
            | false => simp [hc] at h
            | true =>
              simp only [hc, cond_true] at h ⊢
              cases hr : setRange cs off ys with
              | none => simp [hr] at h
              | some cs' => simp only [hr] at h ⊢; exact ⟨hp _ rfl, h⟩
    | elt i k n c =>
      simp only [ht, hob, hset] at h ⊢
      cases h1 : s.ob i with
      | none => simp [h1] at h
      | some o =>
        cases o with
        | box cs => simp [h1] at h
        | row e k' N f =>
          cases h2 : cellsD X with
          | none => simp [h1, h2] at h
          | some ys =>
            simp only [h1, h2] at h ⊢
            cases hc : (Nat.beq k k' && Nat.beq ys.length ti.size && Nat.ble (c + ti.size) k) with
            | false => simp [hc] at h
            | true => simp only [hc, cond_true] at h ⊢; exact ⟨h.1, hp _ rfl, h.2⟩
    | _ => simp [ht] at h
/-- An operation apart from o, one that may stand beside it, comes to the same whether o's value is there already. -/
theorem opG_put {j : Nat} {oi oj : Oper} {v : AV} (hj : ops[j]? = some oj) (hap : oi.apart ops oj = true) (hcls : (isB oj.op || isAl oj.op || (isPu oi.op && isSt oj.op)) = true) {K : St → Prop}
    (hy : Yl P T E ops oi v s) (h : opG P T E ops j K (s.putO oi.dst v)) : opG P T E ops j (fun s' => Yl P T E ops oi v s' ∧ K (s'.putO oi.dst v)) s := by
  obtain ⟨h1, h2, h3⟩ := Oper.apart_spec hap
  have keep : ∀ u, Yl P T E ops oi v (s.putO oj.dst u) := fun u => by
    rcases hy with ⟨g1, g2⟩ | ⟨g1, rfl⟩
    · exact .inl ⟨by rw [gd_put h3]; exact g1, valD_more (more_put s _ _) (sameOn_put h3 s) g2⟩
    · exact .inr ⟨by rw [gd_put h3]; exact g1, rfl⟩
  cases hb : isB oj.op with
  | true =>
    obtain ⟨u, hu, hK⟩ := yl_of_opG hj hb h
    refine Yl.opG (v := u) hj hb ?_ ⟨keep u, by rw [← putO_comm s v u h2]; exact hK⟩
    rcases hu with ⟨g1, g2⟩ | ⟨g1, rfl⟩
    · exact .inl ⟨by rw [gd_put h1] at g1; exact g1, valD_more (more_put' s _ _) (sameOn_put' h1 s) g2⟩
    · exact .inr ⟨by rw [gd_put h1] at g1; exact g1, rfl⟩
  | false =>
    by_cases hal : isAl oj.op = true
    case neg =>
      have hc : isPu oi.op = true ∧ isSt oj.op = true := by simpa [hb, hal] using hcls
      obtain ⟨hpu, hst⟩ := hc
      unfold opG stG at h ⊢
      simp only [hj] at h ⊢
      rw [gd_put h1] at h
      have hal' : isAl oj.op = false := by simpa using hal
      cases hg : gd s ops oj with
      | none => simp [hg] at h
      | some b =>
        cases b with
        | false => simp only [hg] at h ⊢; exact ⟨keep _, by rw [← putO_comm s v .undef h2]; exact h⟩
        | true =>
          simp only [hg, stD, hb, hal'] at h ⊢
          have hev : ∀ x ∈ oj.op.operands, ev (s.putO oi.dst v) x = ev s x := sameOn_put h1 s
          obtain ⟨dst, op, type, pos, after, guard⟩ := oj
          cases op <;> first | (simp [isSt] at hst; done) | skip
          rename_i t x y
          have e1 := hev x (by simp [Op.operands])
          have e2 := hev y (by simp [Op.operands])
          cases dst with
          | some d => simp [stE] at h
          | none =>
            simp only [stE] at h ⊢
            rw [e1, e2] at h
            refine storeE_put (ps := fun s' => Yl P T E ops oi v s') h fun s' hs' => ?_
            have hso : SameOn s s' oi.op := fun x _ => by cases x <;> simp [ev, hs']
            rcases hy with ⟨g1, g2⟩ | ⟨g1, rfl⟩
            · exact .inl ⟨by rw [gd_ob hs']; exact g1, valD_pure hpu hso g2⟩
            · exact .inr ⟨by rw [gd_ob hs']; exact g1, rfl⟩
    unfold opG stG at h ⊢
    simp only [hj] at h ⊢
    rw [gd_put h1] at h
    cases hg : gd s ops oj with
    | none => simp [hg] at h
    | some b =>
      cases b with
      | false => simp only [hg] at h ⊢; exact ⟨keep _, by rw [← putO_comm s v .undef h2]; exact h⟩
      | true =>
        simp only [hg, stD, hb, hal] at h ⊢
        cases hd : oj.dst with
        | none =>
          simp only [hd] at h ⊢
          obtain ⟨dst, op, type, pos, after, guard⟩ := oj
          cases op <;> first | (simp [isAl] at hal; done) | skip
          simp only at hd; subst hd
          simp [stE] at h
        | some d =>
          simp only [hd] at h ⊢
          have hob : (s.putO oi.dst v).ob d = s.ob d := by cases oi.dst <;> rfl
          rw [hob] at h
          cases hs : s.ob d with
          | some o => simp [hs] at h
          | none =>
            simp only [hs] at h ⊢
            obtain ⟨dst, op, type, pos, after, guard⟩ := oj
            cases op <;> first | (simp [isAl] at hal; done) | skip
            rename_i t
            simp only at hd; subst hd
            simp only [stE] at h ⊢
            cases ht : T t with
            | none => simp [ht] at h
            | some ti =>
              simp only [ht] at h ⊢
              cases hz : ti.zero.all (·.oneCell') with
              | false => simp [hz] at h
              | true =>
                simp only [hz, cond_true, mk, hob, hs] at h ⊢
                have hm : More s (((s.setOb d (some (.box (ti.zero.map cv)))).put d (.box d 0))) := fun i o ho => by
                  show upd s.ob d _ i = some o
                  rw [upd_ne _ _ (fun e => by subst e; rw [hs] at ho; cases ho)]; exact ho
                have hput : (s.setOb d (some (.box (ti.zero.map cv)))).put d (.box d 0) = ⟨(s.putO (some d) (.box d 0)).sl, upd s.ob d (some (.box (ti.zero.map cv)))⟩ := rfl
                have hso : SameOn s ((s.setOb d (some (.box (ti.zero.map cv)))).put d (.box d 0)) oi.op := fun x hx => by
                  have := sameOn_put (ops := ops) (o := oi) (d := some d) (v := .box d 0) h3 s x hx
                  rw [← this]
                  cases x <;> rfl
                have hge := gd_ob (ops := ops) (o := oi) (s := s.putO (some d) (.box d 0)) (s' := (s.setOb d (some (.box (ti.zero.map cv)))).put d (.box d 0)) rfl
                refine ⟨?_, ?_⟩
                · rcases hy with ⟨g1, g2⟩ | ⟨g1, rfl⟩
                  · exact .inl ⟨by rw [hge, gd_put h3]; exact g1, valD_more hm hso g2⟩
                  · exact .inr ⟨by rw [hge, gd_put h3]; exact g1, rfl⟩
                · cases hx : oi.dst with
                  | none => rw [hx] at h; exact h
                  | some e =>
                    rw [hx] at h
                    have hne : e ≠ d := fun he => h2 e hx (by rw [he])
                    have : ((s.setOb d (some (.box (ti.zero.map cv)))).put d (.box d 0)).put e v = ((s.put e v).setOb d (some (.box (ti.zero.map cv)))).put d (.box d 0) := by
                      show (⟨upd (upd s.sl d (.box d 0)) e v, _⟩ : St) = ⟨upd (upd s.sl e v) d (.box d 0), _⟩
                      congr 1
                      funext t
                      simp only [upd_eq]
                      by_cases h4 : t = d
                      · subst h4; simp [Ne.symm hne]
                      · simp [h4]
                    show K (((s.setOb d (some (.box (ti.zero.map cv)))).put d (.box d 0)).put e v)
                    rw [this]; exact h

theorem opG_mono {i : Nat} {K K' : St → Prop} (h : ∀ s, K s → K' s) (hl : opG P T E ops i K s) : opG P T E ops i K' s := by
  unfold opG at *
  cases hi : ops[i]? with
  | none => simp only [hi] at *; exact h _ hl
  | some o =>
    simp only [hi] at *
    unfold stG at *
    cases hg : gd s ops o with
    | none => simp [hg] at hl
    | some b =>
      cases b with
      | false => simp only [hg] at *; exact h _ hl
      | true => simp only [hg] at *; exact stD_mon P T E s o _ _ h hl

/-- An operation that makes and changes nothing, and may come up now, may be taken first, if whatever else may come up does not touch it. -/
theorem anyA_first {Q : St → Prop} {i : Nat} {oi : Oper} {v : AV} (hi : ops[i]? = some oi) (hbi : isB oi.op = true) :
    ∀ (fuel : Nat) (listed : Array Bool) (s : St),
      (∀ j oj, ops[j]? = some oj → j ≠ i → listed.getD j true = false → (∀ e ∈ oj.after, Region.binds .any e = true → e.on ≠ i) → oi.apart ops oj = true ∧ (isB oj.op || isAl oj.op || (isPu oi.op && isSt oj.op)) = true) →
      i ∈ Region.ready .any ops listed → Yl P T E ops oi v s →
      anyA P T E ops Q fuel (listed.setIfInBounds i true) (s.putO oi.dst v) → anyA P T E ops Q (fuel + 1) listed s := by
  intro fuel
  induction fuel with
  | zero =>
    intro listed s _ hr hy H
    refine ⟨fun h => (by rw [h] at hr; cases hr), fun j hj => ?_⟩
    by_cases hji : j = i
    · subst hji; exact hy.opG hi hbi H
    · have := ready_mono hj hji
      rw [H.1] at this
      cases this
  | succ fuel ih =>
    intro listed s hfree hr hy H
    refine ⟨fun h => (by rw [h] at hr; cases hr), fun j hj => ?_⟩
    by_cases hji : j = i
    · subst hji; exact hy.opG hi hbi H
    · have h1 := H.2 j (ready_mono hj hji)
      obtain ⟨hjun, oj, hoj, hall⟩ := mem_ready.1 hj
      have hnot : ∀ e ∈ oj.after, Region.binds .any e = true → e.on ≠ i := fun e he hb heq => by
        have h1 := hall e he hb
        have h0 := (mem_ready.1 hr).1
        rw [heq] at h1
        rcases Nat.lt_or_ge i listed.size with h' | h'
        · simp [h'] at h0 h1; rw [h0] at h1; cases h1
        · simp [Array.getElem?_eq_none h'] at h1
      obtain ⟨hap, hcls⟩ := hfree j oj hoj hji hjun hnot
      have h2 := opG_put hoj hap hcls hy h1
      have hfree' : ∀ k ok, ops[k]? = some ok → k ≠ i → (listed.setIfInBounds j true).getD k true = false →
          (∀ e ∈ ok.after, Region.binds .any e = true → e.on ≠ i) → oi.apart ops ok = true ∧ (isB ok.op || isAl ok.op || (isPu oi.op && isSt ok.op)) = true := fun k ok hk hki hun hno => by
        refine hfree k ok hk hki ?_ hno
        by_cases hjk : j = k
        · subst hjk; exact hjun
        · rw [getD_set_ne true hjk] at hun; exact hun
      refine opG_mono (fun s' h3 => ih (listed.setIfInBounds j true) s' hfree' (ready_mono hr (Ne.symm hji)) h3.1 ?_) h2
      rw [Array.setIfInBounds_comm _ _ hji]
      exact h3.2

/-! ### The order of the text -/
theorem okNow_spec {listed : Array Bool} {i : Nat} (h : okNow ops listed i = true) : ∃ oi, ops[i]? = some oi ∧ i ∈ Region.ready .any ops listed ∧
    ((isB oi.op = true ∧ ∀ j oj, ops[j]? = some oj → j ≠ i → listed.getD j true = false → (∀ e ∈ oj.after, Region.binds .any e = true → e.on ≠ i) → oi.apart ops oj = true ∧ (isB oj.op || isAl oj.op || (isPu oi.op && isSt oj.op)) = true) ∨
     ∀ j ∈ Region.ready .any ops listed, j = i) := by
  unfold okNow at h
  cases hi : ops[i]? with
  | none => simp [hi] at h
  | some oi =>
    simp only [hi, Bool.and_eq_true, Bool.or_eq_true] at h
    refine ⟨oi, rfl, by simpa using h.1, ?_⟩
    rcases h.2 with h2 | h2
    · refine .inl ⟨h2.1, fun j oj hj hne hun hno => ?_⟩
      have h3 := List.all_eq_true.1 h2.2 j (List.mem_range.2 (Array.getElem?_eq_some_iff.1 hj).1)
      simp only [hj, Bool.or_eq_true, hun, Bool.false_eq_true, or_false, Bool.and_eq_true] at h3
      rcases h3 with h3 | h3 | h3
      · exact absurd (Nat.eq_of_beq_eq_true h3) hne
      · obtain ⟨e, he, hb⟩ := Array.any_eq_true'.1 h3
        simp only [Bool.and_eq_true, beq_iff_eq] at hb
        exact absurd hb.2 (hno e he hb.1)
      · exact ⟨h3.1, by simpa using h3.2⟩
    · exact .inr fun j hj => Nat.eq_of_beq_eq_true (List.all_eq_true.1 h2 j hj)

theorem anyA_lex {Q : St → Prop} : ∀ (l : List Nat) (listed : Array Bool) (s : St), drawFrom ops l listed = true → runD P T E ops.toList l s Q → anyA P T E ops Q l.length listed s
  | [], listed, s, hB, h => ⟨by simpa [drawFrom] using hB, h⟩
  | k :: l, listed, s, hB, h => by
    simp only [drawFrom, Bool.and_eq_true] at hB
    obtain ⟨hok, hB'⟩ := hB
    obtain ⟨o, h0, hr, hcls⟩ := okNow_spec hok
    have hn : nth ops.toList k = some o := by rw [nth_eq]; simpa using h0
    simp only [runD_cons, hn] at h
    -- the step, without its splits
    have step : (gd s ops o = some true ∧ stD P T E s o fun s' => splitAt ops.toList k o.dst s' fun s' => runD P T E ops.toList l s' Q) ∨ (gd s ops o = some false ∧ runD P T E ops.toList l (s.putO o.dst .undef) Q) := by
      unfold gd
      cases hg : o.guard with
      | none => simp only [hg] at h; exact .inl ⟨rfl, stDF_out h⟩
      | some p =>
        obtain ⟨j, want⟩ := p
        simp only [hg] at h
        cases hv : gval s ops.toList j with
        | d q =>
          cases q with
          | bool b =>
            simp only [hv] at h
            cases hbw : (b == want) with
            | true => simp only [hbw] at h; exact .inl ⟨by simp [hv, hbw], stDF_out h⟩
            | false => simp only [hbw] at h; exact .inr ⟨by simp [hv, hbw], h⟩
          | _ => simp [hv] at h
        | undef => simp only [hv] at h; exact .inr ⟨by simp [hv], h⟩
        | _ => simp [hv] at h
    have onw : ∀ s', runD P T E ops.toList l s' Q → anyA P T E ops Q l.length (listed.setIfInBounds k true) s' := fun s' h' => anyA_lex l _ s' hB' h'
    rcases hcls with ⟨hb, hfree⟩ | honly
    · rcases step with ⟨hg, hst⟩ | ⟨hg, hst⟩
      · simp only [stD, hb] at hst
        obtain ⟨v, h1, h2⟩ := (valD_spl P T E s o.op _).1 hst
        exact anyA_first h0 hb l.length listed s hfree hr (.inl ⟨hg, h1⟩) (onw _ (splitAt_out h2))
      · exact anyA_first h0 hb l.length listed s hfree hr (.inr ⟨hg, rfl⟩) (onw _ hst)
    · refine ⟨fun hn => (by rw [hn] at hr; cases hr), fun j hj => ?_⟩
      have := honly j hj
      subst this
      unfold opG stG
      simp only [h0]
      rcases step with ⟨hg, hst⟩ | ⟨hg, hst⟩
      · simp only [hg]
        exact stD_mon P T E s o _ _ (fun s' h' => onw s' (splitAt_out h')) hst
      · simp only [hg]
        exact onw _ hst

variable (hT : ∀ t i, T t = some i → TI.of P t = some i) (hE : ∀ t, E.eq t = true → EqFact P t)
include hT hE
variable (hD : cx.dr = true → E.dr = true)
include hD
theorem valD_ok (h : RG cx γ s a w) {o : Oper} {K : AV → Prop} (hd : ∀ d, o.dst = some d → d < cx.N) (hl : valD P T E s o.op K) :
    OpOK P o a w fun a' w' => ∃ v, R cx (s.putO o.dst v) a' w' ∧ K v := by
  obtain ⟨dst, op, type, pos, after, guard⟩ := o
  cases op with
  | buildSlice t len parts =>
    have hl' : buildSliceE T s t len parts.toList (fun _ ei f => K (.d (.slc ei.size len f))) := hl
    obtain ⟨e, ei, f, xs, hK, h1, h2, h3, h4, h5, h6⟩ := buildSliceE_ok hT h hl'
    have hg := h.grow (below_alloc w (.cells xs.toArray e)) (fun _ => Nat.le_refl _)
    have hrep : Rep (w.alloc (.cells xs.toArray e)) (okOf cx s γ (w.alloc (.cells xs.toArray e))) (.slc ei.size len f) (.slice (some ⟨w.heap.size, 0, none⟩) len len) := by
      refine .inr ⟨⟨w.heap.size, 0, none⟩, len, rfl, Nat.le_refl _, by simp only [maxLen]; omega, fun i hi j hj => ?_⟩
      obtain ⟨u, hu, hr⟩ := h6 i hi j hj
      refine ⟨.inr ⟨.inl h.below.size, by simp, fun p o ho e' => ?_⟩, u, ?_, Rep.keep (fun b hb => ⟨?_, (below_alloc w _).block b (okOf_lt h hb)⟩) hr⟩
      · have := (blk_lt h ho e').2
        exact absurd this (by simp)
      · rw [add_lit', Nat.zero_add]
        have := heap_alloc_new w (.cells xs.toArray e)
        simp only [World.cell?, this]; simpa using hu
      · exact okOf_new h (below_alloc w _) b (.inl hb)
    refine .value (x := .slice (some ⟨w.heap.size, 0, none⟩) len len) (w' := w.alloc (.cells xs.toArray e)) (by simp [execOp, h1]) ⟨.d (.slc ei.size len f), ⟨γ, hg.putO (v := .d (.slc ei.size len f)) hd hrep (fun j hj => by simp [AV.refs] at hj)⟩, hK⟩
  | _ => exact (opE_ok hT hE hD h hd hl).mono fun a' w' ⟨v, h1, h2⟩ => ⟨v, ⟨γ, h1⟩, h2⟩
theorem stD_ok (h0 : R cx s a w) {o : Oper} (hd : ∀ d, o.dst = some d → d < cx.N) {K : St → Prop} (hl : stD P T E s o K) : OpOK P o a w fun a' w' => ∃ s', R cx s' a' w' ∧ K s' := by
  unfold stD at hl
  cases hb : isB o.op with
  | true =>
    simp only [hb] at hl
    obtain ⟨γ, h⟩ := h0
    exact (valD_ok hT hE hD h hd hl).mono fun a' w' ⟨v, h1, h2⟩ => ⟨_, h1, h2⟩
  | false =>
    simp only [hb] at hl
    split at hl
    · split at hl
      · exact stE_old hT hE hD h0 hd (fun fo args at' hop => by simp [hop, isB] at *) hl
      · exact hl.elim
    · exact stE_old hT hE hD h0 hd (fun fo args at' hop => by simp [hop, isB] at *) hl

theorem opG_ok (hF : FW F) (hN : dstsOK cx.N ops.toList = true) {Q : Exit → Act → World → Prop} {i : Nat} {K : St → Prop} (h : R cx s a w) (hl : opG P T E ops i K s) :
    wpOpIn F n P ops Q i (fun a' w' => ∃ s', R cx s' a' w' ∧ K s') a w := by
  unfold wpOpIn
  unfold opG at hl
  cases hi : ops[i]? with
  | none => simp only [hi] at hl ⊢; exact ⟨s, h, hl⟩
  | some o =>
    simp only [hi] at hl ⊢
    have hd := dstsOK_mem hN (o := o) (by simpa using Array.mem_of_getElem? hi)
    unfold stG at hl
    have go : stD P T E s o K → o.wpIn F n P a w (fun a' w' => ∃ s', R cx s' a' w' ∧ K s') Q := fun hl => OpOK.wpIn hF (stD_ok hT hE hD h hd hl)
    have no : K (s.putO o.dst .undef) → (∀ f, o.about P w a.eval = some f → F.fn f) ∧ ∃ s', R cx s' (a.put o.dst Go.undef) w ∧ K s' := fun hl => ⟨fun f _ => hF.fn f, _, put_undef h hd, hl⟩
    unfold gd at hl
    cases hg : o.guard with
    | none =>
      have : Region.wanted o (yielded ops a.tmps) = true := by simp [Region.wanted, hg]
      simp only [this, if_true]
      simp only [hg] at hl
      exact go hl
    | some p =>
      obtain ⟨j, want⟩ := p
      simp only [hg] at hl
      cases hv : gval s ops.toList j with
      | d q =>
        cases q with
        | bool b =>
          have hy := yield_bool (Fm := (· = cx)) ⟨_, rfl, h⟩ hv
          cases hbw : (b == want) with
          | true =>
            have hw : Region.wanted o (yielded ops a.tmps) = true := by
              have : b = want := by simpa using hbw
              simp [Region.wanted, hg, hy, this]
            simp only [hw, if_true]
            simp only [hv, hbw] at hl
            exact go hl
          | false =>
            have hw : Region.wanted o (yielded ops a.tmps) = false := by
              have : b ≠ want := by simpa using hbw
              simp [Region.wanted, hg, hy, this]
            simp only [hw, Bool.false_eq_true, if_false]
            simp only [hv, hbw] at hl
            exact no hl
        | _ => simp [hv] at hl
      | undef =>
        simp only [hv] at hl
        have hy := yield_undef (Fm := (· = cx)) ⟨_, rfl, h⟩ hv
        have hw : Region.wanted o (yielded ops a.tmps) = false := by simp [Region.wanted, hg, hy]
        simp only [hw, Bool.false_eq_true, if_false]
        exact no hl
      | _ => simp [hv] at hl

theorem anyA_ok (hF : FW F) (hN : dstsOK cx.N ops.toList = true) {Q : Exit → Act → World → Prop} {K : St → Prop} (hQ : ∀ s a w, R cx s a w → K s → Q .normal a w) :
    ∀ (fuel : Nat) (listed : Array Bool) {s : St} {a : Act} {w : World}, R cx s a w → anyA P T E ops K fuel listed s → wpAnyIn F n P .any ops Q fuel listed a w
  | 0, _, _, _, _, h, hl => ⟨hl.1, hQ _ _ _ h hl.2⟩
  | fuel + 1, _, _, _, _, h, hl => ⟨fun h0 => hQ _ _ _ h (hl.1 h0), fun i hi => wpOpIn_mono (fun a' w' ⟨s', h1, h2⟩ => anyA_ok hF hN hQ fuel _ h1 h2) (opG_ok hT hE hD hF hN h (hl.2 i hi))⟩

theorem draw_ok (hF : FW F) (hm : P.follows .mixedOrders = true) {id : Nat} (hN : dstsOK cx.N ops.toList = true) {Q : Exit → Act → World → Prop} {K : St → Prop} (hQ : ∀ s a w, R cx s a w → K s → Q .normal a w) (h : R cx s a w)
    {ord : List Nat} (hB : drawB ops ord = true) (hl : runD P T E ops.toList ord s K) : (Code.region id ops true).wpIn F n P Q a w := by
  obtain ⟨γ, h⟩ := h
  simp only [drawB, Bool.and_eq_true] at hB
  refine wpIn_region_any hm (anyA_ok hT hE hD hF hN hQ ops.size (Array.replicate ops.size false) (s := s) ⟨γ, h.drew⟩ ?_)
  have := anyA_lex (P := P) (T := T) (E := E) (Q := K) (ops := ops) ord (Array.replicate ops.size false) s hB.2 hl
  rwa [Nat.eq_of_beq_eq_true hB.1] at this
end
end Go.Pg
