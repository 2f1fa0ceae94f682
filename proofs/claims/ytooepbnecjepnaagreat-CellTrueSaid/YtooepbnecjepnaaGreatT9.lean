/- Texts joined and shortened by program. -/
import Derived.Test.YtooepbnecjepnaaGreatT3
set_option maxHeartbeats 4000000
set_option linter.all false
namespace Go.Pg
open Go.RowKit
def slK : AV -> Bool
 | .box _ o => Nat.beq o 0
 | .d _ => true
 | .agg _ => true
 | .tup _ => true
 | .nilsl => true
 | .roe .. => true
 | .any => true
 | _ => false
def okSl (sl : List (Nat × AV)) : Bool := sl.all fun p => slK p.2
def pin1 (v : Value) : AV -> AV
 | .box i _ => .pbox i v
 | x => x
def pinS (v : Nat -> Value) : List (Nat × AV) -> List (Nat × AV)
 | [] => []
 | (t, x) :: r => (t, pin1 (v t) x) :: pinS v r
theorem zcr (v : Nat -> Value) : ∀ (sl : List (Nat × AV)) (t : Nat), look (pinS v sl) t = (look sl t).map (pin1 (v t))
 | [], _ => rfl
 | (i, x) :: r, t => by
  simp only [pinS, look]
  cases h : Nat.beq t i with
  | true => have := Nat.eq_of_beq_eq_true h; subst this; rfl
  | false => exact zcr v r t
def hasBox (sl : List (Nat × AV)) (i : Nat) : Bool := sl.any fun p => match look sl p.1 with | some (.box j 0) => Nat.beq j i | _ => false
def ownAt (ob : List (Nat × Ob)) (i c : Nat) : Option Nat := match look ob i with
 | some (.box cs) => match nth cs c with
  | some (.own j) => some j
  | _ => none
 | _ => none
def okOb (sl : List (Nat × AV)) (rc : List (Nat × Nat)) (ob : List (Nat × Ob)) : Bool :=
 (ob.all fun p => match p.2 with
  | .box _ => hasBox sl p.1
  | .row .. => (rc.any fun q => match ownAt ob q.1 q.2 with | some j => Nat.beq j p.1 && hasBox sl q.1 | none => false)
  | .mp _ => false) &&
 (rc.all fun q => match ownAt ob q.1 q.2 with | some _ => true | none => false)
def Bs (sl : List (Nat × AV)) (a : Act) (b : Nat) : Prop := ∃ t i, look sl t = some (.box i 0) /\ a.tmps.getD t undef = .pointer (some ⟨b, 0, none⟩)
def Qs (sl : List (Nat × AV)) (rc : List (Nat × Nat)) (a : Act) (b c : Nat) : Prop := ∃ t i, look sl t = some (.box i 0) /\ a.tmps.getD t undef = .pointer (some ⟨b, 0, none⟩) /\ (i, c) ∈ rc
theorem zdI {sl : List (Nat × AV)} {i : Nat} (h : hasBox sl i = true) : ∃ t, look sl t = some (.box i 0) := by
 obtain ⟨p, _, hp⟩ := List.any_eq_true.1 h
 split at hp
 ·rename_i j hj
  have := Nat.eq_of_beq_eq_true hp
  subst this
  exact ⟨_, hj⟩
 ·cases hp
section
variable {cx : Cx} {γ : Nat -> Value} {a : Act} {w : World} {sl : List (Nat × AV)} {rc : List (Nat × Nat)} {ob : List (Nat × Ob)}
theorem ziI (h : RG cx γ (St.of sl ob) a w) {t i : Nat} (ht : look sl t = some (.box i 0)) : ∃ b, γ i = .pointer (some ⟨b, 0, none⟩) /\ Bs sl a b /\ a.tmps.getD t undef = .pointer (some ⟨b, 0, none⟩) := by
 have hm := h.slots t
 rw [show (St.of sl ob).sl t = (look sl t).getD .any from rfl, ht] at hm
 obtain ⟨b, h1, h2⟩ := hm
 exact ⟨b, h1, ⟨t, i, ht, h2⟩, h2⟩
theorem zqi (hok : okOb sl rc ob = true) : ∀ i ks, (St.of sl ob).ob i ≠ some (.mp ks) := fun i ks hi => by
 simp only [okOb, Bool.and_eq_true] at hok
 have h1 := List.all_eq_true.1 hok.1 (i, .mp ks) (zau hi)
 cases h1
theorem zh1 (h : RG cx γ (St.of sl ob) a w) (hok : okOb sl rc ob = true) {i : Nat} {p : Ob} (hi : (St.of sl ob).ob i = some p) {b : Nat} (e : blk (γ i) = some b) : ∃ cs T x, w.heap[b]? = some (.cells cs T x) := by
 cases p with
 | mp ks => exact (zqi hok i ks hi).elim
 | box cs =>
  obtain ⟨b', vs, T, h1, h2, h3, _⟩ := h.objs i _ hi
  rw [h1] at e; simp [blk] at e; subst e
  exact ⟨_, _, _, h3⟩
 | row e' k n f =>
  obtain ⟨xs, h1, _⟩ := h.objs i _ hi
  rcases h1.2 with ⟨h2, _⟩ | ⟨g, cap, cur, h2, _, h4, _⟩
  ·rw [h2] at e; simp [blk] at e
  ·rw [h2] at e; simp [blk] at e; subst e
   exact ⟨_, _, _, h4⟩
theorem zlZ (h : RG cx γ (St.of sl ob) a w) (hok : okOb sl rc ob = true) {i : Nat} {o : Ob} (hi : look ob i = some o) {k : Nat} (hk : blk (γ i) = some k) : Ow (Bs sl a) (Qs sl rc a) w k := by
 simp only [okOb, Bool.and_eq_true] at hok
 have h1 := List.all_eq_true.1 hok.1 (i, o) (zau hi)
 cases o with
 | box cs =>
  obtain ⟨t, ht⟩ := zdI h1
  obtain ⟨b, hb, hbs, _⟩ := ziI h ht
  rw [hb] at hk; simp [blk] at hk; subst hk
  exact .inl hbs
 | mp ks => cases h1
 | row e k' n f =>
  obtain ⟨⟨i', c⟩, hq, hp⟩ := List.any_eq_true.1 h1
  simp only at hp
  cases ho : ownAt ob i' c with
  | none => simp [ho] at hp
  | some j =>
   simp only [ho, Bool.and_eq_true] at hp
   have := Nat.eq_of_beq_eq_true hp.1
   subst this
   obtain ⟨t, ht⟩ := zdI hp.2
   obtain ⟨b, hb, hbs, hbt⟩ := ziI h ht
   unfold ownAt at ho
   cases hl : look ob i' with
   | none => simp [hl] at ho
   | some o' =>
    cases o' with
    | row e2 k2 n2 f2 => simp [hl] at ho
    | mp ks => simp [hl] at ho
    | box cs =>
     simp only [hl] at ho
     cases hn : nth cs c with
     | none => simp [hn] at ho
     | some v =>
      cases v with
      | own j' =>
       simp only [hn, Option.some.injEq] at ho; subst ho
       obtain ⟨b', vs, T, g1, g2, g3, g4⟩ := h.objs i' _ hl
       rw [hb] at g1
       obtain rfl : b = b' := by simpa using g1
       rw [zap] at hn
       obtain ⟨u, hu, hm, _⟩ := g4.get c _ hn
       refine .inr ⟨b, c, u, hbs, ⟨t, i', ht, hbt, hq⟩, ?_, ?_⟩
       ·simp [World.cell?, g3, hu]
       ·rw [show u = γ j' from hm]; exact hk
      | _ => simp [hn] at ho
theorem zes (h : RG cx γ (St.of sl ob) a w) (hok : okOb sl rc ob = true) (hsr : ∀ t i, look sl t = some (.box i 0) -> ∃ cs, look ob i = some (.box cs)) {k : Nat} (hk : Ow (Bs sl a) (Qs sl rc a) w k) : ∃ i o, look ob i = some o /\ blk (γ i) = some k := by
 rcases hk with ⟨t, i, ht, hb⟩ | ⟨b, c, v, _, ⟨t, i, ht, hb, hq⟩, hc, hv⟩
 ·obtain ⟨b, h1, _, h2⟩ := ziI h ht
  obtain ⟨cs, hcs⟩ := hsr t i ht
  rw [hb] at h2
  refine ⟨i, _, hcs, ?_⟩
  rw [h1]; simp only [blk]; simpa using h2.symm
 ·obtain ⟨b', h1, _, h2⟩ := ziI h ht
  rw [hb] at h2
  obtain rfl : b = b' := by simpa using h2
  simp only [okOb, Bool.and_eq_true] at hok
  have h3 := List.all_eq_true.1 hok.2 (i, c) hq
  simp only at h3
  cases ho : ownAt ob i c with
  | none => simp [ho] at h3
  | some j =>
   unfold ownAt at ho
   cases hl : look ob i with
   | none => simp [hl] at ho
   | some o' =>
    cases o' with
    | row e2 k2 n2 f2 => simp [hl] at ho
    | mp ks => simp [hl] at ho
    | box cs =>
     simp only [hl] at ho
     cases hn : nth cs c with
     | none => simp [hn] at ho
     | some av =>
      cases av with
      | own j' =>
       simp only [hn, Option.some.injEq] at ho; subst ho
       obtain ⟨b', vs, T, g1, g2, g3, g4⟩ := h.objs i _ hl
       rw [h1] at g1
       obtain rfl : b = b' := by simpa using g1
       have hn' := hn
       rw [zap] at hn
       obtain ⟨u, hu, hm, _⟩ := g4.get c _ hn
       simp only [World.cell?, g3, Option.isSome_none, Bool.false_eq_true, if_false] at hc
       have : u = v := by
        have : vs.toArray[c]? = some v := hc
        simp only [List.getElem?_toArray] at this
        rw [this] at hu; exact (Option.some.inj hu).symm
       subst this
       have hj := h.refs i cs hl (.own j') (List.mem_of_getElem? hn) j' (by simp [AV.refs])
       obtain ⟨o, ho⟩ := Option.isSome_iff_exists.1 hj
       exact ⟨j', o, ho, by rw [<- show u = γ j' from hm]; exact hv⟩
      | _ => simp [hn] at ho
theorem zeE (h : RG cx γ (St.of sl ob) a w) {t i : Nat} (ht : look sl t = some (.box i 0)) : ∃ cs, look ob i = some (.box cs) := by
 have hs := h.srefs t i (by rw [show (St.of sl ob).sl t = (look sl t).getD .any from rfl, ht]; simp [AV.refs])
 obtain ⟨o, ho⟩ := Option.isSome_iff_exists.1 hs
 cases o with
 | box cs => exact ⟨cs, ho⟩
 | mp ks =>
  exfalso
  obtain ⟨b, h1, _⟩ := ziI h ht
  obtain ⟨b', es, c, h2, _⟩ := h.objs i _ ho
  rw [h1] at h2; cases h2
 | row e k n f =>
  exfalso
  obtain ⟨b, h1, _⟩ := ziI h ht
  obtain ⟨xs, h2, _⟩ := h.objs i _ ho
  rw [h1] at h2
  rcases h2.2 with ⟨h3, _⟩ | ⟨g, cap, cur, h3, _⟩ <;> cases h3
def Rest (γ : Nat -> Value) (ob : List (Nat × Ob)) (w : World) (k : Nat) (o : Obj) : Prop := w.heap[k]? = some o /\ ∀ i p, look ob i = some p -> blk (γ i) ≠ some k
theorem RG.round {γ2 : Nat -> Value} {ob' : List (Nat × Ob)} {a2 : Act} {w2 : World} {cx2 : Cx} (hsl : okSl sl = true) (h : RG cx γ (St.of sl ob) a w) (hd : a.defers = []) (h2 : RG cx2 γ2 (St.of (pinS (fun t => a.tmps.getD t undef) sl) ob') a2 w2)
  (e0 : cx2.w0 = cx.w0) (e1 : cx2.okA = cx.okA) (e2 : cx2.lent = cx.lent) (e3 : cx2.dr = cx.dr) (e4 : cx.least <= cx2.least) (hH : ∀ k o, Rest γ ob w k o -> ∃ o', cx2.hold k o' /\ ((∃ c T x, o = .cells c T x) -> o' = o)) (hH2 : ∀ k o, cx.hold k o -> cx2.hold k o) : RG cx γ2 (St.of sl ob') a w2 := by
 have hO : cx2.O = cx.O := by unfold Cx.O; rw [e0, e2]
 have hokOf : ∀ b, okOf cx2 (St.of (pinS (fun t => a.tmps.getD t undef) sl) ob') γ2 w2 b -> okOf cx (St.of sl ob') γ2 w2 b := fun b hb => by
  rcases hb with h1 | ⟨h1, h3, h4⟩
  ·exact .inl (by rw [<- e1]; exact h1)
  ·exact .inr ⟨by rw [<- hO]; exact h1, h3, h4⟩
 have hk : ∀ b, okOf cx (St.of sl ob) γ w b -> okOf cx (St.of sl ob') γ2 w2 b /\ Kpt w w2 b := fun b hb => by
  have hlt := zal h hb
  have hne : ∀ i p, look ob i = some p -> blk (γ i) ≠ some b := fun i p hi => zc1 h hb hi
  have ho : w.heap[b]? = some w.heap[b] := Array.getElem?_eq_getElem hlt
  generalize w.heap[b] = o at ho
  obtain ⟨o', ho1, ho2⟩ := hH b o ⟨ho, hne⟩
  have hh := h2.hold b o' ho1
  refine ⟨?_, fun ad u hb' hcell => ?_⟩
  ·rcases hb with h1 | ⟨h1, _, _⟩
   ·exact .inl h1
   ·exact .inr ⟨h1, (Array.getElem?_eq_some_iff.1 hh.1).1, hh.2⟩
  ·subst hb'
   by_cases hc : ∃ c T x, o = .cells c T x
   ·have := ho2 hc
    subst this
    rw [World.cell?_of_block (w := w) (by rw [hh.1, ho])]; exact hcell
   ·exfalso
    simp only [World.cell?, ho] at hcell
    cases o with
    | cells c T x => exact hc ⟨_, _, _, rfl⟩
    | _ => cases hcell
 exact {
  defers := ⟨fun _ => hd, [], hd, List.nodup_nil, fun D hD => by cases hD⟩
  size := h.size, okA := h.okA, lent := h.lent
  below := by
   have := h2.below
   exact ⟨by rw [<- e0]; exact this.os, by rw [<- e0]; exact this.tape, by rw [<- e0]; exact this.output, by rw [<- e0, <- e3]; exact this.drawn, by rw [<- e0]; exact this.size, by rw [<- e0, <- e2]; exact this.block⟩
  hold := fun k o hk => h2.hold k o (hH2 k o hk)
  least := Nat.le_trans e4 h2.least
  objs := fun i o hi => by
   have := h2.objs i o hi
   rw [hO] at this
   exact this.keep0 (fun b hb => ⟨hokOf b hb, zfU rfl⟩) rfl (fun _ _ _ _ _ _ => rfl) fun _ _ => rfl
  refs := h2.refs, sep := h2.sep
  slots := fun t => by
   show M w2 _ γ2 ((look sl t).getD .any) _
   have h1 := h.slots t
   rw [show (St.of sl ob).sl t = (look sl t).getD .any from rfl] at h1
   have h3 := h2.slots t
   rw [show (St.of (pinS (fun t => a.tmps.getD t undef) sl) ob').sl t = (look (pinS (fun t => a.tmps.getD t undef) sl) t).getD .any from rfl, zcr] at h3
   cases hl : look sl t with
   | none => exact trivial
   | some v =>
    have hK := List.all_eq_true.1 hsl (t, v) (zau hl)
    rw [hl] at h1 h3
    have keep : v.refs = [] -> M w2 (okOf cx (St.of sl ob') γ2 w2) γ2 v (a.tmps.getD t undef) := fun hr => M.keep0 hk (fun i hi => by rw [hr] at hi; cases hi) h1
    cases v with
    | box i o =>
     have := Nat.eq_of_beq_eq_true hK
     subst this
     obtain ⟨⟨b, g1, g2⟩, g3⟩ := h3
     exact ⟨b, g1, by rw [<- g3]; exact g2⟩
    | d x => exact keep rfl
    | agg x => exact keep rfl
    | tup x => exact keep rfl
    | nilsl => exact keep rfl
    | roe m g => exact keep rfl
    | any => exact trivial
    | _ => cases hK
  srefs := fun t j hj => by
   have h3 := h2.srefs t
   rw [show (St.of (pinS (fun t => a.tmps.getD t undef) sl) ob').sl t = (look (pinS (fun t => a.tmps.getD t undef) sl) t).getD .any from rfl, zcr] at h3
   have hj' : j ∈ ((look sl t).getD .any).refs := hj
   cases hl : look sl t with
   | none => rw [hl] at hj'; cases hj'
   | some v =>
    rw [hl] at hj' h3
    refine h3 j ?_
    cases v <;> first | exact hj' | cases hj'
  gho := fun m hm => by
   exfalso
   have hm' : (look sl G).getD .any = .gho m := hm
   cases hl : look sl G with
   | none => rw [hl] at hm'; cases hm'
   | some v =>
    rw [hl] at hm'
    have hK := List.all_eq_true.1 hsl (G, v) (zau hl)
    rw [show (some v).getD AV.any = v from rfl] at hm'
    rw [hm'] at hK; cases hK
  ng := h.ng }
end
theorem zc5 {F : Fence} (hF : FW F) {n m : Nat} {P : Program} {c : Code} {Q : Exit -> Act -> World -> Prop} {a : Act} {w : World} (h : c.wpIn F n P Q a w) : c.wpIn F m P Q a w :=
 fun b k cs hro hb _ => h b k cs hro hb (fun d hd => by rw [hF.depth] at hd; cases hd)
def psl : List Nat -> List V1 -> List (Nat × AV)
 | p :: ps, x :: xs => (p, avOf x) :: psl ps xs
 | _, _ => []
theorem zoq {w : World} {ok : Nat -> Prop} {γ : Nat -> Value} {N : Nat} : ∀ (ps : List Nat) (xs : List V1) (vs : List Value) (tmps : Array Value), ps.Nodup -> (∀ p ∈ ps, p < tmps.size) -> ps.length = xs.length -> All2 (Rep1 w ok) xs vs ->
  ((ps.zip vs).foldl (fun t (p, v) => t.setIfInBounds p v) tmps).size = tmps.size /\
  (∀ t x, look (psl ps xs) t = some x -> x.refs = [] /\ (∀ m, x ≠ .gho m) /\ M w ok γ x (((ps.zip vs).foldl (fun t (p, v) => t.setIfInBounds p v) tmps).getD t undef)) /\
  (∀ t, look (psl ps xs) t = none -> ((ps.zip vs).foldl (fun t (p, v) => t.setIfInBounds p v) tmps).getD t undef = tmps.getD t undef)
 | [], [], _, tmps, _, _, _, _ => ⟨rfl, (fun t x h => by cases h), fun t _ => rfl⟩
 | p :: ps, x :: xs, _, tmps, hnd, hlt, hl, .cons (y := v) (ys := vs) h1 h2 => by
  have hp := hlt p (by simp)
  obtain ⟨g1, g2, g3⟩ := zoq (w := w) (ok := ok) (γ := γ) (N := N) ps xs vs (tmps.setIfInBounds p v) (List.nodup_cons.1 hnd).2 (fun q hq => by simpa using hlt q (by simp [hq])) (by simpa using hl) h2
  have hno : look (psl ps xs) p = none := by
   cases hq : look (psl ps xs) p with
   | none => rfl
   | some y =>
    exfalso
    have : ∀ (ps : List Nat) (xs : List V1) (t : Nat) (y : AV), look (psl ps xs) t = some y -> t ∈ ps := by
     intro ps
     induction ps with
     | nil => intro xs t y h; cases h
     | cons q ps ih =>
      intro xs t y h
      cases xs with
      | nil => cases h
      | cons z zs =>
       simp only [psl, look] at h
       cases hb : Nat.beq t q with
       | true => rw [Nat.eq_of_beq_eq_true hb]; exact .head _
       | false => rw [hb] at h; exact .tail _ (ih _ _ _ h)
    exact (List.nodup_cons.1 hnd).1 (this _ _ _ _ hq)
  refine ⟨by simpa using g1, fun t y hy => ?_, fun t ht => ?_⟩
  ·simp only [psl, look] at hy
   cases hb : Nat.beq t p with
   | true =>
    have := Nat.eq_of_beq_eq_true hb
    subst this
    rw [hb] at hy; cases hy
    refine ⟨zba x, fun m => ?_, ?_⟩
    ·cases x with
     | d z => cases z <;> simp [avOf]
     | agg z => simp [avOf]
    ·simp only [List.zip_cons_cons, List.foldl_cons]
     rw [g3 t hno, Array.getD_eq_getD_getElem?, Array.getElem?_setIfInBounds_self_of_lt hp]
     exact zdC.2 h1
   | false => rw [hb] at hy; exact g2 t y hy
  ·simp only [psl, look] at ht
   cases hb : Nat.beq t p with
   | true => rw [hb] at ht; cases ht
   | false =>
    rw [hb] at ht
    have hne : t ≠ p := Nat.ne_of_beq_eq_false hb
    simp only [List.zip_cons_cons, List.foldl_cons]
    rw [g3 t ht, Array.getD_eq_getD_getElem?, Array.getD_eq_getD_getElem?, Array.getElem?_setIfInBounds_ne (fun e => hne e.symm)]
 | [], _ :: _, _, _, _, _, hl, _ => by simp at hl
 | _ :: _, [], _, _, _, _, hl, _ => by simp at hl
def JK (K : KK) (sl : List (Nat × AV)) (ob : List (Nat × Ob)) : Code -> Prop
 | .ret => K .ret (St.of sl ob)
 | .exit id => K (.exit id) (St.of sl ob)
 | .goto l => K (.goto l) (St.of sl ob)
 | _ => False
def Kb (K : KK) (sl : List (Nat × AV)) (rc : List (Nat × Nat)) (v : Nat -> Value) {τ : Type} (ob : List τ -> List (Nat × Ob)) (Iv : List τ -> Prop) (pre : List τ) (x : τ) : KK := fun e s => match e with
 | .normal => Iv (pre ++ [x]) /\ Weak s (pinS v sl) (ob (pre ++ [x]))
 | .ret => ∃ ob', okOb sl rc ob' = true /\ Weak s (pinS v sl) ob' /\ K .ret (St.of sl ob')
 | .exit id => ∃ ob', okOb sl rc ob' = true /\ Weak s (pinS v sl) ob' /\ K (.exit id) (St.of sl ob')
 | .goto l => ∃ ob', okOb sl rc ob' = true /\ Weak s (pinS v sl) ob' /\ K (.goto l) (St.of sl ob')
 | _ => False
def Ka (P : Program) (T : TT) (E : Env) (K : KK) (sl : List (Nat × AV)) (rc : List (Nat × Nat)) (v : Nat -> Value) {τ : Type} (ob : List τ -> List (Nat × Ob)) (Iv : List τ -> Prop) (body : Code) (pre : List τ) (x : τ) : KK := fun e s => match e with
 | .normal => awp P T E body s (Kb K sl rc v ob Iv pre x)
 | _ => False
section
variable {P : Program} {T : TT} {E : Env} (hT : ∀ t i, T t = some i -> TI.of P t = some i) (hE : ∀ t, E.eq t = true -> EqFact P t) (hm : P.follows .mixedOrders = true)
include hT hE hm
theorem zel {cx : Cx} (hdr : cx.dr = false) {K : KK} {sl : List (Nat × AV)} {rc : List (Nat × Nat)} {τ : Type} {enc : τ -> List V1} {encV : τ -> List Value} {xs : List τ} {ob : List τ -> List (Nat × Ob)} {ps : Array Tmp} {as body : Code} {fn : FuncId} {D l g : Nat} {lb : List Value}
    {a : Act} (hd : a.defers = []) (hsl : okSl sl = true) (hob : ∀ pre, okOb sl rc (ob pre) = true) (henc : ∀ x (w : World) ok, All2 (Rep1 w ok) (enc x) (encV x)) (hps : ∀ x, (enc x).length = ps.size) (hnd : ps.toList.Nodup) (hpN : ∀ p ∈ ps.toList, p < cx.N) (hN1 : codeN cx.N as = true) (hN2 : codeN cx.N body = true)
    {Iv : List τ -> Prop} (hI0 : Iv [])
    (hbody : ∀ (v : Nat -> Value) pre x, pre ++ [x] <+: xs -> Iv pre -> awp P T E as (St.of (psl ps.toList (enc x) ++ pinS v sl) (ob pre)) (Ka P T E K sl rc v ob Iv body pre x))
    {w W1 : World} (hw : Below w.heap.size w W1) {γ1 : Nat -> Value} (h1 : RG cx γ1 (St.of sl (ob [])) a W1) {rec : LoopState -> Option Code -> Loop} (hrec : rec = fun st pe => { state := st, pending := pe, fn, tmps := a.tmps, params := ps, assign := as, body, defers := D })
    (hl : W1.heap[l]? = some (.loop (rec .ready none))) (hl0 : cx.w0.heap.size <= l) (hlw : w.heap.size <= l) (hlh : ∀ p, ¬ cx.hold l p) (Mk : Nat -> Obj -> Prop) (hMk : ∀ k o, Mk k o -> W1.heap[k]? = some o /\ o.isCells = false /\ k ≠ l)
    (hBw : ∀ b, Bs sl a b -> b < w.heap.size) (hseq : SeqX Fence.wide 4 P g lb.toArray (fun x => (encV x).toArray) (KpB (Bs sl a) (Qs sl rc a)) xs w) :
    CallsIn Fence.wide 4 P g (#[.func (.yield l) #[] #[]] ++ lb.toArray) W1 fun e W' => (∃ v, e = .returned v) /\
      ((Iv xs /\ ∃ γ, RG cx γ (St.of sl (ob xs)) a W' /\ W'.heap[l]? = some (.loop (rec .ready none)) /\ ∀ k o, Mk k o -> W'.heap[k]? = some o) \/
       (∃ c ob' γ, JK K sl ob' c /\ RG cx γ (St.of sl ob') a W' /\ W'.heap[l]? = some (.loop (rec .done (some c))) /\ ∀ k o, Mk k o -> W'.heap[k]? = some o)) := by
  have hN : cx.N <= G := h1.ng
  have hlW1 : l < W1.heap.size := (Array.getElem?_eq_some_iff.1 hl).1
  have abide : ∀ {ob' : List (Nat × Ob)} {γ : Nat -> Value} {W W' : World} {row : Option Nat}, okOb sl rc ob' = true -> RG cx γ (St.of sl ob') a W -> W.grownBy W' row -> (∀ r, row = some r -> W1.heap.size <= r /\ ∃ o : Obj, W.heap[r]? = some o /\ o.isWalk = true) -> RG cx γ (St.of sl ob') a W' := fun {ob' γ W W' row} hok h hg hr => by
    cases row with
    | none => exact h.grow ⟨hg.os, hg.tape, hg.output, hg.size, fun k hk => hg.block k hk (by simp)⟩ (fun e => by rw [hdr] at e; cases e)
    | some r =>
      obtain ⟨hb, o, ho, hwk⟩ := hr r rfl
      exact h.other hg (fun e => by rw [hdr] at e; cases e) ho (Obj.not_cells_of_walk hwk) (.inr (zqi hok)) (by rw [hd]; simp) (fun p hp => by have := zbw h1 hp; omega) (Nat.le_trans h1.below.size hb)
  have keepO : ∀ {W W' : World} {row : Option Nat} {k : Nat} {o : Obj}, W.grownBy W' row -> (∀ r, row = some r -> W1.heap.size <= r /\ ∃ o : Obj, W.heap[r]? = some o /\ o.isWalk = true) -> k < W1.heap.size -> W.heap[k]? = some o -> W'.heap[k]? = some o := fun {W W' row k o} hg hr hk ho => by
    rw [hg.block k (Array.getElem?_eq_some_iff.1 ho).1 fun e => by have := (hr k e.symm).1; omega]; exact ho
  have hMl : ∀ k o, Mk k o -> k < W1.heap.size := fun k o h => (Array.getElem?_eq_some_iff.1 (hMk k o h).1).1
  let J : List τ -> World -> Prop := fun pre W => Iv pre /\ ∃ γ, RG cx γ (St.of sl (ob pre)) a W /\ W.heap[l]? = some (.loop (rec .ready none)) /\ ∀ k o, Mk k o -> W.heap[k]? = some o
  let Jx : List τ -> World -> Prop := fun _ W => ∃ c ob' γ, okOb sl rc ob' = true /\ JK K sl ob' c /\ RG cx γ (St.of sl ob') a W /\ W.heap[l]? = some (.loop (rec .done (some c))) /\ ∀ k o, Mk k o -> W.heap[k]? = some o
  refine (hseq l J Jx W1 hw ?_ ?_ ?_ ?_).mono ?_
  · rintro pre W W' row ⟨hI, γ, h, hl', hk⟩ hg hr
    exact ⟨hI, γ, abide (hob _) h hg hr, keepO hg hr hlW1 hl', fun k o hko => keepO hg hr (hMl k o hko) (hk k o hko)⟩
  · rintro pre W W' row ⟨c, ob', γ, hq, hj, h, hl', hk⟩ hg hr
    exact ⟨c, ob', γ, hq, hj, abide hq h hg hr, keepO hg hr hlW1 hl', fun k o hko => keepO hg hr (hMl k o hko) (hk k o hko)⟩
  · rintro pre x W ⟨hI, γ, h, hlW, hkW⟩ hlen
    have hlt : l < W.heap.size := (Array.getElem?_eq_some_iff.1 hlW).1
    have hy := run_yield (P := P) (args := (encV x).toArray) hlW (by rw [hrec]; simp [<- (henc x W (fun _ => True)).length, hps x])
    rw [hrec] at hy
    refine ⟨fn, _, as, body, hy, roundIn_of_wpIn trivial ?_⟩
    have hfold : (ps.zip (encV x).toArray).foldl (fun (tmps : Array Value) (p : Tmp × Value) => tmps.setIfInBounds p.1 p.2) a.tmps = (ps.toList.zip (encV x)).foldl (fun t (p, v) => t.setIfInBounds p v) a.tmps := by
      rw [<- Array.foldl_toList, Array.toList_zip]
    let v : Nat -> Value := fun t => a.tmps.getD t undef
    let H : Nat -> Obj -> Prop := Rest γ (ob pre) W
    let cxA : Cx := ⟨cx.w0, cx.okA, cx.N, cx.lent, H, W.heap.size, cx.dr, none, false⟩
    obtain ⟨p1, p2, p3⟩ := zoq (w := W) (ok := okOf cx (St.of sl (ob pre)) γ W) (γ := γ) (N := cx.N) ps.toList (enc x) (encV x) a.tmps hnd (fun p hp => by rw [h.size]; exact hpN p hp) (by rw [Array.length_toList, hps x]) (henc x W _)
    let sl1 := psl ps.toList (enc x) ++ pinS v sl
    have lk : ∀ t, look sl1 t = match look (psl ps.toList (enc x)) t with | some y => some y | none => (look sl t).map (pin1 (v t)) := fun t => by
      simp only [sl1, zcs, zcr]
      cases look (psl ps.toList (enc x)) t <;> rfl
    have hA : RG cxA γ (St.of sl1 (ob pre)) { tmps := (ps.toList.zip (encV x)).foldl (fun t (p, v) => t.setIfInBounds p v) a.tmps, defers := [] } W := {
      defers := ⟨fun _ => rfl, [], rfl, List.nodup_nil, fun D hD => by cases hD⟩
      size := p1.trans h.size
      okA := h.okA, lent := h.lent
      below := ⟨h.below.os, h.below.tape, h.below.output, h.below.drawn, h.below.size, h.below.block⟩
      hold := fun k o hk => hk
      least := Nat.le_refl _
      objs := h.objs, refs := h.refs, sep := h.sep
      slots := fun t => by
        show M W _ γ ((look sl1 t).getD .any) _
        rw [lk]
        cases hp : look (psl ps.toList (enc x)) t with
        | some y => exact (p2 t y hp).2.2
        | none =>
          have h3 := p3 t hp
          show M W _ γ (((look sl t).map (pin1 (v t))).getD .any) (Array.getD _ t undef)
          have h4 := h.slots t
          rw [show (St.of sl (ob pre)).sl t = (look sl t).getD .any from rfl] at h4
          cases hq : look sl t with
          | none => exact trivial
          | some y =>
            rw [hq] at h4
            rw [show Array.getD ((ps.toList.zip (encV x)).foldl (fun t (p, v) => t.setIfInBounds p v) a.tmps) t undef = a.tmps.getD t undef from h3]
            have hK := List.all_eq_true.1 hsl (t, y) (zau hq)
            cases y with
            | box i o =>
              have := Nat.eq_of_beq_eq_true hK
              subst this
              exact ⟨h4, rfl⟩
            | _ => first | exact h4 | cases hK
      srefs := fun t j hj => by
        have hj' : j ∈ ((look sl1 t).getD .any).refs := hj
        rw [lk] at hj'
        cases hp : look (psl ps.toList (enc x)) t with
        | some y => rw [hp] at hj'; rw [show (some y).getD AV.any = y from rfl, (p2 t y hp).1] at hj'; cases hj'
        | none =>
          rw [hp] at hj'
          refine h.srefs t j ?_
          show j ∈ ((look sl t).getD .any).refs
          cases hq : look sl t with
          | none => simp only [hq] at hj'; exact hj'
          | some y => simp only [hq] at hj'; cases y <;> exact hj'
      gho := fun m hm' => by
        exfalso
        have hm2 : (look sl1 G).getD .any = .gho m := hm'
        rw [lk] at hm2
        cases hp : look (psl ps.toList (enc x)) G with
        | some y => rw [hp] at hm2; exact (p2 G y hp).2.1 m hm2
        | none =>
          simp only [hp] at hm2
          cases hq : look sl G with
          | none => rw [hq] at hm2; cases hm2
          | some y =>
            rw [hq] at hm2
            have hK := List.all_eq_true.1 hsl (G, y) (zau hq)
            cases y <;> first | (simp [slK] at hK; done) | cases hm2
      ng := hN }
    have hDf : ∀ (c' : Cx), c'.dr = cx.dr -> ∀ q, q = c' -> q.dr = true -> E.dr = true := fun c' e q hq hq' => by rw [hq, e, hdr] at hq'; cases hq'
    have hHl : H l (.loop (rec .ready none)) := ⟨hlW, fun i p hi e => by
      obtain ⟨_, _, ⟨cs, T', x', hc⟩ | ⟨cs, x', hc⟩⟩ := zaU (h.objs i p hi) e
      · rw [hlW] at hc; cases hc
      · rw [hlW] at hc; cases hc⟩
    have hHk : ∀ k o, Mk k o -> H k o := fun k o hko => ⟨hkW k o hko, fun i p hi e => by
      have hcl := zh1 h (hob _) hi e
      obtain ⟨cs, T', x', hc⟩ := hcl
      rw [hkW k o hko] at hc; cases hc
      exact absurd (hMk k _ hko).2.1 (by simp [Obj.isCells])⟩
    rw [show (ps.zip (encV x).toArray).foldl (fun (tmps : Array Value) (x : Tmp × Value) => match x with | (t, a) => tmps.setIfInBounds t a) a.tmps = (ps.toList.zip (encV x)).foldl (fun t (p, v) => t.setIfInBounds p v) a.tmps from hfold]
    refine zbc (Fm := (· = cxA)) (N := cx.N) hT hE (fun c hc => by rw [hc]) (hDf cxA rfl) (YLaw.none rfl) (.inr ⟨l, rfl⟩) (fun c hc hn => by rw [hc] at hn; cases hn) (fun c hc => by rw [hc]; exact .inr ⟨l, _, rfl, hHl⟩) hm as hN1 (fun e s1 a1 W2 hR hk => ?_) ⟨cxA, rfl, γ, hA⟩ (hbody v pre x hlen hI)
    obtain ⟨_, rfl, γ2, h2⟩ := hR
    cases e with
    | normal =>
      have hl2 := (h2.hold l _ hHl).1
      have hlt2 : l < W2.heap.size := (Array.getElem?_eq_some_iff.1 hl2).1
      refine ⟨_, run_beginRound hl2 (by rw [hrec]), ?_⟩
      let W3 := W2.putObj l (.loop { rec .ready none with state := .busy })
      have hl3 : W3.heap[l]? = some (.loop { rec .ready none with state := .busy }) := World.putObj_heap_same hlt2
      let HB : Nat -> Obj -> Prop := fun k o => (k ≠ l /\ H k o) \/ (k = l /\ o = .loop { rec .ready none with state := .busy })
      let cxB : Cx := ⟨cx.w0, cx.okA, cx.N, cx.lent, HB, W.heap.size, cx.dr, none, false⟩
      have h2' : RG ⟨cx.w0, cx.okA, cx.N, cx.lent, fun k o => k ≠ l /\ H k o, W.heap.size, cx.dr, none, false⟩ γ2 s1 { tmps := a1.tmps, defers := a1.defers } W2 := {
        defers := h2.defers, size := h2.size, okA := h2.okA, lent := h2.lent, below := ⟨h2.below.os, h2.below.tape, h2.below.output, h2.below.drawn, h2.below.size, h2.below.block⟩
        hold := fun k o hk => h2.hold k o hk.2, least := h2.least, objs := h2.objs, refs := h2.refs, sep := h2.sep, slots := h2.slots, srefs := h2.srefs, gho := h2.gho, ng := h2.ng }
      have hml : mark l ∉ a1.defers := fun hmm => by
        obtain ⟨_, ms, e1, _, e3⟩ := h2.defers
        rw [e1] at hmm
        obtain ⟨E', hE', he⟩ := List.mem_map.1 hmm
        have : E' = l := by simp only [mark, Deferred.mk.injEq, Target.collected.injEq, and_true] at he; exact he
        subst this
        have := (e3 E' hE').2
        rw [hl2] at this; cases this
      have h3 := h2'.other (grownBy_putObj' W2 l (.loop { rec .ready none with state := .busy })) (fun _ => Nat.le_refl _) hl2 rfl (.inl fun _ _ e => by cases e) hml (fun p hp => hp.1 rfl) hl0
      have hnl : ∀ i p, s1.ob i = some p -> blk (γ2 i) ≠ some l := (h2.hold l _ hHl).2
      have hB : RG cxB γ2 s1 a1 W3 := {
        defers := h3.defers, size := h3.size, okA := h3.okA, lent := h3.lent, below := ⟨h3.below.os, h3.below.tape, h3.below.output, h3.below.drawn, h3.below.size, h3.below.block⟩
        hold := fun k o hk => by
          rcases hk with hk | ⟨rfl, rfl⟩
          · exact h3.hold k o hk
          · exact ⟨hl3, hnl⟩
        least := h3.least, objs := h3.objs, refs := h3.refs, sep := h3.sep, slots := h3.slots, srefs := h3.srefs, gho := h3.gho, ng := h3.ng }
      refine zbc (Fm := (· = cxB)) (N := cx.N) hT hE (fun c hc => by rw [hc]) (hDf cxB rfl) (YLaw.none rfl) (.inr ⟨l, rfl⟩) (fun c hc hn => by rw [hc] at hn; cases hn) (fun c hc => by rw [hc]; exact .inr ⟨l, _, rfl, .inr ⟨rfl, rfl⟩⟩) hm body hN2 (fun e s2 a3 W4 hR hk4 => ?_) ⟨cxB, rfl, γ2, hB⟩ hk
      obtain ⟨_, rfl, γ3, h4⟩ := hR
      have fin : ∀ (ob' : List (Nat × Ob)), okOb sl rc ob' = true -> Weak s2 (pinS v sl) ob' -> ∃ γ4, RG cx γ4 (St.of sl ob') a W4 /\ KpB (Bs sl a) (Qs sl rc a) W W4 /\ W4.heap[l]? = some (.loop { rec .ready none with state := .busy }) /\ ∀ k o, Mk k o -> W4.heap[k]? = some o := fun ob' hok' hwk => by
        obtain ⟨γ4, h5, _⟩ := h4.weakL hwk
        have hr := h.round (γ2 := γ4) (ob' := ob') (a2 := a3) (w2 := W4) (cx2 := cxB) hsl hd h5 rfl rfl rfl rfl h.least (fun k o hko => by
          by_cases e : k = l
          · subst e
            refine ⟨_, .inr ⟨rfl, rfl⟩, fun ⟨c, T', x', hc⟩ => ?_⟩
            have := hko.1
            rw [hlW] at this; cases this; cases hc
          · exact ⟨o, .inl ⟨e, hko⟩, fun _ => rfl⟩) (fun k o hk => .inl ⟨fun e => hlh o (e ▸ hk), h.hold k o hk⟩)
        refine ⟨γ4, hr, ⟨h5.least, fun k hk => ?_, fun k o hk hc hn => ?_⟩, (h5.hold l _ (.inr ⟨rfl, rfl⟩)).1, fun k o hko => (h5.hold k o (.inl ⟨(hMk k o hko).2.2, hHk k o hko⟩)).1⟩
        · obtain ⟨i, o, hi, hbi⟩ := zes hr hok' (fun t i ht => zeE hr ht) hk
          have hk4 := (zar hr hi hbi).2
          by_cases hkW : k < W.heap.size
          · by_cases hown : ∃ i p, look (ob pre) i = some p /\ blk (γ i) = some k
            · obtain ⟨i', p, hi', hb'⟩ := hown
              exact .inl (zlZ h (hob pre) hi' hb')
            · exfalso
              have ho : W.heap[k]? = some W.heap[k] := Array.getElem?_eq_getElem hkW
              have hRest : Rest γ (ob pre) W k W.heap[k] := ⟨ho, fun i' p hi' hb' => hown ⟨i', p, hi', hb'⟩⟩
              by_cases e : k = l
              · exact (h5.hold l _ (.inr ⟨rfl, rfl⟩)).2 i o hi (by rw [<- e]; exact hbi)
              · exact (h5.hold k _ (.inl ⟨e, hRest⟩)).2 i o hi hbi
          · exact .inr ⟨by omega, hk4⟩
        · have hne : k ≠ l := fun e => by subst e; rw [hlW] at hk; cases hk; cases hc
          exact (h5.hold k o (.inl ⟨hne, hk, fun i p hi hb => hn (zlZ h (hob pre) hi hb)⟩)).1
      have put : ∀ {ob' : List (Nat × Ob)} {γ4 : Nat -> Value} (o' : Obj), RG cx γ4 (St.of sl ob') a W4 -> W4.heap[l]? = some (.loop { rec .ready none with state := .busy }) -> RG cx γ4 (St.of sl ob') a (W4.putObj l o') := fun {ob' γ4} o' hr hl4 =>
        hr.other (grownBy_putObj' W4 l o') (fun _ => Nat.le_refl _) hl4 rfl (.inl fun _ _ e => by cases e) (by rw [hd]; simp) hlh hl0
      have putk : ∀ (o' : Obj) {k : Nat} {o : Obj}, k ≠ l -> W4.heap[k]? = some o -> (W4.putObj l o').heap[k]? = some o := fun o' {k o} hk ho => by rw [World.putObj_heap_other hk]; exact ho
      have jump : ∀ (c : Code) (ob' : List (Nat × Ob)), okOb sl rc ob' = true -> Weak s2 (pinS v sl) ob' -> JK K sl ob' c -> ∃ v w', (Instr.endRound l (some c)).run P W4 = .ok v w' /\ ((Ending.returned v = .returned (.bool true) /\ J (pre ++ [x]) w' /\ KpB (Bs sl a) (Qs sl rc a) W w') \/ (Ending.returned v = .returned (.bool false) /\ Jx (pre ++ [x]) w')) := fun c ob' hok' hwk hj => by
        obtain ⟨γ4, g1, g2, g3, g4⟩ := fin ob' hok' hwk
        refine ⟨_, _, run_endRound (some c) g3, .inr ⟨rfl, c, ob', γ4, hok', hj, put _ g1 g3, ?_, fun k o hko => putk _ (hMk k o hko).2.2 (g4 k o hko)⟩⟩
        rw [World.putObj_heap_same (Array.getElem?_eq_some_iff.1 g3).1, hrec]; rfl
      cases e with
      | normal =>
        obtain ⟨γ4, g1, g2, g3, g4⟩ := fin _ (hob _) hk4.2
        refine ⟨_, _, run_endRound none g3, .inl ⟨rfl, ⟨hk4.1, γ4, put _ g1 g3, ?_, fun k o hko => putk _ (hMk k o hko).2.2 (g4 k o hko)⟩, g2.trans (KpB.book hBw W4 l _ _ hlw g3 rfl)⟩⟩
        rw [World.putObj_heap_same (Array.getElem?_eq_some_iff.1 g3).1, hrec]; rfl
      | ret => obtain ⟨ob', q1, q2, q3⟩ := hk4; exact jump .ret ob' q1 q2 q3
      | exit id => obtain ⟨ob', q1, q2, q3⟩ := hk4; exact jump (.exit id) ob' q1 q2 q3
      | goto t => obtain ⟨ob', q1, q2, q3⟩ := hk4; exact jump (.goto t) ob' q1 q2 q3
      | panic ch => exact hk4.elim
      | outgrown => exact hk4.elim
    | _ => exact hk.elim
  · exact ⟨hI0, γ1, h1, hl, fun k o hko => (hMk k o hko).1⟩
  · rintro e W' ⟨hv, h⟩
    refine ⟨hv, ?_⟩
    rcases h with ⟨ys, rfl, h⟩ | ⟨pre, _, c, ob', γ, _, h⟩
    · exact .inl h
    · exact .inr ⟨c, ob', γ, h⟩
theorem CodeOb.range {K : KK} {s : St} {fo : Operand} {ps : Array Tmp} {as body : Code} {g m : Nat} {cap : Nat -> D} {τ : Type} {encV : τ -> List Value} {xs : List τ} (hseq : SeqC P g m cap encV xs) (hc : callee (ev s fo) = some (g, (List.range m).map fun j => AV.d (cap j)))
    (enc : τ -> List V1) (henc : ∀ x (w : World) ok, All2 (Rep1 w ok) (enc x) (encV x)) (hps : ∀ x, (enc x).length = ps.size) (hnd : ps.toList.Nodup)
    (sl : List (Nat × AV)) (rc : List (Nat × Nat)) (ob : List τ -> List (Nat × Ob)) (hsl : okSl sl = true) (hob : ∀ pre, okOb sl rc (ob pre) = true) (hw : Weak s sl (ob []))
    {Iv : List τ -> Prop} (hI0 : Iv [])
    (hbody : ∀ (v : Nat -> Value) pre x, pre ++ [x] <+: xs -> Iv pre -> awp P T E as (St.of (psl ps.toList (enc x) ++ pinS v sl) (ob pre)) (Ka P T E K sl rc v ob Iv body pre x))
    (hend : Iv xs -> K .normal (St.of sl (ob xs))) : CodeOb false false P (.rangeFunc fo ps as body) s K := by
  rw [zb9]
  intro cx F n a w hdr hnod hF hN hR
  have hdr0 : cx.dr = false := by
    cases h : cx.dr with
    | false => rfl
    | true => exact absurd (hdr h) (by simp)
  have hnod0 : cx.nod = false := by
    cases h : cx.nod with
    | false => rfl
    | true => exact absurd (hnod h) (by simp)
  obtain ⟨γs, hs⟩ := hR
  obtain ⟨γ0, h0, hk⟩ := hs.weakL hw
  obtain ⟨caps, hfv, hcm⟩ := zaZ hc (ev_m hs fo).1
  obtain ⟨a0, ha0⟩ : ∃ a0 : Act, a0 = { tmps := a.tmps, defers := [] } := ⟨_, rfl⟩
  have h0a : RG cx γ0 (St.of sl (ob [])) a0 w := by rw [ha0]; exact h0.defs ⟨fun _ => rfl, [], rfl, List.nodup_nil, fun D hD => by cases hD⟩
  have hlen : caps.length = m := by have := hcm.length; simpa using this.symm
  have hq := hseq.2 w (okOf cx (St.of sl (ob [])) γ0 w) caps (Bs sl a0) (Qs sl rc a0) (fun b hb => zal h0a hb) hlen (fun j hj => by
    obtain ⟨u, hu, hr⟩ := hcm.get j (.d (cap j)) (by simp [hj])
    exact ⟨u, hu, Rep.keep (x := cap j) (fun b hb => ⟨hk b hb, rfl⟩) hr⟩) (fun k hkk => by
    obtain ⟨i, o, hi, hb⟩ := zes h0a (hob []) (fun t i ht => zeE h0a ht) hkk
    exact ⟨(zar h0a hi hb).2, fun hok => zc1 h0a hok hi hb⟩)
  have hBw : ∀ b, Bs sl a0 b -> b < w.heap.size := fun b hb => by
    obtain ⟨i, o, hi, hbi⟩ := zes h0a (hob []) (fun t i ht => zeE h0a ht) (.inl hb)
    exact (zar h0a hi hbi).2
  obtain ⟨_, ms, hms, hmn, hmd⟩ := hs.defers
  simp only [codeN, Bool.and_eq_true] at hN
  have hpN : ∀ p ∈ ps.toList, p < cx.N := fun p hp => Nat.le_of_ble_eq_true (List.all_eq_true.1 hN.1 p hp)
  have hmlt : ∀ D ∈ ms, D < w.heap.size := fun D hD => (Array.getElem?_eq_some_iff.1 (hmd D hD).2).1
  have fin : ∀ {ob' : List (Nat × Ob)} {γ : Nat -> Value} {W : World} {l : Nat} {lp : Loop} (o' : Obj) (ms' : List Nat), RG cx γ (St.of sl ob') a0 W -> W.heap[l]? = some (.loop lp) -> w.heap.size <= l -> ms'.Nodup -> (∀ D ∈ ms', cx.w0.heap.size <= D /\ D ≠ l /\ W.heap[D]? = some (.deferred (some []))) ->
      R cx (St.of sl ob') { tmps := a.tmps, defers := ms'.map mark } (W.putObj l o') := fun {ob' γ W l lp} o' ms' hr hl hlw hnd' hD => by
    have h2 := hr.other (grownBy_putObj' W l o') (fun _ => Nat.le_refl _) hl rfl (.inl fun _ _ e => by cases e) (by rw [ha0]; simp) (fun p hp => by have := zbw hs hp; omega) (Nat.le_trans hs.below.size hlw)
    have h3 := h2.defs (ds := ms'.map mark) ⟨(fun e => by rw [hnod0] at e; cases e), ms', rfl, hnd', fun D hD' => ⟨(hD D hD').1, by rw [World.putObj_heap_other (hD D hD').2.1]; exact (hD D hD').2.2⟩⟩
    rw [ha0] at h3
    exact ⟨γ, h3⟩
  have jmp : ∀ {F : Fence} {Q : Exit -> Act -> World -> Prop} {c : Code} {ob' : List (Nat × Ob)} {a' : Act} {W : World}, JK K sl ob' c -> R cx (St.of sl ob') a' W -> (∀ e s a w, R cx s a w -> K e s -> Q e a w) -> c.wpIn F 5 P Q a' W := fun {F Q c ob' a' W} hj hr hQ => by
    cases c <;> first
      | exact wpIn_ret (hQ _ _ _ _ hr hj)
      | exact wpIn_exit (hQ _ _ _ _ hr hj)
      | exact wpIn_goto (hQ _ _ _ _ hr hj)
      | exact hj.elim
  rcases hF with rfl | ⟨l₀, r₀, rfl, hl₀⟩
  · refine zc5 (n := 5) (.inl rfl) (wpIn_rangeFunc ?_)
    intro fn _
    obtain ⟨rec, hrec⟩ : ∃ rec : LoopState -> Option Code -> Loop, rec = fun st pe => { state := st, pending := pe, fn, tmps := a0.tmps, params := ps, assign := as, body, defers := w.heap.size } := ⟨_, rfl⟩
    obtain ⟨W1, hW1⟩ : ∃ W1, (w.alloc (.deferred (some []))).alloc (.loop (rec .ready none)) = W1 := ⟨_, rfl⟩
    have hL1 : W1.heap[w.heap.size + 1]? = some (.loop (rec .ready none)) := by
      rw [<- hW1]; have := World.alloc_heap_new (w.alloc (.deferred (some []))) (.loop (rec .ready none)); rwa [World.size_alloc] at this
    have hK1 : W1.heap[w.heap.size]? = some (.deferred (some [])) := by
      rw [<- hW1]; exact (Below.heap_alloc _ _ _ (by simp)).trans (World.alloc_heap_new w _)
    have hb1 : Below w.heap.size w W1 := by rw [<- hW1]; exact ((Below.refl _ w).alloc (Nat.le_refl _) _).alloc (by simp) _
    have h1 : RG cx γ0 (St.of sl (ob [])) a0 W1 := h0a.grow hb1 (fun _ => by rw [<- hW1]; exact Nat.le_refl _)
    refine ⟨w.heap.size + 1, [mark w.heap.size], W1, { target := .fn (.func g) caps.toArray, args := #[.func (.yield (w.heap.size + 1)) #[] #[]] }, W1, g, #[.func (.yield (w.heap.size + 1)) #[] #[]] ++ caps.toArray, W1, ?_, ?_, fun _ _ => trivial, ?_, fun _ => by omega, ?_⟩
    · rw [<- hW1, hrec, ha0]; exact run_enterLoop_outer _ _ _ _ _
    · simp only [resolve, hfv]; simp [go_sem]
    · simp [invoke, zam hseq.1]
    · let Mk : Nat -> Obj -> Prop := fun k o => (k = w.heap.size \/ k ∈ ms) /\ o = .deferred (some [])
      have hMk : ∀ k o, Mk k o -> W1.heap[k]? = some o /\ o.isCells = false /\ k ≠ w.heap.size + 1 := fun k o ⟨h2, h3⟩ => by
        subst h3
        rcases h2 with rfl | h2
        · exact ⟨hK1, rfl, by omega⟩
        · have := hmlt k h2
          exact ⟨(hb1.block k this).trans (hmd k h2).2, rfl, by omega⟩
      have nod : (w.heap.size :: ms).Nodup := List.nodup_cons.2 ⟨fun h => by have := hmlt _ h; omega, hmn⟩
      have hDs : ∀ {W : World}, (∀ k o, Mk k o -> W.heap[k]? = some o) -> ∀ D ∈ w.heap.size :: ms, cx.w0.heap.size <= D /\ D ≠ w.heap.size + 1 /\ W.heap[D]? = some (.deferred (some [])) := fun {W} hW D hD => by
        rcases List.mem_cons.1 hD with rfl | hD
        · exact ⟨hs.below.size, by omega, hW _ _ ⟨.inl rfl, rfl⟩⟩
        · have := hmlt D hD
          exact ⟨(hmd D hD).1, by omega, hW _ _ ⟨.inr hD, rfl⟩⟩
      have ha' : ({ a with defers := [mark w.heap.size] ++ a.defers } : Act) = { tmps := a.tmps, defers := (w.heap.size :: ms).map mark } := by rw [hms]; rfl
      refine (zel (l := w.heap.size + 1) hT hE hm hdr0 (by rw [ha0]) hsl hob henc hps hnd hpN hN.2.1 hN.2.2 hI0 hbody hb1 h1 hrec hL1 (by have := hs.below.size; omega) (by omega) (fun p hp => by have := zbw hs hp; omega) Mk hMk hBw hq).mono ?_
      rintro e W' ⟨⟨v, rfl⟩, (⟨gI, γ, g1, g2, g3⟩ | ⟨c, ob', γ, gj, g1, g2, g3⟩)⟩
      · refine ⟨none, _, by have := run_endLoop (P := P) g2 (by rw [hrec]; simp); rw [hrec] at this; exact this, ?_⟩
        have := fin (.loop { rec .ready none with state := .exhausted }) (w.heap.size :: ms) g1 g2 (by omega) nod (hDs g3)
        rw [hrec] at this
        show ∃ s', R cx s' _ _ /\ K .normal s'
        rw [ha']
        exact ⟨_, this, hend gI⟩
      · refine ⟨some c, _, by have := run_endLoop (P := P) g2 (by rw [hrec]; simp); rw [hrec] at this; exact this, ?_⟩
        have := fin (.loop { rec .done (some c) with state := .exhausted }) (w.heap.size :: ms) g1 g2 (by omega) nod (hDs g3)
        rw [hrec] at this
        show c.wpIn _ _ P _ _ _
        rw [ha']
        exact jmp gj this fun e s a w h1 h2 => ⟨s, h1, h2⟩
  · refine zc5 (n := 5) (.inr ⟨l₀, rfl⟩) (wpIn_rangeFunc ?_)
    intro fn _
    obtain ⟨rec, hrec⟩ : ∃ rec : LoopState -> Option Code -> Loop, rec = fun st pe => { state := st, pending := pe, fn, tmps := a0.tmps, params := ps, assign := as, body, defers := r₀.defers } := ⟨_, rfl⟩
    obtain ⟨W1, hW1⟩ : ∃ W1, w.alloc (.loop (rec .ready none)) = W1 := ⟨_, rfl⟩
    have hL1 : W1.heap[w.heap.size]? = some (.loop (rec .ready none)) := by rw [<- hW1]; exact World.alloc_heap_new w _
    have hb1 : Below w.heap.size w W1 := by rw [<- hW1]; exact (Below.refl _ w).alloc (Nat.le_refl _) _
    have h1 : RG cx γ0 (St.of sl (ob [])) a0 W1 := h0a.grow hb1 (fun _ => by rw [<- hW1]; exact Nat.le_refl _)
    refine ⟨w.heap.size, [], W1, { target := .fn (.func g) caps.toArray, args := #[.func (.yield w.heap.size) #[] #[]] }, W1, g, #[.func (.yield w.heap.size) #[] #[]] ++ caps.toArray, W1, ?_, ?_, fun _ _ => trivial, ?_, fun _ => by omega, ?_⟩
    · rw [<- hW1, hrec, ha0]; exact run_enterLoop_inner (hs.hold _ _ hl₀).1 _ _ _ _ _
    · simp only [resolve, hfv]; simp [go_sem]
    · simp [invoke, zam hseq.1]
    · let Mk : Nat -> Obj -> Prop := fun k o => k ∈ ms /\ o = .deferred (some [])
      have hMk : ∀ k o, Mk k o -> W1.heap[k]? = some o /\ o.isCells = false /\ k ≠ w.heap.size := fun k o ⟨h2, h3⟩ => by
        subst h3
        have := hmlt k h2
        exact ⟨(hb1.block k this).trans (hmd k h2).2, rfl, by omega⟩
      have hDs : ∀ {W : World}, (∀ k o, Mk k o -> W.heap[k]? = some o) -> ∀ D ∈ ms, cx.w0.heap.size <= D /\ D ≠ w.heap.size /\ W.heap[D]? = some (.deferred (some [])) := fun {W} hW D hD => by
        have := hmlt D hD
        exact ⟨(hmd D hD).1, by omega, hW _ _ ⟨hD, rfl⟩⟩
      have ha' : ({ a with defers := [] ++ a.defers } : Act) = { tmps := a.tmps, defers := ms.map mark } := by rw [hms]; rfl
      have core := zel (l := w.heap.size) hT hE hm hdr0 (by rw [ha0]) hsl hob henc hps hnd hpN hN.2.1 hN.2.2 hI0 hbody hb1 h1 hrec hL1 hs.below.size (Nat.le_refl _) (fun p hp => by have := zbw hs hp; omega) Mk hMk hBw hq
      have core' : CallsIn (Fence.wide.inRound l₀) 4 P g _ W1 _ := core
      refine core'.mono ?_
      rintro e W' ⟨⟨v, rfl⟩, (⟨gI, γ, g1, g2, g3⟩ | ⟨c, ob', γ, gj, g1, g2, g3⟩)⟩
      · refine ⟨none, _, by have := run_endLoop (P := P) g2 (by rw [hrec]; simp); rw [hrec] at this; exact this, ?_⟩
        have := fin (.loop { rec .ready none with state := .exhausted }) ms g1 g2 (Nat.le_refl _) hmn (hDs g3)
        rw [hrec] at this
        show ∃ s', R cx s' _ _ /\ K .normal s'
        rw [ha']
        exact ⟨_, this, hend gI⟩
      · refine ⟨some c, _, by have := run_endLoop (P := P) g2 (by rw [hrec]; simp); rw [hrec] at this; exact this, ?_⟩
        have := fin (.loop { rec .done (some c) with state := .exhausted }) ms g1 g2 (Nat.le_refl _) hmn (hDs g3)
        rw [hrec] at this
        show c.wpIn _ _ P _ _ _
        rw [ha']
        exact jmp gj this fun e s a w h1 h2 => ⟨s, h1, h2⟩
end
def cellsAt (w : World) (b : Nat) : Prop := ∃ c T x, w.heap[b]? = some (.cells c T x)
theorem zeD {w : World} {ad : Addr} {u : Value} (h : w.cell? ad = some u) : cellsAt w ad.block := by
 simp only [World.cell?] at h
 cases ho : w.heap[ad.block]? with
 | none => rw [ho] at h; cases h
 | some o =>
  cases o with
  | cells c T fr => exact ⟨c, T, fr, ho⟩
  | _ => rw [ho] at h; cases h
theorem Rep.cells {w : World} {ok : Nat -> Prop} {x : D} : ∀ {v : Value}, Rep w ok x v -> Rep w (fun b => ok b /\ cellsAt w b) x v := by
 induction x with
 | slc k n f ih =>
  intro v h
  rcases h with h | ⟨a, cap, hv, h1, h2, h3⟩
  ·exact .inl h
  ·refine .inr ⟨a, cap, hv, h1, h2, fun i hi j hj => ?_⟩
   obtain ⟨h4, u, hu, hr⟩ := h3 i hi j hj
   have hc := zeD hu
   rw [zay] at hc
   exact ⟨⟨h4, hc⟩, u, hu, ih i j hr⟩
 | ptr m g ih =>
  intro v h
  obtain ⟨a, hv, h3⟩ := h
  refine ⟨a, hv, fun j hj => ?_⟩
  obtain ⟨h4, u, hu, hr⟩ := h3 j hj
  have hc := zeD hu
  rw [zay] at hc
  exact ⟨⟨h4, hc⟩, u, hu, ih j hr⟩
 | clo f m g ih =>
  intro v h
  obtain ⟨vs, hv, hl, h3⟩ := h
  refine ⟨vs, hv, hl, fun j hj => ?_⟩
  obtain ⟨u, hu, hr⟩ := h3 j hj
  exact ⟨u, hu, ih j hr⟩
 | ifc f m g ih =>
  intro v h
  obtain ⟨vs, hv, hl, h3⟩ := h
  refine ⟨vs, hv, hl, fun j hj => ?_⟩
  obtain ⟨u, hu, hr⟩ := h3 j hj
  exact ⟨u, hu, ih j hr⟩
 | _ => exact fun h => h
theorem Rep1.cells {w : World} {ok : Nat -> Prop} {x : V1} {v : Value} (h : Rep1 w ok x v) : Rep1 w (fun b => ok b /\ cellsAt w b) x v := by
 cases x with
 | d x => exact Rep.cells h
 | agg xs => obtain ⟨vs, hv, h⟩ := h; exact ⟨vs, hv, h.imp fun _ _ _ => Rep.cells⟩
theorem CapM.cells {w : World} {ok : Nat -> Prop} {γ : Nat -> Value} {c : Cap} {v : Value} (h : CapM w ok γ c v) : CapM w (fun b => ok b /\ cellsAt w b) γ c v := by
 cases c with
 | own i => exact h
 | dat x => exact Rep.cells h
theorem M.cells {w : World} {ok : Nat -> Prop} {γ : Nat -> Value} {x : AV} {v : Value} (h : M w ok γ x v) : M w (fun b => ok b /\ cellsAt w b) γ x v := by
 cases x with
 | d x => exact Rep.cells h
 | agg xs => obtain ⟨vs, hv, h⟩ := h; exact ⟨vs, hv, h.imp fun _ _ _ => Rep.cells⟩
 | tup l => obtain ⟨vs, hv, h⟩ := h; exact ⟨vs, hv, h.imp fun _ _ _ => Rep1.cells⟩
 | tupo i l => obtain ⟨b, vs, h0, hv, h⟩ := h; exact ⟨b, vs, h0, hv, h.imp fun _ _ _ => Rep1.cells⟩
 | roe m f => exact Rep.cells (x := .ptr m f) h
 | clo f caps => obtain ⟨vs, hv, h⟩ := h; exact ⟨vs, hv, h.imp fun _ _ _ => CapM.cells⟩
 | _ => exact h
theorem Holds.cells {w : World} {O ok : Nat -> Prop} {γ : Nat -> Value} {i : Nat} {o : Ob} (h : Holds w O ok γ i o) : Holds w O (fun b => ok b /\ cellsAt w b) γ i o := by
 cases o with
 | box cs => obtain ⟨b, vs, T, h1, h2, h3, h4⟩ := h; exact ⟨b, vs, T, h1, h2, h3, h4.imp fun _ _ _ ⟨g1, g2⟩ => ⟨g1.cells, g2⟩⟩
 | row e k n f =>
  obtain ⟨xs, h1, h2, h3, h4⟩ := h
  exact ⟨xs, h1, h2, h3, fun m hm j hj => by obtain ⟨u, hu, hr⟩ := h4 m hm j hj; exact ⟨u, hu, Rep.cells hr⟩⟩
 | mp ks => exact h
theorem M.okm {w : World} {ok ok' : Nat -> Prop} (hk : ∀ b, ok b -> ok' b) {γ : Nat -> Value} {x : AV} {v : Value} (h : M w ok γ x v) : M w ok' γ x v := h.keep (fun b hb => ⟨hk b hb, rfl⟩) fun _ _ => rfl
theorem Holds.okm {w : World} {O ok ok' : Nat -> Prop} (hk : ∀ b, ok b -> ok' b) {γ : Nat -> Value} {i : Nat} {o : Ob} (h : Holds w O ok γ i o) : Holds w O ok' γ i o := h.keep0 (fun b hb => ⟨hk b hb, zfU rfl⟩) rfl (fun _ _ _ _ _ _ => rfl) fun _ _ => rfl
theorem Holds.opens {w : World} {O O' ok : Nat -> Prop} {γ : Nat -> Value} {i : Nat} {o : Ob} (h : Holds w O ok γ i o) (hO : ∀ b, blk (γ i) = some b -> O' b) : Holds w O' ok γ i o := by
 cases o with
 | box cs => obtain ⟨b, vs, T, h1, h2, h3⟩ := h; exact ⟨b, vs, T, h1, hO b (by rw [h1]; rfl), h3⟩
 | row e k n f => obtain ⟨xs, h1, h2, h3⟩ := h; exact ⟨xs, h1, fun b hb => hO b hb, h3⟩
 | mp ks => obtain ⟨b, es, c, h1, h2, h3⟩ := h; exact ⟨b, es, c, h1, hO b (by rw [h1]; rfl), h3⟩
def ownB (s : St) (γ : Nat -> Value) (b : Nat) : Prop := ∃ i o, s.ob i = some o /\ blk (γ i) = some b
def cxJ (cx : Cx) (W : World) (okJ own : Nat -> Prop) (l : Nat) : Cx := ⟨W, okJ, cx.N, fun b => own b \/ b = l, cx.hold, 0, cx.dr, cx.gn, cx.nod⟩
theorem zia (cx : Cx) {W : World} (h : cx.w0 = W) : Bel cx W := by subst h; exact ⟨rfl, rfl, rfl, fun _ => Nat.le_refl _, Nat.le_refl _, fun _ _ _ => rfl⟩
section
variable {cx : Cx} {γ : Nat -> Value} {s : St} {a : Act} {W W' : World} {okJ : Nat -> Prop} {l : Nat}
theorem okJ_of {b : Nat} (h : okOf (cxJ cx W okJ (ownB s γ) l) s γ W b) : okJ b \/ b = l := by
 rcases h with h | ⟨h1, h2, h3⟩
 ·exact .inl h
 ·rcases h1 with h1 | ⟨i, o, hi, hb⟩ | h1
  ·have : W.heap.size <= b := h1; omega
  ·exact absurd hb (h3 i o hi)
  ·exact .inr h1
theorem RG.reb (h : RG cx γ s a W) (hd : a.defers = []) {lp : Loop} (hl : W.heap[l]? = some (.loop lp)) : RG (cxJ cx W (fun b => okOf cx s γ W b /\ cellsAt W b) (ownB s γ) l) γ s a W := by
  have hk : ∀ b, (okOf cx s γ W b /\ cellsAt W b) -> okOf (cxJ cx W (fun b => okOf cx s γ W b /\ cellsAt W b) (ownB s γ) l) s γ W b := fun b hb => .inl hb
  exact { defers := ⟨fun _ => hd, [], hd, List.nodup_nil, fun D hD => by cases hD⟩
          size := h.size
          okA := fun b hb => ⟨zal h hb.1, fun e => by
            rcases e with ⟨i, o, hi, e⟩ | e
            · exact zc1 h hb.1 hi e
            · subst e; obtain ⟨c, T, x, hc⟩ := hb.2; rw [hl] at hc; cases hc⟩
          lent := fun b e => by
            rcases e with ⟨i, o, hi, e⟩ | e
            · exact (zar h hi e).2
            · subst e; exact (Array.getElem?_eq_some_iff.1 hl).1
          below := zia _ rfl
          hold := h.hold
          least := Nat.zero_le _
          objs := fun i o hi => ((h.objs i o hi).cells.okm hk).opens fun b hb => .inr (.inl ⟨i, o, hi, hb⟩)
          refs := h.refs, sep := h.sep
          slots := fun t => (h.slots t).cells.okm hk
          srefs := h.srefs, gho := h.gho, ng := h.ng }
theorem RG.stab (h : RG (cxJ cx W okJ (ownB s γ) l) γ s a W) (hd : a.defers = []) {row : Option Nat} (hg : W.grownBy W' row) (hr : ∀ r, row = some r -> ¬ okJ r /\ ¬ ownB s γ r /\ r ≠ l /\ ∀ p, ¬ cx.hold r p) : RG (cxJ cx W' okJ (ownB s γ) l) γ s a W' := by
  have same : ∀ b, b < W.heap.size -> (okJ b \/ ownB s γ b \/ b = l) -> W'.heap[b]? = W.heap[b]? := fun b hb h1 => hg.block b hb fun e => by
    obtain ⟨g1, g2, g3, _⟩ := hr b e.symm
    rcases h1 with h1 | h1 | h1
    · exact g1 h1
    · exact g2 h1
    · exact g3 h1
  have hk : ∀ b, okOf (cxJ cx W okJ (ownB s γ) l) s γ W b -> okOf (cxJ cx W' okJ (ownB s γ) l) s γ W' b /\ W'.heap[b]? = W.heap[b]? := fun b hb => by
    have hlt := zal h hb
    rcases okJ_of hb with h1 | h1
    · exact ⟨.inl h1, same b hlt (.inl h1)⟩
    · exact ⟨.inr ⟨.inr (.inr h1), Nat.lt_of_lt_of_le hlt hg.size, fun i o hi => zc1 h hb hi⟩, same b hlt (.inr (.inr h1))⟩
  exact { defers := ⟨fun _ => hd, [], hd, List.nodup_nil, fun D hD => by cases hD⟩
          size := h.size
          okA := fun b hb => ⟨Nat.lt_of_lt_of_le (h.okA b hb).1 hg.size, (h.okA b hb).2⟩
          lent := fun b hb => Nat.lt_of_lt_of_le (h.lent b hb) hg.size
          below := zia _ rfl
          hold := fun k o hk' => by
            have h1 := h.hold k o hk'
            refine ⟨?_, h1.2⟩
            rw [hg.block k (Array.getElem?_eq_some_iff.1 h1.1).1 fun e => (hr k e.symm).2.2.2 o hk']
            exact h1.1
          least := Nat.zero_le _
          objs := fun i o hi => ((h.objs i o hi).keep0 (fun b hb => ⟨(hk b hb).1, zfU (hk b hb).2⟩) rfl (fun _ _ _ _ _ _ => rfl) fun b hb => same b (zar h hi hb).2 (.inr (.inl ⟨i, o, hi, hb⟩))).opens fun b hb => .inr (.inl ⟨i, o, hi, hb⟩)
          refs := h.refs, sep := h.sep
          slots := fun t => (h.slots t).keep hk fun _ _ => rfl
          srefs := h.srefs, gho := h.gho, ng := h.ng }
structure Old (cx : Cx) (s : St) (γ : Nat -> Value) (okJ : Nat -> Prop) (W : World) : Prop where
  ok : ∀ b, okJ b -> cx.okA b \/ cx.O b
  own : ∀ b, ownB s γ b -> cx.O b
  bel : Bel cx W
  least : cx.least <= W.heap.size
theorem RG.old (h : RG cx γ s a W) : Old cx s γ (fun b => okOf cx s γ W b /\ cellsAt W b) W :=
 ⟨fun b hb => by
  rcases hb.1 with h1 | ⟨h1, _⟩
  ·exact .inl h1
  ·exact .inr h1, fun b ⟨i, o, hi, e⟩ => (zar h hi e).1, h.below, h.least⟩
theorem Old.grow (ho : Old cx s γ okJ W) (hdr : cx.dr = false) {row : Option Nat} (hg : W.grownBy W' row) (hr : ∀ r, row = some r -> cx.w0.heap.size <= r) : Old cx s γ okJ W' :=
 ⟨ho.ok, ho.own, ⟨hg.os.trans ho.bel.os, hg.tape.trans ho.bel.tape, hg.output.trans ho.bel.output, (fun e => by rw [hdr] at e; cases e), Nat.le_trans ho.bel.size hg.size, fun k hk hl => (hg.block k (Nat.lt_of_lt_of_le hk ho.bel.size) fun e => by have := hr k e.symm; omega).trans (ho.bel.block k hk hl)⟩, Nat.le_trans ho.least hg.size⟩
theorem RG.back (h : RG (cxJ cx W okJ (ownB s γ) l) γ s a W) (hd : a.defers = []) (ho : Old cx s γ okJ W) (hl : cx.O l) (hA : ∀ b, cx.okA b -> b < cx.w0.heap.size /\ ¬ cx.lent b) (hL : ∀ b, cx.lent b -> b < cx.w0.heap.size) : RG cx γ s a W := by
  have hk : ∀ b, okOf (cxJ cx W okJ (ownB s γ) l) s γ W b -> okOf cx s γ W b := fun b hb => by
    have hlt := zal h hb
    have hne : ∀ i o, s.ob i = some o -> blk (γ i) ≠ some b := fun i o hi => zc1 h hb hi
    rcases okJ_of hb with h1 | h1
    · rcases ho.ok b h1 with h2 | h2
      · exact .inl h2
      · exact .inr ⟨h2, hlt, hne⟩
    · subst h1; exact .inr ⟨hl, hlt, hne⟩
  exact { defers := ⟨fun _ => hd, [], hd, List.nodup_nil, fun D hD => by cases hD⟩
          size := h.size, okA := hA, lent := hL, below := ho.bel, hold := h.hold, least := ho.least
          objs := fun i o hi => ((h.objs i o hi).okm hk).opens fun b hb => ho.own b ⟨i, o, hi, hb⟩
          refs := h.refs, sep := h.sep
          slots := fun t => (h.slots t).okm hk
          srefs := h.srefs, gho := h.gho, ng := h.ng }
theorem Old.on {s' : St} {γ' : Nat -> Value} (ho : Old cx s γ okJ W) (hl : cx.O l) (hlw : cx.w0.heap.size <= l) (h : RG (cxJ cx W okJ (ownB s γ) l) γ' s' a W') : Old cx s' γ' (fun b => okOf (cxJ cx W okJ (ownB s γ) l) s' γ' W' b /\ cellsAt W' b) W' := by
 have hO : ∀ b, (cxJ cx W okJ (ownB s γ) l).O b -> cx.O b := fun b hb => by
  rcases hb with h1 | h1 | h1
  ·exact .inl (Nat.le_trans ho.bel.size h1)
  ·exact ho.own b h1
  ·subst h1; exact hl
 refine ⟨fun b hb => ?_, fun b ⟨i, o, hi, e⟩ => hO b (zar h hi e).1, ?_, Nat.le_trans ho.least h.below.size⟩
 ·rcases hb.1 with h1 | ⟨h1, _⟩
  ·exact ho.ok b h1
  ·exact .inr (hO b h1)
 ·have h1 := ho.bel
  have h2 := h.below
  have hs1 : cx.w0.heap.size <= W.heap.size := h1.size
  have hs2 : W.heap.size <= W'.heap.size := h2.size
  exact ⟨h2.os.trans h1.os, h2.tape.trans h1.tape, h2.output.trans h1.output, fun e => Nat.le_trans (h1.drawn e) (h2.drawn e), Nat.le_trans hs1 hs2, fun k hk hl' => (h2.block k (Nat.lt_of_lt_of_le hk hs1) fun hw => by
   rcases hw with hw | hw
   ·rcases ho.own k hw with h3 | h3
    ·omega
    ·exact hl' h3
   ·omega).trans (h1.block k hk hl')⟩
end
def AbP {α : Type} (B : Nat) (J : List α -> (Nat -> Prop) -> World -> Prop) : Prop :=
 ∀ s pub W W' row, J s pub W -> W.grownBy W' row -> (∀ r, row = some r -> B <= r /\ ¬ pub r) -> J s pub W'
def SeqMX {α : Type} (F : Fence) (n : Nat) (P : Program) (g : Nat) (lb : Array Value) (encs : α -> Array Value) (Kp : World -> World -> Prop) (xs : List α) (w : World) : Prop :=
 ∀ (l : Nat) (J Jx : List α -> (Nat -> Prop) -> World -> Prop) (W : World) (pub0 : Nat -> Prop), Below w.heap.size w W -> AbP W.heap.size J -> AbP W.heap.size Jx ->
  (∀ pre x pub W1, J pre pub W1 -> pre ++ [x] <+: xs -> YieldAt F (n - 1) P l (encs x) W1 fun e W' =>
   (e = .returned (.bool true) /\ (∃ pub', (∀ b, pub' b -> pub b \/ (W1.heap.size <= b /\ b < W'.heap.size)) /\ J (pre ++ [x]) pub' W') /\ Kp W1 W') \/ (e = .returned (.bool false) /\ ∃ pub', Jx (pre ++ [x]) pub' W')) ->
  J [] pub0 W -> (∀ b, pub0 b -> b < W.heap.size) ->
  CallsIn F n P g (#[.func (.yield l) #[] #[]] ++ lb) W fun e W' => (∃ v, e = .returned v) /\ ((∃ ys, ys = xs /\ ∃ pub, J ys pub W') \/ (∃ pre, pre <+: xs /\ ∃ pub, Jx pre pub W'))
def SeqM (P : Program) (g : FuncId) (m : Nat) (cap : Nat -> D) {τ : Type} (encV : τ -> List Value) (xs : List τ) : Prop :=
 Ent P g /\ ∀ (w : World) (ok : Nat -> Prop) (lb : List Value) (B : Nat -> Prop) (Q : Nat -> Nat -> Prop), (∀ b, ok b -> b < w.heap.size) -> lb.length = m -> (∀ j, j < m -> ∃ u, lb[j]? = some u /\ Rep w ok (cap j) u) ->
  (∀ k, Ow B Q w k -> k < w.heap.size /\ ¬ ok k) -> SeqMX Fence.wide 4 P g lb.toArray (fun x => (encV x).toArray) (KpB B Q) xs w
def FamM (N : Nat) {τ : Type} (xs : List τ) (B : Nat -> Prop) (Q : Nat -> Nat -> Prop) (W0 : Nat) (J Jx : List τ -> (Nat -> Prop) -> World -> Prop) (cx : Cx) : Prop :=
 cx.N = N /\ cx.hold = (fun _ _ => False) /\ cx.dr = false /\ cx.nod = true /\
  ∃ kb : Option Nat, cx.lent = (fun b => kb = some b) /\ match cx.gn with
   | some n => W0 <= cx.w0.heap.size /\ ∃ pub, J (xs.take n) pub cx.w0 /\ n <= xs.length /\ (∀ b, cx.okA b -> ¬ Ow B Q cx.w0 b) /\ (∀ k, Ow B Q cx.w0 k -> k < cx.w0.heap.size) /\ (∀ b, pub b -> b < cx.w0.heap.size) /\ (∀ b, kb = some b -> W0 <= b /\ ¬ pub b /\ ¬ Ow B Q cx.w0 b)
   | none => kb = none /\ ∃ n pub, n <= xs.length /\ Jx (xs.take n) pub cx.w0
theorem zcx {cx : Cx} {w : World} {kb : Option Nat} (h : Bel cx w) (hl : cx.lent = fun b => kb = some b) : cx.w0.grownBy w kb :=
 ⟨h.os, h.tape, h.output, h.size, fun k hk hne => h.block k hk (by rw [hl]; exact fun e => hne e.symm)⟩
theorem keep1_spec {ob : List (Nat × Ob)} (h : keep1 ob = true) : ob = [] \/ ∃ i cs, ob = [(i, .box cs)] /\ ∀ c ∈ cs, ∃ x : D, c = .d x /\ x.flat = true := by
 match ob, h with
 | [], _ => exact .inl rfl
 | [(i, .box cs)], h =>
  refine .inr ⟨i, cs, rfl, fun c hc => ?_⟩
  have h1 := List.all_eq_true.1 h c hc
  cases c with
  | d x => exact ⟨x, rfl, h1⟩
  | _ => cases h1
theorem ylawM {P : Program} {E : Env} {N : Nat} (hN : N <= G) {τ : Type} {enc : τ -> List V1} {encV : τ -> List Value} (henc : ∀ x (w : World) ok us, All2 (Rep1 w ok) (enc x) us -> us = encV x) {xs : List τ} {B : Nat -> Prop} {Q : Nat -> Nat -> Prop} {J Jx : List τ -> (Nat -> Prop) -> World -> Prop} {W0 : Nat}
    (hyd : ∀ n vs, E.yd n vs -> ∃ x, xs[n]? = some x /\ vs = enc x)
    (hJ : AbP W0 J) (hJx : AbP W0 Jx)
    (hY : ∀ pre x pub W1, J pre pub W1 -> pre ++ [x] <+: xs -> YieldAt Fence.wide 3 P E.l (encV x).toArray W1 fun e W' => (e = .returned (.bool true) /\ (∃ pub', (∀ b, pub' b -> pub b \/ (W1.heap.size <= b /\ b < W'.heap.size)) /\ J (pre ++ [x]) pub' W') /\ KpB B Q W1 W') \/ (e = .returned (.bool false) /\ ∃ pub', Jx (pre ++ [x]) pub' W')) :
    YLaw (FamM N xs B Q W0 J Jx) P E := by
  intro cx hcx n hgn γ sl ob a w vs us hkp hG h hv hus
  obtain ⟨x, hx, rfl⟩ := hyd n vs hv
  obtain rfl := henc x w _ us hus
  obtain ⟨f1, f3, f4, f5, kb, f2, f7⟩ := hcx
  rw [hgn] at f7
  obtain ⟨f6, pub, j1, j2, j3, j4, j5, j6⟩ := f7
  have hn : n < xs.length := (List.getElem?_eq_some_iff.1 hx).1
  have htk : xs.take n ++ [x] = xs.take (n + 1) := by rw [List.take_succ, hx]; rfl
  have hgr := zcx h.below f2
  have hJw : J (xs.take n) pub w := hJ _ _ _ _ kb j1 hgr (fun r e => ⟨(j6 r e).1, (j6 r e).2.1⟩)
  have hOw : ∀ k, Ow B Q w k ↔ Ow B Q cx.w0 k := fun k => Ow.same fun b hb => hgr.block b (j4 b (.inl hb)) (fun e => (j6 b e.symm).2.2 (.inl hb))
  have hds : a.defers = [] := h.defers.1 f5
  have hO : ∀ b, cx.O b -> ¬ Ow B Q cx.w0 b /\ ¬ pub b /\ W0 <= b := fun b hb => by
    rcases hb with h1 | h1
    · exact ⟨fun hw => by have := j4 b hw; omega, fun hp => by have := j5 b hp; omega, by omega⟩
    · rw [f2] at h1
      exact ⟨(j6 b h1).2.2, (j6 b h1).2.1, (j6 b h1).1⟩
  have hok : ∀ b, okOf cx (St.of sl ob) γ w b -> ¬ Ow B Q w b := fun b hb hw => by
    rw [hOw] at hw
    rcases hb with h1 | ⟨h1, _⟩
    · exact j3 b h1 hw
    · exact (hO b h1).1 hw
  have hundef : a.tmps.getD G undef = undef := by
    rw [Array.getD_eq_getD_getElem?, Array.getElem?_eq_none (by rw [h.size, f1]; exact hN)]; rfl
  have hkeep : keep1 ob = true := by
    rcases hkp with rfl | ⟨_, h1⟩
    · rfl
    · exact h1
  obtain ⟨kb', hkb1, hkb2⟩ : ∃ kb' : Option Nat, (∀ i o, look ob i = some o -> ∃ b, γ i = .pointer (some ⟨b, 0, none⟩) /\ kb' = some b) /\ (∀ b, kb' = some b -> ∃ i o, look ob i = some o /\ blk (γ i) = some b) := by
    rcases keep1_spec hkeep with rfl | ⟨i, cs, rfl, _⟩
    · exact ⟨none, ⟨fun i o hi => (by cases hi), fun b hb => (by cases hb)⟩⟩
    · have hi : look [(i, Ob.box cs)] i = some (.box cs) := by simp [look, zaS]
      obtain ⟨b, vs, T, h1, _⟩ := h.objs i _ hi
      refine ⟨some b, fun j o hj => ?_, fun b' hb' => ?_⟩
      · simp only [look] at hj
        cases hb : Nat.beq j i with
        | true => have := Nat.eq_of_beq_eq_true hb; subst this; exact ⟨b, h1, rfl⟩
        | false => rw [hb] at hj; cases hj
      · cases hb'; exact ⟨i, _, hi, by rw [h1]; rfl⟩
  have hkO : ∀ b, kb' = some b -> cx.O b /\ b < w.heap.size := fun b hb => by
    obtain ⟨i, o, hi, e⟩ := hkb2 b hb
    exact zar h hi e
  have look2 : ∀ (m : Option Nat) (l : List (Nat × AV)) (t : Nat), look ((G, AV.gho m) :: l) t = if t = G then some (.gho m) else look l t := fun m l t => by
    simp only [look]
    by_cases e : t = G
    · subst e; simp [Nat.beq_refl]
    · rw [if_neg e, zle e]; rfl
  refine zcR (zdj (hY _ x pub w hJw (by rw [htk]; exact List.take_prefix _ _))) ?_
  rintro e W' (⟨rfl, ⟨pub', hp', hj⟩, kp⟩ | ⟨rfl, pub', hj⟩)
  · have hOw' : ∀ b, Ow B Q W' b -> Ow B Q cx.w0 b \/ (w.heap.size <= b /\ b < W'.heap.size) := fun b hb => by
      rcases kp.2.1 b hb with h1 | h1
      · exact .inl ((hOw b).1 h1)
      · exact .inr h1
    refine .inl ⟨rfl, ⟨W', okOf cx (St.of sl ob) γ w, N, fun b => kb' = some b, fun _ _ => False, 0, false, some (n + 1), true⟩, ⟨rfl, rfl, rfl, rfl, kb', rfl, ?_, pub', ?_⟩, ?_⟩
    · have h1 := h.below.size; have h2 := kp.1
      show W0 <= W'.heap.size
      omega
    · rw [htk] at hj
      refine ⟨hj, by omega, fun b hb hw => ?_, fun k hk => ?_, fun b hb => ?_, fun b hb => ?_⟩
      · rcases kp.2.1 b hw with h1 | h1
        · exact hok b hb h1
        · have := zal h hb; omega
      · rcases hOw' k hk with h1 | h1
        · have h2 := j4 k h1; have h3 := h.below.size; have h4 := kp.1
          show k < W'.heap.size
          omega
        · exact h1.2
      · rcases hp' b hb with h1 | h1
        · have h2 := j5 b h1; have h3 := h.below.size; have h4 := kp.1
          show b < W'.heap.size
          omega
        · exact h1.2
      · obtain ⟨h1, h2⟩ := hkO b hb
        obtain ⟨g1, g2, g3⟩ := hO b h1
        refine ⟨g3, fun hp => ?_, fun hw => ?_⟩
        · rcases hp' b hp with h3 | h3
          · exact g2 h3
          · omega
        · rcases hOw' b hw with h3 | h3
          · exact g1 h3
          · omega
    · have cellK : ∀ b, okOf cx (St.of sl ob) γ w b \/ kb' = some b -> ∀ c T fr, w.heap[b]? = some (.cells c T fr) -> W'.heap[b]? = some (.cells c T fr) := fun b hb c T fr ho => by
        refine kp.2.2 _ _ ho rfl fun hw => ?_
        rcases hb with hb | hb
        · exact hok b hb hw
        · exact (hO b (hkO b hb).1).1 ((hOw b).1 hw)
      have hkpt : ∀ b, okOf cx (St.of sl ob) γ w b -> Kpt w W' b := fun b hb ad u hb' hc => by
        subst hb'
        simp only [World.cell?] at hc ⊢
        cases ho : w.heap[ad.block]? with
        | none => rw [ho] at hc; cases hc
        | some o =>
          cases o with
          | cells c T fr => rw [cellK _ (.inl hb) _ _ _ ho]; rw [ho] at hc; exact hc
          | _ => rw [ho] at hc; cases hc
      exact { defers := ⟨fun _ => hds, [], hds, List.nodup_nil, fun D hD => by cases hD⟩
              size := by rw [h.size, f1]
              okA := fun b hb => ⟨Nat.lt_of_lt_of_le (zal h hb) kp.1, fun e => by obtain ⟨i, o, hi, hb2⟩ := hkb2 b e; exact zc1 h hb hi hb2⟩
              lent := fun b hb => Nat.lt_of_lt_of_le (hkO b hb).2 kp.1
              below := ⟨rfl, rfl, rfl, fun _ => Nat.le_refl _, Nat.le_refl _, fun _ _ _ => rfl⟩
              hold := fun k o hk => hk.elim
              least := Nat.zero_le _
              objs := fun i o hi => by
                have hi' : look ob i = some o := hi
                obtain ⟨b, g1, g2⟩ := hkb1 i o hi'
                rcases keep1_spec hkeep with rfl | ⟨i', cs, rfl, hcs⟩
                · cases hi'
                · have ho : o = .box cs := by
                    simp only [look] at hi'
                    cases hb : Nat.beq i i' with
                    | true => rw [hb] at hi'; cases hi'; rfl
                    | false => rw [hb] at hi'; cases hi'
                  subst ho
                  obtain ⟨b2, vs, T, h1, _, h3, h4⟩ := h.objs i _ hi
                  rw [g1] at h1
                  obtain rfl : b = b2 := by simpa using h1
                  refine ⟨b, vs, T, g1, .inr g2, cellK b (.inr g2) _ _ _ h3, ?_⟩
                  refine All2.imp h4 fun c v hc ⟨m1, m2⟩ => ⟨?_, m2⟩
                  obtain ⟨x, rfl, hx⟩ := hcs c hc
                  exact Rep.flat hx m1
              refs := fun i cs hi c hc j hj => h.refs i cs hi c hc j hj
              sep := h.sep
              slots := fun t => by
                show M W' _ γ ((look ((G, AV.gho (some (n + 1))) :: sl) t).getD .any) _
                rw [look2]
                by_cases e : t = G
                · subst e; rw [if_pos rfl]; exact hundef
                · rw [if_neg e]
                  exact (h.slots t).keep0 (fun b hb => ⟨.inl hb, hkpt b hb⟩) fun _ _ => rfl
              srefs := fun t j hj => by
                have hj' : j ∈ ((look ((G, AV.gho (some (n + 1))) :: sl) t).getD .any).refs := hj
                rw [look2] at hj'
                by_cases e : t = G
                · rw [if_pos e] at hj'; cases hj'
                · rw [if_neg e] at hj'; exact h.srefs t j hj'
              gho := fun m hm => by
                have hm' : (look ((G, AV.gho (some (n + 1))) :: sl) G).getD .any = .gho m := hm
                rw [look2, if_pos rfl] at hm'
                cases hm'; rfl
              ng := hN }
  · refine .inr ⟨rfl, ⟨W', fun _ => False, N, fun b => (none : Option Nat) = some b, fun _ _ => False, 0, false, none, true⟩, ⟨rfl, rfl, rfl, rfl, none, rfl, rfl, n + 1, pub', by omega, by rw [<- htk]; exact hj⟩, ?_⟩
    · exact { defers := ⟨fun _ => hds, [], hds, List.nodup_nil, fun D hD => by cases hD⟩
              size := by rw [h.size, f1]
              okA := fun b hb => hb.elim
              lent := fun b hb => by cases hb
              below := ⟨rfl, rfl, rfl, fun _ => Nat.le_refl _, Nat.le_refl _, fun _ _ _ => rfl⟩
              hold := fun k o hk => hk.elim
              least := Nat.zero_le _
              objs := fun i o hi => by cases hi
              refs := fun i cs hi => by cases hi
              sep := fun i j o o' hi => by cases hi
              slots := fun t => by
                show M W' _ γ ((look ((G, AV.gho none) :: stillS sl) t).getD .any) _
                rw [look2]
                by_cases e : t = G
                · subst e; rw [if_pos rfl]; exact hundef
                · rw [if_neg e, zbl]
                  have := h.slots t
                  rw [show (St.of sl ob).sl t = (look sl t).getD .any from rfl] at this
                  cases hl : look sl t with
                  | none => exact trivial
                  | some v => rw [hl] at this; exact zjj this
              srefs := fun t j hj => by
                have hj' : j ∈ ((look ((G, AV.gho none) :: stillS sl) t).getD .any).refs := hj
                rw [look2] at hj'
                by_cases e : t = G
                · rw [if_pos e] at hj'; cases hj'
                · rw [if_neg e, zbl] at hj'
                  cases hl : look sl t with
                  | none => rw [hl] at hj'; cases hj'
                  | some v => rw [hl] at hj'; rw [show ((some v).map AV.still).getD .any = v.still from rfl, zed] at hj'; cases hj'
              gho := fun m hm => by
                have hm' : (look ((G, AV.gho none) :: stillS sl) G).getD .any = .gho m := hm
                rw [look2, if_pos rfl] at hm'
                cases hm'; rfl
              ng := hN }
theorem zn6 {P : Program} {T : TT} (hT : ∀ t i, T t = some i -> TI.of P t = some i) {eq : Nat -> Bool} (hE : ∀ t, eq t = true -> EqFact P t) (hm : P.follows .mixedOrders = true)
    {f : FuncId} {fn : Func} {c : Code} (hf : P.funcs[f]? = some fn) (hb : fn.body = some c) (hn : (fn.name == "runtime.NumGoroutine") = false) (hN : codeN fn.ntmps c = true) (hres : fn.results.toList = []) (hng : fn.ntmps <= G)
    {m : Nat} {cap : Nat -> D} (hsz : m + 1 <= fn.ntmps) {τ : Type} (enc : τ -> List V1) {encV : τ -> List Value} (henc : ∀ x (w : World) ok us, All2 (Rep1 w ok) (enc x) us -> us = encV x) (xs : List τ)
    (h : ∀ l, awp P T ⟨eq, false, l, fun n vs => ∃ x, xs[n]? = some x /\ vs = enc x, true, fun i => Nat.beq i keepN⟩ c (St.of ((G, .gho (some 0)) :: (0, .yl l) :: argSlots 1 ((List.range m).map fun j => .d (cap j))) []) (retY xs.length)) : SeqM P f m cap encV xs := by
  refine ⟨⟨fn, hf, hn, by rw [hb]; rfl⟩, fun w ok lb B Q hok hl hcap hOw l J Jx W pub0 hW hJ hJx hY h0 hp0 => ?_⟩
  have hBs : ∀ k, Ow B Q W k ↔ Ow B Q w k := fun k => Ow.same fun b hb => hW.block b (hOw b (.inl hb)).1
  let vs : List Value := .func (.yield l) #[] #[] :: lb
  have hvs : (#[.func (.yield l) #[] #[]] ++ lb.toArray : Array Value) = vs.toArray := by simp [vs]
  have hargs : All2 (Rep1 W ok) ((List.range m).map fun j => V1.d (cap j)) lb := by
    refine .map_left (All2.of_get (by simp [hl]) fun j q y hx hy => ?_)
    have hj : j < m := by have := (List.getElem?_eq_some_iff.1 hx).1; simpa using this
    rw [List.getElem?_range hj] at hx
    cases hx
    obtain ⟨u, hu, hr⟩ := hcap j hj
    rw [hy] at hu; cases hu
    exact Rep.keep (x := cap j) (fun b hb => ⟨hb, hW.block b (hok b hb)⟩) hr
  let cx : Cx := ⟨W, ok, fn.ntmps, fun b => (none : Option Nat) = some b, fun _ _ => False, 0, false, some 0, true⟩
  let a : Act := { tmps := vs.toArray ++ Array.replicate (fn.ntmps - vs.toArray.size) undef, defers := [] }
  have hsize : a.tmps.size = fn.ntmps := by simp [a, vs, hl]; omega
  have hcx : FamM fn.ntmps xs B Q W.heap.size J Jx cx := ⟨rfl, rfl, rfl, rfl, none, rfl, Nat.le_refl _, pub0, by simpa using h0, Nat.zero_le _, fun b hb hw => (hOw b ((hBs b).1 hw)).2 hb, fun k hk => Nat.lt_of_lt_of_le (hOw k ((hBs k).1 hk)).1 hW.size, hp0, fun b e => by cases e⟩
  let sl0 : List (Nat × AV) := (G, .gho (some 0)) :: (0, .yl l) :: argSlots 1 ((List.range m).map fun j => .d (cap j))
  have lk : ∀ t x, look sl0 t = some x -> x.refs = [] /\ M W (okOf cx (St.of sl0 []) (fun _ => undef) W) (fun _ => undef) x (a.tmps.getD t undef) /\ (∀ q, x = .gho q -> q = some 0) := fun t x hx => by
    simp only [sl0, look] at hx
    cases hb1 : Nat.beq t G with
    | true =>
      rw [hb1] at hx; cases hx
      have := Nat.eq_of_beq_eq_true hb1
      subst this
      refine ⟨rfl, ?_, fun q e => by cases e; rfl⟩
      show a.tmps.getD G undef = undef
      rw [Array.getD_eq_getD_getElem?, Array.getElem?_eq_none (by rw [hsize]; exact hng)]; rfl
    | false =>
      rw [hb1] at hx
      simp only [cond_false] at hx
      cases hb2 : Nat.beq t 0 with
      | true =>
        rw [hb2] at hx; cases hx
        have := Nat.eq_of_beq_eq_true hb2
        subst this
        refine ⟨rfl, ?_, fun q e => by cases e⟩
        exact zaE (vs := vs) (N := fn.ntmps) (j := 0) rfl
      | false =>
        rw [hb2] at hx
        obtain ⟨j, u, y, g1, g2, g3, g4⟩ := zaq (ok := ok) _ lb 1 t hargs x hx
        subst g3
        refine ⟨zba y, ?_, fun q e => ?_⟩
        · have := zaE (vs := vs) (N := fn.ntmps) (j := t) (u := u) (by rw [g1, Nat.add_comm]; exact g2)
          rw [show a.tmps.getD t undef = u from this]
          exact zdC.2 (zbj (fun b hb => .inl hb) g4)
        · cases y with
          | d z => cases z <;> cases e
          | agg z => cases e
  have hR0 : R cx (St.of sl0 []) a W := ⟨fun _ => undef,
    { defers := ⟨fun _ => rfl, [], rfl, List.nodup_nil, fun D hD => by cases hD⟩
      size := hsize
      okA := fun b hb => ⟨Nat.lt_of_lt_of_le (hok b hb) hW.size, fun e => by cases e⟩
      lent := fun b hb => by cases hb
      below := ⟨rfl, rfl, rfl, fun _ => Nat.le_refl _, Nat.le_refl _, fun _ _ _ => rfl⟩
      hold := fun k o hk => hk.elim
      least := Nat.zero_le _
      objs := fun i o hi => by cases hi
      refs := fun i cs hi => by cases hi
      sep := fun i j o o' hi => by cases hi
      slots := fun t => by
        show M W _ _ ((look sl0 t).getD .any) _
        cases hx : look sl0 t with
        | none => exact trivial
        | some x => exact (lk t x hx).2.1
      srefs := fun t j hj => by
        have hj' : j ∈ ((look sl0 t).getD .any).refs := hj
        cases hx : look sl0 t with
        | none => rw [hx] at hj'; cases hj'
        | some x => rw [hx] at hj'; rw [show (some x).getD .any = x from rfl, (lk t x hx).1] at hj'; cases hj'
      gho := fun q hq => by
        have hq' : (look sl0 G).getD .any = .gho q := hq
        cases hx : look sl0 G with
        | none => rw [hx] at hq'; cases hq'
        | some x => rw [hx] at hq'; exact ((lk G x hx).2.2 q hq').symm
      ng := hng }⟩
  rw [hvs]
  refine zcD (n := 0) (callsIn_of_wp_marks hf hb trivial ?_)
  refine zbc (Fm := FamM fn.ntmps xs B Q W.heap.size J Jx) (N := fn.ntmps) hT hE (fun c hc => hc.1) (fun c hc hd => by rw [hc.2.2.1] at hd; cases hd) (ylawM hng henc (fun n vs h => h) hJ hJx hY) (.inl rfl) (fun _ _ _ => rfl) (fun c hc => .inl rfl) hm c hN (fun x s a w' hR hk => ?_) ⟨cx, hcx, hR0⟩ (h l)
  have fin : (s.sl G = .gho (some xs.length) \/ s.sl G = .gho none) -> LeavesInM Fence.wide 0 P fn a.tmps (fun e W' => (∃ v, e = .returned v) /\ ((∃ ys, ys = xs /\ ∃ pub, J ys pub W') \/ (∃ pre, pre <+: xs /\ ∃ pub, Jx pre pub W'))) a.defers .returning w' := fun hk => by
    obtain ⟨cx', ⟨f1, f3, f4, f5, kb, f2, f7⟩, γ, hg⟩ := hR
    rw [hg.defers.1 f5]
    refine ⟨_, za5 (P := P) (fn := fn) (a := a) (w := w') (vs := []) (by rw [hres]; rfl), ⟨_, rfl⟩, ?_⟩
    have hgr := zcx hg.below f2
    rcases hk with hk | hk
    · rw [hg.gho _ hk] at f7
      obtain ⟨_, pub, j1, _, _, _, _, j6⟩ := f7
      rw [List.take_length] at j1
      exact .inl ⟨xs, rfl, pub, hJ _ _ _ _ kb j1 hgr (fun r e => ⟨(j6 r e).1, (j6 r e).2.1⟩)⟩
    · rw [hg.gho _ hk] at f7
      obtain ⟨hkb, n, pub, _, j1⟩ := f7
      exact .inr ⟨xs.take n, List.take_prefix n xs, pub, hJx _ _ _ _ kb j1 hgr (fun r e => by rw [hkb] at e; cases e)⟩
  cases x with
  | normal => exact fin hk
  | ret => exact fin hk
  | _ => exact hk.elim
section
variable {P : Program} {T : TT} {E : Env} (hT : ∀ t i, T t = some i -> TI.of P t = some i) (hE : ∀ t, E.eq t = true -> EqFact P t) (hm : P.follows .mixedOrders = true)
include hT hE hm
theorem zdu {cx : Cx} (hdr : cx.dr = false) {K : KK} {sl : List (Nat × AV)} {rc : List (Nat × Nat)} {τ : Type} {enc : τ -> List V1} {encV : τ -> List Value} {xs : List τ} {ob : List τ -> List (Nat × Ob)} {ps : Array Tmp} {as body : Code} {fn : FuncId} {D l g : Nat} {lb : List Value}
    {a : Act} (hd : a.defers = []) (hsl : okSl sl = true) (hob : ∀ pre, okOb sl rc (ob pre) = true) (henc : ∀ x (w : World) ok, All2 (Rep1 w ok) (enc x) (encV x)) (hps : ∀ x, (enc x).length = ps.size) (hnd : ps.toList.Nodup) (hpN : ∀ p ∈ ps.toList, p < cx.N) (hN1 : codeN cx.N as = true) (hN2 : codeN cx.N body = true)
    {Iv : List τ -> Prop} (hI0 : Iv [])
    (hbody : ∀ (v : Nat -> Value) pre x, pre ++ [x] <+: xs -> Iv pre -> awp P T E as (St.of (psl ps.toList (enc x) ++ pinS v sl) (ob pre)) (Ka P T E K sl rc v ob Iv body pre x))
    {w W1 : World} (hw : Below w.heap.size w W1) {γ1 : Nat -> Value} (h1 : RG cx γ1 (St.of sl (ob [])) a W1) {rec : LoopState -> Option Code -> Loop} (hrec : rec = fun st pe => { state := st, pending := pe, fn, tmps := a.tmps, params := ps, assign := as, body, defers := D })
    (hl : W1.heap[l]? = some (.loop (rec .ready none))) (hl0 : cx.w0.heap.size <= l) (hlw : w.heap.size <= l) (hlh : ∀ p, ¬ cx.hold l p) (Mk : Nat -> Obj -> Prop) (hMk : ∀ k o, Mk k o -> W1.heap[k]? = some o /\ o.isCells = false /\ k ≠ l)
    (hBw : ∀ b, Bs sl a b -> b < w.heap.size) (hseq : SeqMX Fence.wide 4 P g lb.toArray (fun x => (encV x).toArray) (KpB (Bs sl a) (Qs sl rc a)) xs w) :
    CallsIn Fence.wide 4 P g (#[.func (.yield l) #[] #[]] ++ lb.toArray) W1 fun e W' => (∃ v, e = .returned v) /\
      ((Iv xs /\ ∃ γ, RG cx γ (St.of sl (ob xs)) a W' /\ W'.heap[l]? = some (.loop (rec .ready none)) /\ ∀ k o, Mk k o -> W'.heap[k]? = some o) \/
       (∃ c ob' γ, JK K sl ob' c /\ RG cx γ (St.of sl ob') a W' /\ W'.heap[l]? = some (.loop (rec .done (some c))) /\ ∀ k o, Mk k o -> W'.heap[k]? = some o)) := by
  have hN : cx.N <= G := h1.ng
  have hlW1 : l < W1.heap.size := (Array.getElem?_eq_some_iff.1 hl).1
  have hcxA : ∀ b, cx.okA b -> b < cx.w0.heap.size /\ ¬ cx.lent b := h1.okA
  have hcxL : ∀ b, cx.lent b -> b < cx.w0.heap.size := h1.lent
  have hOl : cx.O l := .inl hl0
  have keepO : ∀ {W W' : World} {row : Option Nat} {k : Nat} {o : Obj}, W.grownBy W' row -> (∀ r, row = some r -> W1.heap.size <= r) -> k < W1.heap.size -> W.heap[k]? = some o -> W'.heap[k]? = some o := fun {W W' row k o} hg hr hk ho => by
    rw [hg.block k (Array.getElem?_eq_some_iff.1 ho).1 fun e => by have := hr k e.symm; omega]; exact ho
  have hMl : ∀ k o, Mk k o -> k < W1.heap.size := fun k o h => (Array.getElem?_eq_some_iff.1 (hMk k o h).1).1
  let TJ : List (Nat × Ob) -> (Nat -> Value) -> (Nat -> Prop) -> World -> Prop := fun ob' γ pub W => ∃ okJ, RG (cxJ cx W okJ (ownB (St.of sl ob') γ) l) γ (St.of sl ob') a W /\ Old cx (St.of sl ob') γ okJ W /\ ∀ b, okJ b \/ ownB (St.of sl ob') γ b -> pub b
  let J : List τ -> (Nat -> Prop) -> World -> Prop := fun pre pub W => Iv pre /\ ∃ γ, TJ (ob pre) γ pub W /\ W.heap[l]? = some (.loop (rec .ready none)) /\ ∀ k o, Mk k o -> W.heap[k]? = some o
  let Jx : List τ -> (Nat -> Prop) -> World -> Prop := fun _ pub W => ∃ c ob' γ, okOb sl rc ob' = true /\ JK K sl ob' c /\ TJ ob' γ pub W /\ W.heap[l]? = some (.loop (rec .done (some c))) /\ ∀ k o, Mk k o -> W.heap[k]? = some o
  have tstab : ∀ {ob' : List (Nat × Ob)} {γ : Nat -> Value} {pub : Nat -> Prop} {W W' : World} {row : Option Nat}, TJ ob' γ pub W -> W.grownBy W' row -> (∀ r, row = some r -> W1.heap.size <= r /\ ¬ pub r) -> TJ ob' γ pub W' := fun {ob' γ pub W W' row} ⟨okJ, t1, t2, t3⟩ hg hr =>
    ⟨okJ, t1.stab hd hg (fun r e => ⟨fun g => (hr r e).2 (t3 r (.inl g)), fun g => (hr r e).2 (t3 r (.inr g)), (fun g => by have := (hr r e).1; omega), fun p hp => by have := zbw h1 hp; have := (hr r e).1; omega⟩), t2.grow hdr hg (fun r e => Nat.le_trans h1.below.size (hr r e).1), t3⟩
  refine (hseq l J Jx W1 (fun b => (okOf cx (St.of sl (ob [])) γ1 W1 b /\ cellsAt W1 b) \/ ownB (St.of sl (ob [])) γ1 b) hw ?_ ?_ ?_ ?_ ?_).mono ?_
  · rintro pre pub W W' row ⟨hI, γ, h, hl', hk⟩ hg hr
    exact ⟨hI, γ, tstab h hg hr, keepO hg (fun r e => (hr r e).1) hlW1 hl', fun k o hko => keepO hg (fun r e => (hr r e).1) (hMl k o hko) (hk k o hko)⟩
  · rintro pre pub W W' row ⟨c, ob', γ, hq, hj, h, hl', hk⟩ hg hr
    exact ⟨c, ob', γ, hq, hj, tstab h hg hr, keepO hg (fun r e => (hr r e).1) hlW1 hl', fun k o hko => keepO hg (fun r e => (hr r e).1) (hMl k o hko) (hk k o hko)⟩
  · rintro pre x pub W ⟨hI, γ, ⟨okJ, h, hold', hpub⟩, hlW, hkW⟩ hlen
    obtain ⟨cJ, hcJ⟩ : ∃ c, c = cxJ cx W okJ (ownB (St.of sl (ob pre)) γ) l := ⟨_, rfl⟩
    rw [<- hcJ] at h
    have eN : cJ.N = cx.N := by rw [hcJ]; rfl
    have edr : cJ.dr = cx.dr := by rw [hcJ]; rfl
    have ehold : cJ.hold = cx.hold := by rw [hcJ]; rfl
    have ewz : cJ.w0 = W := by rw [hcJ]; rfl
    have elent : cJ.lent l := by rw [hcJ]; exact .inr rfl
    have eleast : cJ.least = 0 := by rw [hcJ]; rfl
    have hpN : ∀ p ∈ ps.toList, p < cJ.N := by rw [eN]; exact hpN
    have hN : cJ.N <= G := by rw [eN]; exact hN
    have hN1 : codeN cJ.N as = true := by rw [eN]; exact hN1
    have hN2 : codeN cJ.N body = true := by rw [eN]; exact hN2
    have hlt : l < W.heap.size := (Array.getElem?_eq_some_iff.1 hlW).1
    have hy := run_yield (P := P) (args := (encV x).toArray) hlW (by rw [hrec]; simp [<- (henc x W (fun _ => True)).length, hps x])
    rw [hrec] at hy
    refine ⟨fn, _, as, body, hy, roundIn_of_wpIn trivial ?_⟩
    have hfold : (ps.zip (encV x).toArray).foldl (fun (tmps : Array Value) (p : Tmp × Value) => tmps.setIfInBounds p.1 p.2) a.tmps = (ps.toList.zip (encV x)).foldl (fun t (p, v) => t.setIfInBounds p v) a.tmps := by
      rw [<- Array.foldl_toList, Array.toList_zip]
    let v : Nat -> Value := fun t => a.tmps.getD t undef
    let H : Nat -> Obj -> Prop := Rest γ (ob pre) W
    let cxA : Cx := ⟨cJ.w0, cJ.okA, cJ.N, cJ.lent, H, W.heap.size, cJ.dr, none, false⟩
    obtain ⟨p1, p2, p3⟩ := zoq (w := W) (ok := okOf cJ (St.of sl (ob pre)) γ W) (γ := γ) (N := cJ.N) ps.toList (enc x) (encV x) a.tmps hnd (fun p hp => by rw [h.size]; exact hpN p hp) (by rw [Array.length_toList, hps x]) (henc x W _)
    let sl1 := psl ps.toList (enc x) ++ pinS v sl
    have lk : ∀ t, look sl1 t = match look (psl ps.toList (enc x)) t with | some y => some y | none => (look sl t).map (pin1 (v t)) := fun t => by
      simp only [sl1, zcs, zcr]
      cases look (psl ps.toList (enc x)) t <;> rfl
    have hA : RG cxA γ (St.of sl1 (ob pre)) { tmps := (ps.toList.zip (encV x)).foldl (fun t (p, v) => t.setIfInBounds p v) a.tmps, defers := [] } W := {
      defers := ⟨fun _ => rfl, [], rfl, List.nodup_nil, fun D hD => by cases hD⟩
      size := p1.trans h.size
      okA := h.okA, lent := h.lent
      below := ⟨h.below.os, h.below.tape, h.below.output, h.below.drawn, h.below.size, h.below.block⟩
      hold := fun k o hk => hk
      least := Nat.le_refl _
      objs := h.objs, refs := h.refs, sep := h.sep
      slots := fun t => by
        show M W _ γ ((look sl1 t).getD .any) _
        rw [lk]
        cases hp : look (psl ps.toList (enc x)) t with
        | some y => exact (p2 t y hp).2.2
        | none =>
          have h3 := p3 t hp
          show M W _ γ (((look sl t).map (pin1 (v t))).getD .any) (Array.getD _ t undef)
          have h4 := h.slots t
          rw [show (St.of sl (ob pre)).sl t = (look sl t).getD .any from rfl] at h4
          cases hq : look sl t with
          | none => exact trivial
          | some y =>
            rw [hq] at h4
            rw [show Array.getD ((ps.toList.zip (encV x)).foldl (fun t (p, v) => t.setIfInBounds p v) a.tmps) t undef = a.tmps.getD t undef from h3]
            have hK := List.all_eq_true.1 hsl (t, y) (zau hq)
            cases y with
            | box i o =>
              have := Nat.eq_of_beq_eq_true hK
              subst this
              exact ⟨h4, rfl⟩
            | _ => first | exact h4 | cases hK
      srefs := fun t j hj => by
        have hj' : j ∈ ((look sl1 t).getD .any).refs := hj
        rw [lk] at hj'
        cases hp : look (psl ps.toList (enc x)) t with
        | some y => rw [hp] at hj'; rw [show (some y).getD AV.any = y from rfl, (p2 t y hp).1] at hj'; cases hj'
        | none =>
          rw [hp] at hj'
          refine h.srefs t j ?_
          show j ∈ ((look sl t).getD .any).refs
          cases hq : look sl t with
          | none => simp only [hq] at hj'; exact hj'
          | some y => simp only [hq] at hj'; cases y <;> exact hj'
      gho := fun m hm' => by
        exfalso
        have hm2 : (look sl1 G).getD .any = .gho m := hm'
        rw [lk] at hm2
        cases hp : look (psl ps.toList (enc x)) G with
        | some y => rw [hp] at hm2; exact (p2 G y hp).2.1 m hm2
        | none =>
          simp only [hp] at hm2
          cases hq : look sl G with
          | none => rw [hq] at hm2; cases hm2
          | some y =>
            rw [hq] at hm2
            have hK := List.all_eq_true.1 hsl (G, y) (zau hq)
            cases y <;> first | (simp [slK] at hK; done) | cases hm2
      ng := hN }
    have hDf : ∀ (c' : Cx), c'.dr = cJ.dr -> ∀ q, q = c' -> q.dr = true -> E.dr = true := fun c' e q hq hq' => by rw [hq, e, edr, hdr] at hq'; cases hq'
    have hHl : H l (.loop (rec .ready none)) := ⟨hlW, fun i p hi e => by
      obtain ⟨_, _, ⟨cs, T', x', hc⟩ | ⟨cs, x', hc⟩⟩ := zaU (h.objs i p hi) e
      · rw [hlW] at hc; cases hc
      · rw [hlW] at hc; cases hc⟩
    have hHk : ∀ k o, Mk k o -> H k o := fun k o hko => ⟨hkW k o hko, fun i p hi e => by
      have hcl := zh1 h (hob _) hi e
      obtain ⟨cs, T', x', hc⟩ := hcl
      rw [hkW k o hko] at hc; cases hc
      exact absurd (hMk k _ hko).2.1 (by simp [Obj.isCells])⟩
    rw [show (ps.zip (encV x).toArray).foldl (fun (tmps : Array Value) (x : Tmp × Value) => match x with | (t, a) => tmps.setIfInBounds t a) a.tmps = (ps.toList.zip (encV x)).foldl (fun t (p, v) => t.setIfInBounds p v) a.tmps from hfold]
    refine zbc (Fm := (· = cxA)) (N := cJ.N) hT hE (fun c hc => by rw [hc]) (hDf cxA rfl) (YLaw.none rfl) (.inr ⟨l, rfl⟩) (fun c hc hn => by rw [hc] at hn; cases hn) (fun c hc => by rw [hc]; exact .inr ⟨l, _, rfl, hHl⟩) hm as hN1 (fun e s1 a1 W2 hR hk => ?_) ⟨cxA, rfl, γ, hA⟩ (hbody v pre x hlen hI)
    obtain ⟨_, rfl, γ2, h2⟩ := hR
    cases e with
    | normal =>
      have hl2 := (h2.hold l _ hHl).1
      have hlt2 : l < W2.heap.size := (Array.getElem?_eq_some_iff.1 hl2).1
      refine ⟨_, run_beginRound hl2 (by rw [hrec]), ?_⟩
      let W3 := W2.putObj l (.loop { rec .ready none with state := .busy })
      have hl3 : W3.heap[l]? = some (.loop { rec .ready none with state := .busy }) := World.putObj_heap_same hlt2
      let HB : Nat -> Obj -> Prop := fun k o => (k ≠ l /\ H k o) \/ (k = l /\ o = .loop { rec .ready none with state := .busy })
      let cxB : Cx := ⟨cJ.w0, cJ.okA, cJ.N, cJ.lent, HB, W.heap.size, cJ.dr, none, false⟩
      have h2' : RG ⟨cJ.w0, cJ.okA, cJ.N, cJ.lent, fun k o => k ≠ l /\ H k o, W.heap.size, cJ.dr, none, false⟩ γ2 s1 { tmps := a1.tmps, defers := a1.defers } W2 := {
        defers := h2.defers, size := h2.size, okA := h2.okA, lent := h2.lent, below := ⟨h2.below.os, h2.below.tape, h2.below.output, h2.below.drawn, h2.below.size, h2.below.block⟩
        hold := fun k o hk => h2.hold k o hk.2, least := h2.least, objs := h2.objs, refs := h2.refs, sep := h2.sep, slots := h2.slots, srefs := h2.srefs, gho := h2.gho, ng := h2.ng }
      have hml : mark l ∉ a1.defers := fun hmm => by
        obtain ⟨_, ms, e1, _, e3⟩ := h2.defers
        rw [e1] at hmm
        obtain ⟨E', hE', he⟩ := List.mem_map.1 hmm
        have : E' = l := by simp only [mark, Deferred.mk.injEq, Target.collected.injEq, and_true] at he; exact he
        subst this
        have := (e3 E' hE').2
        rw [hl2] at this; cases this
      have h3 := h2'.otherL (grownBy_putObj' W2 l (.loop { rec .ready none with state := .busy })) (fun _ => Nat.le_refl _) hl2 rfl (.inl fun _ _ e => by cases e) hml (fun p hp => hp.1 rfl) (.inr elent)
      have hnl : ∀ i p, s1.ob i = some p -> blk (γ2 i) ≠ some l := (h2.hold l _ hHl).2
      have hB : RG cxB γ2 s1 a1 W3 := {
        defers := h3.defers, size := h3.size, okA := h3.okA, lent := h3.lent, below := ⟨h3.below.os, h3.below.tape, h3.below.output, h3.below.drawn, h3.below.size, h3.below.block⟩
        hold := fun k o hk => by
          rcases hk with hk | ⟨rfl, rfl⟩
          · exact h3.hold k o hk
          · exact ⟨hl3, hnl⟩
        least := h3.least, objs := h3.objs, refs := h3.refs, sep := h3.sep, slots := h3.slots, srefs := h3.srefs, gho := h3.gho, ng := h3.ng }
      refine zbc (Fm := (· = cxB)) (N := cJ.N) hT hE (fun c hc => by rw [hc]) (hDf cxB rfl) (YLaw.none rfl) (.inr ⟨l, rfl⟩) (fun c hc hn => by rw [hc] at hn; cases hn) (fun c hc => by rw [hc]; exact .inr ⟨l, _, rfl, .inr ⟨rfl, rfl⟩⟩) hm body hN2 (fun e s2 a3 W4 hR hk4 => ?_) ⟨cxB, rfl, γ2, hB⟩ hk
      obtain ⟨_, rfl, γ3, h4⟩ := hR
      have fin : ∀ (ob' : List (Nat × Ob)), okOb sl rc ob' = true -> Weak s2 (pinS v sl) ob' -> ∃ γ4, RG cJ γ4 (St.of sl ob') a W4 /\ KpB (Bs sl a) (Qs sl rc a) W W4 /\ W4.heap[l]? = some (.loop { rec .ready none with state := .busy }) /\ ∀ k o, Mk k o -> W4.heap[k]? = some o := fun ob' hok' hwk => by
        obtain ⟨γ4, h5, _⟩ := h4.weakL hwk
        have hr := h.round (γ2 := γ4) (ob' := ob') (a2 := a3) (w2 := W4) (cx2 := cxB) hsl hd h5 rfl rfl rfl rfl h.least (fun k o hko => by
          by_cases e : k = l
          · subst e
            refine ⟨_, .inr ⟨rfl, rfl⟩, fun ⟨c, T', x', hc⟩ => ?_⟩
            have := hko.1
            rw [hlW] at this; cases this; cases hc
          · exact ⟨o, .inl ⟨e, hko⟩, fun _ => rfl⟩) (fun k o hk => .inl ⟨fun e => hlh o (by rw [<- ehold]; exact e ▸ hk), h.hold k o hk⟩)
        refine ⟨γ4, hr, ⟨h5.least, fun k hk => ?_, fun k o hk hc hn => ?_⟩, (h5.hold l _ (.inr ⟨rfl, rfl⟩)).1, fun k o hko => (h5.hold k o (.inl ⟨(hMk k o hko).2.2, hHk k o hko⟩)).1⟩
        · obtain ⟨i, o, hi, hbi⟩ := zes hr hok' (fun t i ht => zeE hr ht) hk
          have hk4 := (zar hr hi hbi).2
          by_cases hkW : k < W.heap.size
          · by_cases hown : ∃ i p, look (ob pre) i = some p /\ blk (γ i) = some k
            · obtain ⟨i', p, hi', hb'⟩ := hown
              exact .inl (zlZ h (hob pre) hi' hb')
            · exfalso
              have ho : W.heap[k]? = some W.heap[k] := Array.getElem?_eq_getElem hkW
              have hRest : Rest γ (ob pre) W k W.heap[k] := ⟨ho, fun i' p hi' hb' => hown ⟨i', p, hi', hb'⟩⟩
              by_cases e : k = l
              · exact (h5.hold l _ (.inr ⟨rfl, rfl⟩)).2 i o hi (by rw [<- e]; exact hbi)
              · exact (h5.hold k _ (.inl ⟨e, hRest⟩)).2 i o hi hbi
          · exact .inr ⟨by omega, hk4⟩
        · have hne : k ≠ l := fun e => by subst e; rw [hlW] at hk; cases hk; cases hc
          exact (h5.hold k o (.inl ⟨hne, hk, fun i p hi hb => hn (zlZ h (hob pre) hi hb)⟩)).1
      have put : ∀ {ob' : List (Nat × Ob)} {γ4 : Nat -> Value} (o' : Obj), RG cJ γ4 (St.of sl ob') a W4 -> W4.heap[l]? = some (.loop { rec .ready none with state := .busy }) -> RG cJ γ4 (St.of sl ob') a (W4.putObj l o') := fun {ob' γ4} o' hr hl4 =>
        hr.otherL (grownBy_putObj' W4 l o') (fun _ => Nat.le_refl _) hl4 rfl (.inl fun _ _ e => by cases e) (by rw [hd]; simp) (fun p hp => hlh p (by rw [<- ehold]; exact hp)) (.inr elent)
      have reb : ∀ {ob' : List (Nat × Ob)} {γ4 : Nat -> Value} (lp : Loop), RG cJ γ4 (St.of sl ob') a W4 -> W4.heap[l]? = some (.loop { rec .ready none with state := .busy }) -> ∃ pub' : Nat -> Prop, (∀ b, pub' b -> pub b \/ (W.heap.size <= b /\ b < (W4.putObj l (.loop lp)).heap.size)) /\ TJ ob' γ4 pub' (W4.putObj l (.loop lp)) := fun {ob' γ4} lp hr hl4 => by
        have h6 := put (.loop lp) hr hl4
        have hl6 : (W4.putObj l (.loop lp)).heap[l]? = some (.loop lp) := World.putObj_heap_same (Array.getElem?_eq_some_iff.1 hl4).1
        have h7 := h6.reb hd hl6
        have hin : ∀ b, cJ.O b -> b ≠ l -> pub b \/ W.heap.size <= b := fun b hb hne => by
          rw [hcJ] at hb
          rcases hb with g | g | g
          · exact .inr g
          · exact .inl (hpub b (.inr g))
          · exact absurd g hne
        have hncl : ∀ b, cellsAt (W4.putObj l (.loop lp)) b -> b ≠ l := fun b ⟨c, T', x', hc⟩ e => by subst e; rw [hl6] at hc; cases hc
        refine ⟨fun b => (okOf cJ (St.of sl ob') γ4 (W4.putObj l (.loop lp)) b /\ cellsAt (W4.putObj l (.loop lp)) b) \/ ownB (St.of sl ob') γ4 b, fun b hb => ?_, _, ?_, ?_, fun b hb => hb⟩
        · rcases hb with ⟨hb, hc⟩ | ⟨i, o, hi, e⟩
          · have hlt := zal h6 hb
            rcases hb with g | ⟨g, _⟩
            · refine .inl (hpub b (.inl ?_))
              rw [hcJ] at g; exact g
            · rcases hin b g (hncl b hc) with g2 | g2
              · exact .inl g2
              · exact .inr ⟨g2, hlt⟩
          · obtain ⟨g, hlt⟩ := zar h6 hi e
            have hne : b ≠ l := fun e2 => by
              subst e2
              obtain ⟨_, _, ⟨cs, T', x', hc⟩ | ⟨cs, x', hc⟩⟩ := zaU (h6.objs i o hi) e
              · rw [hl6] at hc; cases hc
              · rw [hl6] at hc; cases hc
            rcases hin b g hne with g2 | g2
            · exact .inl g2
            · exact .inr ⟨g2, hlt⟩
        · have e : cxJ cJ (W4.putObj l (.loop lp)) (fun b => okOf cJ (St.of sl ob') γ4 (W4.putObj l (.loop lp)) b /\ cellsAt (W4.putObj l (.loop lp)) b) (ownB (St.of sl ob') γ4) l = cxJ cx (W4.putObj l (.loop lp)) (fun b => okOf cJ (St.of sl ob') γ4 (W4.putObj l (.loop lp)) b /\ cellsAt (W4.putObj l (.loop lp)) b) (ownB (St.of sl ob') γ4) l := by rw [hcJ]; rfl
          rw [<- e]; exact h7
        · have := hold'.on hOl hl0 (hcJ ▸ h6)
          rw [<- hcJ] at this; exact this
      have putk : ∀ (o' : Obj) {k : Nat} {o : Obj}, k ≠ l -> W4.heap[k]? = some o -> (W4.putObj l o').heap[k]? = some o := fun o' {k o} hk ho => by rw [World.putObj_heap_other hk]; exact ho
      have jump : ∀ (c : Code) (ob' : List (Nat × Ob)), okOb sl rc ob' = true -> Weak s2 (pinS v sl) ob' -> JK K sl ob' c -> ∃ v w', (Instr.endRound l (some c)).run P W4 = .ok v w' /\ ((Ending.returned v = .returned (.bool true) /\ (∃ pub', (∀ b, pub' b -> pub b \/ (W.heap.size <= b /\ b < w'.heap.size)) /\ J (pre ++ [x]) pub' w') /\ KpB (Bs sl a) (Qs sl rc a) W w') \/ (Ending.returned v = .returned (.bool false) /\ ∃ pub', Jx (pre ++ [x]) pub' w')) := fun c ob' hok' hwk hj => by
        obtain ⟨γ4, g1, g2, g3, g4⟩ := fin ob' hok' hwk
        obtain ⟨pub', k1, k2⟩ := reb _ g1 g3
        refine ⟨_, _, run_endRound (some c) g3, .inr ⟨rfl, pub', c, ob', γ4, hok', hj, k2, ?_, fun k o hko => putk _ (hMk k o hko).2.2 (g4 k o hko)⟩⟩
        rw [World.putObj_heap_same (Array.getElem?_eq_some_iff.1 g3).1, hrec]; rfl
      cases e with
      | normal =>
        obtain ⟨γ4, g1, g2, g3, g4⟩ := fin _ (hob _) hk4.2
        obtain ⟨pub', k1, k2⟩ := reb _ g1 g3
        refine ⟨_, _, run_endRound none g3, .inl ⟨rfl, ⟨pub', k1, hk4.1, γ4, k2, ?_, fun k o hko => putk _ (hMk k o hko).2.2 (g4 k o hko)⟩, g2.trans (KpB.book hBw W4 l _ _ hlw g3 rfl)⟩⟩
        rw [World.putObj_heap_same (Array.getElem?_eq_some_iff.1 g3).1, hrec]; rfl
      | ret => obtain ⟨ob', q1, q2, q3⟩ := hk4; exact jump .ret ob' q1 q2 q3
      | exit id => obtain ⟨ob', q1, q2, q3⟩ := hk4; exact jump (.exit id) ob' q1 q2 q3
      | goto t => obtain ⟨ob', q1, q2, q3⟩ := hk4; exact jump (.goto t) ob' q1 q2 q3
      | panic ch => exact hk4.elim
      | outgrown => exact hk4.elim
    | _ => exact hk.elim
  · exact ⟨hI0, γ1, ⟨_, h1.reb hd hl, h1.old, fun b hb => hb⟩, hl, fun k o hko => (hMk k o hko).1⟩
  · intro b hb
    rcases hb with hb | ⟨i, o, hi, e⟩
    · exact zal h1 hb.1
    · exact (zar h1 hi e).2
  · rintro e W' ⟨hv, h⟩
    refine ⟨hv, ?_⟩
    rcases h with ⟨ys, rfl, pub, hI, γ, ⟨okJ, t1, t2, _⟩, h2, h3⟩ | ⟨pre, _, pub, c, ob', γ, _, hj, ⟨okJ, t1, t2, _⟩, h2, h3⟩
    · exact .inl ⟨hI, γ, t1.back hd t2 hOl hcxA hcxL, h2, h3⟩
    · exact .inr ⟨c, ob', γ, hj, t1.back hd t2 hOl hcxA hcxL, h2, h3⟩
theorem CodeOb.rangeM {K : KK} {s : St} {fo : Operand} {ps : Array Tmp} {as body : Code} {g m : Nat} {cap : Nat -> D} {τ : Type} {encV : τ -> List Value} {xs : List τ} (hseq : SeqM P g m cap encV xs) (hc : callee (ev s fo) = some (g, (List.range m).map fun j => AV.d (cap j)))
    (enc : τ -> List V1) (henc : ∀ x (w : World) ok, All2 (Rep1 w ok) (enc x) (encV x)) (hps : ∀ x, (enc x).length = ps.size) (hnd : ps.toList.Nodup)
    (sl : List (Nat × AV)) (rc : List (Nat × Nat)) (ob : List τ -> List (Nat × Ob)) (hsl : okSl sl = true) (hob : ∀ pre, okOb sl rc (ob pre) = true) (hw : Weak s sl (ob []))
    {Iv : List τ -> Prop} (hI0 : Iv [])
    (hbody : ∀ (v : Nat -> Value) pre x, pre ++ [x] <+: xs -> Iv pre -> awp P T E as (St.of (psl ps.toList (enc x) ++ pinS v sl) (ob pre)) (Ka P T E K sl rc v ob Iv body pre x))
    (hend : Iv xs -> K .normal (St.of sl (ob xs))) : CodeOb false false P (.rangeFunc fo ps as body) s K := by
  rw [zb9]
  intro cx F n a w hdr hnod hF hN hR
  have hdr0 : cx.dr = false := by
    cases h : cx.dr with
    | false => rfl
    | true => exact absurd (hdr h) (by simp)
  have hnod0 : cx.nod = false := by
    cases h : cx.nod with
    | false => rfl
    | true => exact absurd (hnod h) (by simp)
  obtain ⟨γs, hs⟩ := hR
  obtain ⟨γ0, h0, hk⟩ := hs.weakL hw
  obtain ⟨caps, hfv, hcm⟩ := zaZ hc (ev_m hs fo).1
  obtain ⟨a0, ha0⟩ : ∃ a0 : Act, a0 = { tmps := a.tmps, defers := [] } := ⟨_, rfl⟩
  have h0a : RG cx γ0 (St.of sl (ob [])) a0 w := by rw [ha0]; exact h0.defs ⟨fun _ => rfl, [], rfl, List.nodup_nil, fun D hD => by cases hD⟩
  have hlen : caps.length = m := by have := hcm.length; simpa using this.symm
  have hq := hseq.2 w (okOf cx (St.of sl (ob [])) γ0 w) caps (Bs sl a0) (Qs sl rc a0) (fun b hb => zal h0a hb) hlen (fun j hj => by
    obtain ⟨u, hu, hr⟩ := hcm.get j (.d (cap j)) (by simp [hj])
    exact ⟨u, hu, Rep.keep (x := cap j) (fun b hb => ⟨hk b hb, rfl⟩) hr⟩) (fun k hkk => by
    obtain ⟨i, o, hi, hb⟩ := zes h0a (hob []) (fun t i ht => zeE h0a ht) hkk
    exact ⟨(zar h0a hi hb).2, fun hok => zc1 h0a hok hi hb⟩)
  have hBw : ∀ b, Bs sl a0 b -> b < w.heap.size := fun b hb => by
    obtain ⟨i, o, hi, hbi⟩ := zes h0a (hob []) (fun t i ht => zeE h0a ht) (.inl hb)
    exact (zar h0a hi hbi).2
  obtain ⟨_, ms, hms, hmn, hmd⟩ := hs.defers
  simp only [codeN, Bool.and_eq_true] at hN
  have hpN : ∀ p ∈ ps.toList, p < cx.N := fun p hp => Nat.le_of_ble_eq_true (List.all_eq_true.1 hN.1 p hp)
  have hmlt : ∀ D ∈ ms, D < w.heap.size := fun D hD => (Array.getElem?_eq_some_iff.1 (hmd D hD).2).1
  have fin : ∀ {ob' : List (Nat × Ob)} {γ : Nat -> Value} {W : World} {l : Nat} {lp : Loop} (o' : Obj) (ms' : List Nat), RG cx γ (St.of sl ob') a0 W -> W.heap[l]? = some (.loop lp) -> w.heap.size <= l -> ms'.Nodup -> (∀ D ∈ ms', cx.w0.heap.size <= D /\ D ≠ l /\ W.heap[D]? = some (.deferred (some []))) ->
      R cx (St.of sl ob') { tmps := a.tmps, defers := ms'.map mark } (W.putObj l o') := fun {ob' γ W l lp} o' ms' hr hl hlw hnd' hD => by
    have h2 := hr.other (grownBy_putObj' W l o') (fun _ => Nat.le_refl _) hl rfl (.inl fun _ _ e => by cases e) (by rw [ha0]; simp) (fun p hp => by have := zbw hs hp; omega) (Nat.le_trans hs.below.size hlw)
    have h3 := h2.defs (ds := ms'.map mark) ⟨(fun e => by rw [hnod0] at e; cases e), ms', rfl, hnd', fun D hD' => ⟨(hD D hD').1, by rw [World.putObj_heap_other (hD D hD').2.1]; exact (hD D hD').2.2⟩⟩
    rw [ha0] at h3
    exact ⟨γ, h3⟩
  have jmp : ∀ {F : Fence} {Q : Exit -> Act -> World -> Prop} {c : Code} {ob' : List (Nat × Ob)} {a' : Act} {W : World}, JK K sl ob' c -> R cx (St.of sl ob') a' W -> (∀ e s a w, R cx s a w -> K e s -> Q e a w) -> c.wpIn F 5 P Q a' W := fun {F Q c ob' a' W} hj hr hQ => by
    cases c <;> first
      | exact wpIn_ret (hQ _ _ _ _ hr hj)
      | exact wpIn_exit (hQ _ _ _ _ hr hj)
      | exact wpIn_goto (hQ _ _ _ _ hr hj)
      | exact hj.elim
  rcases hF with rfl | ⟨l₀, r₀, rfl, hl₀⟩
  · refine zc5 (n := 5) (.inl rfl) (wpIn_rangeFunc ?_)
    intro fn _
    obtain ⟨rec, hrec⟩ : ∃ rec : LoopState -> Option Code -> Loop, rec = fun st pe => { state := st, pending := pe, fn, tmps := a0.tmps, params := ps, assign := as, body, defers := w.heap.size } := ⟨_, rfl⟩
    obtain ⟨W1, hW1⟩ : ∃ W1, (w.alloc (.deferred (some []))).alloc (.loop (rec .ready none)) = W1 := ⟨_, rfl⟩
    have hL1 : W1.heap[w.heap.size + 1]? = some (.loop (rec .ready none)) := by
      rw [<- hW1]; have := World.alloc_heap_new (w.alloc (.deferred (some []))) (.loop (rec .ready none)); rwa [World.size_alloc] at this
    have hK1 : W1.heap[w.heap.size]? = some (.deferred (some [])) := by
      rw [<- hW1]; exact (Below.heap_alloc _ _ _ (by simp)).trans (World.alloc_heap_new w _)
    have hb1 : Below w.heap.size w W1 := by rw [<- hW1]; exact ((Below.refl _ w).alloc (Nat.le_refl _) _).alloc (by simp) _
    have h1 : RG cx γ0 (St.of sl (ob [])) a0 W1 := h0a.grow hb1 (fun _ => by rw [<- hW1]; exact Nat.le_refl _)
    refine ⟨w.heap.size + 1, [mark w.heap.size], W1, { target := .fn (.func g) caps.toArray, args := #[.func (.yield (w.heap.size + 1)) #[] #[]] }, W1, g, #[.func (.yield (w.heap.size + 1)) #[] #[]] ++ caps.toArray, W1, ?_, ?_, fun _ _ => trivial, ?_, fun _ => by omega, ?_⟩
    · rw [<- hW1, hrec, ha0]; exact run_enterLoop_outer _ _ _ _ _
    · simp only [resolve, hfv]; simp [go_sem]
    · simp [invoke, zam hseq.1]
    · let Mk : Nat -> Obj -> Prop := fun k o => (k = w.heap.size \/ k ∈ ms) /\ o = .deferred (some [])
      have hMk : ∀ k o, Mk k o -> W1.heap[k]? = some o /\ o.isCells = false /\ k ≠ w.heap.size + 1 := fun k o ⟨h2, h3⟩ => by
        subst h3
        rcases h2 with rfl | h2
        · exact ⟨hK1, rfl, by omega⟩
        · have := hmlt k h2
          exact ⟨(hb1.block k this).trans (hmd k h2).2, rfl, by omega⟩
      have nod : (w.heap.size :: ms).Nodup := List.nodup_cons.2 ⟨fun h => by have := hmlt _ h; omega, hmn⟩
      have hDs : ∀ {W : World}, (∀ k o, Mk k o -> W.heap[k]? = some o) -> ∀ D ∈ w.heap.size :: ms, cx.w0.heap.size <= D /\ D ≠ w.heap.size + 1 /\ W.heap[D]? = some (.deferred (some [])) := fun {W} hW D hD => by
        rcases List.mem_cons.1 hD with rfl | hD
        · exact ⟨hs.below.size, by omega, hW _ _ ⟨.inl rfl, rfl⟩⟩
        · have := hmlt D hD
          exact ⟨(hmd D hD).1, by omega, hW _ _ ⟨.inr hD, rfl⟩⟩
      have ha' : ({ a with defers := [mark w.heap.size] ++ a.defers } : Act) = { tmps := a.tmps, defers := (w.heap.size :: ms).map mark } := by rw [hms]; rfl
      refine (zdu (l := w.heap.size + 1) hT hE hm hdr0 (by rw [ha0]) hsl hob henc hps hnd hpN hN.2.1 hN.2.2 hI0 hbody hb1 h1 hrec hL1 (by have := hs.below.size; omega) (by omega) (fun p hp => by have := zbw hs hp; omega) Mk hMk hBw hq).mono ?_
      rintro e W' ⟨⟨v, rfl⟩, (⟨gI, γ, g1, g2, g3⟩ | ⟨c, ob', γ, gj, g1, g2, g3⟩)⟩
      · refine ⟨none, _, by have := run_endLoop (P := P) g2 (by rw [hrec]; simp); rw [hrec] at this; exact this, ?_⟩
        have := fin (.loop { rec .ready none with state := .exhausted }) (w.heap.size :: ms) g1 g2 (by omega) nod (hDs g3)
        rw [hrec] at this
        show ∃ s', R cx s' _ _ /\ K .normal s'
        rw [ha']
        exact ⟨_, this, hend gI⟩
      · refine ⟨some c, _, by have := run_endLoop (P := P) g2 (by rw [hrec]; simp); rw [hrec] at this; exact this, ?_⟩
        have := fin (.loop { rec .done (some c) with state := .exhausted }) (w.heap.size :: ms) g1 g2 (by omega) nod (hDs g3)
        rw [hrec] at this
        show c.wpIn _ _ P _ _ _
        rw [ha']
        exact jmp gj this fun e s a w h1 h2 => ⟨s, h1, h2⟩
  · refine zc5 (n := 5) (.inr ⟨l₀, rfl⟩) (wpIn_rangeFunc ?_)
    intro fn _
    obtain ⟨rec, hrec⟩ : ∃ rec : LoopState -> Option Code -> Loop, rec = fun st pe => { state := st, pending := pe, fn, tmps := a0.tmps, params := ps, assign := as, body, defers := r₀.defers } := ⟨_, rfl⟩
    obtain ⟨W1, hW1⟩ : ∃ W1, w.alloc (.loop (rec .ready none)) = W1 := ⟨_, rfl⟩
    have hL1 : W1.heap[w.heap.size]? = some (.loop (rec .ready none)) := by rw [<- hW1]; exact World.alloc_heap_new w _
    have hb1 : Below w.heap.size w W1 := by rw [<- hW1]; exact (Below.refl _ w).alloc (Nat.le_refl _) _
    have h1 : RG cx γ0 (St.of sl (ob [])) a0 W1 := h0a.grow hb1 (fun _ => by rw [<- hW1]; exact Nat.le_refl _)
    refine ⟨w.heap.size, [], W1, { target := .fn (.func g) caps.toArray, args := #[.func (.yield w.heap.size) #[] #[]] }, W1, g, #[.func (.yield w.heap.size) #[] #[]] ++ caps.toArray, W1, ?_, ?_, fun _ _ => trivial, ?_, fun _ => by omega, ?_⟩
    · rw [<- hW1, hrec, ha0]; exact run_enterLoop_inner (hs.hold _ _ hl₀).1 _ _ _ _ _
    · simp only [resolve, hfv]; simp [go_sem]
    · simp [invoke, zam hseq.1]
    · let Mk : Nat -> Obj -> Prop := fun k o => k ∈ ms /\ o = .deferred (some [])
      have hMk : ∀ k o, Mk k o -> W1.heap[k]? = some o /\ o.isCells = false /\ k ≠ w.heap.size := fun k o ⟨h2, h3⟩ => by
        subst h3
        have := hmlt k h2
        exact ⟨(hb1.block k this).trans (hmd k h2).2, rfl, by omega⟩
      have hDs : ∀ {W : World}, (∀ k o, Mk k o -> W.heap[k]? = some o) -> ∀ D ∈ ms, cx.w0.heap.size <= D /\ D ≠ w.heap.size /\ W.heap[D]? = some (.deferred (some [])) := fun {W} hW D hD => by
        have := hmlt D hD
        exact ⟨(hmd D hD).1, by omega, hW _ _ ⟨hD, rfl⟩⟩
      have ha' : ({ a with defers := [] ++ a.defers } : Act) = { tmps := a.tmps, defers := ms.map mark } := by rw [hms]; rfl
      have core := zdu (l := w.heap.size) hT hE hm hdr0 (by rw [ha0]) hsl hob henc hps hnd hpN hN.2.1 hN.2.2 hI0 hbody hb1 h1 hrec hL1 hs.below.size (Nat.le_refl _) (fun p hp => by have := zbw hs hp; omega) Mk hMk hBw hq
      have core' : CallsIn (Fence.wide.inRound l₀) 4 P g _ W1 _ := core
      refine core'.mono ?_
      rintro e W' ⟨⟨v, rfl⟩, (⟨gI, γ, g1, g2, g3⟩ | ⟨c, ob', γ, gj, g1, g2, g3⟩)⟩
      · refine ⟨none, _, by have := run_endLoop (P := P) g2 (by rw [hrec]; simp); rw [hrec] at this; exact this, ?_⟩
        have := fin (.loop { rec .ready none with state := .exhausted }) ms g1 g2 (Nat.le_refl _) hmn (hDs g3)
        rw [hrec] at this
        show ∃ s', R cx s' _ _ /\ K .normal s'
        rw [ha']
        exact ⟨_, this, hend gI⟩
      · refine ⟨some c, _, by have := run_endLoop (P := P) g2 (by rw [hrec]; simp); rw [hrec] at this; exact this, ?_⟩
        have := fin (.loop { rec .done (some c) with state := .exhausted }) ms g1 g2 (Nat.le_refl _) hmn (hDs g3)
        rw [hrec] at this
        show c.wpIn _ _ P _ _ _
        rw [ha']
        exact jmp gj this fun e s a w h1 h2 => ⟨s, h1, h2⟩
end
end Go.Pg
