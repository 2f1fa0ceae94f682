/- Texts joined and shortened by program. -/
import Derived.Test.YtogcomikcdbopaaGreatM5
import Derived.Test.YtogcomikcdbopaaGreatM6
import Derived.Test.YtogcomikcdbopaaGreatM4
import Derived.Test.YtogcomikcdbopaaGreatMF
set_option maxHeartbeats 4000000
set_option linter.all false
namespace Go.Pg
open Go.Proofs Go.RowKit
structure OwnS (w : World) (ok : Nat -> Prop) (γ : Nat -> Value) (obs : List (Nat × Ob)) : Prop where
  objs : ∀ i o, look obs i = some o -> Holds w (fun _ => True) ok γ i o
  refs : ∀ i cs, look obs i = some (.box cs) -> ∀ c ∈ cs, ∀ j ∈ c.refs, (look obs j).isSome = true
  sep : ∀ i j o o', look obs i = some o -> look obs j = some o' -> i ≠ j -> ∀ b, blk (γ i) = some b -> blk (γ j) ≠ some b
  out : ∀ i o b, look obs i = some o -> blk (γ i) = some b -> ¬ ok b
def LentB (γ : Nat -> Value) (obs : List (Nat × Ob)) (b : Nat) : Prop := ∃ i o, look obs i = some o /\ blk (γ i) = some b
def okM (w w' : World) (ok : Nat -> Prop) (γ γ' : Nat -> Value) (obs obs' : List (Nat × Ob)) (b : Nat) : Prop := ok b \/ ((w.heap.size <= b \/ LentB γ obs b) /\ b < w'.heap.size /\ ¬ LentB γ' obs' b)
structure FrM (w w' : World) (γ : Nat -> Value) (obs : List (Nat × Ob)) : Prop where
  os : w'.os = w.os
  tape : w'.tape = w.tape
  output : w'.output = w.output
  size : w.heap.size <= w'.heap.size
  block : ∀ k, k < w.heap.size -> ¬ LentB γ obs k -> w'.heap[k]? = w.heap[k]?
def SpecM (P : Program) (f : FuncId) (args : List AV) (obs obs' : List (Nat × Ob)) (pins : List Nat) (res : List V1) : Prop :=
 Ent P f /\ ∀ (w : World) (ok : Nat -> Prop) (γ : Nat -> Value) (vs : List Value), (∀ b, ok b -> b < w.heap.size) -> OwnS w ok γ obs -> All2 (M w ok γ) args vs ->
  Calls P f vs.toArray w fun en w' => ∃ r γ', en = .returned r /\ FrM w w' γ obs /\ (∀ i ∈ pins, γ' i = γ i) /\ OwnS w' (okM w w' ok γ γ' obs obs') γ' obs' /\ (∀ i o b, look obs' i = some o -> blk (γ' i) = some b -> w.heap.size <= b \/ LentB γ obs b) /\ ResRep w' (okM w w' ok γ γ' obs obs') res r
theorem Holds.reO {w : World} {O O' ok ok' : Nat -> Prop} {γ γ' : Nat -> Value} {i : Nat} {o : Ob} (h : Holds w O ok γ i o) (hγ : γ' i = γ i) (hcs : ∀ cs, o = .box cs -> ∀ c ∈ cs, ∀ j ∈ c.refs, γ' j = γ j) (hO : ∀ b, blk (γ i) = some b -> O' b) (hk : ∀ b, ok b -> ok' b) : Holds w O' ok' γ' i o := by
 have h' := Holds.keep (w' := w) (ok' := ok') (fun b hb => ⟨hk b hb, rfl⟩) hγ hcs (fun _ _ => rfl) h
 cases o with
 | box cs =>
  obtain ⟨b, vs, T, h1, -, h3⟩ := h'
  exact ⟨b, vs, T, h1, hO b (by rw [<- hγ, h1]; rfl), h3⟩
 | row e k n f =>
  obtain ⟨xs, h1, -, h3⟩ := h'
  exact ⟨xs, h1, fun b hb => hO b (by rw [<- hγ]; exact hb), h3⟩
 | mp ks =>
  obtain ⟨b, es, c, h1, -, h3⟩ := h'
  exact ⟨b, es, c, h1, hO b (by rw [<- hγ, h1]; rfl), h3⟩
def pinA (γ : Nat -> Value) : AV -> AV
 | .box i 0 => .pbox i (γ i)
 | v => v
def slotsM (γ : Nat -> Value) : Nat -> List AV -> List (Nat × AV)
 | _, [] => []
 | i, v :: r => (i, pinA γ v) :: slotsM γ (i + 1) r
theorem zoG {w : World} {ok : Nat -> Prop} {γ : Nat -> Value} {v : AV} {x : Value} (h : M w ok γ v x) : M w ok γ (pinA γ v) x := by
 unfold pinA
 split
 ·obtain ⟨b, e1, e2⟩ := h
  exact ⟨⟨b, e1, e2⟩, e2.trans e1.symm⟩
 ·exact h
theorem ziP {γ : Nat -> Value} {v : AV} : (pinA γ v).refs = v.refs := by
 unfold pinA
 split <;> rfl
theorem zcK {w : World} {ok : Nat -> Prop} {γ : Nat -> Value} : ∀ (args : List AV) (vs : List Value) (i t : Nat), All2 (M w ok γ) args vs -> ∀ x, look (slotsM γ i args) t = some x -> ∃ j u v, t = i + j /\ vs[j]? = some u /\ args[j]? = some v /\ x = pinA γ v /\ M w ok γ v u
 | [], _, _, _, _, x, hx => by cases hx
 | v :: r, vs, i, t, h, x, hx => by
  cases h with
  | cons h1 h2 =>
   simp only [slotsM, look] at hx
   cases hb : Nat.beq t i with
   | true => rw [hb] at hx; cases hx; exact ⟨0, _, _, by simpa using Nat.eq_of_beq_eq_true hb, rfl, rfl, rfl, h1⟩
   | false =>
    rw [hb] at hx
    obtain ⟨j, u, z, g1, g2, g3, g4⟩ := zcK r _ (i + 1) t h2 x hx
    exact ⟨j + 1, u, z, by omega, by simpa using g2, by simpa using g3, g4⟩
def cxM (w : World) (ok : Nat -> Prop) (N : Nat) (γ : Nat -> Value) (obs : List (Nat × Ob)) : Cx := ⟨w, ok, N, LentB γ obs, fun _ _ => False, 0, false, none, false⟩
theorem zko {args : List AV} {vs : List Value} {w : World} {ok : Nat -> Prop} {N : Nat} {γ : Nat -> Value} {obs : List (Nat × Ob)} (hok : ∀ b, ok b -> b < w.heap.size) (ho : OwnS w ok γ obs) (h : All2 (M w ok γ) args vs) (hr : ∀ v ∈ args, ∀ j ∈ v.refs, (look obs j).isSome = true)
    (hsz : args.length <= N) (hng : N <= G) : R (cxM w ok N γ obs) (St.of (slotsM γ 0 args) obs) { tmps := vs.toArray ++ Array.replicate (N - vs.toArray.size) undef, defers := [] } w := by
  have hl := h.length
  have hlt : ∀ b, LentB γ obs b -> b < w.heap.size := fun b ⟨i, o, h1, h2⟩ => (zaz (ho.objs i o h1) h2).2.1
  refine ⟨γ, ?_⟩
  exact { defers := ⟨fun _ => rfl, [], rfl, List.nodup_nil, fun D hD => by cases hD⟩
          size := by simp [cxM]; omega
          okA := fun b hb => ⟨hok b hb, fun ⟨i, o, h1, h2⟩ => ho.out i o b h1 h2 hb⟩
          lent := hlt
          below := ⟨rfl, rfl, rfl, fun _ => Nat.le_refl _, Nat.le_refl _, fun _ _ _ => rfl⟩
          hold := fun k o hk => hk.elim
          least := Nat.zero_le _
          objs := fun i o hi => (ho.objs i o hi).reO rfl (fun _ _ _ _ _ _ => rfl) (fun b hb => .inr ⟨i, o, hi, hb⟩) fun b hb => .inl hb
          refs := ho.refs
          sep := ho.sep
          slots := fun t => by
            show M w _ _ ((look (slotsM γ 0 args) t).getD .any) _
            cases hx : look (slotsM γ 0 args) t with
            | none => exact trivial
            | some x =>
              obtain ⟨j, u, v, g1, g2, g3, g4, g5⟩ := zcK args vs 0 t h x hx
              obtain rfl : t = j := by omega
              rw [zaX g2]
              subst g4
              exact (zoG g5).keep (fun b hb => ⟨.inl hb, rfl⟩) fun _ _ => rfl
          ng := hng
          gho := fun m hm => by
            have hm' : (look (slotsM γ 0 args) G).getD .any = .gho m := hm
            cases hx : look (slotsM γ 0 args) G with
            | none => rw [hx] at hm'; cases hm'
            | some x =>
              obtain ⟨j, u, v, g1, g2, g3, g4, g5⟩ := zcK args vs 0 G h x hx
              have : j < args.length := (List.getElem?_eq_some_iff.1 g3).1
              omega
          srefs := fun t j hj => by
            have hj' : j ∈ ((look (slotsM γ 0 args) t).getD .any).refs := hj
            cases hx : look (slotsM γ 0 args) t with
            | none => rw [hx] at hj'; cases hj'
            | some x =>
              obtain ⟨j2, u, v, g1, g2, g3, g4, g5⟩ := zcK args vs 0 t h x hx
              rw [hx] at hj'
              subst g4
              rw [show (Option.some (pinA γ v)).getD .any = pinA γ v from rfl, ziP] at hj'
              exact hr v (List.mem_of_getElem? g3) j hj' }
def pinsM (γ : Nat -> Value) : List (Nat × Nat) -> List (Nat × AV)
 | [] => []
 | (t, i) :: r => (t, .pbox i (γ i)) :: pinsM γ r
theorem zaL {α : Type} : ∀ (l m : List (Nat × α)) (i : Nat), look (l ++ m) i = (look l i).or (look m i)
 | [], m, i => by simp [look]
 | (t, v) :: r, m, i => by
  show look ((t, v) :: (r ++ m)) i = _
  simp only [look]
  cases Nat.beq i t with
  | true => rfl
  | false => exact zaL r m i
def retSl : List Nat -> List V1 -> List (Nat × AV)
 | t :: ts, x :: xs => (t, avOf x) :: retSl ts xs
 | _, _ => []
def retM (ts : List Nat) (res : List V1) (γ : Nat -> Value) (pins : List (Nat × Nat)) (obs' : List (Nat × Ob)) : KK := fun e s => match e with
 | .normal => Weak s (pinsM γ pins ++ retSl ts res) obs'
 | .ret => Weak s (pinsM γ pins ++ retSl ts res) obs'
 | _ => False
theorem zfZ {cx : Cx} {γ : Nat -> Value} {s : St} {a : Act} {w : World} (h : RG cx γ s a w) : ∀ {ts : List Nat} {res : List V1}, ts.length = res.length -> (∀ t x, (t, avOf x) ∈ retSl ts res -> s.sl t = avOf x) -> All2 (Rep1 w (okOf cx s γ w)) res (ts.map fun t => a.tmps.getD t undef)
 | [], [], _, _ => .nil
 | t :: ts, x :: xs, hl, hs => .cons (by
   have := h.slots t
   rw [hs t x (List.mem_cons_self ..)] at this
   exact zdY.1 this) (zfZ h (by simpa using hl) fun t x hx => hs t x (List.mem_cons_of_mem _ hx))
 | [], _ :: _, hl, _ => by cases hl
 | _ :: _, [], hl, _ => by cases hl
theorem zel {P : Program} {a : Act} {w : World} : ∀ ts : List Nat, ((ts.map ResultVar.tmp).mapM (m := Sem) fun | .tmp t => pure (a.tmps.getD t undef) | .cell x t => do loadVar t (← asAddr (a.tmps.getD x undef))).run P w = .ok (ts.map fun t => a.tmps.getD t undef) w
 | [] => by simp
 | t :: ts => by
  rw [List.map_cons, List.mapM_cons]
  simp only [Sem.run_bind, Sem.run_pure, zel ts]
  rfl
theorem zb3 {α : Type} : ∀ {l m : List (Nat × α)} {t : Nat} {x : α}, (t, x) ∈ m -> ((l ++ m).map Prod.fst).Nodup -> look (l ++ m) t = some x
 | [], (t', y) :: m, t, x, h, hn => by
  show look ((t', y) :: m) t = some x
  rw [List.nil_append, List.map_cons, List.nodup_cons] at hn
  simp only [look]
  rcases List.mem_cons.1 h with h | h
  ·cases h; rw [zas]; rfl
  ·have : t ≠ t' := fun e => hn.1 (List.mem_map.2 ⟨(t, x), h, e⟩)
   rw [zds this]
   exact zb3 (l := []) h hn.2
 | (t', y) :: l, m, t, x, h, hn => by
  show look ((t', y) :: (l ++ m)) t = some x
  rw [List.cons_append, List.map_cons, List.nodup_cons] at hn
  simp only [look]
  have : t ≠ t' := fun e => hn.1 (List.mem_map.2 ⟨(t, x), List.mem_append_right _ h, e⟩)
  rw [zds this]
  exact zb3 h hn.2
theorem zfu {γ : Nat -> Value} : ∀ pins : List (Nat × Nat), (pinsM γ pins).map Prod.fst = pins.map Prod.fst
 | [] => rfl
 | (t, i) :: r => by simp only [pinsM, List.map_cons, zfu r]
theorem zdl : ∀ {ts : List Nat} {res : List V1}, ts.length = res.length -> (retSl ts res).map Prod.fst = ts
 | [], [], _ => rfl
 | t :: ts, x :: xs, h => by simp only [retSl, List.map_cons, zdl (ts := ts) (res := xs) (by simpa using h)]
 | [], _ :: _, h => by cases h
 | _ :: _, [], h => by cases h
theorem zdV {γ : Nat -> Value} : ∀ {pins : List (Nat × Nat)} {t i : Nat}, (t, i) ∈ pins -> (pins.map Prod.fst).Nodup -> look (pinsM γ pins) t = some (.pbox i (γ i))
 | [], _, _, h, _ => by cases h
 | (t', i') :: r, t, i, h, hn => by
  rw [List.map_cons, List.nodup_cons] at hn
  simp only [pinsM, look]
  rcases List.mem_cons.1 h with h | h
  ·cases h; rw [zas]; rfl
  ·have : t ≠ t' := fun e => hn.1 (List.mem_map.2 ⟨(t, i), h, e⟩)
   rw [zds this]
   exact zdV h hn.2
theorem zkf {P : Program} {T : TT} {E : Env} (hT : ∀ t i, T t = some i -> TI.of P t = some i) (hE : ∀ t, E.eq t = true -> EqFact P t) (hm : P.follows .mixedOrders = true)
  {f : FuncId} {fn : Func} {c : Code} (hf : P.funcs[f]? = some fn) (hb : fn.body = some c) (hn : (fn.name == "runtime.NumGoroutine") = false) (hN : codeN fn.ntmps c = true)
  {args : List AV} {obs obs' : List (Nat × Ob)} (ts : List Nat) (hts : fn.results.toList = ts.map ResultVar.tmp) (pins : List (Nat × Nat)) {res : List V1} (hlr : ts.length = res.length) (hr : ∀ v ∈ args, ∀ j ∈ v.refs, (look obs j).isSome = true) (hpn : (pins.map Prod.fst ++ ts).Nodup) (hsz : args.length <= fn.ntmps) (hng : fn.ntmps <= G)
  (h : ∀ γ, awp P T E c (St.of (slotsM γ 0 args) obs) (retM ts res γ pins obs')) : SpecM P f args obs obs' (pins.map Prod.snd) res :=
 ⟨⟨fn, hf, hn, by rw [hb]; rfl⟩, fun w ok γ vs hok ho hm2 => zjr hT hE hm hf hb hN (cx := cxM w ok fn.ntmps γ obs) (fun e => by cases e) rfl rfl rfl (fun _ _ => id) (zko hok ho hm2 hr hsz hng) (h γ)
  (fun x h1 h2 s h => by cases x <;> first | exact h1 rfl | exact h2 rfl | exact h) fun x s a w' hx hk hR _ => by
  have k2 : Weak s (pinsM γ pins ++ retSl ts res) obs' := by rcases hx with rfl | rfl <;> exact hk
  obtain ⟨γ', hg⟩ := hR.weak k2
  have hlt : ∀ b, LentB γ obs b -> b < w.heap.size := fun b ⟨i, o, h1, h2⟩ => (zaz (ho.objs i o h1) h2).2.1
  have hnd : ((pinsM γ pins ++ retSl ts res).map Prod.fst).Nodup := by rw [List.map_append, zfu, zdl hlr]; exact hpn
  have hsl : ∀ t v, look (pinsM γ pins ++ retSl ts res) t = some v -> (St.of (pinsM γ pins ++ retSl ts res) obs').sl t = v := fun t v e => by
   show (look (pinsM γ pins ++ retSl ts res) t).getD .any = _
   rw [e]; rfl
  have hrun := zaS (P := P) (fn := fn) (a := a) (w := w') (vs := ts.map fun t => a.tmps.getD t undef) (by rw [hts]; exact zel ts)
  have hres := zfZ hg hlr fun t x hx => hsl t _ (zb3 hx hnd)
  have hok2 : ∀ b, okOf (cxM w ok fn.ntmps γ obs) (St.of (pinsM γ pins ++ retSl ts res) obs') γ' w' b -> okM w w' ok γ γ' obs obs' b := fun b hb => by
   rcases hb with hb | ⟨h1, h2, h3⟩
   ·exact .inl hb
   ·exact .inr ⟨h1, h2, fun ⟨j, p, g1, g2⟩ => h3 j p g1 g2⟩
  refine ⟨_, hrun, _, γ', rfl, ⟨hg.below.os, hg.below.tape, hg.below.output, hg.below.size, fun k hk hl => hg.below.block k hk hl⟩, fun i hi => ?_, ⟨fun i o hi => ?_, hg.refs, hg.sep, fun i o b hi hb hok' => ?_⟩, fun i o b hi hb => (zao hg hi hb).1, ?_⟩
  ·obtain ⟨⟨t, i'⟩, hp, rfl⟩ := List.mem_map.1 hi
   have hs2 := hg.slots t
   have e : (St.of (pinsM γ pins ++ retSl ts res) obs').sl t = .pbox i' (γ i') := by
    have h5 := zdV (γ := γ) hp (List.nodup_append.1 hpn).1
    refine hsl t _ ?_
    rw [zaL, h5, Option.some_or]
   rw [e] at hs2
   obtain ⟨⟨b, e1, e2⟩, e3⟩ := hs2
   show γ' i' = γ i'
   rw [e1, <- e3, e2]
  ·exact (hg.objs i o hi).reO rfl (fun _ _ _ _ _ _ => rfl) (fun _ _ => trivial) hok2
  ·rcases hok' with h1 | ⟨_, _, h3⟩
   ·exact zdx hg (zao hg hi hb).1 h1
   ·exact h3 ⟨i, o, hi, hb⟩
  ·have h6 : All2 (Rep1 w' (okM w w' ok γ γ' obs obs')) res (ts.map fun t => a.tmps.getD t undef) := hres.imp fun x u _ hr => by
    cases x with
    | d x => exact Rep.keep (fun b hb => ⟨hok2 b hb, rfl⟩) hr
    | agg xs => obtain ⟨us, e, h⟩ := hr; exact ⟨us, e, h.imp fun _ _ _ => Rep.keep fun b hb => ⟨hok2 b hb, rfl⟩⟩
   generalize ts.map (fun t => a.tmps.getD t undef) = us at h6
   match res, us, h6 with
   | [], [], _ => exact ⟨[], rfl, .nil⟩
   | [x], [v], .cons h _ => exact h
   | x :: y :: r, v :: u :: q, h2 => exact ⟨_, rfl, h2⟩⟩
def goodM (sl : List (Nat × AV)) (obs obs' rest : List (Nat × Ob)) (pins : List Nat) : Bool :=
 let okR (j : Nat) : Bool := pins.any (Nat.beq j) || (look rest j).isSome
 (rest.all fun p => (look obs p.1).isNone && (look obs' p.1).isNone) && (pins.all fun i => (look obs' i).isSome) && (sl.all fun p => p.2.refs.all okR) &&
  rest.all fun p => match p.2 with | .box cs => cs.all fun c => c.refs.all okR | _ => true
section
variable {cx : Cx} {γ γ2 : Nat -> Value} {a : Act} {w w' : World} {sl : List (Nat × AV)} {obs obs' rest : List (Nat × Ob)} {pins : List Nat}
theorem RG.lendM (h : RG cx γ (St.of sl (obs ++ rest)) a w) (hdr : ¬ cx.dr = true) (hf : FrM w w' γ obs) (hp : ∀ i ∈ pins, γ2 i = γ i)
  (ho : OwnS w' (okM w w' (okOf cx (St.of sl (obs ++ rest)) γ w) γ γ2 obs obs') γ2 obs') (hn : ∀ i o b, look obs' i = some o -> blk (γ2 i) = some b -> w.heap.size <= b \/ LentB γ obs b)
  (hc : goodM sl obs obs' rest pins = true) : ∃ γ', RG cx γ' (St.of sl (obs' ++ rest)) a w' /\ (∀ i, (look obs' i).isSome = true -> γ' i = γ2 i) /\ ∀ b, okM w w' (okOf cx (St.of sl (obs ++ rest)) γ w) γ γ2 obs obs' b -> okOf cx (St.of sl (obs' ++ rest)) γ' w' b := by
 simp only [goodM, Bool.and_eq_true, List.all_eq_true] at hc
 obtain ⟨⟨⟨c1, c2⟩, c3⟩, c4⟩ := hc
 have o1 : ∀ {i o}, look obs i = some o -> (St.of sl (obs ++ rest)).ob i = some o := fun {i o} hi => by
  show look (obs ++ rest) i = _
  rw [zaL, hi, Option.some_or]
 have r0 : ∀ {i o}, look rest i = some o -> look obs i = none /\ look obs' i = none := fun {i o} hi => by
  have := c1 _ (zaj hi)
  simpa [Option.isNone_iff_eq_none] using this
 have o2 : ∀ {i o}, look rest i = some o -> (St.of sl (obs ++ rest)).ob i = some o := fun {i o} hi => by
  show look (obs ++ rest) i = _
  rw [zaL, (r0 hi).1]; exact hi
 have o3 : ∀ {i o}, (St.of sl (obs' ++ rest)).ob i = some o -> look obs' i = some o \/ (look obs' i = none /\ look rest i = some o) := fun {i o} hi => by
  have hi : look (obs' ++ rest) i = some o := hi
  rw [zaL] at hi
  cases e : look obs' i with
  | some x => rw [e] at hi; exact .inl hi
  | none => rw [e] at hi; exact .inr ⟨rfl, hi⟩
 have o4 : ∀ {i}, (look obs' i).isSome = true -> ((St.of sl (obs' ++ rest)).ob i).isSome = true := fun {i} hi => by
  show (look (obs' ++ rest) i).isSome = true
  rw [zaL]
  cases e : look obs' i with
  | some x => rfl
  | none => rw [e] at hi; cases hi
 have o5 : ∀ {i}, (look rest i).isSome = true -> ((St.of sl (obs' ++ rest)).ob i).isSome = true := fun {i} hi => by
  obtain ⟨o, e⟩ := Option.isSome_iff_exists.1 hi
  show (look (obs' ++ rest) i).isSome = true
  rw [zaL, (r0 e).2, e]; rfl
 let γ' : Nat -> Value := fun i => bif (look obs' i).isSome then γ2 i else γ i
 have g1 : ∀ {i}, (look obs' i).isSome = true -> γ' i = γ2 i := fun {i} hi => by show (bif (look obs' i).isSome then γ2 i else γ i) = _; rw [hi]; rfl
 have g2 : ∀ {i o}, look rest i = some o -> γ' i = γ i := fun {i o} hi => by show (bif (look obs' i).isSome then γ2 i else γ i) = _; rw [(r0 hi).2]; rfl
 have okr : ∀ {j}, (pins.any (Nat.beq j) || (look rest j).isSome) = true -> γ' j = γ j /\ ((St.of sl (obs' ++ rest)).ob j).isSome = true := fun {j} hj => by
  rw [Bool.or_eq_true, List.any_eq_true] at hj
  rcases hj with ⟨i, hi, e⟩ | hj
  ·obtain rfl := Nat.eq_of_beq_eq_true e
   exact ⟨(g1 (c2 j hi)).trans (hp j hi), o4 (c2 j hi)⟩
  ·obtain ⟨o, e⟩ := Option.isSome_iff_exists.1 hj
   exact ⟨g2 e, o5 hj⟩
 have le : ∀ {b}, LentB γ obs b -> cx.O b /\ b < w.heap.size /\ ((∃ cs T x, w.heap[b]? = some (.cells cs T x)) \/ ∃ es c, w.heap[b]? = some (.map es c)) := fun {b} ⟨i, o, h1, h2⟩ => zaz (h.objs i o (o1 h1)) h2
 have hA : ∀ b, okOf cx (St.of sl (obs ++ rest)) γ w b -> okOf cx (St.of sl (obs' ++ rest)) γ' w' b /\ w'.heap[b]? = w.heap[b]? := fun b hb => by
  have hl : ¬ LentB γ obs b := fun ⟨i, o, h1, h2⟩ => zbZ h hb (o1 h1) h2
  have hlt := zak h hb
  refine ⟨?_, hf.block b hlt hl⟩
  rcases hb with h1 | ⟨h1, h2, h3⟩
  ·exact .inl h1
  ·refine .inr ⟨h1, Nat.lt_of_lt_of_le h2 hf.size, fun i o hi e => ?_⟩
   rcases o3 hi with hi | ⟨hi, hr⟩
   ·rw [g1 (by rw [hi]; rfl)] at e
    rcases hn i o b hi e with h4 | h4
    ·omega
    ·exact hl h4
   ·rw [g2 hr] at e
    exact h3 i o (o2 hr) e
 have hS : ∀ {i o b}, look rest i = some o -> blk (γ i) = some b -> b < w.heap.size /\ ¬ LentB γ obs b := fun {i o b} hi hb => ⟨(zao h (o2 hi) hb).2, fun ⟨j, p, h1, h2⟩ => h.sep i j o p (o2 hi) (o1 h1) (fun e => by subst e; rw [(r0 hi).1] at h1; cases h1) b hb h2⟩
 have hM : ∀ b, okM w w' (okOf cx (St.of sl (obs ++ rest)) γ w) γ γ2 obs obs' b -> okOf cx (St.of sl (obs' ++ rest)) γ' w' b := fun b hb => by
  rcases hb with hb | ⟨h1, h2, h3⟩
  ·exact (hA b hb).1
  ·have hO : cx.O b := by
    rcases h1 with h1 | h1
    ·exact .inl (Nat.le_trans h.below.size h1)
    ·exact (le h1).1
   refine .inr ⟨hO, h2, fun j p hj e => ?_⟩
   rcases o3 hj with hj | ⟨hj, hr⟩
   ·rw [g1 (by rw [hj]; rfl)] at e
    exact h3 ⟨j, p, hj, e⟩
   ·rw [g2 hr] at e
    obtain ⟨h4, h5⟩ := hS hr e
    rcases h1 with h1 | h1
    ·omega
    ·exact h5 h1
 refine ⟨γ', ?_, fun i hi => g1 hi, hM⟩
 exact {
  defers := by
   obtain ⟨h0, ms, h1, h2, h3⟩ := h.defers
   refine ⟨h0, ms, h1, h2, fun D hD => ⟨(h3 D hD).1, ?_⟩⟩
   have hd := (h3 D hD).2
   rw [hf.block D (Array.getElem?_eq_some_iff.1 hd).1 fun hl => ?_]
   ·exact hd
   ·obtain ⟨_, _, ⟨cs, T, x, hc⟩ | ⟨es, c, hc⟩⟩ := le hl
    ·rw [hd] at hc; cases hc
    ·rw [hd] at hc; cases hc
  size := h.size, okA := h.okA, lent := h.lent
  below := ⟨hf.os.trans h.below.os, hf.tape.trans h.below.tape, hf.output.trans h.below.output, fun e => absurd e hdr, Nat.le_trans h.below.size hf.size, fun k hk hl => by
   have := h.below.size
   rw [hf.block k (by omega) fun hl' => ?_]
   ·exact h.below.block k hk hl
   ·rcases (le hl').1 with h1 | h1
    ·omega
    ·exact hl h1⟩
  hold := fun k o hk => by
   obtain ⟨h1, h2⟩ := h.hold k o hk
   have hl : ¬ LentB γ obs k := fun ⟨i, p, g3, g4⟩ => h2 i p (o1 g3) g4
   have hlt := (Array.getElem?_eq_some_iff.1 h1).1
   refine ⟨(hf.block k hlt hl).trans h1, fun i p hi e => ?_⟩
   rcases o3 hi with hi | ⟨hi, hr⟩
   ·rw [g1 (by rw [hi]; rfl)] at e
    rcases hn i p k hi e with h4 | h4
    ·omega
    ·exact hl h4
   ·rw [g2 hr] at e
    exact h2 i p (o2 hr) e
  least := Nat.le_trans h.least hf.size
  objs := fun i o hi => by
   rcases o3 hi with hi | ⟨hi, hr⟩
   ·refine (ho.objs i o hi).reO (g1 (by rw [hi]; rfl)) (fun cs e c hc j hj => g1 (ho.refs i cs (by rw [hi, e]) c hc j hj)) (fun b hb => ?_) fun b hb => ?_
    ·rcases hn i o b hi hb with h4 | h4
     ·exact .inl (Nat.le_trans h.below.size h4)
     ·exact (le h4).1
    ·exact hM b hb
   ·refine (h.objs i o (o2 hr)).keep hA (g2 hr) (fun cs e c hc j hj => ?_) fun b hb => ?_
    ·have := c4 _ (zaj hr)
     rw [e] at this
     have h5 := List.all_eq_true.1 (List.all_eq_true.1 this c hc) j hj
     exact (okr h5).1
    ·obtain ⟨h4, h5⟩ := hS hr hb
     exact hf.block b h4 h5
  refs := fun i cs hi c hc j hj => by
   rcases o3 hi with hi | ⟨hi, hr⟩
   ·exact o4 (ho.refs i cs hi c hc j hj)
   ·have := c4 _ (zaj hr)
    have h5 := List.all_eq_true.1 (List.all_eq_true.1 this c hc) j hj
    exact (okr h5).2
  sep := fun i j o o' hi hj hij b hb hb' => by
   rcases o3 hi with hi | ⟨hi, hr⟩ <;> rcases o3 hj with hj | ⟨hj, hs⟩
   ·rw [g1 (by rw [hi]; rfl)] at hb
    rw [g1 (by rw [hj]; rfl)] at hb'
    exact ho.sep i j o o' hi hj hij b hb hb'
   ·rw [g1 (by rw [hi]; rfl)] at hb
    rw [g2 hs] at hb'
    obtain ⟨h4, h5⟩ := hS hs hb'
    rcases hn i o b hi hb with h6 | h6
    ·omega
    ·exact h5 h6
   ·rw [g2 hr] at hb
    rw [g1 (by rw [hj]; rfl)] at hb'
    obtain ⟨h4, h5⟩ := hS hr hb
    rcases hn j o' b hj hb' with h6 | h6
    ·omega
    ·exact h5 h6
   ·rw [g2 hr] at hb
    rw [g2 hs] at hb'
    exact h.sep i j o o' (o2 hr) (o2 hs) hij b hb hb'
  slots := fun t => by
   refine (h.slots t).keep hA fun j hj => ?_
   have hj' : j ∈ ((look sl t).getD .any).refs := hj
   cases hl : look sl t with
   | none => rw [hl] at hj'; simp [AV.refs] at hj'
   | some v => rw [hl] at hj'; exact (okr (c3 _ (zaj hl) j hj')).1
  srefs := fun t j hj => by
   have hj' : j ∈ ((look sl t).getD .any).refs := hj
   cases hl : look sl t with
   | none => rw [hl] at hj'; simp [AV.refs] at hj'
   | some v => rw [hl] at hj'; exact (okr (c3 _ (zaj hl) j hj')).2
  gho := h.gho, ng := h.ng }
end
section
variable {s : St} {o : Oper} {fo : Operand} {f : FuncId} {K : St -> Prop} {E : Env}
def fixA (obs : List (Nat × Ob)) : AV -> AV
 | .own i => match look obs i with
  | some (.box _) => .box i 0
  | _ => .own i
 | v => v
theorem zpa {w : World} {O ok : Nat -> Prop} {γ : Nat -> Value} {obs : List (Nat × Ob)} (ho : ∀ i o, look obs i = some o -> Holds w O ok γ i o) {v : AV} {x : Value} (h : M w ok γ v x) : M w ok γ (fixA obs v) x := by
 unfold fixA
 split
 ·rename_i i
  split
  ·rename_i cs e
   obtain ⟨b, vs, T, h1, -, -⟩ := ho _ _ e
   have h : x = γ i := h
   exact ⟨b, h1, h.trans h1⟩
  ·exact h
 ·exact h
theorem zg9 {w : World} {O ok : Nat -> Prop} {γ : Nat -> Value} {obs : List (Nat × Ob)} (ho : ∀ i o, look obs i = some o -> Holds w O ok γ i o) : ∀ {xs : List AV} {vs : List Value}, All2 (M w ok γ) xs vs -> All2 (M w ok γ) (xs.map (fixA obs)) vs
 | [], _, h => by cases h; exact .nil
 | x :: r, _, h => by cases h with | cons h1 h2 => exact .cons (zpa ho h1) (zg9 ho h2)
structure ObArgs (s : St) (fo : Operand) (args : List Operand) (f : FuncId) (obs : List (Nat × Ob)) (xs : List AV) : Prop where
  out : ∃ ex, callee (ev s fo) = some (f, ex) /\ (args.map (ev s) ++ ex).map (fixA obs) = xs
theorem CallSt.ob (sl : List (Nat × AV)) (obs rest : List (Nat × Ob)) {obs' : List (Nat × Ob)} {pins : List Nat} (hdr : E.dr = false) {args : Array Operand} {at' : Array TypeId} (hop : o.op = .call { callee := .value fo, args, argTypes := at' }) {xs : List AV} {res : List V1} (h : SpecM PP f xs obs obs' pins res)
    (hw : Weak s sl (obs ++ rest)) (ha : ObArgs (St.of sl (obs ++ rest)) fo args.toList f obs xs) (hcl : (obs.all fun p => match p.2 with | .box cs => cs.all fun c => c.refs.all fun j => (look obs j).isSome | _ => true) = true) (hc : goodM sl obs obs' rest pins = true)
    (hk : K ((St.of sl (obs' ++ rest)).putO o.dst (resAV res))) : CallSt E PP s o fo args.toList K := by
  obtain ⟨ex, h1, h2⟩ := ha.out
  rw [zah]
  refine .inr (.inr (.inl ⟨_, ⟨fun cx a w hD hd hR => ?_⟩, hk⟩))
  obtain ⟨γ, hg⟩ := hR.weak hw
  obtain ⟨caps, hf, hcm⟩ := zaO h1 (ev_m hg fo).1
  have o1 : ∀ {i o}, look obs i = some o -> (St.of sl (obs ++ rest)).ob i = some o := fun {i o} hi => by
    show look (obs ++ rest) i = _
    rw [zaL, hi, Option.some_or]
  have hm := zg9 (obs := obs) (fun i o hi => hg.objs i o (o1 hi)) ((zbL hg args.toList).append hcm)
  rw [h2] at hm
  refine .enter (zaF hop hf h.1) ?_
  refine (h.2 w _ γ _ (fun b hb => zak hg hb) ⟨fun i o hi => (hg.objs i o (o1 hi)).reO rfl (fun _ _ _ _ _ _ => rfl) (fun _ _ => trivial) (fun _ hb => hb), fun i cs hi c hc' j hj => ?_, fun i j p q hi hj => hg.sep i j p q (o1 hi) (o1 hj), fun i p b hi hb hok => zbZ hg hok (o1 hi) hb⟩ hm).mono fun en w' ⟨r, γ2, he, hfr, hp, ho, hn, hres⟩ => ?_
  · have := List.all_eq_true.1 hcl _ (zaj hi)
    exact List.all_eq_true.1 (List.all_eq_true.1 this c hc') j hj
  · obtain ⟨γ', hg', -, hM⟩ := hg.lendM (fun e => by have := hD e; rw [hdr] at this; cases this) hfr hp ho hn hc
    exact ⟨r, he, γ', hg'.putO hd (zbl (.inl hM) hres) (fun j hj => by rw [zaT] at hj; cases hj)⟩
end
def SpecN (P : Program) (f : FuncId) (args : List V1) (obs' : List (Nat × Ob)) (i : Nat) (res : List V1) : Prop :=
 Ent P f /\ ∀ (w : World) (ok : Nat -> Prop) (vs : List Value), (∀ b, ok b -> b < w.heap.size) -> All2 (Rep1 w ok) args vs ->
  Calls P f vs.toArray w fun en w' => ∃ b γ' us, en = .returned (.tuple (.pointer (some ⟨b, 0, none⟩) :: us).toArray) /\ γ' i = .pointer (some ⟨b, 0, none⟩) /\ FrM w w' γ' [] /\ OwnS w' (okM w w' ok γ' γ' [] obs') γ' obs' /\
   (∀ i o b, look obs' i = some o -> blk (γ' i) = some b -> w.heap.size <= b) /\ All2 (Rep1 w' (okM w w' ok γ' γ' [] obs')) res us
theorem SpecN.eqv {P : Program} {f : FuncId} {xs ys : List V1} {obs' : List (Nat × Ob)} {i : Nat} {res : List V1} (h : SpecN P f ys obs' i res) (he : eqV1s xs ys) : SpecN P f xs obs' i res :=
 ⟨h.1, fun w ok vs hok hv => h.2 w ok vs hok (zbw he hv)⟩
def retN (t0 i : Nat) (ts : List Nat) (res : List V1) (obs' : List (Nat × Ob)) : KK := fun e s => match e with
 | .normal => Weak s ((t0, .box i 0) :: retSl ts res) obs'
 | .ret => Weak s ((t0, .box i 0) :: retSl ts res) obs'
 | _ => False
theorem zkd {P : Program} {T : TT} {E : Env} (hdr : E.dr = false) (hT : ∀ t i, T t = some i -> TI.of P t = some i) (hE : ∀ t, E.eq t = true -> EqFact P t) (hm : P.follows .mixedOrders = true)
  {f : FuncId} {fn : Func} {c : Code} (hf : P.funcs[f]? = some fn) (hb : fn.body = some c) (hn : (fn.name == "runtime.NumGoroutine") = false) (hN : codeN fn.ntmps c = true)
  {args : List V1} {obs' : List (Nat × Ob)} (t0 i t1 : Nat) (ts : List Nat) (hts : fn.results.toList = (t0 :: t1 :: ts).map ResultVar.tmp) {res : List V1} (hlr : (t1 :: ts).length = res.length) (hpn : (t0 :: t1 :: ts).Nodup) (hsz : args.length <= fn.ntmps) (hng : fn.ntmps <= G)
  (h : awp P T E c (St.of (argSlots 0 args) []) (retN t0 i (t1 :: ts) res obs')) : SpecN P f args obs' i res :=
 ⟨⟨fn, hf, hn, by rw [hb]; rfl⟩, fun w ok vs hok hm2 => zjr hT hE hm hf hb hN (cx := cx0 E.dr w ok fn.ntmps) id rfl rfl rfl (fun _ _ => id) (zf2 hok hm2 hsz hng) h
  (fun x h1 h2 s h => by cases x <;> first | exact h1 rfl | exact h2 rfl | exact h) fun x s a w' hx hk hR _ => by
  have k2 : Weak s ((t0, .box i 0) :: retSl (t1 :: ts) res) obs' := by rcases hx with rfl | rfl <;> exact hk
  obtain ⟨γ', hg⟩ := hR.weak k2
  have hsl : ∀ t v, look ((t0, AV.box i 0) :: retSl (t1 :: ts) res) t = some v -> (St.of ((t0, .box i 0) :: retSl (t1 :: ts) res) obs').sl t = v := fun t v e => by
   show (look ((t0, AV.box i 0) :: retSl (t1 :: ts) res) t).getD .any = _
   rw [e]; rfl
  have hs0 := hg.slots t0
  rw [hsl t0 (.box i 0) (by simp only [look, zas]; rfl)] at hs0
  obtain ⟨b, e1, e2⟩ := hs0
  have hnd : (([(t0, AV.box i 0)] ++ retSl (t1 :: ts) res).map Prod.fst).Nodup := by rw [List.map_append, zdl hlr]; exact hpn
  have hres := zfZ hg hlr fun t x hx => hsl t _ (zb3 (l := [(t0, AV.box i 0)]) hx hnd)
  have hl0 : ∀ b, ¬ LentB γ' [] b := fun b ⟨j, o, h1, _⟩ => by cases h1
  have hok2 : ∀ b, okOf (cx0 E.dr w ok fn.ntmps) (St.of ((t0, .box i 0) :: retSl (t1 :: ts) res) obs') γ' w' b -> okM w w' ok γ' γ' [] obs' b := fun b hb => by
   rcases hb with hb | ⟨h1, h2, h3⟩
   ·exact .inl hb
   ·exact .inr ⟨.inl (h1.elim id False.elim), h2, fun ⟨j, p, g1, g2⟩ => h3 j p g1 g2⟩
  have hrun := zaS (P := P) (fn := fn) (a := a) (w := w') (vs := (t0 :: t1 :: ts).map fun t => a.tmps.getD t undef) (by rw [hts]; exact zel _)
  refine ⟨_, hrun, b, γ', (t1 :: ts).map (fun t => a.tmps.getD t undef), ?_, e1, ⟨hg.below.os, hg.below.tape, hg.below.output, hg.below.size, fun k hk _ => hg.below.block k hk id⟩, ⟨fun i o hi => ?_, hg.refs, hg.sep, fun i o b hi hb hok' => ?_⟩, fun i o b hi hb => (zao hg hi hb).1.elim id False.elim, ?_⟩
  ·rw [<- e2]; rfl
  ·exact (hg.objs i o hi).reO rfl (fun _ _ _ _ _ _ => rfl) (fun _ _ => trivial) hok2
  ·rcases hok' with h1 | ⟨_, _, h3⟩
   ·exact zdx hg (zao hg hi hb).1 h1
   ·exact h3 ⟨i, o, hi, hb⟩
  ·exact hres.imp fun x u _ hr => by
    cases x with
    | d x => exact Rep.keep (fun b hb => ⟨hok2 b hb, rfl⟩) hr
    | agg xs => obtain ⟨us, e, h⟩ := hr; exact ⟨us, e, h.imp fun _ _ _ => Rep.keep fun b hb => ⟨hok2 b hb, rfl⟩⟩⟩
section
variable {s : St} {o : Oper} {fo : Operand} {f : FuncId} {K : St -> Prop} {E : Env}
theorem CallSt.obN (sl : List (Nat × AV)) (rest : List (Nat × Ob)) {obs' : List (Nat × Ob)} {i : Nat} (hdr : E.dr = false) {args : Array Operand} {at' : Array TypeId} (hop : o.op = .call { callee := .value fo, args, argTypes := at' }) {xs ys res : List V1} (h : SpecN PP f ys obs' i res)
    (hw : Weak s sl rest) (hx : toV1c (St.of sl rest) fo args.toList = some (f, xs)) (he : eqV1s xs ys) (hno : noOwn (St.of sl rest) args.toList = true) (hi : (look obs' i).isSome = true) (hc : goodM sl [] obs' rest [] = true)
    (hk : K ((St.of sl (obs' ++ rest)).putO o.dst (.tupo i res))) : CallSt E PP s o fo args.toList K := by
  obtain ⟨ex, h1, h2⟩ := zaB hx
  rw [zah]
  refine .inr (.inr (.inl ⟨_, ⟨fun cx a w hD hd hR => ?_⟩, hk⟩))
  obtain ⟨γ, hg⟩ := hR.weak hw
  obtain ⟨caps, hf, hcm⟩ := zaO h1 (ev_m hg fo).1
  have hm := (zbk hg h2 ((zbL hg args.toList).append hcm)).2 (zb0 hno (zbd h1))
  refine .enter (zaF hop hf h.1) ?_
  refine ((h.eqv he).2 w _ _ (fun b hb => zak hg hb) hm).mono fun en w' ⟨b, γ2, us, e0, e1, hfr, ho, hn, hres⟩ => ?_
  have hl0 : ∀ (γ : Nat -> Value) b, ¬ LentB γ [] b := fun γ b ⟨j, o, h1, _⟩ => by cases h1
  have hM0 : ∀ b, okM w w' (okOf cx (St.of sl ([] ++ rest)) γ w) γ2 γ2 [] obs' b ↔ okM w w' (okOf cx (St.of sl ([] ++ rest)) γ w) γ γ2 [] obs' b := fun b =>
    ⟨fun hb => hb.imp id fun hb => ⟨hb.1.imp id fun h => absurd h (hl0 _ _), hb.2⟩, fun hb => hb.imp id fun hb => ⟨hb.1.imp id fun h => absurd h (hl0 _ _), hb.2⟩⟩
  obtain ⟨γ', hg', hγ, hM⟩ := RG.lendM (obs := []) (pins := []) (γ2 := γ2) hg (fun e => by have := hD e; rw [hdr] at this; cases this) ⟨hfr.os, hfr.tape, hfr.output, hfr.size, fun k hk _ => hfr.block k hk (hl0 _ _)⟩ (fun i hi => by cases hi)
    ⟨fun i o hi => (ho.objs i o hi).reO rfl (fun _ _ _ _ _ _ => rfl) (fun _ _ => trivial) fun b hb => (hM0 b).1 hb, ho.refs, ho.sep, fun i o b hi hb hk => ho.out i o b hi hb ((hM0 b).2 hk)⟩ (fun i o b hi hb => .inl (hn i o b hi hb)) hc
  have hs2 : ((St.of sl (obs' ++ rest)).ob i).isSome = true := by
    show (look (obs' ++ rest) i).isSome = true
    rw [zaL]
    cases e : look obs' i with
    | some x => rfl
    | none => rw [e] at hi; cases hi
  refine ⟨_, e0, γ', hg'.putO hd ⟨b, us, (hγ i hi).trans e1, rfl, hres.imp fun x u _ hr => ?_⟩ (fun j hj => ?_)⟩
  · cases x with
    | d x => exact Rep.keep (fun b hb => ⟨hM b ((hM0 b).1 hb), rfl⟩) hr
    | agg xs => obtain ⟨us, e, h⟩ := hr; exact ⟨us, e, h.imp fun _ _ _ => Rep.keep fun b hb => ⟨hM b ((hM0 b).1 hb), rfl⟩⟩
  · obtain rfl : j = i := by simpa [AV.refs] using hj
    exact hs2
end
end Go.Pg
set_option maxRecDepth 100000
namespace Go.Pg
open Go.Proofs Go.RowKit Go.Sort Go.Shelf
theorem zjZ (l : List Int) (hn : l.length <= 1000000) : Spec PP 68 [.d (lI l)] [.d (lI l)] := by
 refine sA Tryz.func68 ?_
 refine fun b hb => ?_
 apply sB <;> intro h1
 ·have h0 := hb h1
  exact ⟨⟨_, _, _, _, rfl, h0.symm, .inl rfl⟩, trivial⟩
 ·refine ⟨⟨.inr rfl, by unfold maxLen; omega, by show (0 + l.length) * 8 <= 140737488355328; omega⟩, ?_⟩
  exact ⟨⟨_, _, _, _, rfl, Nat.zero_add _, .inr ⟨rfl, fun i hi j hj => dE _⟩⟩, trivial⟩
theorem zjW (l : List Twr) (hn : l.length <= 1000000) : Spec PP 69 [.d (lT l)] [.d (lT l)] := by
 refine sA Tryz.func69 ?_
 refine fun b hb => ?_
 apply sB <;> intro h1
 ·have h0 := hb h1
  exact ⟨⟨_, _, _, _, rfl, h0.symm, .inl rfl⟩, trivial⟩
 ·refine ⟨⟨.inr rfl, by unfold maxLen; omega, by show (0 + l.length) * 32 <= 140737488355328; omega⟩, ?_⟩
  exact ⟨⟨_, _, _, _, rfl, Nat.zero_add _, .inr ⟨rfl, fun i hi j hj => dE _⟩⟩, trivial⟩
theorem zjV (l : List Hz) (hn : l.length <= 1000000) : Spec PP 70 [.d (lZ l)] [.d (lZ l)] := by
 refine sA Tryz.func70 ?_
 refine fun b hb => ?_
 apply sB <;> intro h1
 ·have h0 := hb h1
  exact ⟨⟨_, _, _, _, rfl, h0.symm, .inl rfl⟩, trivial⟩
 ·refine ⟨⟨.inr rfl, by unfold maxLen; omega, by show (0 + l.length) * 24 <= 140737488355328; omega⟩, ?_⟩
  exact ⟨⟨_, _, _, _, rfl, Nat.zero_add _, .inr ⟨rfl, fun i hi j hj => dE _⟩⟩, trivial⟩
theorem zjY (l : List Cir) (hn : l.length <= 1000000) : Spec PP 71 [.d (lC l)] [.d (lC l)] := by
 refine sA Tryz.func71 ?_
 refine fun b hb => ?_
 apply sB <;> intro h1
 ·have h0 := hb h1
  exact ⟨⟨_, _, _, _, rfl, h0.symm, .inl rfl⟩, trivial⟩
 ·refine ⟨⟨.inr rfl, by unfold maxLen; omega, by show (0 + l.length) * 64 <= 140737488355328; omega⟩, ?_⟩
  exact ⟨⟨_, _, _, _, rfl, Nat.zero_add _, .inr ⟨rfl, fun i hi j hj => dE _⟩⟩, trivial⟩
theorem zjX (l : List Chk) (hn : l.length <= 1000000) : Spec PP 72 [.d (lK l)] [.d (lK l)] := by
 refine sA Tryz.func72 ?_
 refine fun b hb => ?_
 apply sB <;> intro h1
 ·have h0 := hb h1
  exact ⟨⟨_, _, _, _, rfl, h0.symm, .inl rfl⟩, trivial⟩
 ·refine ⟨⟨.inr rfl, by unfold maxLen; omega, by show (0 + l.length) * 56 <= 140737488355328; omega⟩, ?_⟩
  exact ⟨⟨_, _, _, _, rfl, Nat.zero_add _, .inr ⟨rfl, fun i hi j hj => dE _⟩⟩, trivial⟩
structure CpOk (s : Svc) : Prop where
  g : s.c.M.G.length <= 1000000
  t : s.c.T.length <= 1000000
  z : s.c.Z.length <= 1000000
  c : s.k.C.length <= 1000000
  k : s.k.K.length <= 1000000
theorem zjU (s : Svc) (ok : CpOk s) : Spec PP 30 [s.v] [s.v] := by
 refine sA Tryz.func30 ?_
 refine CallSt.ro (zjZ s.c.M.G ok.g) rfl rfl ?_
 refine oL (List.range 21) (FzOb.no ?_)
 refine CallOb.ro (zjW s.c.T ok.t) rfl rfl ?_
 refine CallOb.ro (zjV s.c.Z ok.z) rfl rfl ?_
 refine CallOb.ro (zjY s.k.C ok.c) rfl rfl ?_
 refine CallOb.ro (zjX s.k.K ok.k) rfl rfl ?_
 exact ⟨rtC (a := 2) rfl rfl rfl rfl rfl rfl (zaa _), trivial⟩
def renA (ρ : Nat -> Nat) : AV -> AV
 | .d x => .d x
 | .own i => .own (ρ i)
 | .box i o => .box (ρ i) o
 | _ => .any
def renO (ρ : Nat -> Nat) : Ob -> Ob
 | .box cs => .box (cs.map (renA ρ))
 | o => o
def renL (ρ : Nat -> Nat) : List (Nat × Ob) -> List (Nat × Ob)
 | [] => []
 | (i, o) :: r => (ρ i, renO ρ o) :: renL ρ r
theorem zaV {ρ : Nat -> Nat} : ∀ {l : List (Nat × Ob)} {j : Nat} {o' : Ob}, look (renL ρ l) j = some o' -> ∃ i o, look l i = some o /\ j = ρ i /\ o' = renO ρ o
 | [], _, _, h => by cases h
 | (t, p) :: r, j, o', h => by
  simp only [renL, look] at h
  cases hb : Nat.beq j (ρ t) with
  | true => rw [hb] at h; cases h; exact ⟨t, p, by simp only [look, zas]; rfl, Nat.eq_of_beq_eq_true hb, rfl⟩
  | false =>
   rw [hb] at h
   obtain ⟨i, o, h1, rfl, h3⟩ := zaV (l := r) h
   refine ⟨i, o, ?_, rfl, h3⟩
   simp only [look]
   rw [zds (fun e => by subst e; rw [zas] at hb; cases hb)]
   exact h1
theorem zc1 {ρ : Nat -> Nat} : ∀ {l : List (Nat × Ob)} {i : Nat}, (look l i).isSome = true -> (look (renL ρ l) (ρ i)).isSome = true
 | [], _, h => by cases h
 | (t, p) :: r, i, h => by
  simp only [renL, look] at h ⊢
  cases hb : Nat.beq i t with
  | true => obtain rfl := Nat.eq_of_beq_eq_true hb; rw [zas]; rfl
  | false =>
   rw [hb] at h
   cases Nat.beq (ρ i) (ρ t) with
   | true => rfl
   | false => exact zc1 (l := r) h
section
variable {w : World} {ok : Nat -> Prop} {γ : Nat -> Value} {ρ σ : Nat -> Nat}
theorem zoq {c : AV} {v : Value} (hc : ∀ j ∈ c.refs, σ (ρ j) = j) (h : M w ok γ c v) : M w ok (fun j => γ (σ j)) (renA ρ c) v := by
 cases c with
 | d x => exact h
 | own i =>
  show v = γ (σ (ρ i))
  rw [hc i (by simp [AV.refs])]; exact h
 | box i o =>
  obtain ⟨b, h1, h2⟩ := h
  exact ⟨b, by show γ (σ (ρ i)) = _; rw [hc i (by simp [AV.refs])]; exact h1, h2⟩
 | _ => exact trivial
theorem ziA {c : AV} {k : Nat} (h : k ∈ (renA ρ c).refs) : ∃ j ∈ c.refs, k = ρ j := by
 cases c with
 | own i => exact ⟨i, by simp [AV.refs], by simpa [renA, AV.refs] using h⟩
 | box i o => exact ⟨i, by simp [AV.refs], by simpa [renA, AV.refs] using h⟩
 | _ => simp [renA, AV.refs] at h
theorem OwnS.ren {obs : List (Nat × Ob)} (h : OwnS w ok γ obs) (hσ : ∀ i, (look obs i).isSome = true -> σ (ρ i) = i) : OwnS w ok (fun j => γ (σ j)) (renL ρ obs) where
  objs := fun j o' hj => by
    obtain ⟨i, o, h1, rfl, rfl⟩ := zaV hj
    have e : σ (ρ i) = i := hσ i (by rw [h1]; rfl)
    have hh := h.objs i o h1
    cases o with
    | box cs =>
      obtain ⟨b, vs, T, g1, g2, g3, g4⟩ := hh
      refine ⟨b, vs, T, by show γ (σ (ρ i)) = _; rw [e]; exact g1, g2, g3, ?_⟩
      have hr := h.refs i cs h1
      clear h1 g1 g3 hj
      induction g4 with
      | nil => exact .nil
      | cons h5 h6 ih => exact .cons ⟨zoq (fun j hj => hσ j (hr _ (List.mem_cons_self ..) j hj)) h5.1, h5.2⟩ (ih fun c hc => hr c (List.mem_cons_of_mem _ hc))
    | row e' k n f =>
      obtain ⟨xs, g1, g2, g3⟩ := hh
      refine ⟨xs, by show w.ownsRow 0 e' k (γ (σ (ρ i))) n xs; rw [e]; exact g1, fun b hb => trivial, g3⟩
    | mp ks =>
      obtain ⟨b, es, c, g1, g2, g3⟩ := hh
      exact ⟨b, es, c, by show γ (σ (ρ i)) = _; rw [e]; exact g1, g2, g3⟩
  refs := fun j cs hj c hc k hk => by
    obtain ⟨i, o, h1, rfl, h3⟩ := zaV hj
    cases o with
    | box cs' =>
      cases h3
      obtain ⟨c', hc', rfl⟩ := List.mem_map.1 hc
      obtain ⟨j', hj', rfl⟩ := ziA hk
      exact zc1 (h.refs i cs' h1 c' hc' j' hj')
    | row _ _ _ _ => cases h3
    | mp _ => cases h3
  sep := fun j k o o' hj hk hjk b hb hb' => by
    obtain ⟨i, p, h1, rfl, -⟩ := zaV hj
    obtain ⟨i', p', h1', rfl, -⟩ := zaV hk
    have hb : blk (γ (σ (ρ i))) = some b := hb
    have hb' : blk (γ (σ (ρ i'))) = some b := hb'
    rw [hσ i (by rw [h1]; rfl)] at hb
    rw [hσ i' (by rw [h1']; rfl)] at hb'
    exact h.sep i i' p p' h1 h1' (fun e => hjk (by rw [e])) b hb hb'
  out := fun j o b hj hb => by
    obtain ⟨i, p, h1, rfl, -⟩ := zaV hj
    have hb : blk (γ (σ (ρ i))) = some b := hb
    rw [hσ i (by rw [h1]; rfl)] at hb
    exact h.out i p b h1 hb
theorem ziz {obs : List (Nat × Ob)} (hσ : ∀ i, (look obs i).isSome = true -> σ (ρ i) = i) {b : Nat} : LentB (fun j => γ (σ j)) (renL ρ obs) b -> LentB γ obs b := fun ⟨j, o, h1, h2⟩ => by
 obtain ⟨i, p, g1, rfl, -⟩ := zaV h1
 have h2 : blk (γ (σ (ρ i))) = some b := h2
 rw [hσ i (by rw [g1]; rfl)] at h2
 exact ⟨i, p, g1, h2⟩
theorem zi9 {obs : List (Nat × Ob)} (hσ : ∀ i, (look obs i).isSome = true -> σ (ρ i) = i) {b : Nat} : LentB γ obs b -> LentB (fun j => γ (σ j)) (renL ρ obs) b := fun ⟨i, o, h1, h2⟩ => by
 have := zc1 (ρ := ρ) (l := obs) (i := i) (by rw [h1]; rfl)
 obtain ⟨o', e⟩ := Option.isSome_iff_exists.1 this
 exact ⟨ρ i, o', e, by show blk (γ (σ (ρ i))) = _; rw [hσ i (by rw [h1]; rfl)]; exact h2⟩
end
theorem SpecM.ren {P : Program} {f : FuncId} {args : List AV} {obs obs' : List (Nat × Ob)} {pins : List Nat} {res : List V1} (h : SpecM P f args obs obs' pins res) (ρ σ : Nat -> Nat) (hσ : (obs'.all fun p => Nat.beq (σ (ρ p.1)) p.1) = true) (hp : (pins.all fun i => Nat.beq (σ i) i) = true) :
  SpecM P f args obs (renL ρ obs') pins res := by
 have hσ' : ∀ i, (look obs' i).isSome = true -> σ (ρ i) = i := fun i hi => by
  obtain ⟨o, e⟩ := Option.isSome_iff_exists.1 hi
  exact Nat.eq_of_beq_eq_true (List.all_eq_true.1 hσ _ (zaj e))
 refine ⟨h.1, fun w ok γ vs hok ho hm => (h.2 w ok γ vs hok ho hm).mono fun en w' ⟨r, γ', e, hf, hpin, ho', hn, hres⟩ => ?_⟩
 have hM : ∀ b, okM w w' ok γ γ' obs obs' b ↔ okM w w' ok γ (fun j => γ' (σ j)) obs (renL ρ obs') b := fun b =>
  ⟨fun hb => hb.imp id fun hb => ⟨hb.1, hb.2.1, fun q => hb.2.2 (ziz hσ' q)⟩, fun hb => hb.imp id fun hb => ⟨hb.1, hb.2.1, fun q => hb.2.2 (zi9 hσ' q)⟩⟩
 have eM : okM w w' ok γ γ' obs obs' = okM w w' ok γ (fun j => γ' (σ j)) obs (renL ρ obs') := funext fun b => propext (hM b)
 refine ⟨r, fun j => γ' (σ j), e, hf, fun i hi => ?_, ?_, fun j o b hj hb => ?_, ?_⟩
 ·show γ' (σ i) = γ i
  rw [Nat.eq_of_beq_eq_true (List.all_eq_true.1 hp i hi)]; exact hpin i hi
 ·rw [<- eM]; exact ho'.ren hσ'
 ·obtain ⟨i, p, h1, rfl, -⟩ := zaV hj
  have hb : blk (γ' (σ (ρ i))) = some b := hb
  rw [hσ' i (by rw [h1]; rfl)] at hb
  exact hn i p b h1 hb
 ·rw [<- eM]; exact hres
def ckM (args : List AV) (obs : List (Nat × Ob)) : Bool := args.all fun v => v.refs.all fun j => (look obs j).isSome
theorem zeh (ids : List Nat) {f : FuncId} {fn : Func} {c : Code} (hf : PP.funcs[f]? = some fn) (hb : fn.body = some c) (hq : ((fn.name == "runtime.NumGoroutine") || !(codeN fn.ntmps c && Nat.ble fn.ntmps 4294967296)) = false)
  {args : List AV} {obs obs' : List (Nat × Ob)} (ts : List Nat) (pins : List (Nat × Nat)) {res : List V1} (hts : fn.results.toList = ts.map ResultVar.tmp) (hlr : ts.length = res.length) (hck : ckM args obs = true) (hpn : (pins.map Prod.fst ++ ts).Nodup) (hsz : Nat.ble args.length fn.ntmps = true)
  (h : ∀ γ, awp PP TTab (EC ids) c (St.of (slotsM γ 0 args) obs) (retM ts res γ pins obs')) : SpecM PP f args obs obs' (pins.map Prod.snd) res := by
 simp only [Bool.or_eq_false_iff, Bool.not_eq_false', Bool.and_eq_true] at hq
 exact zkf (E := EC ids) hT hE hM hf hb hq.1 hq.2.1 ts hts pins hlr (fun v hv j hj => List.all_eq_true.1 (List.all_eq_true.1 hck v hv) j hj) hpn (Nat.le_of_ble_eq_true hsz) (Nat.le_of_ble_eq_true hq.2.2) h
theorem zke (ids : List Nat) {f : FuncId} {fn : Func} {c : Code} (hf : PP.funcs[f]? = some fn) (hb : fn.body = some c) (hq : ((fn.name == "runtime.NumGoroutine") || !(codeN fn.ntmps c && Nat.ble fn.ntmps 4294967296)) = false)
  {args : List V1} {obs' : List (Nat × Ob)} (t0 i t1 : Nat) (ts : List Nat) {res : List V1} (hts : fn.results.toList = (t0 :: t1 :: ts).map ResultVar.tmp) (hlr : (t1 :: ts).length = res.length) (hpn : (t0 :: t1 :: ts).Nodup) (hsz : Nat.ble args.length fn.ntmps = true)
  (h : awp PP TTab (EC ids) c (St.of (argSlots 0 args) []) (retN t0 i (t1 :: ts) res obs')) : SpecN PP f args obs' i res := by
 simp only [Bool.or_eq_false_iff, Bool.not_eq_false', Bool.and_eq_true] at hq
 exact zkd (E := EC ids) rfl hT hE hM hf hb hq.1 hq.2.1 t0 i t1 ts hts hlr hpn (Nat.le_of_ble_eq_true hsz) (Nat.le_of_ble_eq_true hq.2.2) h
end Go.Pg
