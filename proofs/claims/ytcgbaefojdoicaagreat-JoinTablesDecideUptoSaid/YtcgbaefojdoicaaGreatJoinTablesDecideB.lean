/-
  What a bound of the arguments' bulk says of lists of sets: how many numbers there are.
-/
import Derived.Test.YtcgbaefojdoicaaGreatRows
import Derived.Test.YtcgbaefojdoicaaGreatUG
set_option linter.all false
namespace Go.Proofs.YtcgbaefojdoicaaGreat.bulks
open Go.RowKit Go.ChangeShapes Go.WideShapes Go.Deep Go.Pg

def tot:D → Nat
  | .slc k n f=>1+((List.range n).map fun i=>((List.range k).map fun j=>tot (f i j)).sum).sum
  | _=>1
theorem sum_le {α:Type} {f g:α → Nat}:∀ {l:List α},(∀ i∈l,f i ≤ g i) → (l.map f).sum ≤ (l.map g).sum
  | [],_=>Nat.le_refl _
  | a :: l,h=>by
    have h1:=h a (List.mem_cons_self ..)
    have h2:=sum_le (l:=l) fun i hi=>h i (List.mem_cons_of_mem _ hi)
    rw[List.map_cons,List.map_cons,List.sum_cons,List.sum_cons]; omega
theorem sum_eq {α:Type} {f g:α → Nat} {l:List α} (h:∀ i∈l,f i=g i):(l.map f).sum=(l.map g).sum:=by rw[List.map_congr_left h]
theorem sum_one (n:Nat):((List.range n).map fun _=>1).sum=n:=by
  induction n with
  | zero=>rfl
  | succ n ih=>rw[List.range_succ,List.map_append,List.sum_append,ih]; rfl
theorem sum_get {α:Type} (f:α → Nat) (d:α) (l:List α):((List.range l.length).map fun i=>f (l.getD i d)).sum=(l.map f).sum:=by
  congr 1
  refine List.ext_getElem (by simp) fun i h1 h2=>?_
  rw[List.getElem_map,List.getElem_map,List.getElem_range]
  have:i<l.length:=by simpa using h2
  rw[List.getD_eq_getElem?_getD,List.getElem?_eq_getElem this]; rfl
theorem tot_eqv:∀ {x y:D},D.eqv x y → tot x=tot y:=by
  intro x
  induction x with
  | slc k n f ih=>
    intro y h
    cases y with
    | slc k' n' f'=>
      obtain⟨rfl,h⟩:=h
      rcases h with rfl | ⟨rfl,h⟩
      · rfl
      · unfold tot
        congr 1
        refine sum_eq fun i hi=>sum_eq fun j hj=>ih i j (h i (List.mem_range.1 hi) j (List.mem_range.1 hj))
    | _=>simp[D.eqv] at h
  | nil=>
    intro y h
    cases y with
    | slc k n f=>
      have h:n=0:=h
      subst h; rfl
    | _=>first | rfl | simp[D.eqv] at h
  | _=>
    intro y h
    cases y <;> first | rfl | simp[D.eqv] at h
theorem tot_lI (s:List Int):tot (lI s)=1+s.length:=by
  show 1+((List.range s.length).map fun i=>((List.range 1).map fun j=>tot (I (s.getD i 0))).sum).sum=_
  congr 1
  refine Eq.trans ?_ (sum_one s.length)
  exact sum_eq fun i _=>rfl
theorem tot_lII (p:List (List Int)):tot (lII p)=1+ptot p:=by
  show 1+((List.range p.length).map fun i=>((List.range 1).map fun j=>tot (lI (p.getD i []))).sum).sum=_
  congr 1
  unfold ptot
  rw[← sum_get (fun s:List Int=>s.length+1) [] p]
  refine sum_eq fun i _=>?_
  show tot (lI (p.getD i []))+0=_
  rw[tot_lI]; omega
theorem bulkAll {H:Type}:∀ l:List (DataW H),Rows.uptoBulkAll l=(l.map Rows.uptoBulk).sum
  | []=>rfl
  | d :: l=>by
    rw[List.map_cons,List.sum_cons,← bulkAll l]; rfl
theorem All2.len {α β:Type} {R:α → β → Prop} {a:List α} {b:List β} (h:All2 R a b):a.length=b.length:=by
  induction h with
  | nil=>rfl
  | cons _ _ ih=>rw[List.length_cons,List.length_cons,ih]
section
variable {H:Type} {enc:TypeId × Value → H} {P:Program} {w:World} {base:Nat} {spare:Nat → Bool} {held:Bool}
theorem shFs_tot {g : TypeId → Option (List Sh)} {n : Nat} {cs : List Value}
    (ih : ∀ t ks, g t = some ks → ∀ cs x, DataW.trod enc P w base spare held n t cs = some x → ∃ xs : List D, All2 (Rep w fun b => b < w.heap.size) xs cs ∧ All2 Fits ks xs ∧ (xs.map tot).sum ≤ Rows.uptoBulk x.1) :
    ∀ (r : List Field) (ys : List (DataW H × List MemPlace)) (off : Nat) (ks : List Sh), shFs P.cellsOf g off r = some ks → ys.length = r.length → (∀ (i : Nat) (f : Field), r[i]? = some f → DataW.trod enc P w base spare held n f.type ((cs.drop f.offset).take (P.cellsOf f.type)) = ys[i]?) →
      ∃ xs : List D, All2 (Rep w fun b => b < w.heap.size) xs ((cs.drop off).take ks.length) ∧ All2 Fits ks xs ∧ (xs.map tot).sum ≤ Rows.uptoBulkAll (ys.map (·.1))
  | [], ys, off, ks, h, _, _ => by
    simp only [shFs, Option.some.injEq] at h
    subst h
    exact ⟨[], .nil, .nil, Nat.zero_le _⟩
  | f :: r, [], off, ks, h, hl, _ => by cases hl
  | f :: r, y :: ys, off, ks, h, hl, hx => by
    unfold shFs at h
    obtain ⟨a, ha, h⟩ := Option.bind_eq_some_iff.1 h
    cases hc : f.offset == off && a.length == P.cellsOf f.type with
    | false => rw [hc] at h; cases h
    | true =>
      rw [hc] at h
      obtain ⟨b, hb, rfl⟩ := Option.map_eq_some_iff.1 (show (shFs P.cellsOf g (off + a.length) r).map (fun b => a ++ b) = some ks from h)
      simp only [Bool.and_eq_true, beq_iff_eq] at hc
      have h1 : DataW.trod enc P w base spare held n f.type ((cs.drop f.offset).take (P.cellsOf f.type)) = some y := hx 0 f rfl
      rw [hc.1, ← hc.2] at h1
      obtain ⟨x1, g1, g2, g3⟩ := ih _ _ ha _ _ h1
      obtain ⟨x2, k1, k2, k3⟩ := shFs_tot ih r ys (off + a.length) b hb (by simpa using hl) fun i f hf => hx (i + 1) f (by simpa using hf)
      rw [List.length_append, List.take_add, List.drop_drop]
      refine ⟨x1 ++ x2, g1.app' k1, g2.app' k2, ?_⟩
      rw [List.map_append, List.sum_append, List.map_cons]
      show _ ≤ Rows.uptoBulk y.1 + Rows.uptoBulkAll (ys.map (·.1))
      omega
theorem sh_tot : ∀ (n : Nat) (t : TypeId) (ks : List Sh), shOf P n t = some ks → ∀ (fuel : Nat) (cs : List Value) (x : DataW H × List MemPlace), DataW.trod enc P w base spare held fuel t cs = some x →
    ∃ xs : List D, All2 (Rep w fun b => b < w.heap.size) xs cs ∧ All2 Fits ks xs ∧ (xs.map tot).sum ≤ Rows.uptoBulk x.1
  | 0, _, _, h, _, _, _, _ => by cases h
  | n + 1, t, ks, h, fuel, cs, x, ht => by
    unfold shOf at h
    split at h
    · rename_i k hu
      simp only [Option.some.injEq] at h
      subst h
      obtain ⟨m, rfl, rfl, hw⟩ := DataW.trod_int hu ht
      exact ⟨[.int k m], .cons rfl .nil, .cons ⟨m, wf_kind hw, rfl⟩ .nil, Nat.le_refl 1⟩
    · rename_i e hu
      unfold shSl at h
      obtain ⟨ks', hk, h⟩ := Option.bind_eq_some_iff.1 h
      cases hc : ks'.length == P.cellsOf e with
      | false => rw [hc] at h; cases h
      | true =>
        rw [hc] at h
        simp only [cond_true, Option.some.injEq] at h
        subst h
        have hc := beq_iff_eq.1 hc
        rcases open_slice hu ht with ⟨rfl, rfl⟩ | ⟨ad, len, cap, m, n', D', Pl, rfl, hb, hl, hm, hmm, rfl, hi⟩
        · exact ⟨[.slc ks'.length 0 fun _ _ => .nil], .cons (.inl ⟨rfl, rfl⟩) .nil, .cons ⟨0, _, rfl, by unfold maxLen; omega, fun i hi => absurd hi (Nat.not_lt_zero _)⟩ .nil, Nat.le_refl 1⟩
        · have key : ∀ i, ∃ xs : List D, i < len → ∃ cs', w.cells? base (ad.add (i * P.cellsOf e)) (P.cellsOf e) = some cs' ∧ All2 (Rep w fun b => b < w.heap.size) xs cs' ∧ All2 Fits ks' xs ∧ (xs.map tot).sum ≤ Rows.uptoBulk (D' i) := fun i => by
            by_cases hil : i < len
            · obtain ⟨cs', hcc, ht'⟩ := hi i (by rw [hmm]; split <;> omega)
              obtain ⟨xs, a1, a2, a3⟩ := sh_tot n e ks' hk _ _ _ ht'
              exact ⟨xs, fun _ => ⟨cs', hcc, a1, a2, a3⟩⟩
            · exact ⟨[], fun h => absurd h hil⟩
          refine ⟨[.slc ks'.length len fun i j => (Classical.choose (key i)).getD j .nil], .cons (.inr ⟨ad, cap, rfl, hl, hm, fun i hil j hj => ?_⟩) .nil, .cons ⟨len, _, rfl, by omega, fun i hil j hj => ?_⟩ .nil, ?_⟩
          · obtain ⟨cs', hcc, a1, a2, _⟩ := Classical.choose_spec (key i) hil
            obtain ⟨_, hcl, hat⟩ := World.cells?_some hcc
            have hlx := All2.len a2
            have hxj : (Classical.choose (key i))[j]? = some ((Classical.choose (key i)).getD j .nil) := by
              rw [List.getD_eq_getElem?_getD, List.getElem?_eq_getElem (by omega)]; rfl
            obtain ⟨v, hv, hr⟩ := a1.get j _ hxj
            have hcell : w.cell? (ad.add (i * ks'.length + j)) = some v := by
              rw [← Go.Deep.add_add, hc, hat j (by omega)]; exact hv
            refine ⟨?_, v, hcell, hr⟩
            have := cell_lt hcell
            rwa [add_block] at this
          · obtain ⟨cs', hcc, a1, a2, _⟩ := Classical.choose_spec (key i) hil
            obtain ⟨x, hx, hf⟩ := a2.get j _ (shSl_get hj)
            rw [List.getD_eq_getElem?_getD, hx]; exact hf
          · show tot (.slc ks'.length len fun i j => (Classical.choose (key i)).getD j .nil) + 0 ≤ Rows.uptoBulkAll ((List.range len).map D') + Rows.uptoBulkAll _ + 1
            unfold tot
            have hs : ((List.range len).map fun i => ((List.range ks'.length).map fun j => tot ((Classical.choose (key i)).getD j .nil)).sum).sum ≤ ((List.range len).map fun i => Rows.uptoBulk (D' i)).sum := sum_le fun i hi => by
              obtain ⟨cs', hcc, a1, a2, a3⟩ := Classical.choose_spec (key i) (List.mem_range.1 hi)
              rw [All2.len a2, sum_get tot .nil]
              exact a3
            rw [bulkAll ((List.range len).map D'), List.map_map]
            have e : ((List.range len).map (Rows.uptoBulk ∘ D')).sum = ((List.range len).map fun i => Rows.uptoBulk (D' i)).sum := rfl
            show 1 + ((List.range len).map fun i => ((List.range ks'.length).map fun j => tot ((Classical.choose (key i)).getD j .nil)).sum).sum + 0 ≤ _
            omega
    · rename_i fs hu
      unfold shSt at h
      obtain ⟨ks', hk, h⟩ := Option.bind_eq_some_iff.1 h
      cases hc : ks'.length == P.cellsOf t with
      | false => rw [hc] at h; cases h
      | true =>
        rw [hc] at h
        simp only [cond_true, Option.some.injEq] at h
        subst h
        obtain ⟨xs, m, rfl, rfl, hl, hlen, hf⟩ := DataW.trod_struct hu ht
        obtain ⟨ys, k1, k2, k3⟩ := shFs_tot (cs := cs) (n := m) (fun t ks h cs x hx => sh_tot n t ks h m cs x hx) fs.toList xs 0 ks' hk (by simpa using hlen) fun i f hf' => hf i f (by simpa using hf')
        rw [List.drop_zero, List.take_of_length_le (by have := beq_iff_eq.1 hc; omega)] at k1
        exact ⟨ys, k1, k2, Nat.le_trans k3 (Nat.le_succ _)⟩
    · cases h
theorem openS' {r : Reach} {b0 : Nat} (n : Nat) {t : TypeId} {fs : Array Field} {ks : List Sh} {v : Value} {d : DataW H} {p : List MemPlace} (hs : P.underlying t = some (.struct fs)) (hk : shOf P n t = some ks)
    (hv : Value.okWide P w r b0 t v) (h : DataW.Trod enc P w base spare held t v d p) : ∃ xs : List D, Rep1 w (fun b => b < w.heap.size) (.agg xs) v ∧ All2 Fits ks xs ∧ (xs.map tot).sum ≤ Rows.uptoBulk d := by
  obtain ⟨cs, rfl, hsz⟩ := okWide_struct hs hv
  obtain ⟨fuel, hf⟩ := h
  obtain ⟨xs, h1, h2, h3⟩ := sh_tot n t ks hk fuel _ _ (by simpa [Value.cells] using hf)
  exact ⟨xs, ⟨cs.toList, by simp, h1⟩, h2, h3⟩
end
theorem rep_Vdt' {w:World} {ok:Nat → Prop} {xs:List D} {v:Value} {B:Nat} (hr:Rep1 w ok (.agg xs) v) (h:All2 Fits shVdt xs ∧ (xs.map tot).sum ≤ B):∃ d:Vdt,(ptot d.T ≤ B ∧ ptot d.A ≤ B) ∧ Rep1 w ok d.v v:=by
  obtain⟨h,hB⟩:=h
  obtain⟨vs,e,hv⟩:=hr
  cases h with | cons h0 h=>
  cases h with | cons h1 h=>
  cases h with | cons h2 h=>
  cases h
  obtain⟨n0,-,rfl⟩:=h0
  obtain⟨T,-,eT⟩:=fitII h1
  obtain⟨A,-,eA⟩:=fitII h2
  simp only[List.map_cons,List.map_nil,List.sum_cons,List.sum_nil,tot_eqv eT,tot_eqv eA,tot_lII] at hB
  exact⟨⟨n0,T,A⟩,⟨by show ptot T ≤ B; omega,by show ptot A ≤ B; omega⟩,vs,e,rep_aggE hv ⟨⟨rfl,rfl⟩,eT,eA,trivial⟩⟩
theorem part_le {H:Type} {d:DataW H}:∀ {l:List (DataW H)},d∈l → Rows.uptoBulk d ≤ Rows.uptoBulkAll l
  | [],h=>by cases h
  | x :: r,h=>by
    show _ ≤ Rows.uptoBulk x+Rows.uptoBulkAll r
    rcases List.mem_cons.1 h with rfl | h
    · omega
    · have:=part_le h; omega
theorem bulkP {H:Type} {d:DataW H} {l:List (DataW H)} (hk:Rows.uptoSmall H l=true) (h:d∈l):Rows.uptoBulk d ≤ 4000000:=by
  have hk:Rows.uptoBulkAll l ≤ 1048576:=of_decide_eq_true hk
  have:=part_le h
  omega
end Go.Proofs.YtcgbaefojdoicaaGreat.bulks
