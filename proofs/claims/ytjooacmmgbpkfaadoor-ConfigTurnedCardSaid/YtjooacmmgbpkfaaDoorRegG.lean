/- A region that draws its order, whatever is in it: guards, stores; what a slot holds, and what holds of the world, hangs on what has come up. No conditions. -/
import Derived.Test.YtjooacmmgbpkfaaDoorRegInv
namespace Go.Proofs.YtjooacmmgbpkfaaDoor
open Go.RowKit

section
variable {P : Program} {ops : Array Oper} {Q : Exit → Act → World → Prop}
/-- All slots that are written are there, and apart. -/
def dstsG (ops : Array Oper) (n : Nat) : Bool := ops.all (fun o => match o.dst with | some d => decide (d < n) | none => true) && (List.range ops.size).all fun i => (List.range i).all fun j => match ops[i]?, ops[j]? with | some x, some y => x.dst.isNone || x.dst != y.dst | _, _ => true
theorem dstsG_spec {n : Nat} (h : dstsG ops n = true) {i : Nat} {o : Oper} {d : Nat} (hi : ops[i]? = some o) (hd : o.dst = some d) : d < n := by
  unfold dstsG at h
  rw [Bool.and_eq_true] at h
  have h1 := Array.all_eq_true_iff_forall_mem.1 h.1 o (Array.mem_of_getElem? hi)
  rw [hd] at h1
  exact of_decide_eq_true h1
theorem dstsG_ne {n : Nat} (h : dstsG ops n = true) {i j : Nat} {x y : Oper} (hi : ops[i]? = some x) (hj : ops[j]? = some y) (hne : i ≠ j) (hx : x.dst ≠ none) : x.dst ≠ y.dst := by
  unfold dstsG at h
  rw [Bool.and_eq_true] at h
  have key : ∀ (i j : Nat) (x y : Oper), ops[i]? = some x → ops[j]? = some y → j < i → x.dst = y.dst → x.dst = none := by
    intro i j x y hi hj hlt e
    have h1 := List.all_eq_true.1 h.2 i (List.mem_range.2 (Array.getElem?_eq_some_iff.1 hi).1)
    have h2 := List.all_eq_true.1 h1 j (List.mem_range.2 hlt)
    rw [hi, hj] at h2
    simpa [e] using h2
  intro e
  rcases Nat.lt_or_gt_of_ne hne with h' | h'
  · have := key j i y x hj hi h' e.symm
    exact hx (e.trans this)
  · exact hx (key i j x y hi hj h' e)
theorem wanted_at {o oj : Oper} {j d : Nat} {want v : Bool} {a : Act} (hg : o.guard = some (j, want)) (hj : ops[j]? = some oj) (hd : oj.dst = some d) (hv : slotv a d = .bool v) : Region.wanted o (yielded ops a.tmps) = (v == want) := by
  have ht : a.tmps[d]? = some (.bool v) := by
    unfold slotv at hv
    cases h : a.tmps[d]? with
    | none => rw [h] at hv; cases hv
    | some x => rw [h] at hv; exact congrArg some hv
  unfold Region.wanted yielded
  rw [hg]
  simp only [hj, Option.bind_some, hd, ht]
  cases v <;> cases want <;> rfl
theorem step_now {o : Oper} {a : Act} {w : World} {K : Act → World → Prop} {E : Prop} (hg : o.guard = none) (h : o.wp P a w K Q) : if Region.wanted o (yielded ops a.tmps) = true then o.wp P a w K Q else E := by
  rw [if_pos (by simp [Region.wanted, hg])]
  exact h
theorem step_on {o oj : Oper} {j d : Nat} {want : Bool} {a : Act} {w : World} {K : Act → World → Prop} {E : Prop} (hg : o.guard = some (j, want)) (hj : ops[j]? = some oj) (hd : oj.dst = some d) (hv : slotv a d = .bool want) (h : o.wp P a w K Q) : if Region.wanted o (yielded ops a.tmps) = true then o.wp P a w K Q else E := by
  rw [if_pos (by rw [wanted_at hg hj hd hv]; simp)]
  exact h
theorem step_off {o oj : Oper} {j d : Nat} {want v : Bool} {a : Act} {w : World} {K : Act → World → Prop} {E : Prop} (hg : o.guard = some (j, want)) (hj : ops[j]? = some oj) (hd : oj.dst = some d) (hv : slotv a d = .bool v) (hne : v ≠ want) (h : E) : if Region.wanted o (yielded ops a.tmps) = true then o.wp P a w K Q else E := by
  rw [if_neg (by rw [wanted_at hg hj hd hv]; simp [hne])]
  exact h
def LiveAtG (P : Program) (ops : Array Oper) (Q : Exit → Act → World → Prop) (R : (Nat → Bool) → Nat → Value → World → Prop) (S : (Nat → Bool) → World → Prop) (a0 : Act) (i : Nat) (o : Oper) : Prop :=
  ∀ L a w, L i = false → (∀ e ∈ o.after, Region.binds .any e = true → L e.on = true) → (∀ j oj, ops[j]? = some oj → L j = true → ∀ e ∈ oj.after, Region.binds .any e = true → L e.on = true) →
    (∀ t, freeB ops t = true → slotv a t = slotv a0 t) → (∀ j oj d, ops[j]? = some oj → oj.dst = some d → L j = false → slotv a d = slotv a0 d) → S L w → (∀ e ∈ o.after, Region.binds .any e = true → ∀ oj d, ops[e.on]? = some oj → oj.dst = some d → R L e.on (slotv a d) w) →
    ∀ K : Act → World → Prop, (∀ v w', S (also L i) w' → R (also L i) i v w' → (∀ j v', j ≠ i → L j = true → R L j v' w → R (also L i) j v' w') → K (a.put o.dst v) w') → if Region.wanted o (yielded ops a.tmps) = true then o.wp P a w K Q else K (a.put o.dst undef) w
def LivesG (P : Program) (ops : Array Oper) (Q : Exit → Act → World → Prop) (R : (Nat → Bool) → Nat → Value → World → Prop) (S : (Nat → Bool) → World → Prop) (a0 : Act) : List Oper → Nat → Prop
  | [], _ => True
  | o :: rest, i => LiveAtG P ops Q R S a0 i o ∧ LivesG P ops Q R S a0 rest (i + 1)
theorem LivesG.nil {R : (Nat → Bool) → Nat → Value → World → Prop} {S : (Nat → Bool) → World → Prop} {a0 : Act} (i : Nat) : LivesG P ops Q R S a0 [] i := trivial
theorem LivesG.cons {R : (Nat → Bool) → Nat → Value → World → Prop} {S : (Nat → Bool) → World → Prop} {a0 : Act} {i : Nat} {o : Oper} {l : List Oper} (h : LiveAtG P ops Q R S a0 i o) (h' : LivesG P ops Q R S a0 l (i + 1)) : LivesG P ops Q R S a0 (o :: l) i := ⟨h, h'⟩
theorem LivesG.at_ {R : (Nat → Bool) → Nat → Value → World → Prop} {S : (Nat → Bool) → World → Prop} {a0 : Act} : ∀ (l : List Oper) (k i : Nat) (o : Oper), LivesG P ops Q R S a0 l k → l[i]? = some o → LiveAtG P ops Q R S a0 (k + i) o
  | [], _, _, _, _, h => by simp at h
  | x :: l, k, 0, o, h, hi => by simp at hi; subst hi; exact h.1
  | x :: l, k, i + 1, o, h, hi => by
    have := LivesG.at_ l (k + 1) i o h.2 (by simpa using hi)
    rw [show k + (i + 1) = k + 1 + i from by omega]
    exact this
def InvG (ops : Array Oper) (R : (Nat → Bool) → Nat → Value → World → Prop) (S : (Nat → Bool) → World → Prop) (a0 : Act) (L : Nat → Bool) (a : Act) (w : World) : Prop :=
  a.defers = a0.defers ∧ a.tmps.size = a0.tmps.size ∧ (∀ t, freeB ops t = true → slotv a t = slotv a0 t) ∧ S L w ∧
    (∀ (i : Nat) (o : Oper) (d : Nat), ops[i]? = some o → o.dst = some d → L i = true → R L i (slotv a d) w) ∧ (∀ (j : Nat) (oj : Oper), ops[j]? = some oj → L j = true → ∀ e ∈ oj.after, Region.binds .any e = true → L e.on = true) ∧
    (∀ (j : Nat) (oj : Oper) (d : Nat), ops[j]? = some oj → oj.dst = some d → L j = false → slotv a d = slotv a0 d)
theorem wp_region_gen0 {id : Nat} {a0 : Act} {w0 : World} (R : (Nat → Bool) → Nat → Value → World → Prop) (S : (Nat → Bool) → World → Prop) (hm : P.follows .mixedOrders = true) (hback : backB ops = true) (hd : dstsG ops a0.tmps.size = true)
    (h0 : S (fun _ => false) w0.drew) (hsteps : LivesG P ops Q R S a0 ops.toList 0)
    (hend : ∀ L a w, (∀ i, i < ops.size → L i = true) → a.defers = a0.defers → a.tmps.size = a0.tmps.size → (∀ t, freeB ops t = true → slotv a t = slotv a0 t) → S L w →
      (∀ i o d, ops[i]? = some o → o.dst = some d → R L i (slotv a d) w) → Q .normal a w) : (Code.region id ops true).wp P Q a0 w0 := by
  refine wp_region_inv (I := InvG ops R S a0)
    hm hback ⟨rfl, rfl, fun _ _ => rfl, h0, (fun _ _ _ _ _ h => by cases h), (fun _ _ _ h => by cases h), (fun _ _ _ _ _ _ => rfl)⟩ ?_ ?_
  · intro L i o a w ho hL hdep ⟨h1, h2, h3, h4, h5, h6, h7⟩
    have hs := LivesG.at_ ops.toList 0 i o hsteps (by simpa using ho)
    rw [Nat.zero_add] at hs
    unfold wpOp
    rw [ho]
    dsimp only
    have key : ∀ K : Act → World → Prop, (∀ v w', S (also L i) w' → R (also L i) i v w' → (∀ j v', j ≠ i → L j = true → R L j v' w → R (also L i) j v' w') → K (a.put o.dst v) w') → if Region.wanted o (yielded ops a.tmps) = true then o.wp P a w K Q else K (a.put o.dst undef) w :=
      hs L a w hL hdep h6 h3 h7 h4 (fun e he hb oj d hj hdj => h5 _ oj d hj hdj (hdep e he hb))
    have fin : ∀ v w', S (also L i) w' → R (also L i) i v w' → (∀ j v', j ≠ i → L j = true → R L j v' w → R (also L i) j v' w') → InvG ops R S a0 (also L i) (a.put o.dst v) w' := by
      intro v w' hS hR hcarry
      cases hod : o.dst with
      | none =>
        rw [show a.put none v = a from rfl]
        refine ⟨h1, h2, h3, hS, fun j oj dj hj hdj hLj => ?_, fun j oj hj hLj e he hb => ?_, fun j oj dj hj hdj hLj => ?_⟩
        · by_cases hji : j = i
          · subst hji
            rw [ho] at hj
            cases hj
            rw [hod] at hdj
            cases hdj
          · have hLj' : L j = true := by simpa [hji] using hLj
            exact hcarry j _ hji hLj' (h5 j oj dj hj hdj hLj')
        · by_cases hji : j = i
          · subst hji
            rw [ho] at hj
            cases hj
            simp [hdep e he hb]
          · have hLj' : L j = true := by simpa [hji] using hLj
            simp [h6 j oj hj hLj' e he hb]
        · simp at hLj
          exact h7 j oj dj hj hdj hLj.2
      | some d =>
        have hdn := dstsG_spec hd ho hod
        have hdA : d < a.tmps.size := by rw [h2]; exact hdn
        refine ⟨h1, by simp [Act.put, h2], fun t ht => ?_, hS, fun j oj dj hj hdj hLj => ?_, fun j oj hj hLj e he hb => ?_, fun j oj dj hj hdj hLj => ?_⟩
        · rw [slotv_put hdA]
          have hne : d ≠ t := by
            intro e
            subst e
            have := Array.all_eq_true_iff_forall_mem.1 ht o (Array.mem_of_getElem? ho)
            rw [hod] at this
            simp at this
          rw [if_neg hne]
          exact h3 t ht
        · rw [slotv_put hdA]
          by_cases hji : j = i
          · subst hji
            rw [ho] at hj
            cases hj
            rw [hod] at hdj
            cases hdj
            rw [if_pos rfl]
            exact hR
          · have hne : d ≠ dj := by
              intro e
              subst e
              exact dstsG_ne hd hj ho hji (by rw [hdj]; simp) (hdj.trans hod.symm)
            rw [if_neg hne]
            have hLj' : L j = true := by simpa [hji] using hLj
            exact hcarry j _ hji hLj' (h5 j oj dj hj hdj hLj')
        · by_cases hji : j = i
          · subst hji
            rw [ho] at hj
            cases hj
            simp [hdep e he hb]
          · have hLj' : L j = true := by simpa [hji] using hLj
            simp [h6 j oj hj hLj' e he hb]
        · simp at hLj
          rw [slotv_put hdA]
          have hne : d ≠ dj := by
            intro e
            subst e
            exact dstsG_ne hd hj ho hLj.1 (by rw [hdj]; simp) (hdj.trans hod.symm)
          rw [if_neg hne]
          exact h7 j oj dj hj hdj hLj.2
    have hk := key (InvG ops R S a0 (also L i)) fin
    by_cases hw : Region.wanted o (yielded ops a.tmps) = true
    · rw [if_pos hw] at hk
      rw [if_pos hw]
      exact .inl hk
    · rw [if_neg hw] at hk
      rw [if_neg hw]
      exact hk
  · intro L a w hL ⟨h1, h2, h3, h4, h5, _, _⟩
    exact hend L a w hL h1 h2 h3 h4 (fun i o d ho hod => h5 i o d ho hod (hL i (Array.getElem?_eq_some_iff.1 ho).1))
theorem frame_fn (t : Array Value) (n : Nat) (h : t.size = n) (f : Nat → Value) (hf : ∀ i, t[i]?.getD undef = f i) : t = ((List.range n).map f).toArray := by
  apply Array.ext
  · simp [h]
  · intro i h1 h2
    simp [← hf, h1]
/-- The frame behind the region is told as a function of the slots. -/
theorem wp_region_gen {id : Nat} {t0 : Array Value} {d0 : List Deferred} {w0 : World} (n : Nat) (R : (Nat → Bool) → Nat → Value → World → Prop) (S : (Nat → Bool) → World → Prop) (hm : P.follows .mixedOrders = true) (hback : backB ops = true) (hd : dstsG ops n = true) (hn : t0.size = n)
    (h0 : S (fun _ => false) w0.drew) (hsteps : LivesG P ops Q R S ⟨t0, d0⟩ ops.toList 0)
    (hend : ∀ (L : Nat → Bool) (f : Nat → Value) (w : World), (∀ i, i < ops.size → L i = true) → (∀ t, freeB ops t = true → f t = slotv ⟨t0, d0⟩ t) → S L w →
      (∀ i o d, ops[i]? = some o → o.dst = some d → R L i (f d) w) → Q .normal ⟨((List.range n).map f).toArray, d0⟩ w) : (Code.region id ops true).wp P Q ⟨t0, d0⟩ w0 := by
  subst hn
  refine wp_region_gen0 R S hm hback hd h0 hsteps ?_
  intro L a w hL h1 h2 h3 h4 h5
  obtain ⟨tmps, defers⟩ := a
  dsimp only at h1 h2
  subst h1
  rw [frame_fn tmps _ h2 (fun i => tmps[i]?.getD undef) (fun _ => rfl)]
  exact hend L (fun i => tmps[i]?.getD undef) w hL h3 h4 h5
theorem foldl_set_size (f : Nat → Value) : ∀ (ds : List Nat) (t : Array Value), (ds.foldl (fun t d => t.setIfInBounds d (f d)) t).size = t.size
  | [], _ => rfl
  | d :: ds, t => by rw [List.foldl_cons, foldl_set_size f ds]; simp
theorem foldl_set_get (f : Nat → Value) (i : Nat) : ∀ (ds : List Nat) (t : Array Value), i < t.size → (ds.foldl (fun t d => t.setIfInBounds d (f d)) t)[i]? = if i ∈ ds then some (f i) else t[i]?
  | [], _, _ => by simp
  | d :: ds, t, h => by
    rw [List.foldl_cons, foldl_set_get f i ds _ (by simpa using h)]
    by_cases hi : i ∈ ds
    · simp [hi]
    · by_cases hd : d = i
      · subst hd
        simp [hi, h]
      · have hd' : ¬ i = d := fun e => hd e.symm
        simp [hi, hd', Array.getElem?_setIfInBounds_ne hd]
theorem frame_sets {t0 : Array Value} {d0 : List Deferred} {f : Nat → Value} (hf : ∀ t, freeB ops t = true → f t = slotv ⟨t0, d0⟩ t) (ds : List Nat) (hds : ops.toList.filterMap (·.dst) = ds) : ((List.range t0.size).map f).toArray = ds.foldl (fun t d => t.setIfInBounds d (f d)) t0 := by
  apply Array.ext
  · rw [foldl_set_size]; simp
  · intro i h1 h2
    simp at h1
    have h3 := foldl_set_get f i ds t0 h1
    rw [Array.getElem?_eq_getElem h2] at h3
    simp only [List.getElem_toArray, List.getElem_map, List.getElem_range]
    by_cases hi : i ∈ ds
    · rw [if_pos hi] at h3
      exact (Option.some.inj h3).symm
    · rw [if_neg hi, Array.getElem?_eq_getElem h1] at h3
      rw [Option.some.inj h3]
      have hfree : freeB ops i = true := by
        refine Array.all_eq_true_iff_forall_mem.2 fun o ho => ?_
        rw [bne_iff_ne]
        intro e
        refine hi ?_
        rw [← hds]
        exact List.mem_filterMap.2 ⟨o, by simpa using ho, e⟩
      have := hf i hfree
      rw [this]
      simp [slotv, h1]
/-- As 'wp_region_gen'; the frame behind is the frame ahead, the region's slots ds set. -/
theorem wp_region_set {id : Nat} {t0 : Array Value} {d0 : List Deferred} {w0 : World} (n : Nat) (ds : List Nat) (R : (Nat → Bool) → Nat → Value → World → Prop) (S : (Nat → Bool) → World → Prop) (hm : P.follows .mixedOrders = true) (hback : backB ops = true) (hd : dstsG ops n = true) (hds : ops.toList.filterMap (·.dst) = ds) (hn : t0.size = n)
    (h0 : S (fun _ => false) w0.drew) (hsteps : LivesG P ops Q R S ⟨t0, d0⟩ ops.toList 0)
    (hend : ∀ (L : Nat → Bool) (f : Nat → Value) (w : World), (∀ i, i < ops.size → L i = true) → S L w →
      (∀ i o d, ops[i]? = some o → o.dst = some d → R L i (f d) w) → Q .normal ⟨ds.foldl (fun t d => t.setIfInBounds d (f d)) t0, d0⟩ w) : (Code.region id ops true).wp P Q ⟨t0, d0⟩ w0 := by
  refine wp_region_gen n R S hm hback hd hn h0 hsteps ?_
  intro L f w hL h3 h4 h5
  have := hend L f w hL h4 h5
  rw [← frame_sets h3 ds hds, hn] at this
  exact this
end
end Go.Proofs.YtjooacmmgbpkfaaDoor
