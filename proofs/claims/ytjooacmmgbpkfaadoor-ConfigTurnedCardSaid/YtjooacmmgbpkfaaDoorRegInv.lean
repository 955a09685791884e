/- A region that draws its order, by an invariant over which of its operations have come up. No conditions. -/
import Derived.Test.YtjooacmmgbpkfaaDoorBase
import Derived.Orders
namespace Go.Proofs.YtjooacmmgbpkfaaDoor
open Go.RowKit

/-- Each operation waits for elder ones alone. -/
def backB (ops : Array Oper) : Bool := (List.range ops.size).all fun i => match ops[i]? with | some o => o.after.all (fun e => decide (e.on < i)) | none => true
theorem backB_spec {ops : Array Oper} (h : backB ops = true) {i : Nat} {o : Oper} (hi : ops[i]? = some o) : ∀ e ∈ o.after, e.on < i := by
  intro e he
  have h1 := List.all_eq_true.1 h i (List.mem_range.2 (Array.getElem?_eq_some_iff.1 hi).1)
  rw [hi] at h1
  have h2 := Array.all_eq_true_iff_forall_mem.1 h1 e he
  exact of_decide_eq_true h2

def unl (listed : Array Bool) (n : Nat) : List Nat := (List.range n).filter fun i => !listed.getD i true
theorem unl_set {listed : Array Bool} {n i : Nat} (hi : listed.getD i true = false) (hn : i < n) : (unl (listed.setIfInBounds i true) n).length < (unl listed n).length := by
  have e : unl (listed.setIfInBounds i true) n = (unl listed n).filter fun j => j != i := by
    unfold unl
    rw [List.filter_filter]
    refine List.filter_congr fun j _ => ?_
    by_cases hji : j = i
    · subst hji
      by_cases hs : j < listed.size <;> simp [hs]
    · have : i ≠ j := fun h => hji h.symm
      simp [hji, Array.getElem?_setIfInBounds_ne this]
  rw [e]
  refine List.length_filter_lt_length_iff_exists.2 ⟨i, ?_, by simp⟩
  unfold unl
  exact List.mem_filter.2 ⟨List.mem_range.2 hn, by simp [hi]⟩

section
variable {P : Program} {ops : Array Oper} {Q : Exit → Act → World → Prop}
theorem wpAny_inv (I : (Nat → Bool) → Act → World → Prop) (hback : backB ops = true)
    (hstep : ∀ L i o a w, ops[i]? = some o → L i = false → (∀ e ∈ o.after, Region.binds .any e = true → L e.on = true) → I L a w → wpOp P ops Q i (I (fun j => j == i || L j)) a w)
    (hend : ∀ L a w, (∀ i, i < ops.size → L i = true) → I L a w → Q .normal a w) :
    ∀ (fuel : Nat) (listed : Array Bool) (a : Act) (w : World), listed.size = ops.size → (unl listed ops.size).length ≤ fuel → I (fun j => listed.getD j false) a w → wpAny P .any ops Q fuel listed a w := by
  have hall : ∀ (listed : Array Bool), listed.size = ops.size → Region.ready .any ops listed = [] → ∀ i, i < ops.size → listed.getD i false = true := by
    intro listed hs hr i
    induction i using Nat.strongRecOn with
    | ind i ih =>
      intro hi
      cases hg : listed.getD i false with
      | true => rfl
      | false =>
        exfalso
        obtain ⟨o, ho⟩ : ∃ o, ops[i]? = some o := ⟨_, Array.getElem?_eq_getElem hi⟩
        have : i ∈ Region.ready .any ops listed := mem_ready.2 ⟨by
          have hl : i < listed.size := by omega
          simp [hl] at hg ⊢
          exact hg, o, ho, fun e he _ => ih e.on (backB_spec hback ho e he) (by have := backB_spec hback ho e he; omega)⟩
        rw [hr] at this
        cases this
  intro fuel
  induction fuel with
  | zero =>
    intro listed a w hs hu hI
    have hr : Region.ready .any ops listed = [] := by
      cases hr : Region.ready .any ops listed with
      | nil => rfl
      | cons i r =>
        exfalso
        have hi : i ∈ Region.ready .any ops listed := by rw [hr]; exact List.mem_cons_self
        obtain ⟨h1, o, ho, _⟩ := mem_ready.1 hi
        have : i ∈ unl listed ops.size := List.mem_filter.2 ⟨List.mem_range.2 (Array.getElem?_eq_some_iff.1 ho).1, by simp [h1]⟩
        have := List.length_pos_of_mem this
        omega
    exact ⟨hr, hend _ a w (hall listed hs hr) hI⟩
  | succ fuel ih =>
    intro listed a w hs hu hI
    refine ⟨fun hr => hend _ a w (hall listed hs hr) hI, fun i hi => ?_⟩
    obtain ⟨h1, o, ho, hd⟩ := mem_ready.1 hi
    have hin := (Array.getElem?_eq_some_iff.1 ho).1
    have hil : i < listed.size := by omega
    have hL : listed.getD i false = false := by
      simp [hil] at h1 ⊢
      exact h1
    refine wpOp_mono (fun a' w' h' => ih _ a' w' (by simp [hs]) ?_ ?_) (hstep _ i o a w ho hL hd hI)
    · have := unl_set h1 hin
      omega
    · have e : (fun j => (listed.setIfInBounds i true).getD j false) = (fun j => j == i || listed.getD j false) := by
        funext j
        by_cases hji : j = i
        · subst hji
          simp [hil]
        · have : i ≠ j := fun h => hji h.symm
          simp [hji, Array.getElem?_setIfInBounds_ne this]
      rw [e]
      exact h'
theorem wp_region_inv {id : Nat} {a : Act} {w : World} (I : (Nat → Bool) → Act → World → Prop) (hm : P.follows .mixedOrders = true) (hback : backB ops = true)
    (h0 : I (fun _ => false) a w.drew)
    (hstep : ∀ L i o a w, ops[i]? = some o → L i = false → (∀ e ∈ o.after, Region.binds .any e = true → L e.on = true) → I L a w → wpOp P ops Q i (I (fun j => j == i || L j)) a w)
    (hend : ∀ L a w, (∀ i, i < ops.size → L i = true) → I L a w → Q .normal a w) : (Code.region id ops true).wp P Q a w := by
  refine wp_region_any hm (wpAny_inv I hback hstep hend ops.size _ a _ (by simp) ?_ ?_)
  · unfold unl
    exact Nat.le_trans (List.length_filter_le _ _) (by simp)
  · have e : (fun j => (Array.replicate ops.size false).getD j false) = fun _ => false := by
      funext j
      by_cases h : j < ops.size <;> simp [h]
    rw [e]
    exact h0

/-! ### Regions whose operations only read, or lay new blocks -/
abbrev slotv (a : Act) (t : Nat) : Value := a.tmps[t]?.getD undef
/-- No operation's slot. -/
def freeB (ops : Array Oper) (t : Nat) : Bool := ops.all fun o => o.dst != some t
/-- All slots are there, and apart; no guard. -/
def dstsB (ops : Array Oper) (n : Nat) : Bool := ops.all (fun o => o.guard.isNone && (match o.dst with | some d => decide (d < n) | none => false)) && (List.range ops.size).all fun i => (List.range i).all fun j => match ops[i]?, ops[j]? with | some x, some y => x.dst != y.dst | _, _ => true
def StepAt (P : Program) (ops : Array Oper) (Q : Exit → Act → World → Prop) (R : Nat → Value → World → Prop) (S : World → Prop) (G : World → World → Prop) (a0 : Act) (i : Nat) (o : Oper) : Prop :=
  ∀ a w, (∀ t, freeB ops t = true → slotv a t = slotv a0 t) → S w → (∀ e ∈ o.after, Region.binds .any e = true → ∀ oj d, ops[e.on]? = some oj → oj.dst = some d → R e.on (slotv a d) w) →
    ∀ K : Act → World → Prop, (∀ v w', G w w' → R i v w' → K (a.put o.dst v) w') → o.wp P a w K Q
def Steps (P : Program) (ops : Array Oper) (Q : Exit → Act → World → Prop) (R : Nat → Value → World → Prop) (S : World → Prop) (G : World → World → Prop) (a0 : Act) : List Oper → Nat → Prop
  | [], _ => True
  | o :: rest, i => StepAt P ops Q R S G a0 i o ∧ Steps P ops Q R S G a0 rest (i + 1)
theorem Steps.nil {R : Nat → Value → World → Prop} {S : World → Prop} {G : World → World → Prop} {a0 : Act} (i : Nat) : Steps P ops Q R S G a0 [] i := trivial
theorem Steps.cons {R : Nat → Value → World → Prop} {S : World → Prop} {G : World → World → Prop} {a0 : Act} {i : Nat} {o : Oper} {l : List Oper} (h : StepAt P ops Q R S G a0 i o) (h' : Steps P ops Q R S G a0 l (i + 1)) : Steps P ops Q R S G a0 (o :: l) i := ⟨h, h'⟩
theorem Steps.at_ {R : Nat → Value → World → Prop} {S : World → Prop} {G : World → World → Prop} {a0 : Act} : ∀ (l : List Oper) (k i : Nat) (o : Oper), Steps P ops Q R S G a0 l k → l[i]? = some o → StepAt P ops Q R S G a0 (k + i) o
  | [], _, _, _, _, h => by simp at h
  | x :: l, k, 0, o, h, hi => by simp at hi; subst hi; exact h.1
  | x :: l, k, i + 1, o, h, hi => by
    have := Steps.at_ l (k + 1) i o h.2 (by simpa using hi)
    rw [show k + (i + 1) = k + 1 + i from by omega]
    exact this
theorem dstsB_spec {n : Nat} (h : dstsB ops n = true) {i : Nat} {o : Oper} (hi : ops[i]? = some o) : o.guard = none ∧ ∃ d, o.dst = some d ∧ d < n := by
  unfold dstsB at h
  rw [Bool.and_eq_true] at h
  have h1 := Array.all_eq_true_iff_forall_mem.1 h.1 o (Array.mem_of_getElem? hi)
  rw [Bool.and_eq_true] at h1
  refine ⟨Option.isNone_iff_eq_none.1 h1.1, ?_⟩
  have h2 := h1.2
  cases hd : o.dst with
  | none => rw [hd] at h2; cases h2
  | some d => rw [hd] at h2; exact ⟨d, rfl, of_decide_eq_true h2⟩
theorem dstsB_ne {n : Nat} (h : dstsB ops n = true) {i j : Nat} {x y : Oper} (hi : ops[i]? = some x) (hj : ops[j]? = some y) (hne : i ≠ j) : x.dst ≠ y.dst := by
  unfold dstsB at h
  rw [Bool.and_eq_true] at h
  have key : ∀ (i j : Nat) (x y : Oper), ops[i]? = some x → ops[j]? = some y → j < i → x.dst ≠ y.dst := by
    intro i j x y hi hj hlt
    have h1 := List.all_eq_true.1 h.2 i (List.mem_range.2 (Array.getElem?_eq_some_iff.1 hi).1)
    have h2 := List.all_eq_true.1 h1 j (List.mem_range.2 hlt)
    rw [hi, hj] at h2
    simpa using h2
  rcases Nat.lt_or_gt_of_ne hne with h' | h'
  · exact fun e => key j i y x hj hi h' e.symm
  · exact key i j x y hi hj h'
theorem slotv_put {a : Act} {d t : Nat} {v : Value} (hd : d < a.tmps.size) : slotv (a.put (some d) v) t = if d = t then v else slotv a t := by
  unfold slotv Act.put
  by_cases h : d = t
  · subst h; simp [hd]
  · simp [h, Array.getElem?_setIfInBounds_ne h]
theorem wp_region_rel {id : Nat} {a0 : Act} {w0 : World} (R : Nat → Value → World → Prop) (S : World → Prop) (G : World → World → Prop) (hm : P.follows .mixedOrders = true) (hback : backB ops = true) (hd : dstsB ops a0.tmps.size = true)
    (h0 : S w0.drew) (hS : ∀ w w', S w → G w w' → S w') (hmono : ∀ i v w w', R i v w → G w w' → R i v w')
    (hsteps : Steps P ops Q R S G a0 ops.toList 0)
    (hend : ∀ a w, a.defers = a0.defers → a.tmps.size = a0.tmps.size → (∀ t, freeB ops t = true → slotv a t = slotv a0 t) → S w →
      (∀ i o d, ops[i]? = some o → o.dst = some d → R i (slotv a d) w) → Q .normal a w) : (Code.region id ops true).wp P Q a0 w0 := by
  refine wp_region_inv (I := fun L a w => a.defers = a0.defers ∧ a.tmps.size = a0.tmps.size ∧ (∀ t, freeB ops t = true → slotv a t = slotv a0 t) ∧ S w ∧
    ∀ i o d, ops[i]? = some o → o.dst = some d → L i = true → R i (slotv a d) w) hm hback ⟨rfl, rfl, fun _ _ => rfl, h0, fun _ _ _ _ _ h => by cases h⟩ ?_ ?_
  · intro L i o a w ho hL hdep ⟨h1, h2, h3, h4, h5⟩
    obtain ⟨hg, d, hod, hdn⟩ := dstsB_spec hd ho
    have hs := Steps.at_ ops.toList 0 i o hsteps (by simpa using ho)
    rw [Nat.zero_add] at hs
    unfold wpOp
    rw [ho]
    simp only [Region.wanted, hg, if_true]
    refine .inl (hs a w h3 h4 (fun e he hb oj d hj hdj => h5 _ oj d hj hdj (hdep e he hb)) _ ?_)
    intro v w' hx hR
    have hdA : d < a.tmps.size := by rw [h2]; exact hdn
    rw [hod]
    refine ⟨h1, by simp [Act.put, h2], fun t ht => ?_, hS _ _ h4 hx, fun j oj dj hj hdj hLj => ?_⟩
    · rw [slotv_put hdA]
      have hne : d ≠ t := by
        intro e
        subst e
        have := Array.all_eq_true_iff_forall_mem.1 ht o (Array.mem_of_getElem? ho)
        rw [hod] at this
        simp at this
      rw [if_neg hne]
      exact h3 t ht
    · rw [slotv_put hdA]
      by_cases hji : j = i
      · subst hji
        rw [ho] at hj
        cases hj
        rw [hod] at hdj
        cases hdj
        rw [if_pos rfl]
        exact hR
      · have hne : d ≠ dj := by
          intro e
          subst e
          exact dstsB_ne hd hj ho hji (hdj.trans hod.symm)
        rw [if_neg hne]
        exact hmono _ _ _ _ (h5 j oj dj hj hdj (by simpa [hji] using hLj)) hx
  · intro L a w hL ⟨h1, h2, h3, h4, h5⟩
    exact hend a w h1 h2 h3 h4 (fun i o d ho hod => h5 i o d ho hod (hL i (Array.getElem?_eq_some_iff.1 ho).1))
theorem wp_region_ext {id : Nat} {a0 : Act} {w0 : World} (R : Nat → Value → World → Prop) (hm : P.follows .mixedOrders = true) (hback : backB ops = true) (hd : dstsB ops a0.tmps.size = true)
    (hmono : ∀ i v w w', R i v w → Ext w w' → R i v w')
    (hsteps : Steps P ops Q R (Ext w0) Ext a0 ops.toList 0)
    (hend : ∀ a w, a.defers = a0.defers → a.tmps.size = a0.tmps.size → (∀ t, freeB ops t = true → slotv a t = slotv a0 t) → Ext w0 w →
      (∀ i o d, ops[i]? = some o → o.dst = some d → R i (slotv a d) w) → Q .normal a w) : (Code.region id ops true).wp P Q a0 w0 :=
  wp_region_rel R (Ext w0) Ext hm hback hd ((Ext.refl w0).drewN 1) (fun _ _ h k => h.trans k) hmono hsteps hend
/-- Behind a mark on a short new row, too, all cells read as before. -/
structure Grow (base : Nat) (w w' : World) : Prop where
  os : w'.os = w.os
  tape : w'.tape = w.tape
  output : w'.output = w.output
  size : w.heap.size ≤ w'.heap.size
  block : ∀ k o, w.heap[k]? = some o → w'.heap[k]? = some o ∨ (base ≤ k ∧ ∃ C e fr fr', o = .cells C e fr ∧ C.size ≤ 4 ∧ w'.heap[k]? = some (.cells C e fr'))
theorem Grow.ext {base : Nat} {w w' : World} (h : Ext w w') : Grow base w w' := ⟨h.os, h.tape, h.output, h.size, fun _ _ ho => .inl (h.heap ho)⟩
theorem Grow.below {base : Nat} {w w' : World} (h : Grow base w w') (hb : base ≤ w.heap.size) : Below base w w' :=
  ⟨h.os, h.tape, h.output, h.size, fun k hk => by
    have hk' : k < w.heap.size := by omega
    have e := Array.getElem?_eq_getElem hk'
    rcases h.block k _ e with h1 | ⟨h1, _⟩
    · rw [h1, e]
    · omega⟩
theorem Grow.cell {base : Nat} {w w' : World} (h : Grow base w w') {a : Addr} {v : Value} (hc : w.cell? a = some v) : w'.cell? a = some v := by
  have hk := block_lt_of_cell hc
  have e := Array.getElem?_eq_getElem hk
  rcases h.block a.block _ e with h1 | ⟨_, C, e', fr, fr', ho, _, h2⟩
  · exact (World.cell?_of_block (w := w) (h1.trans e.symm)).trans hc
  · rw [ho] at e
    unfold World.cell? at hc ⊢
    rw [e] at hc
    rw [h2]
    exact hc
/-! ### Regions in which what a slot holds, and what holds of the world, hangs on what has come up -/
abbrev also (L : Nat → Bool) (i : Nat) : Nat → Bool := fun j => j == i || L j
def LiveAt (P : Program) (ops : Array Oper) (Q : Exit → Act → World → Prop) (R : (Nat → Bool) → Nat → Value → World → Prop) (S : (Nat → Bool) → World → Prop) (a0 : Act) (i : Nat) (o : Oper) : Prop :=
  ∀ L a w, L i = false → (∀ e ∈ o.after, Region.binds .any e = true → L e.on = true) → (∀ j oj, ops[j]? = some oj → L j = true → ∀ e ∈ oj.after, Region.binds .any e = true → L e.on = true) →
    (∀ t, freeB ops t = true → slotv a t = slotv a0 t) → (∀ j oj d, ops[j]? = some oj → oj.dst = some d → L j = false → slotv a d = slotv a0 d) → S L w → (∀ e ∈ o.after, Region.binds .any e = true → ∀ oj d, ops[e.on]? = some oj → oj.dst = some d → R L e.on (slotv a d) w) →
    ∀ K : Act → World → Prop, (∀ v w', S (also L i) w' → R (also L i) i v w' → (∀ j v', j ≠ i → L j = true → R L j v' w → R (also L i) j v' w') → K (a.put o.dst v) w') → o.wp P a w K Q
def Lives (P : Program) (ops : Array Oper) (Q : Exit → Act → World → Prop) (R : (Nat → Bool) → Nat → Value → World → Prop) (S : (Nat → Bool) → World → Prop) (a0 : Act) : List Oper → Nat → Prop
  | [], _ => True
  | o :: rest, i => LiveAt P ops Q R S a0 i o ∧ Lives P ops Q R S a0 rest (i + 1)
theorem Lives.nil {R : (Nat → Bool) → Nat → Value → World → Prop} {S : (Nat → Bool) → World → Prop} {a0 : Act} (i : Nat) : Lives P ops Q R S a0 [] i := trivial
theorem Lives.cons {R : (Nat → Bool) → Nat → Value → World → Prop} {S : (Nat → Bool) → World → Prop} {a0 : Act} {i : Nat} {o : Oper} {l : List Oper} (h : LiveAt P ops Q R S a0 i o) (h' : Lives P ops Q R S a0 l (i + 1)) : Lives P ops Q R S a0 (o :: l) i := ⟨h, h'⟩
theorem Lives.at_ {R : (Nat → Bool) → Nat → Value → World → Prop} {S : (Nat → Bool) → World → Prop} {a0 : Act} : ∀ (l : List Oper) (k i : Nat) (o : Oper), Lives P ops Q R S a0 l k → l[i]? = some o → LiveAt P ops Q R S a0 (k + i) o
  | [], _, _, _, _, h => by simp at h
  | x :: l, k, 0, o, h, hi => by simp at hi; subst hi; exact h.1
  | x :: l, k, i + 1, o, h, hi => by
    have := Lives.at_ l (k + 1) i o h.2 (by simpa using hi)
    rw [show k + (i + 1) = k + 1 + i from by omega]
    exact this
theorem wp_region_live {id : Nat} {a0 : Act} {w0 : World} (R : (Nat → Bool) → Nat → Value → World → Prop) (S : (Nat → Bool) → World → Prop) (hm : P.follows .mixedOrders = true) (hback : backB ops = true) (hd : dstsB ops a0.tmps.size = true)
    (h0 : S (fun _ => false) w0.drew) (hsteps : Lives P ops Q R S a0 ops.toList 0)
    (hend : ∀ L a w, (∀ i, i < ops.size → L i = true) → a.defers = a0.defers → a.tmps.size = a0.tmps.size → (∀ t, freeB ops t = true → slotv a t = slotv a0 t) → S L w →
      (∀ i o d, ops[i]? = some o → o.dst = some d → R L i (slotv a d) w) → Q .normal a w) : (Code.region id ops true).wp P Q a0 w0 := by
  refine wp_region_inv (I := fun L a w => a.defers = a0.defers ∧ a.tmps.size = a0.tmps.size ∧ (∀ t, freeB ops t = true → slotv a t = slotv a0 t) ∧ S L w ∧
    (∀ (i : Nat) (o : Oper) (d : Nat), ops[i]? = some o → o.dst = some d → L i = true → R L i (slotv a d) w) ∧ (∀ (j : Nat) (oj : Oper), ops[j]? = some oj → L j = true → ∀ e ∈ oj.after, Region.binds .any e = true → L e.on = true) ∧
    (∀ (j : Nat) (oj : Oper) (d : Nat), ops[j]? = some oj → oj.dst = some d → L j = false → slotv a d = slotv a0 d))
    hm hback ⟨rfl, rfl, fun _ _ => rfl, h0, (fun _ _ _ _ _ h => by cases h), (fun _ _ _ h => by cases h), (fun _ _ _ _ _ _ => rfl)⟩ ?_ ?_
  · intro L i o a w ho hL hdep ⟨h1, h2, h3, h4, h5, h6, h7⟩
    obtain ⟨hg, d, hod, hdn⟩ := dstsB_spec hd ho
    have hs := Lives.at_ ops.toList 0 i o hsteps (by simpa using ho)
    rw [Nat.zero_add] at hs
    unfold wpOp
    rw [ho]
    simp only [Region.wanted, hg, if_true]
    refine .inl (hs L a w hL hdep h6 h3 h7 h4 (fun e he hb oj d hj hdj => h5 _ oj d hj hdj (hdep e he hb)) _ ?_)
    intro v w' hS hR hcarry
    have hdA : d < a.tmps.size := by rw [h2]; exact hdn
    rw [hod]
    refine ⟨h1, by simp [Act.put, h2], fun t ht => ?_, hS, fun j oj dj hj hdj hLj => ?_, fun j oj hj hLj e he hb => ?_, fun j oj dj hj hdj hLj => ?_⟩
    · rw [slotv_put hdA]
      have hne : d ≠ t := by
        intro e
        subst e
        have := Array.all_eq_true_iff_forall_mem.1 ht o (Array.mem_of_getElem? ho)
        rw [hod] at this
        simp at this
      rw [if_neg hne]
      exact h3 t ht
    · rw [slotv_put hdA]
      by_cases hji : j = i
      · subst hji
        rw [ho] at hj
        cases hj
        rw [hod] at hdj
        cases hdj
        rw [if_pos rfl]
        exact hR
      · have hne : d ≠ dj := by
          intro e
          subst e
          exact dstsB_ne hd hj ho hji (hdj.trans hod.symm)
        rw [if_neg hne]
        have hLj' : L j = true := by simpa [hji] using hLj
        exact hcarry j _ hji hLj' (h5 j oj dj hj hdj hLj')
    · by_cases hji : j = i
      · subst hji
        rw [ho] at hj
        cases hj
        simp [hdep e he hb]
      · have hLj' : L j = true := by simpa [hji] using hLj
        simp [h6 j oj hj hLj' e he hb]
    · simp at hLj
      rw [slotv_put hdA]
      have hne : d ≠ dj := by
        intro e
        subst e
        exact dstsB_ne hd hj ho hLj.1 (hdj.trans hod.symm)
      rw [if_neg hne]
      exact h7 j oj dj hj hdj hLj.2
  · intro L a w hL ⟨h1, h2, h3, h4, h5, _, _⟩
    exact hend L a w hL h1 h2 h3 h4 (fun i o d ho hod => h5 i o d ho hod (hL i (Array.getElem?_eq_some_iff.1 ho).1))
end
end Go.Proofs.YtjooacmmgbpkfaaDoor
