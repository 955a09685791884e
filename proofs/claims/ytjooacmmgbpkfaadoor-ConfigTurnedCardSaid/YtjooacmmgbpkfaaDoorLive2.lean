/- As 'Live', with rows that a literal lays: those stay what they are while a longer row is appended to. No conditions. -/
import Derived.Test.YtjooacmmgbpkfaaDoorLive
namespace Go.Proofs.YtjooacmmgbpkfaaDoor
open Go.RowKit

/-- What a slot holds, and of which kind. -/
inductive MK where
  | eq (x : Value)
  | sl (xs : List Value)
  | lit (e : TypeId) (xs : List Value)
  | own (base : Nat) (e : TypeId) (xs : List Value)
  | rows (e : TypeId) (n : Nat) (xs : List Value)
  | owns (base : Nat) (e : TypeId) (sz n : Nat) (xs : List Value)
  | any
def MK.holds : MK → Value → World → Prop
  | .eq x, v, _ => v = x
  | .sl xs, v, w => Sl w v xs
  | .lit e xs, v, w => xs.length ≤ maxLen ∧ ∃ g, v = .slice (some ⟨g, 0, none⟩) xs.length xs.length ∧ w.heap[g]? = some (.cells xs.toArray e (0, 0))
  | .own base e xs, v, w => w.ownsRow base e 1 v xs.length xs
  | .rows e n xs, v, w => n ≤ maxLen ∧ ∃ g, v = .slice (some ⟨g, 0, none⟩) n n ∧ w.heap[g]? = some (.cells xs.toArray e (0, 0))
  | .owns base e sz n xs, v, w => w.ownsRow base e sz v n xs
  | .any, _, _ => True
theorem MK.ext (k : MK) {v : Value} {w w' : World} (h : k.holds v w) (hx : Ext w w') : k.holds v w' := by
  cases k with
  | eq x => exact h
  | sl xs => exact Sl.ext h hx
  | lit e xs =>
    obtain ⟨h0, g, h1, h2⟩ := h
    exact ⟨h0, g, h1, hx.heap h2⟩
  | own b e xs => exact own_ext h hx
  | rows e n xs =>
    obtain ⟨h0, g, h1, h2⟩ := h
    exact ⟨h0, g, h1, hx.heap h2⟩
  | owns b e sz n xs => exact own_ext h hx
  | any => trivial
theorem lit_sl2 {e : TypeId} {xs : List Value} {v : Value} {w : World} (h : (MK.lit e xs).holds v w) : Sl w v xs := by
  obtain ⟨h0, g, rfl, h2⟩ := h
  exact Sl.lit h2 h0
/-- A row appended to is longer than a literal's. -/
theorem lit_row {e e' : TypeId} {xs ys : List Value} {v u : Value} {n base : Nat} {w w' : World} (h : (MK.lit e xs).holds v w) (ho : w.ownsRow base e' 1 u n ys) (hg : w.grownBy w' u.ownBlock) (hn : xs.length < n) : (MK.lit e xs).holds v w' := by
  obtain ⟨h0, g, h1, h2⟩ := h
  refine ⟨h0, g, h1, ?_⟩
  refine (hg.block g (lt_of_block h2) (fun hb => ?_)).trans h2
  obtain ⟨_, ho⟩ := ho
  rcases ho with ⟨rfl, _⟩ | ⟨g', cap, cur, rfl, _, hh, hn', _, hs, _⟩
  · simp [Value.ownBlock] at hb
  · simp [Value.ownBlock] at hb
    subst hb
    rw [h2] at hh
    simp at hh
    obtain ⟨⟨rfl, _⟩, _⟩ := hh
    simp at hs
    omega
/-- It holds till the operation that takes it has come up. -/
def relM (tab : List (MK × Option Nat)) (L : Nat → Bool) (i : Nat) (v : Value) (w : World) : Prop := ∀ k c, tab[i]? = some (k, c) → (∀ j, c = some j → L j = false) → k.holds v w
theorem relM.ext {tab : List (MK × Option Nat)} {L : Nat → Bool} {j : Nat} {v : Value} {w w' : World} (h : relM tab L j v w) (hx : Ext w w') (i : Nat) : relM tab (also L i) j v w' := by
  intro k c hk hc
  refine k.ext (h k c hk (fun d hd => ?_)) hx
  have := hc d hd
  simp at this
  exact this.2
/-- A row is appended to: closed values and literals stay. -/
theorem relM.row {tab : List (MK × Option Nat)} {L : Nat → Bool} {j i : Nat} {v u : Value} {n base : Nat} {e : TypeId} {ys : List Value} {w w' : World} (h : relM tab L j v w) (ho : w.ownsRow base e 1 u n ys) (hg : w.grownBy w' u.ownBlock)
    (hk : ∀ k c, tab[j]? = some (k, c) → (∀ d, c = some d → also L i d = false) → (∃ x, k = .eq x) ∨ (∃ e xs, k = .lit e xs ∧ xs.length < n) ∨ k = .any) : relM tab (also L i) j v w' := by
  intro k c hkc hc
  have h1 := h k c hkc (fun d hd => by
    have := hc d hd
    simp at this
    exact this.2)
  rcases hk k c hkc hc with ⟨x, rfl⟩ | ⟨e', xs, rfl, hx⟩ | rfl
  · exact h1
  · exact lit_row h1 ho hg hx
  · trivial
theorem relM.now {tab : List (MK × Option Nat)} {L : Nat → Bool} {i : Nat} {v : Value} {w : World} {k : MK} {c : Option Nat} (hi : tab[i]? = some (k, c)) (h : k.holds v w) : relM tab L i v w := by
  intro k' c' hk _
  rw [hi] at hk
  cases hk
  exact h
theorem relM.get {tab : List (MK × Option Nat)} {L : Nat → Bool} {i : Nat} {v : Value} {w : World} {k : MK} {c : Option Nat} (h : relM tab L i v w) (hi : tab[i]? = some (k, c)) (hc : ∀ j, c = some j → L j = false) : k.holds v w := h k c hi hc
theorem own_ne {w : World} {base p : Nat} {e t : TypeId} {size n : Nat} {v : Value} {xs : List Value} {cs : Array Value} {fr : Nat × Nat} (h : w.ownsRow base e size v n xs) (hp : w.heap[p]? = some (.cells cs t fr)) (ht : t ≠ e) : v.ownBlock ≠ some p := by
  intro hb
  obtain ⟨cur, hc⟩ := own_row h p hb
  rw [hp] at hc
  simp at hc
  exact ht hc.2.1
/-- A box of another kind stays while a row is appended to. -/
theorem box_kept {w w' : World} {base p : Nat} {e t : TypeId} {size n : Nat} {v : Value} {xs : List Value} {cs : Array Value} {fr : Nat × Nat} (h : w.ownsRow base e size v n xs) (hg : w.grownBy w' v.ownBlock) (hp : w.heap[p]? = some (.cells cs t fr)) (ht : t ≠ e) : w'.heap[p]? = some (.cells cs t fr) :=
  (hg.block p (lt_of_block hp) (fun e => own_ne h hp ht e.symm)).trans hp
/-- The world while a region appends several times to u: (the first time by operation 'one'); boxes bs stay. -/
def SBs (w : World) (bs : List (Nat × Array Value × TypeId)) (e : TypeId) (u : Value) (xs : List Value) (one : Nat) (L : Nat → Bool) (W : World) : Prop :=
  Ext w W ∧ (∀ b ∈ bs, W.heap[b.1]? = some (.cells b.2.1 b.2.2 (0, 0))) ∧ (L one = false → W.ownsRow w.heap.size e 1 u xs.length xs)
theorem SBs.box0 {w : World} {g : Nat} {cs : Array Value} {t : TypeId} {bs : List (Nat × Array Value × TypeId)} {e : TypeId} {u : Value} {xs : List Value} {one : Nat} {L : Nat → Bool} {W : World} (h : SBs w ((g, cs, t) :: bs) e u xs one L W) : W.heap[g]? = some (.cells cs t (0, 0)) := h.2.1 _ List.mem_cons_self
theorem SBs.box1 {w : World} {g : Nat} {cs : Array Value} {t : TypeId} {b : Nat × Array Value × TypeId} {bs : List (Nat × Array Value × TypeId)} {e : TypeId} {u : Value} {xs : List Value} {one : Nat} {L : Nat → Bool} {W : World} (h : SBs w (b :: (g, cs, t) :: bs) e u xs one L W) : W.heap[g]? = some (.cells cs t (0, 0)) := h.2.1 (g, cs, t) (List.mem_cons_of_mem _ List.mem_cons_self)
theorem SBs.start {w : World} {bs : List (Nat × Array Value × TypeId)} {e : TypeId} {u : Value} {xs : List Value} {one : Nat} {L : Nat → Bool} {W : World} (hx : Ext w W) (hb : ∀ b ∈ bs, W.heap[b.1]? = some (.cells b.2.1 b.2.2 (0, 0))) (ho : W.ownsRow w.heap.size e 1 u xs.length xs) : SBs w bs e u xs one L W.drew :=
  ⟨hx.drewN 1, hb, fun _ => own_ext ho ((Ext.refl _).drewN 1)⟩
theorem SBs.ext {w : World} {bs : List (Nat × Array Value × TypeId)} {e : TypeId} {u : Value} {xs : List Value} {one : Nat} {L : Nat → Bool} {W W' : World} (h : SBs w bs e u xs one L W) (hx : Ext W W') (i : Nat) : SBs w bs e u xs one (also L i) W' :=
  ⟨h.1.trans hx, fun b hb => hx.heap (h.2.1 b hb), fun hL => own_ext (h.2.2 (by simp at hL; exact hL.2)) hx⟩
theorem SBs.grown {w : World} {bs : List (Nat × Array Value × TypeId)} {e : TypeId} {u : Value} {xs : List Value} {one : Nat} {L : Nat → Bool} {W W' : World} {v : Value} {n : Nat} {ys : List Value} (h : SBs w bs e u xs one L W) (ho : W.ownsRow w.heap.size e 1 v n ys) (hg : W.grownBy W' v.ownBlock) (hb : bs.all (fun b => b.2.2 != e) = true) (i : Nat)
    (h1 : also L i one = true) : SBs w bs e u xs one (also L i) W' :=
  ⟨h.1.grown hg (own_block ho), fun b hbm => box_kept ho hg (h.2.1 b hbm) (by simpa using List.all_eq_true.1 hb b hbm), fun hL => by rw [h1] at hL; cases hL⟩
theorem box_cons {W : World} {g : Nat} {cs : Array Value} {t : TypeId} {bs : List (Nat × Array Value × TypeId)} (h : W.heap[g]? = some (.cells cs t (0, 0))) (hb : ∀ b ∈ bs, W.heap[b.1]? = some (.cells b.2.1 b.2.2 (0, 0))) : ∀ b ∈ (g, cs, t) :: bs, W.heap[b.1]? = some (.cells b.2.1 b.2.2 (0, 0)) := fun b hm => by
  rcases List.mem_cons.1 hm with rfl | hm
  · exact h
  · exact hb b hm
theorem frame_fun (t : Array Value) (n : Nat) (h : t.size = n) (f : Nat → Value) (hf : ∀ i, t[i]?.getD undef = f i) : t = ((List.range n).map f).toArray := by
  apply Array.ext
  · simp [h]
  · intro i h1 h2
    simp [← hf, h1]
/-- As 'wp_region_live'; the frame behind the region is told as a function of the slots. -/
theorem wp_region_live_f {P : Program} {ops : Array Oper} {Q : Exit → Act → World → Prop} {id : Nat} {t0 : Array Value} {d0 : List Deferred} {w0 : World} (n : Nat) (R : (Nat → Bool) → Nat → Value → World → Prop) (S : (Nat → Bool) → World → Prop) (hm : P.follows .mixedOrders = true) (hback : backB ops = true) (hd : dstsB ops n = true) (hn : t0.size = n)
    (h0 : S (fun _ => false) w0.drew) (hsteps : Lives P ops Q R S ⟨t0, d0⟩ ops.toList 0)
    (hend : ∀ (L : Nat → Bool) (f : Nat → Value) (w : World), (∀ i, i < ops.size → L i = true) → (∀ t, freeB ops t = true → f t = slotv ⟨t0, d0⟩ t) → S L w →
      (∀ i o d, ops[i]? = some o → o.dst = some d → R L i (f d) w) → Q .normal ⟨((List.range n).map f).toArray, d0⟩ w) : (Code.region id ops true).wp P Q ⟨t0, d0⟩ w0 := by
  subst hn
  refine wp_region_live R S hm hback hd h0 hsteps ?_
  intro L a w hL h1 h2 h3 h4 h5
  obtain ⟨tmps, defers⟩ := a
  dsimp only at h1 h2
  subst h1
  rw [frame_fun tmps _ h2 (fun i => tmps[i]?.getD undef) (fun _ => rfl)]
  exact hend L (fun i => tmps[i]?.getD undef) w hL h3 h4 h5
theorem box_nil {W : World} : ∀ b ∈ ([] : List (Nat × Array Value × TypeId)), W.heap[b.1]? = some (.cells b.2.1 b.2.2 (0, 0)) := fun b hm => by cases hm
end Go.Proofs.YtjooacmmgbpkfaaDoor
