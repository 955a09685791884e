/- What slots hold while a region's order is drawn and a row of the call's own is appended to. No conditions. -/
import Derived.Test.YtjooacmmgbpkfaaDoorCfgN
namespace Go.Proofs.YtjooacmmgbpkfaaDoor
open Go.RowKit

/-- To a slice of the call's own, at the operation. -/
theorem app_own_op {P : Program} {w : World} {o : Oper} {a : Act} {K : Act → World → Prop} {Q : Exit → Act → World → Prop} (s x : Operand) (t : TypeId) (ho : o.op = .call { callee := .builtin .append, args := #[s, x], argTypes := #[t, t] })
    (base : Nat) (e : TypeId) (i : TypeInfo) (z : Value) (bytes : Nat) (ht : P.underlying t = some (.slice e)) (hi : P.info? e = some i) (hz : i.zero = some z)
    (hsize : i.size = 1) (hby : i.bytes = bytes) (hzs : z.cells.size = 1)
    (v : Value) (xs : List Value) (hs : a.eval s = v) (hown : w.ownsRow base e 1 v xs.length xs)
    (u : Value) (news : List Value) (hx : a.eval x = u) (hu : Sl w u news) (h0 : news ≠ []) (h1 : ∀ u ∈ news, u.oneCell' = true)
    (hbytes : (xs.length + news.length) * bytes ≤ 140737488355328) (hb1 : 1 ≤ bytes) (hbase : base ≤ w.heap.size)
    (h : ∀ v' w', w'.ownsRow base e 1 v' (xs ++ news).length (xs ++ news) → w.grownBy w' v.ownBlock → K (a.put o.dst v') w') : o.wp P a w K Q := by
  have h63 : xs.length + news.length ≤ maxLen := by
    unfold maxLen
    have : xs.length + news.length ≤ (xs.length + news.length) * bytes := Nat.le_mul_of_pos_right _ hb1
    omega
  obtain ⟨b, off, c, rfl, _, _, _, hcell⟩ := hu.cells h0
  refine wp_append_own w s x t ho base e i z 1 bytes ht hi hz hsize hby hzs (by decide) v xs.length xs hs hown ⟨b, off, none⟩ news.length c news hx (by simp) ?_ h1 h63 hbytes hbase ?_
  · intro j u hj
    simpa [add_mk] using hcell j u hj
  · intro v' w' k1 k2 _
    exact h v' w' (by simpa using k1) k2
/-- The block of what is owned is there. -/
theorem own_lt {w : World} {base : Nat} {e : TypeId} {size : Nat} {v : Value} {n : Nat} {xs : List Value} (h : w.ownsRow base e size v n xs) : ∀ k, v.ownBlock = some k → k < w.heap.size := by
  intro k hk
  rcases h.2 with ⟨rfl, _⟩ | ⟨g, cap, cur, rfl, _, hh, _⟩
  · simp [Value.ownBlock] at hk
  · simp [Value.ownBlock] at hk; subst hk; exact lt_of_block hh

/-- What a slot holds, and of which kind. -/
inductive LK where
  | eq (x : Value)
  | sl (base : Nat) (xs : List Value)
  | own (base : Nat) (e : TypeId) (xs : List Value)
  | any
def LK.holds : LK → Value → World → Prop
  | .eq x, v, _ => v = x
  | .sl base xs, v, w => Sl w v xs ∧ ∀ b, v.ownBlock = some b → base ≤ b
  | .own base e xs, v, w => w.ownsRow base e 1 v xs.length xs
  | .any, _, _ => True
theorem LK.ext (k : LK) {v : Value} {w w' : World} (h : k.holds v w) (hx : Ext w w') : k.holds v w' := by
  cases k with
  | eq x => exact h
  | sl b xs => exact ⟨Sl.ext h.1 hx, h.2⟩
  | own b e xs => exact own_ext h hx
  | any => trivial
/-- It holds till the operation that takes it has come up. -/
def relL (tab : List (LK × Option Nat)) (L : Nat → Bool) (i : Nat) (v : Value) (w : World) : Prop := ∀ k c, tab[i]? = some (k, c) → (∀ j, c = some j → L j = false) → k.holds v w
theorem relL.ext {tab : List (LK × Option Nat)} {L : Nat → Bool} {j : Nat} {v : Value} {w w' : World} (h : relL tab L j v w) (hx : Ext w w') (i : Nat) : relL tab (also L i) j v w' := by
  intro k c hk hc
  refine k.ext (h k c hk (fun d hd => ?_)) hx
  have := hc d hd
  simp at this
  exact this.2
/-- A row below the region's own blocks is written: what is left reads on, but for what is owned. -/
theorem relL.touch {tab : List (LK × Option Nat)} {L : Nat → Bool} {j i : Nat} {v : Value} {w w' : World} {r : Option Nat} {base : Nat} (h : relL tab L j v w) (hx : w.grownBy w' r) (hr : ∀ k, r = some k → k < base)
    (hk : ∀ k c, tab[j]? = some (k, c) → (∀ d, c = some d → also L i d = false) → (∃ x, k = .eq x) ∨ (∃ xs, k = .sl base xs) ∨ k = .any) : relL tab (also L i) j v w' := by
  intro k c hkc hc
  have h1 := h k c hkc (fun d hd => by
    have := hc d hd
    simp at this
    exact this.2)
  rcases hk k c hkc hc with ⟨x, rfl⟩ | ⟨xs, rfl⟩ | rfl
  · exact h1
  · refine ⟨?_, h1.2⟩
    refine Sl.kept (S := fun k => r = some k) h1.1 ⟨hx.os, hx.tape, hx.output, hx.size, fun k hk hn => hx.block k hk (fun e => hn e.symm)⟩ ?_
    intro b hb e
    have := h1.2 b hb
    have := hr b e
    omega
  · trivial
/-- Whatever has turned: what is left are closed values. -/
theorem relL.last {tab : List (LK × Option Nat)} {L : Nat → Bool} {j i : Nat} {v : Value} {w w' : World} (h : relL tab L j v w)
    (hk : ∀ k c, tab[j]? = some (k, c) → (∀ d, c = some d → also L i d = false) → (∃ x, k = .eq x) ∨ k = .any) : relL tab (also L i) j v w' := by
  intro k c hkc hc
  have h1 := h k c hkc (fun d hd => by
    have := hc d hd
    simp at this
    exact this.2)
  rcases hk k c hkc hc with ⟨x, rfl⟩ | rfl
  · exact h1
  · trivial
theorem relL.now {tab : List (LK × Option Nat)} {L : Nat → Bool} {i : Nat} {v : Value} {w : World} {k : LK} {c : Option Nat} (hi : tab[i]? = some (k, c)) (h : k.holds v w) : relL tab L i v w := by
  intro k' c' hk _
  rw [hi] at hk
  cases hk
  exact h
theorem relL.get {tab : List (LK × Option Nat)} {L : Nat → Bool} {i : Nat} {v : Value} {w : World} {k : LK} {c : Option Nat} (h : relL tab L i v w) (hi : tab[i]? = some (k, c)) (hc : ∀ j, c = some j → L j = false) : k.holds v w := h k c hi hc

theorem own_row {w : World} {base : Nat} {e : TypeId} {size : Nat} {v : Value} {n : Nat} {xs : List Value} (h : w.ownsRow base e size v n xs) : ∀ k, v.ownBlock = some k → ∃ cur, w.heap[k]? = some (.cells cur e (0, 0)) := by
  intro k hk
  rcases h.2 with ⟨rfl, _⟩ | ⟨g, cap, cur, rfl, _, hh, _⟩
  · simp [Value.ownBlock] at hk
  · simp [Value.ownBlock] at hk; subst hk; exact ⟨cur, hh⟩
/-- The world while a region appends twice to u: (the first time by operation 'one'). -/
def SB (w : World) (p : Nat) (o : Obj) (e : TypeId) (u : Value) (xs : List Value) (one : Nat) (L : Nat → Bool) (W : World) : Prop :=
  Ext w W ∧ W.heap[p]? = some o ∧ p + 1 ≤ W.heap.size ∧ (L one = false → W.ownsRow w.heap.size e 1 u xs.length xs)
theorem SB.ext {w : World} {p : Nat} {o : Obj} {e : TypeId} {u : Value} {xs : List Value} {one : Nat} {L : Nat → Bool} {W W' : World} (h : SB w p o e u xs one L W) (hx : Ext W W') (i : Nat) : SB w p o e u xs one (also L i) W' :=
  ⟨h.1.trans hx, hx.heap h.2.1, Nat.le_trans h.2.2.1 hx.size, fun hL => own_ext (h.2.2.2 (by simp at hL; exact hL.2)) hx⟩
theorem SB.grown {w : World} {p : Nat} {o : Obj} {e : TypeId} {u : Value} {xs : List Value} {one : Nat} {L : Nat → Bool} {W W' : World} {r : Option Nat} (h : SB w p o e u xs one L W) (hg : W.grownBy W' r) (hr : ∀ k, r = some k → w.heap.size ≤ k) (hp : r ≠ some p) (i : Nat)
    (h1 : also L i one = true) : SB w p o e u xs one (also L i) W' :=
  ⟨h.1.grown hg hr, (hg.block p (by have := h.2.2.1; omega) (fun e => hp e.symm)).trans h.2.1, Nat.le_trans h.2.2.1 hg.size, fun hL => by rw [h1] at hL; cases hL⟩
end Go.Proofs.YtjooacmmgbpkfaaDoor
