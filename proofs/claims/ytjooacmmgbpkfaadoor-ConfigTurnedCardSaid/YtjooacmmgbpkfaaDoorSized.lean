/- Slices whose elements have several cells: as they read ('Sz'), their elements' cells, appending to one of the call's own. No conditions. -/
import Derived.Test.YtjooacmmgbpkfaaDoorBase
namespace Go.Proofs.YtjooacmmgbpkfaaDoor
open Go.RowKit

/-- A slice of n elements of sz cells as it reads. -/
def Sz (w : World) (sz : Nat) (v : Value) (n : Nat) (xs : List Value) : Prop :=
  xs.length = n * sz ∧ ∃ a c, v = .slice a n c ∧ n ≤ c ∧ c ≤ maxLen ∧ (a = none → c = 0) ∧ (n = 0 ∨ ∃ b off, a = some ⟨b, off, none⟩ ∧ ∀ i, i < n * sz → w.cell? ⟨b, off + i, none⟩ = xs[i]?)
theorem Sz.nil (w : World) (sz : Nat) : Sz w sz (.slice none 0 0) 0 [] := ⟨by simp, none, 0, rfl, Nat.le_refl _, by unfold maxLen; omega, fun _ => rfl, .inl rfl⟩
theorem Sz.kept {S : Nat → Prop} {w w' : World} {sz : Nat} {v : Value} {n : Nat} {xs : List Value} (h : Sz w sz v n xs) (k : Kept S w w') (hn : ∀ b, v.ownBlock = some b → ¬ S b) : Sz w' sz v n xs := by
  obtain ⟨h0, a, c, rfl, h1, h2, h3, h4⟩ := h
  refine ⟨h0, a, c, rfl, h1, h2, h3, ?_⟩
  rcases h4 with h4 | ⟨b, off, rfl, hc⟩
  · exact .inl h4
  · refine .inr ⟨b, off, rfl, fun i hi => ?_⟩
    rw [← hc i hi]
    have := hc i hi
    rw [List.getElem?_eq_getElem (by omega)] at this
    rw [this]
    exact k.cell this (hn b rfl)
theorem Sz.ext {w w' : World} {sz : Nat} {v : Value} {n : Nat} {xs : List Value} (h : Sz w sz v n xs) (k : Ext w w') : Sz w' sz v n xs := h.kept (k.kept fun _ => False) (fun _ _ h => h)
theorem Sz.own {w : World} {base : Nat} {e : TypeId} {sz : Nat} {v : Value} {xs : List Value} {n : Nat} (h : w.ownsRow base e sz v n xs) : Sz w sz v n xs := by
  obtain ⟨h1, h2⟩ := h
  rcases h2 with ⟨rfl, h0⟩ | ⟨g, cap, cur, rfl, hg, hh, hn, hm, hs', ht⟩
  · subst h0
    have : xs = [] := by simpa using h1
    subst this
    exact Sz.nil w sz
  · refine ⟨h1, _, cap, rfl, hn, hm, by simp, .inr ⟨g, 0, rfl, fun i hi => ?_⟩⟩
    have : n * sz ≤ cap * sz := Nat.mul_le_mul_right sz hn
    have hi' : i < cur.size := by omega
    rw [blk_cell hh, ← ht, Nat.zero_add, List.getElem?_take, if_pos hi]
    simp
theorem Sz.lit {w : World} {sz n : Nat} {cs : List Value} {e : TypeId} {g : Nat} (h : w.heap[g]? = some (.cells cs.toArray e (0, 0))) (hl : cs.length = n * sz) (hm : n ≤ maxLen) : Sz w sz (.slice (some ⟨g, 0, none⟩) n n) n cs :=
  ⟨hl, _, _, rfl, Nat.le_refl _, hm, by simp, .inr ⟨g, 0, rfl, fun i hi => by rw [blk_cell h]; simp [show i < cs.length from by omega]⟩⟩
/-- The cells of element i. -/
theorem flat_get {α : Type} (f : α → List Value) (sz : Nat) (hf : ∀ x, (f x).length = sz) : ∀ (l : List α) (i j : Nat), j < sz → (l.flatMap f)[i * sz + j]? = (l[i]?).bind fun x => (f x)[j]?
  | [], i, j, _ => by simp
  | x :: l, 0, j, hj => by
    rw [List.flatMap_cons, List.getElem?_append_left (by rw [hf]; omega)]
    simp
  | x :: l, i + 1, j, hj => by
    rw [List.flatMap_cons, List.getElem?_append_right (by rw [hf, Nat.succ_mul]; omega), hf, show (i + 1) * sz + j - sz = i * sz + j from by rw [Nat.succ_mul]; omega, flat_get f sz hf l i j hj]
    simp
theorem flat_length {α : Type} (f : α → List Value) (sz : Nat) (hf : ∀ x, (f x).length = sz) (l : List α) : (l.flatMap f).length = l.length * sz := by
  induction l with
  | nil => simp
  | cons x l ih => rw [List.flatMap_cons, List.length_append, ih, hf, List.length_cons, Nat.succ_mul]; omega
theorem Sz.at_ {α : Type} {f : α → List Value} {sz : Nat} {w : World} {v : Value} {l : List α} (hf : ∀ x, (f x).length = sz) (hs : 0 < sz) (h : Sz w sz v l.length (l.flatMap f)) :
    ∃ a c, v = .slice a l.length c ∧ l.length ≤ c ∧ c ≤ maxLen ∧ (a = none → c = 0) ∧ ∀ i x, l[i]? = some x → ∃ b off, a = some ⟨b, off, none⟩ ∧ b < w.heap.size ∧ ∀ j u, j < sz → (f x)[j]? = some u → w.cell? ⟨b, off + i * sz + j, none⟩ = some u := by
  obtain ⟨h0, a, c, rfl, h1, h2, h3, h4⟩ := h
  refine ⟨a, c, rfl, h1, h2, h3, fun i x hi => ?_⟩
  have hil := (List.getElem?_eq_some_iff.1 hi).1
  rcases h4 with h4 | ⟨b, off, rfl, hc⟩
  · omega
  · have key : ∀ j u, j < sz → (f x)[j]? = some u → w.cell? ⟨b, off + i * sz + j, none⟩ = some u := by
      intro j u hj hu
      have hlt : i * sz + j < l.length * sz := by
        have := Nat.mul_le_mul_right sz (show i + 1 ≤ l.length from hil)
        rw [Nat.succ_mul] at this
        omega
      have := hc _ hlt
      rw [flat_get f sz hf l i j hj, hi] at this
      rw [Nat.add_assoc, this]
      exact hu
    refine ⟨b, off, rfl, ?_, key⟩
    obtain ⟨u, hu⟩ : ∃ u, (f x)[0]? = some u := ⟨(f x)[0]'(by rw [hf]; exact hs), List.getElem?_eq_getElem _⟩
    exact block_lt_of_cell (key 0 u hs hu)

section
variable {P : Program} {w : World} {ops : Array Oper} {rest : List Oper} {o : Oper} {a : Act} {Q : Exit → Act → World → Prop}
/-- Appending one slice of elements of sz cells to one of the call's own. -/
theorem app_own_sz (hgd : o.guard = none) (s x : Operand) (t : TypeId) (ho : o.op = .call { callee := .builtin .append, args := #[s, x], argTypes := #[t, t] })
    (base : Nat) (e : TypeId) (i : TypeInfo) (z : Value) (sz bytes : Nat) (ht : P.underlying t = some (.slice e)) (hi : P.info? e = some i) (hz : i.zero = some z)
    (hsize : i.size = sz) (hby : i.bytes = bytes) (hzs : z.cells.size = sz) (hsz : 0 < sz)
    (v : Value) (n : Nat) (xs : List Value) (hs : a.eval s = v) (hown : w.ownsRow base e sz v n xs)
    (u : Value) (m : Nat) (news : List Value) (hx : a.eval x = u) (hu : Sz w sz u m news) (hm : 0 < m) (h1 : ∀ u ∈ news, u.oneCell' = true)
    (h63 : n + m ≤ maxLen) (hbytes : (n + m) * bytes ≤ 140737488355328) (hbase : base ≤ w.heap.size)
    (h : ∀ v' w', w'.ownsRow base e sz v' (n + m) (xs ++ news) → w.grownBy w' v.ownBlock → wpList P ops Q rest (a.put o.dst v') w') : wpList P ops Q (o :: rest) a w := by
  obtain ⟨h0, ad, c, rfl, hc1, hc2, hnone, hcell⟩ := hu
  rcases hcell with h4 | ⟨b, off, rfl, hcell⟩
  · omega
  · refine wpList_append_own w hgd s x t ho base e i z sz bytes ht hi hz hsize hby hzs hsz v n xs hs hown _ m c news hx h0 ?_ h1 h63 hbytes hbase ?_
    · intro j u hj
      have hjl := (List.getElem?_eq_some_iff.1 hj).1
      have := hcell j (by omega)
      rw [hj] at this
      simpa [add_mk] using this
    · intro v' w' k1 k2 _
      exact h v' w' k1 k2
end
end Go.Proofs.YtjooacmmgbpkfaaDoor
