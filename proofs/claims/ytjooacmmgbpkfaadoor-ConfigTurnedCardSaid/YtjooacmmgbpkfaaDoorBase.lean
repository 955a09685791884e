/- Words on memory: what a call may have changed ('Kept', 'Ext'), blocks of known cells, slices as they read ('Sl') and slices of the call's own. No conditions. -/
import Derived.WalkKit
import Derived.Handy
import Derived.Lib.Hide
import Derived.Laws.Rows
import Derived.Deep.QuietTactic
import Derived.BigQuiet
import Derived.RegionTactic
import Derived.ChangeAlike
import Derived.Deep.RegionHeld3
import Derived.ArgAppend
import Derived.Laws.AppendOwnNone
import Derived.Laws.BitsAllLaws
import Derived.WalkSpells
import Derived.WalkLawsBesides
namespace Go.Proofs.YtjooacmmgbpkfaaDoor
open Go.RowKit

/-- All blocks but those in S are as they were. -/
structure Kept (S : Nat → Prop) (w w' : World) : Prop where
  os : w'.os = w.os
  tape : w'.tape = w.tape
  output : w'.output = w.output
  size : w.heap.size ≤ w'.heap.size
  block : ∀ k, k < w.heap.size → ¬ S k → w'.heap[k]? = w.heap[k]?

theorem Kept.refl (S : Nat → Prop) (w : World) : Kept S w w := ⟨rfl, rfl, rfl, Nat.le_refl _, fun _ _ _ => rfl⟩
theorem Kept.trans {S T : Nat → Prop} {a b c : World} (h : Kept S a b) (k : Kept T b c) (hT : ∀ i, i < a.heap.size → T i → S i) : Kept S a c :=
  ⟨k.os.trans h.os, k.tape.trans h.tape, k.output.trans h.output, Nat.le_trans h.size k.size,
   fun i hi hn => (k.block i (Nat.lt_of_lt_of_le hi h.size) (fun ht => hn (hT i hi ht))).trans (h.block i hi hn)⟩
theorem Kept.mono {S T : Nat → Prop} {a b : World} (h : Kept S a b) (hT : ∀ i, i < a.heap.size → S i → T i) : Kept T a b :=
  ⟨h.os, h.tape, h.output, h.size, fun i hi hn => h.block i hi (fun hs => hn (hT i hi hs))⟩
theorem Kept.drew {S : Nat → Prop} {a w : World} (h : Kept S a w) : Kept S a w.drew := ⟨h.os, h.tape, h.output, h.size, h.block⟩
theorem Kept.drewN {S : Nat → Prop} {a w : World} (h : Kept S a w) (m : Nat) : Kept S a (w.drewN m) := ⟨h.os, h.tape, h.output, h.size, h.block⟩
theorem Kept.alloc {S : Nat → Prop} {a w : World} (h : Kept S a w) (o : Obj) : Kept S a (w.alloc o) :=
  h.trans (T := fun _ => False) ⟨rfl, rfl, rfl, by simp, fun k hk _ => Below.heap_alloc _ _ _ hk⟩ (fun _ _ h => h.elim)
theorem Kept.setCell {S : Nat → Prop} {a w : World} (h : Kept S a w) {p : Addr} (hp : p.block < a.heap.size → S p.block) (u : Value) : Kept S a (w.setCell p u) :=
  h.trans (T := fun k => k = p.block) ⟨rfl, rfl, rfl, by simp [World.setCell], fun k _ hk => Below.heap_setCell _ _ _ _ hk⟩ (fun _ h e => by subst e; exact hp h)
theorem Kept.grown {S : Nat → Prop} {a w w' : World} {row : Option Nat} (h : Kept S a w) (hg : w.grownBy w' row) (hr : ∀ k, k < a.heap.size → row = some k → S k) : Kept S a w' :=
  h.trans (T := fun k => row = some k) ⟨hg.os, hg.tape, hg.output, hg.size, fun k hk hn => hg.block k hk (fun e => hn e.symm)⟩ (fun i hi e => hr i hi e)
theorem Kept.below {S : Nat → Prop} {a b : World} {B : Nat} (h : Kept S a b) (hB : B ≤ a.heap.size) (hS : ∀ i, i < B → ¬ S i) : Below B a b :=
  ⟨h.os, h.tape, h.output, h.size, fun k hk => h.block k (Nat.lt_of_lt_of_le hk hB) (hS k hk)⟩
theorem Kept.heap {S : Nat → Prop} {a b : World} (h : Kept S a b) {k : Nat} {o : Obj} (hk : a.heap[k]? = some o) (hn : ¬ S k) : b.heap[k]? = some o := by
  rw [h.block k (lt_of_block hk) hn]; exact hk
theorem Kept.cell {S : Nat → Prop} {a b : World} (h : Kept S a b) {p : Addr} {v : Value} (hc : a.cell? p = some v) (hn : ¬ S p.block) : b.cell? p = some v :=
  (World.cell?_of_block (w := a) (h.block p.block (block_lt_of_cell hc) hn)).trans hc

/-- All that there was is as it was. -/
abbrev Ext (w w' : World) : Prop := Below w.heap.size w w'
theorem Ext.refl (w : World) : Ext w w := Below.refl _ _
theorem Ext.trans {a b c : World} (h : Ext a b) (k : Ext b c) : Ext a c := Below.trans h (Below.mono k h.size)
theorem Ext.drewN {a w : World} (h : Ext a w) (m : Nat) : Ext a (w.drewN m) := ⟨h.os, h.tape, h.output, h.size, h.block⟩
theorem Ext.ofDrewN (w : World) (m : Nat) : Ext w (w.drewN m) := (Ext.refl w).drewN m
theorem Ext.alloc {a w : World} (h : Ext a w) (o : Obj) : Ext a (w.alloc o) := Below.alloc h h.size o
theorem Ext.grown {a w w' : World} {row : Option Nat} (h : Ext a w) (hg : w.grownBy w' row) (hr : ∀ k, row = some k → a.heap.size ≤ k) : Ext a w' := Below.grown h hg h.size hr
theorem Ext.kept {a b : World} (h : Ext a b) (S : Nat → Prop) : Kept S a b := ⟨h.os, h.tape, h.output, h.size, fun k hk _ => h.block k hk⟩
theorem Ext.by (a b : World) (h : Ext a b) (row : Option Nat) : a.grownBy b row := ⟨h.os, h.tape, h.output, h.size, fun k hk _ => h.block k hk⟩
theorem Ext.heap {a b : World} (h : Ext a b) {k : Nat} {o : Obj} (hk : a.heap[k]? = some o) : b.heap[k]? = some o := by
  rw [h.block k (lt_of_block hk)]; exact hk
theorem Ext.cell' {a b : World} (h : Ext a b) {p : Addr} {v : Value} (hc : a.cell? p = some v) : b.cell? p = some v :=
  (World.cell?_of_block (w := a) (h.block p.block (block_lt_of_cell hc))).trans hc
theorem Below_drewN {B : Nat} {a w : World} (h : Below B a w) (m : Nat) : Below B a (w.drewN m) := ⟨h.os, h.tape, h.output, h.size, h.block⟩

theorem ret_bool {a b : Bool} (h : a = b) : Ending.returned (.bool a) = Ending.returned (.bool b) := by rw [h]
theorem ret_int {k : IntKind} {a b : Int} (h : a = b) : Ending.returned (.int k a) = Ending.returned (.int k b) := by rw [h]
theorem blk_cell {w : World} {g : Nat} {cs : Array Value} {t : TypeId} {fr : Nat × Nat} (h : w.heap[g]? = some (.cells cs t fr)) (j : Nat) : w.cell? ⟨g, j, none⟩ = cs[j]? := cell_of_row w g j cs t fr h
theorem blk_free {w : World} {g : Nat} {cs : Array Value} {t : TypeId} (h : w.heap[g]? = some (.cells cs t (0, 0))) (j : Nat) : w.frozen? ⟨g, j, none⟩ = false := frozen_of_row w g j cs t h

theorem blk1 {w : World} {g : Nat} {x : Value} {t : TypeId} (h : w.heap[g]? = some (.cells #[x] t (0, 0))) : w.cell? ⟨g, 0, none⟩ = some x ∧ w.frozen? ⟨g, 0, none⟩ = false ∧ g < w.heap.size :=
  ⟨blk_cell h 0, blk_free h 0, lt_of_block h⟩
theorem blk2 {w : World} {g : Nat} {x y : Value} {t : TypeId} (h : w.heap[g]? = some (.cells #[x, y] t (0, 0))) :
    w.cell? ⟨g, 0, none⟩ = some x ∧ w.cell? ⟨g, 1, none⟩ = some y ∧ w.frozen? ⟨g, 0, none⟩ = false ∧ w.frozen? ⟨g, 1, none⟩ = false ∧ g < w.heap.size :=
  ⟨blk_cell h 0, blk_cell h 1, blk_free h 0, blk_free h 1, lt_of_block h⟩
theorem blk2_set {w : World} {g : Nat} {x y : Value} {t : TypeId} (h : w.heap[g]? = some (.cells #[x, y] t (0, 0))) (x' y' : Value) :
    ((w.setCell ⟨g, 0, none⟩ x').setCell ⟨g, 1, none⟩ y').heap[g]? = some (.cells #[x', y'] t (0, 0)) := by
  rw [heap_setCell_same _ g 1 _ t y' (heap_setCell_same w g 0 _ t x' h)]
  rfl
theorem new_blk (w : World) (c : Array Value) (t : TypeId) : (w.alloc (.cells c t)).heap[w.heap.size]? = some (.cells c t (0, 0)) := heap_alloc_new _ _

/-! ### Slices -/
/-- A slice as it reads: nil, empty, or a row of cells. -/
def Sl (w : World) (v : Value) (xs : List Value) : Prop :=
  ∃ a c, v = .slice a xs.length c ∧ xs.length ≤ c ∧ c ≤ maxLen ∧ (a = none → c = 0) ∧ (xs = [] ∨ ∃ b off, a = some ⟨b, off, none⟩ ∧ ∀ i, i < xs.length → w.cell? ⟨b, off + i, none⟩ = xs[i]?)
theorem Sl.nil (w : World) : Sl w (.slice none 0 0) [] := ⟨none, 0, rfl, Nat.le_refl _, by unfold maxLen; omega, fun _ => rfl, .inl rfl⟩
theorem Sl.kept {S : Nat → Prop} {w w' : World} {v : Value} {xs : List Value} (h : Sl w v xs) (k : Kept S w w') (hn : ∀ b, v.ownBlock = some b → ¬ S b) : Sl w' v xs := by
  obtain ⟨a, c, rfl, h1, h2, h3, h4⟩ := h
  refine ⟨a, c, rfl, h1, h2, h3, ?_⟩
  rcases h4 with h4 | ⟨b, off, rfl, hc⟩
  · exact .inl h4
  · refine .inr ⟨b, off, rfl, fun i hi => ?_⟩
    rw [← hc i hi]
    have := hc i hi
    rw [List.getElem?_eq_getElem hi] at this
    rw [this]
    exact k.cell this (hn b rfl)
theorem Sl.ext {w w' : World} {v : Value} {xs : List Value} (h : Sl w v xs) (k : Ext w w') : Sl w' v xs := h.kept (k.kept fun _ => False) (fun _ _ h => h)
theorem Sl.drewN {w : World} {v : Value} {xs : List Value} (h : Sl w v xs) (m : Nat) : Sl (w.drewN m) v xs := h
/-- What is owned reads as a slice. -/
theorem Sl.own {w : World} {base : Nat} {e : TypeId} {v : Value} {xs : List Value} {n : Nat} (h : w.ownsRow base e 1 v n xs) : Sl w v xs := by
  obtain ⟨h1, h2⟩ := h
  rw [Nat.mul_one] at h1
  subst h1
  rcases h2 with ⟨rfl, h0⟩ | ⟨g, cap, cur, rfl, hg, hh, hn, hm, hs, ht⟩
  · have : xs = [] := by simpa using h0
    subst this
    exact Sl.nil w
  · refine ⟨_, cap, rfl, hn, hm, by simp, .inr ⟨g, 0, rfl, fun i hi => ?_⟩⟩
    have hi' : i < cur.size := by omega
    rw [blk_cell hh, ← ht, Nat.zero_add, Nat.mul_one, List.getElem?_take, if_pos hi]
    simp
/-- The cells of a slice that has any. -/
theorem Sl.cells {w : World} {v : Value} {xs : List Value} (h : Sl w v xs) (h0 : xs ≠ []) : ∃ b off c, v = .slice (some ⟨b, off, none⟩) xs.length c ∧ xs.length ≤ c ∧ c ≤ maxLen ∧ b < w.heap.size ∧ ∀ i u, xs[i]? = some u → w.cell? ⟨b, off + i, none⟩ = some u := by
  obtain ⟨a, c, rfl, h1, h2, _, h4⟩ := h
  rcases h4 with h4 | ⟨b, off, rfl, hc⟩
  · exact absurd h4 h0
  · refine ⟨b, off, c, rfl, h1, h2, ?_, fun i u hu => ?_⟩
    · have h9 : 0 < xs.length := List.length_pos_iff.2 h0
      have := hc 0 h9
      rw [List.getElem?_eq_getElem h9] at this
      exact block_lt_of_cell this
    · rw [hc i (by have := List.getElem?_eq_some_iff.1 hu; exact this.1), hu]
/-- A piece of a slice. -/
theorem Sl.drop {w : World} {b off n c : Nat} {xs : List Value} (h : Sl w (.slice (some ⟨b, off, none⟩) n c) xs) (k : Nat) (hk : k ≤ n) : Sl w (.slice (some ⟨b, off + k, none⟩) (n - k) (c - k)) (xs.drop k) := by
  obtain ⟨a, c', e, h1, h2, h3, h4⟩ := h
  injection e with ea en ec
  subst ea en ec
  refine ⟨_, _, by rw [List.length_drop], by rw [List.length_drop]; omega, by omega, by simp, ?_⟩
  rcases h4 with h4 | ⟨b', off', e, hc⟩
  · left; subst h4; simp
  · simp at e
    obtain ⟨rfl, rfl⟩ := e
    refine .inr ⟨b, off + k, rfl, fun i hi => ?_⟩
    rw [List.length_drop] at hi
    rw [Nat.add_assoc, hc (k + i) (by omega), List.getElem?_drop]
theorem Sl.take {w : World} {a : Option Addr} {n c : Nat} {xs : List Value} (h : Sl w (.slice a n c) xs) (k : Nat) (hk : k ≤ n) : Sl w (.slice a k c) (xs.take k) := by
  obtain ⟨a', c', e, h1, h2, h3, h4⟩ := h
  injection e with ea en ec
  subst ea en ec
  have hl : (xs.take k).length = k := by rw [List.length_take]; omega
  refine ⟨_, _, by rw [hl], by omega, by omega, h3, ?_⟩
  rcases h4 with h4 | ⟨b', off', e, hc⟩
  · left; subst h4; simp
  · refine .inr ⟨b', off', e, fun i hi => ?_⟩
    rw [hl] at hi
    rw [hc i (by omega), List.getElem?_take, if_pos hi]
theorem Sl.len {w : World} {v : Value} {xs : List Value} (h : Sl w v xs) : ∃ a c, v = .slice a xs.length c ∧ xs.length ≤ c ∧ c ≤ maxLen := by
  obtain ⟨a, c, rfl, h1, h2, _⟩ := h
  exact ⟨a, c, rfl, h1, h2⟩
theorem Sl.len_le {w : World} {v : Value} {xs : List Value} (h : Sl w v xs) : xs.length ≤ maxLen := by
  obtain ⟨a, c, rfl, h1, h2, _⟩ := h
  omega
theorem own_ext {w w' : World} {base : Nat} {e : TypeId} {size : Nat} {v : Value} {n : Nat} {xs : List Value} (h : w.ownsRow base e size v n xs) (k : Ext w w') : w'.ownsRow base e size v n xs :=
  h.kept (k.by w w' none) (by cases v.ownBlock <;> simp)
theorem own_base {w : World} {base base' : Nat} {e : TypeId} {size : Nat} {v : Value} {n : Nat} {xs : List Value} (h : w.ownsRow base e size v n xs) (k : base' ≤ base) : w.ownsRow base' e size v n xs := by
  obtain ⟨h1, h2⟩ := h
  refine ⟨h1, ?_⟩
  rcases h2 with h2 | ⟨g, cap, cur, hv, hg, r⟩
  · exact .inl h2
  · exact .inr ⟨g, cap, cur, hv, by omega, r⟩

theorem add_mk (b off j : Nat) : (⟨b, off, none⟩ : Addr).add j = ⟨b, off + j, none⟩ := by
  unfold Addr.add
  split <;> simp_all

/-! ### append, by what the two slices read as (elements of one cell) -/
section
variable {P : Program} {w : World} {ops : Array Oper} {rest : List Oper} {o : Oper} {a : Act} {Q : Exit → Act → World → Prop}
/-- To a slice of the call's own, whatever is appended (nil, empty or not). -/
theorem app_own (hgd : o.guard = none) (s x : Operand) (t : TypeId) (ho : o.op = .call { callee := .builtin .append, args := #[s, x], argTypes := #[t, t] })
    (base : Nat) (e : TypeId) (i : TypeInfo) (z : Value) (bytes : Nat) (ht : P.underlying t = some (.slice e)) (hi : P.info? e = some i) (hz : i.zero = some z)
    (hsize : i.size = 1) (hby : i.bytes = bytes) (hzs : z.cells.size = 1)
    (v : Value) (xs : List Value) (hs : a.eval s = v) (hown : w.ownsRow base e 1 v xs.length xs)
    (u : Value) (news : List Value) (hx : a.eval x = u) (hu : Sl w u news) (h1 : ∀ u ∈ news, u.oneCell' = true)
    (hbytes : (xs.length + news.length) * bytes ≤ 140737488355328) (hb1 : 1 ≤ bytes) (hbase : base ≤ w.heap.size)
    (h : ∀ v' w', w'.ownsRow base e 1 v' (xs ++ news).length (xs ++ news) → w.grownBy w' v.ownBlock → wpList P ops Q rest (a.put o.dst v') w') : wpList P ops Q (o :: rest) a w := by
  have h63 : xs.length + news.length ≤ maxLen := by
    unfold maxLen
    have : xs.length + news.length ≤ (xs.length + news.length) * bytes := Nat.le_mul_of_pos_right _ hb1
    omega
  obtain ⟨ad, c, rfl, hc1, hc2, hnone, hcell⟩ := hu
  cases ad with
  | none =>
    have hc0 := hnone rfl
    subst hc0
    have h0 : news = [] := by
      have : news.length = 0 := by omega
      simpa using this
    subst h0
    refine wpList_append_own_none hgd s x t ho base e i 1 ht hi v xs.length xs hs hown hx ?_
    have := h v w (by simpa using hown) (World.grownBy.refl _ _)
    simpa using this
  | some ad =>
    refine wpList_append_own w hgd s x t ho base e i z 1 bytes ht hi hz hsize hby hzs (by decide) v xs.length xs hs hown ad news.length c news hx (by simp) ?_ h1 h63 hbytes hbase ?_
    · intro j u hj
      have hjl := (List.getElem?_eq_some_iff.1 hj).1
      rcases hcell with h0 | ⟨b, off, hb, hcell⟩
      · subst h0; simp at hjl
      · simp at hb
        subst hb
        have := hcell j hjl
        rw [hj] at this
        simpa [add_mk] using this
    · intro v' w' k1 k2 _
      exact h v' w' (by simpa using k1) k2
/-- To a slice whose row is full, whatever is appended but nothing: a new row. -/
theorem app_grows (hgd : o.guard = none) (s x : Operand) (t : TypeId) (ho : o.op = .call { callee := .builtin .append, args := #[s, x], argTypes := #[t, t] })
    (e : TypeId) (i : TypeInfo) (z : Value) (bytes : Nat) (ht : P.underlying t = some (.slice e)) (hi : P.info? e = some i) (hz : i.zero = some z)
    (hsize : i.size = 1) (hby : i.bytes = bytes) (hzs : z.cells.size = 1)
    (ao : Option Addr) (n cap : Nat) (olds : List Value) (hs : a.eval s = .slice ao n cap) (hv : Sl w (.slice ao n cap) olds)
    (u : Value) (news : List Value) (hfull : cap < n + news.length) (hx : a.eval x = u) (hu : Sl w u news) (h0 : news ≠ []) (h1 : ∀ u ∈ news, u.oneCell' = true)
    (hbytes : (olds.length + news.length) * bytes ≤ 140737488355328) (hb1 : 1 ≤ bytes)
    (h : ∀ v' w', w'.ownsRow w.heap.size e 1 v' (olds ++ news).length (olds ++ news) → Ext w w' → wpList P ops Q rest (a.put o.dst v') w') : wpList P ops Q (o :: rest) a w := by
  have h63 : olds.length + news.length ≤ maxLen := by
    unfold maxLen
    have : olds.length + news.length ≤ (olds.length + news.length) * bytes := Nat.le_mul_of_pos_right _ hb1
    omega
  obtain ⟨b, off, c, rfl, _, _, _, hcell⟩ := hu.cells h0
  obtain ⟨a1, c1, e1, k1, k2, k3, k4⟩ := hv
  injection e1 with ea en ec
  subst ea en ec
  refine wpList_append_grows w hgd s x t ho e i z 1 bytes ht hi hz hsize hby hzs (by decide) ao olds.length cap olds hs ?_ (by simp) ?_ ⟨b, off, none⟩ news.length c news hx (by simp) ?_ h1 hfull h63 hbytes ?_
  · intro e
    have := k3 e
    omega
  · intro bb e j u hj
    have hjl := (List.getElem?_eq_some_iff.1 hj).1
    rcases k4 with h0 | ⟨b', off', hb, hcell⟩
    · subst h0; simp at hjl
    · rw [e] at hb
      simp at hb
      subst hb
      have := hcell j hjl
      rw [hj] at this
      simpa [add_mk] using this
  · intro j u hj
    simpa [add_mk] using hcell j u hj
  · intro v' w' k1 k2
    exact h v' w' (by simpa using k1) ((Ext.refl w).grown k2 (by simp))
end
/-- The row that a slice literal lays. -/
theorem Sl.lit {w : World} {cs : List Value} {e : TypeId} {g : Nat} (h : w.heap[g]? = some (.cells cs.toArray e (0, 0))) (hm : cs.length ≤ maxLen) : Sl w (.slice (some ⟨g, 0, none⟩) cs.length cs.length) cs :=
  ⟨_, _, rfl, Nat.le_refl _, hm, by simp, .inr ⟨g, 0, rfl, fun i hi => by rw [blk_cell h]; simp [hi]⟩⟩
theorem own_lit {w : World} {cs : List Value} {e : TypeId} {base : Nat} (hb : base ≤ w.heap.size) (hm : cs.length ≤ maxLen) : (w.alloc (.cells cs.toArray e)).ownsRow base e 1 (.slice (some ⟨w.heap.size, 0, none⟩) cs.length cs.length) cs.length cs := by
  refine ⟨by simp, .inr ⟨_, _, cs.toArray, rfl, hb, heap_alloc_new _ _, Nat.le_refl _, hm, by simp, ?_⟩⟩
  simp
end Go.Proofs.YtjooacmmgbpkfaaDoor
