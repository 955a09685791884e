/- config.Read: what its walk keeps while a point is read. -/
import Derived.Test.YtjooacmmgbpkfaaDoorCfgRead
namespace Go.Proofs.YtjooacmmgbpkfaaDoor
open Go.RowKit

def ptXY (X Y : Nat → Nat) (a : Nat) : PtN := ⟨X a, Y (a + 1), Y (a + 3), Y (a + 5), Y (a + 7)⟩
def ptsXY (X Y : Nat → Nat) (k : Nat) : List PtN := (List.range k).map fun i => ptXY X Y (18 + 9 * i)
theorem ptsXY_succ (X Y : Nat → Nat) (k : Nat) : ptsXY X Y (k + 1) = ptsXY X Y k ++ [ptXY X Y (18 + 9 * k)] := by
  simp [ptsXY, List.range_succ]
theorem ptsXY_length (X Y : Nat → Nat) (k : Nat) : (ptsXY X Y k).length = k := by simp [ptsXY]
def cfgXY (X Y : Nat → Nat) : CfgN := ⟨X 4, X 5, X 6, X 7, Y 8, X 10, X 11, X 12, Y 13, Y 15, ptsXY X Y (X 17)⟩
/-- The cells of the first k points. -/
def pcells (X Y : Nat → Nat) (k : Nat) : List Value := ((ptsXY X Y k).map PtN.pt).flatMap Pt.vals
theorem pcells_succ (X Y : Nat → Nat) (k : Nat) : pcells X Y (k + 1) = pcells X Y k ++ (ptXY X Y (18 + 9 * k)).pt.vals := by
  unfold pcells
  rw [ptsXY_succ]
  simp

theorem RS.grow {w : World} {g gc : Nat} {x : List Nat} {k : Nat} {cs : Array Value} {W W' : World} (h : RS w g gc x k cs W) (hk : Kept (fun j => gc < j) W W') : RS w g gc x k cs W' :=
  ⟨h.ext.trans_kept hk (fun j hj => by have := h.lt; omega), hk.heap h.res (fun e => by have := h.lt; omega), h.rd.kept hk (fun j hj => by have := h.lt; omega), hk.heap h.cfg (fun e => Nat.lt_irrefl _ e), h.lt⟩
theorem kept_grown {w w' : World} {gc base : Nat} {e : TypeId} {sz n : Nat} {v : Value} {xs : List Value} (hg : w.grownBy w' v.ownBlock) (ho : w.ownsRow base e sz v n xs) (hb : gc < base) : Kept (fun j => gc < j) w w' :=
  (Kept.refl _ w).grown hg (fun k _ e => Nat.lt_of_lt_of_le hb (own_block ho k e))
theorem own_kept {w w' : World} {S : Nat → Prop} {base : Nat} {e : TypeId} {sz n : Nat} {v : Value} {xs : List Value} (ho : w.ownsRow base e sz v n xs) (hk : Kept S w w') (hS : ∀ j, base ≤ j → ¬ S j) : w'.ownsRow base e sz v n xs := by
  obtain ⟨h1, h2⟩ := ho
  refine ⟨h1, ?_⟩
  rcases h2 with h2 | ⟨g, cap, cur, hv, hg, hh, r⟩
  · exact .inl h2
  · exact .inr ⟨g, cap, cur, hv, hg, hk.heap hh (hS g hg), r⟩

/-- How much the calls that have come up have taken. -/
def posL (cl : List (Nat × Nat)) (L : Nat → Bool) : Nat := (cl.map fun p => if L p.1 = true then p.2 else 0).sum
theorem posL_also {cl : List (Nat × Nat)} {L : Nat → Bool} {i : Nat} (hi : cl.all (fun p => p.1 != i) = true) : posL cl (also L i) = posL cl L := by
  unfold posL
  congr 1
  refine List.map_congr_left fun p hp => ?_
  have := List.all_eq_true.1 hi p hp
  have hne : (p.1 == i) = false := by simpa using this
  simp [hne]
/-- The world while region 18 reads a point: f is the configuration's cells by what its points are; ap and st: the operations that append and store. -/
def SR (w : World) (g gc : Nat) (x : List Nat) (a : Nat) (cl : List (Nat × Nat)) (f : Value → Array Value) (vp : Value) (k : Nat) (xs ys : List Value) (ap st : Nat) (L : Nat → Bool) (W : World) : Prop :=
  ∃ cs, RS w g gc x (a + posL cl L) cs W ∧ (L st = false → cs = f vp) ∧ (L ap = false → W.ownsRow (gc + 1) 47 5 vp k xs) ∧ (L st = true → ∃ v', cs = f v' ∧ W.ownsRow (gc + 1) 47 5 v' (k + 1) ys)
section
variable {w : World} {g gc : Nat} {x : List Nat} {a : Nat} {cl : List (Nat × Nat)} {f : Value → Array Value} {vp : Value} {k : Nat} {xs ys : List Value} {ap st : Nat} {L : Nat → Bool} {W W' : World}
theorem SR.ext (h : SR w g gc x a cl f vp k xs ys ap st L W) (hx : Ext W W') (i : Nat) (hi : cl.all (fun p => p.1 != i) = true) (h1 : (ap == i) = false) (h2 : (st == i) = false) : SR w g gc x a cl f vp k xs ys ap st (also L i) W' := by
  obtain ⟨cs, hr, h3, h4, h5⟩ := h
  refine ⟨cs, by rw [posL_also hi]; exact hr.more hx, fun hL => h3 (by simpa [h2] using hL), fun hL => own_ext (h4 (by simpa [h1] using hL)) hx, fun hL => ?_⟩
  obtain ⟨v', e, ho⟩ := h5 (by simpa [h2] using hL)
  exact ⟨v', e, own_ext ho hx⟩
/-- The reader has taken bytes. -/
theorem SR.took {cs : Array Value} (h3 : L st = false → cs = f vp) (h4 : L ap = false → W.ownsRow (gc + 1) 47 5 vp k xs) (i : Nat) (hr : RS w g gc x (a + posL cl (also L i)) cs W') (hk : Kept (fun j => j = g) W W') (h1 : (ap == i) = false) (h2 : (st == i) = false) (hst : L st = false) : SR w g gc x a cl f vp k xs ys ap st (also L i) W' := by
  refine ⟨cs, hr, fun hL => h3 (by simpa [h2] using hL), fun hL => own_kept (h4 (by simpa [h1] using hL)) hk (fun j hj e => by have := hr.lt; omega), fun hL => ?_⟩
  simp [h2, hst] at hL
theorem relM.last {tab : List (MK × Option Nat)} {L : Nat → Bool} {j i : Nat} {v : Value} {w w' : World} (h : relM tab L j v w)
    (hk : ∀ k c, tab[j]? = some (k, c) → (∀ d, c = some d → also L i d = false) → (∃ x, k = .eq x) ∨ k = .any) : relM tab (also L i) j v w' := by
  intro k c hkc hc
  have h1 := h k c hkc (fun d hd => by
    have := hc d hd
    simp at this
    exact this.2)
  rcases hk k c hkc hc with ⟨x, rfl⟩ | rfl
  · exact h1
  · trivial
theorem relM.set {tab : List (MK × Option Nat)} {L : Nat → Bool} {j i : Nat} {v : Value} {W : World} {g jj : Nat} {u : Value} (h : relM tab L j v W)
    (hk : ∀ k c, tab[j]? = some (k, c) → (∀ d, c = some d → also L i d = false) → (∃ x, k = .eq x) ∨ k = .any ∨ (∃ base e sz n xs, k = .owns base e sz n xs ∧ g < base)) : relM tab (also L i) j v (W.setCell ⟨g, jj, none⟩ u) := by
  intro k c hkc hc
  have h1 := h k c hkc (fun d hd => by
    have := hc d hd
    simp at this
    exact this.2)
  rcases hk k c hkc hc with ⟨x, rfl⟩ | rfl | ⟨base, e, sz, n, xs, rfl, hb⟩
  · exact h1
  · trivial
  · have hkp : Kept (fun i => i = g) W (W.setCell ⟨g, jj, none⟩ u) := by
      refine Kept.setCell (Kept.refl _ W) ?_ u
      exact fun _ => rfl
    exact own_kept h1 hkp (fun i hi e => by omega)
end
/-- Appending a slice of elements of sz cells to one of the call's own, at the operation. -/
theorem app_own_sz_op {P : Program} {w : World} {o : Oper} {a : Act} {K : Act → World → Prop} {Q : Exit → Act → World → Prop} (s x : Operand) (t : TypeId) (ho : o.op = .call { callee := .builtin .append, args := #[s, x], argTypes := #[t, t] })
    (base : Nat) (e : TypeId) (i : TypeInfo) (z : Value) (sz bytes : Nat) (ht : P.underlying t = some (.slice e)) (hi : P.info? e = some i) (hz : i.zero = some z)
    (hsize : i.size = sz) (hby : i.bytes = bytes) (hzs : z.cells.size = sz) (hsz : 0 < sz)
    (v : Value) (n : Nat) (xs : List Value) (hs : a.eval s = v) (hown : w.ownsRow base e sz v n xs)
    (u : Value) (m : Nat) (news : List Value) (hx : a.eval x = u) (hu : Sz w sz u m news) (hm : 0 < m) (h1 : ∀ u ∈ news, u.oneCell' = true)
    (h63 : n + m ≤ maxLen) (hbytes : (n + m) * bytes ≤ 140737488355328) (hbase : base ≤ w.heap.size)
    (h : ∀ v' w', w'.ownsRow base e sz v' (n + m) (xs ++ news) → w.grownBy w' v.ownBlock → K (a.put o.dst v') w') : o.wp P a w K Q := by
  obtain ⟨h0, ad, c, rfl, hc1, hc2, hnone, hcell⟩ := hu
  rcases hcell with h4 | ⟨b, off, rfl, hcell⟩
  · omega
  · refine wp_append_own w s x t ho base e i z sz bytes ht hi hz hsize hby hzs hsz v n xs hs hown _ m c news hx h0 ?_ h1 h63 hbytes hbase ?_
    · intro j u hj
      have hjl := (List.getElem?_eq_some_iff.1 hj).1
      have := hcell j (by omega)
      rw [hj] at this
      simpa [add_mk] using this
    · intro v' w' k1 k2 _
      exact h v' w' k1 k2
theorem rows_sz {e : TypeId} {n sz : Nat} {xs : List Value} {v : Value} {w : World} (h : (MK.rows e n xs).holds v w) (hl : xs.length = n * sz) : Sz w sz v n xs := by
  obtain ⟨h0, g, rfl, h2⟩ := h
  exact Sz.lit h2 hl h0
end Go.Proofs.YtjooacmmgbpkfaaDoor
