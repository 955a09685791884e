/- Configurations that may be: their numbers, their bytes. Plain; no program but the values' types. -/
import Derived.Test.YtjooacmmgbpkfaaDoorRefCheck
import Derived.Test.YtjooacmmgbpkfaaDoorWords
import Derived.Test.YtjooacmmgbpkfaaDoorRegInv
namespace Go.Proofs.YtjooacmmgbpkfaaDoor
open Go.RowKit

structure PtN where
  kind : Nat
  addr : Nat
  at_ : Nat
  band : Nat
  safe : Nat
def PtN.pt (p : PtN) : Pt := ⟨p.kind, p.addr, p.at_, p.band, p.safe⟩
structure CfgN where
  u0 : Nat
  u1 : Nat
  u2 : Nat
  gap : Nat
  wait : Nat
  tries : Nat
  strikes : Nat
  queue : Nat
  idle : Nat
  key : Nat
  pts : List PtN
def CfgN.cfg (n : CfgN) : Cfg := ⟨n.u0, n.u1, n.u2, n.gap, n.wait, n.tries, n.strikes, n.queue, n.idle, n.key, n.pts.map PtN.pt⟩
theorem inR_nat {x low high : Int} (h : inR x low high = true) (h0 : 0 ≤ low) : ∃ n : Nat, x = n ∧ low ≤ n ∧ (n : Int) ≤ high := by
  unfold inR at h
  simp at h
  exact ⟨x.toNat, by omega, by omega, by omega⟩
theorem may_nat {p : Pt} (h : p.may = true) : ∃ q : PtN, p = q.pt ∧ q.kind ≤ 3 ∧ q.addr < 65536 ∧ q.at_ < 900 ∧ q.band < 65536 ∧ q.safe < 65536 := by
  rw [may_inR] at h
  simp only [Bool.and_eq_true] at h
  obtain ⟨⟨⟨⟨h1, h2⟩, h3⟩, h4⟩, h5⟩ := h
  obtain ⟨k, e1, _, b1⟩ := inR_nat h1 (by omega)
  obtain ⟨a, e2, _, b2⟩ := inR_nat h2 (by omega)
  obtain ⟨t, e3, _, b3⟩ := inR_nat h3 (by omega)
  obtain ⟨n, e4, _, b4⟩ := inR_nat h4 (by omega)
  obtain ⟨s, e5, _, b5⟩ := inR_nat h5 (by omega)
  refine ⟨⟨k, a, t, n, s⟩, ?_, by simp only; omega, by simp only; omega, by simp only; omega, ?_, ?_⟩
  · cases p; simp only at e1 e2 e3 e4 e5; simp [PtN.pt, e1, e2, e3, e4, e5]
  · simp only
    split at b4 <;> omega
  · simp only
    split at b5 <;> omega
def PtN.small (q : PtN) : Prop := q.kind ≤ 3 ∧ q.addr < 65536 ∧ q.at_ < 900 ∧ q.band < 65536 ∧ q.safe < 65536
theorem all_may_nat : ∀ (l : List Pt), l.all Pt.may = true → ∃ q : List PtN, l = q.map PtN.pt ∧ ∀ p ∈ q, p.small
  | [], _ => ⟨[], rfl, fun p hp => by cases hp⟩
  | p :: l, h => by
    rw [List.all_cons, Bool.and_eq_true] at h
    obtain ⟨q, rfl, hq⟩ := may_nat h.1
    obtain ⟨ql, rfl, hl⟩ := all_may_nat l h.2
    exact ⟨q :: ql, rfl, fun x hx => by
      rcases List.mem_cons.1 hx with rfl | hx
      · exact hq
      · exact hl x hx⟩
structure CfgN.Small (n : CfgN) : Prop where
  u0 : n.u0 < 256
  u1 : n.u1 < 256
  u2 : n.u2 < 256
  gap : n.gap ≤ 20
  wait : n.wait ≤ 1000
  tries : n.tries ≤ 5
  strikes : n.strikes ≤ 20
  queue : n.queue ≤ 8
  idle : n.idle < 65536
  key : n.key < 65536
  len : 1 ≤ n.pts.length ∧ n.pts.length ≤ 48
  pts : ∀ p ∈ n.pts, p.small
theorem code_zero {c : Cfg} (h : c.code = 0) (hk : c.key < 65536) (hu : c.u0 < 256 ∧ c.u1 < 256 ∧ c.u2 < 256) : ∃ n : CfgN, c = n.cfg ∧ n.Small := by
  obtain ⟨u0, u1, u2, gap, wait, tries, strikes, queue, idle, key, pts⟩ := c
  unfold Cfg.code at h
  rw [numsOk_inR] at h
  simp only at h hk hu
  by_cases b0 : inR (pts.length : Int) 1 48 = true
  · rw [if_pos b0] at h
    by_cases b1 : (inR (u0 : Int) 1 247 && inR (u1 : Int) 1 247 && inR (u2 : Int) 1 247) = true
    · rw [if_pos b1] at h
      by_cases b2 : (inR gap 1 20 && inR wait 1 1000 && inR tries 1 5 && inR strikes 1 20 && inR queue 1 8 && inR idle 1 65535) = true
      · rw [if_pos b2] at h
        unfold ptsCode at h
        by_cases b3 : pts.all Pt.may = true
        · obtain ⟨q, rfl, hq⟩ := all_may_nat pts b3
          simp only [Bool.and_eq_true] at b2
          obtain ⟨⟨⟨⟨⟨g1, g2⟩, g3⟩, g4⟩, g5⟩, g6⟩ := b2
          obtain ⟨x1, rfl, _, y1⟩ := inR_nat g1 (by omega)
          obtain ⟨x2, rfl, _, y2⟩ := inR_nat g2 (by omega)
          obtain ⟨x3, rfl, _, y3⟩ := inR_nat g3 (by omega)
          obtain ⟨x4, rfl, _, y4⟩ := inR_nat g4 (by omega)
          obtain ⟨x5, rfl, _, y5⟩ := inR_nat g5 (by omega)
          obtain ⟨x6, rfl, _, y6⟩ := inR_nat g6 (by omega)
          have hl : 1 ≤ q.length ∧ q.length ≤ 48 := by
            unfold inR at b0
            simp at b0
            omega
          exact ⟨⟨u0, u1, u2, x1, x2, x3, x4, x5, x6, key, q⟩, rfl, ⟨hu.1, hu.2.1, hu.2.2, by simp only; omega, by simp only; omega, by simp only; omega, by simp only; omega, by simp only; omega, by simp only; omega, hk, hl, hq⟩⟩
        · rw [if_neg b3] at h; simp at h
      · rw [if_neg b2] at h; simp at h
    · rw [if_neg b1] at h; simp at h
  · rw [if_neg b0] at h; simp at h

/-- A point's bytes; a head's; all. -/
def PtN.bytes (p : PtN) : List Nat := p.kind :: wordsB [p.addr, p.at_, p.band, p.safe]
def CfgN.head (n : CfgN) : List Nat := [84, 77, 82, 49] ++ [n.u0, n.u1, n.u2] ++ [n.gap] ++ wordsB [n.wait] ++ [n.tries, n.strikes, n.queue] ++ wordsB [n.idle, n.key] ++ [n.pts.length]
def CfgN.bytes (n : CfgN) : List Nat := n.head ++ n.pts.flatMap PtN.bytes

/-! ### What a slot may hold while a region's order is drawn -/
inductive RK where
  | eq (x : Value)
  | sl (xs : List Value)
  | own (base : Nat) (xs : List Value)
  | ls (bs : List (List Nat))
  | lit (base : Nat) (xs : List Value)
  | any
def RK.holds : RK → Value → World → Prop
  | .eq x, v, _ => v = x
  | .sl xs, v, w => Sl w v xs
  | .own base xs, v, w => w.ownsRow base 5 1 v xs.length xs
  | .ls bs, v, w => ∃ ls : List (Value × List Nat), Sl w v (ls.map Prod.fst) ∧ (∀ p ∈ ls, Sl w p.1 (by8 p.2)) ∧ ls.map Prod.snd = bs
  | .lit base xs, v, w => ∃ g fr, v = .slice (some ⟨g, 0, none⟩) xs.length xs.length ∧ base ≤ g ∧ w.heap[g]? = some (.cells xs.toArray 5 fr)
  | .any, _, _ => True
/-- No short row of the call's own is held as such. -/
def RK.okB : RK → Bool
  | .own _ xs => decide (5 ≤ xs.length)
  | _ => true
theorem Sl.cellsKept {w w' : World} {v : Value} {xs : List Value} (h : Sl w v xs) (k : ∀ a u, w.cell? a = some u → w'.cell? a = some u) : Sl w' v xs := by
  obtain ⟨a, c, rfl, h1, h2, h3, h4⟩ := h
  refine ⟨a, c, rfl, h1, h2, h3, ?_⟩
  rcases h4 with h4 | ⟨b, off, rfl, hc⟩
  · exact .inl h4
  · refine .inr ⟨b, off, rfl, fun i hi => ?_⟩
    have := hc i hi
    rw [List.getElem?_eq_getElem hi] at this ⊢
    exact k _ _ this
theorem RK.mono (k : RK) (ok : k.okB = true) {base : Nat} {v : Value} {w w' : World} (h : k.holds v w) (hx : Grow base w w') : k.holds v w' := by
  cases k with
  | eq x => exact h
  | sl xs => exact Sl.cellsKept h (fun _ _ => hx.cell)
  | own b xs =>
    have h5 : 5 ≤ xs.length := of_decide_eq_true ok
    obtain ⟨h1, h2⟩ := h
    refine ⟨h1, ?_⟩
    rcases h2 with h2 | ⟨g, cap, cur, hv, hg, hh, hn, hm, hs, ht⟩
    · exact .inl h2
    · refine .inr ⟨g, cap, cur, hv, hg, ?_, hn, hm, hs, ht⟩
      rcases hx.block g _ hh with h3 | ⟨_, C, e, fr, fr', ho, hC, _⟩
      · exact h3
      · simp at ho
        obtain ⟨⟨rfl, _⟩, _⟩ := ho
        omega
  | ls bs =>
    obtain ⟨ls, h1, h2, h3⟩ := h
    exact ⟨ls, h1.cellsKept (fun _ _ => hx.cell), fun p hp => (h2 p hp).cellsKept (fun _ _ => hx.cell), h3⟩
  | lit b xs =>
    obtain ⟨g, fr, hv, hg, hh⟩ := h
    rcases hx.block g _ hh with h3 | ⟨_, C, e, fr0, fr', ho, _, h3⟩
    · exact ⟨g, fr, hv, hg, h3⟩
    · simp at ho
      obtain ⟨rfl, rfl, _⟩ := ho
      exact ⟨g, fr', hv, hg, h3⟩
  | any => trivial
def rel (tab : List RK) (i : Nat) (v : Value) (w : World) : Prop := (tab.getD i .any).holds v w
theorem rel_mono (tab : List RK) (ok : tab.all RK.okB = true) (base : Nat) (i : Nat) (v : Value) (w w' : World) (h : rel tab i v w) (hx : Grow base w w') : rel tab i v w' := by
  refine RK.mono _ ?_ h hx
  by_cases hi : i < tab.length
  · rw [List.getD_eq_getElem?_getD, List.getElem?_eq_getElem hi]
    exact List.all_eq_true.1 ok _ (List.getElem_mem hi)
  · rw [List.getD_eq_getElem?_getD, List.getElem?_eq_none (by omega)]
    rfl
/-- A conversion of a constant's bytes: the row bears a mark, the value goes on. -/
theorem run_convert_mark {P : Program} (w : World) (t e : TypeId) (g : Nat) (C : Array Value) (fr : Nat × Nat) (n c base : Nat) (ht : P.underlying t = some (.slice e)) (he : P.underlying e = some (.int .u8))
    (hg : w.heap[g]? = some (.cells C e fr)) (hb : base ≤ g) (hC : C.size ≤ 4) :
    ∃ w', (convert t t (.slice (some ⟨g, 0, none⟩) n c)).run P w = .ok (.slice (some ⟨g, 0, none⟩) n c) w' ∧ Grow base w w' := by
  have hsh : w.shape? g = some (e, C.size) := by
    unfold World.shape?
    rw [hg]
  refine ⟨w.freeze ⟨g, C.size, none⟩ 1, by simp [convert, run_underlying ht, run_underlying he, markStringish, hsh], ?_⟩
  unfold World.freeze
  rw [if_neg (by decide)]
  refine ⟨rfl, rfl, rfl, by simp, fun k o ho => ?_⟩
  by_cases hk : k = g
  · subst hk
    rw [hg] at ho
    cases ho
    obtain ⟨lo, hi⟩ := fr
    refine .inr ⟨hb, C, e, (lo, hi), (if lo == hi then (C.size, C.size + 1) else (min lo C.size, max hi (C.size + 1))), rfl, hC, ?_⟩
    show (w.heap.modify k _)[k]? = _
    rw [Array.getElem?_modify, if_pos rfl, hg]
    rfl
  · left
    show (w.heap.modify g _)[k]? = _
    rw [Array.getElem?_modify, if_neg (fun h => hk h.symm)]
    exact ho
end Go.Proofs.YtjooacmmgbpkfaaDoor
