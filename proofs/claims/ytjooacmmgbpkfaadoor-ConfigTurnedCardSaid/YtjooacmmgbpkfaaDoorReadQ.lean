/- triuneref09.number's contract; what triuneref09.Read's walk keeps. -/
import Derived.Test.YtjooacmmgbpkfaaDoorCfgRead2
import Derived.Test.YtjooacmmgbpkfaaDoorRefCheck
namespace Go.Proofs.YtjooacmmgbpkfaaDoor
open Go.RowKit

set_option maxRecDepth 100000 in
theorem ref_number (v : Value) (x : List Nat) (at_ : Nat) (w : World) (hl : Sl w v (by8 x)) (hb : Bytes x) (hk : at_ + 1 < x.length) :
    Calls Tryd.prog 25 #[v, .int .i64 (at_ : Int)] w fun e w' => e = .returned (.int .i64 ((256 * x.getD at_ 0 + x.getD (at_ + 1) 0 : Nat) : Int)) ∧ (Ext w w' ∧ w'.heap.size = w.heap.size) := by
  obtain ⟨a, c, rfl, hlc, hcm, _, hcell⟩ := hl.bytes
  unfold maxLen at hcm
  obtain ⟨b, off, rfl, _, h0⟩ := hcell at_ (by omega)
  obtain ⟨b', off', e, _, h1⟩ := hcell (at_ + 1) hk
  simp at e
  obtain ⟨rfl, rfl⟩ := e
  have hp := hb.at_ at_
  have hq := hb.at_ (at_ + 1)
  obtain ⟨p, hp'⟩ : ∃ p, p = x.getD at_ 0 := ⟨_, rfl⟩
  obtain ⟨q, hq'⟩ : ∃ q, q = x.getD (at_ + 1) 0 := ⟨_, rfl⟩
  rw [← hp'] at h0 hp ⊢
  rw [← hq'] at h1 hq ⊢
  obtain ⟨n, hn⟩ : ∃ n, n = x.length := ⟨_, rfl⟩
  rw [← hn] at hlc hk ⊢
  have h1' : w.cell? ⟨b, off + at_ + 1, none⟩ = some (.int .u8 (q : Int)) := h1
  clear hcell hl hb hp' hq' hn
  have b0 : (0 : Int) ≤ (at_ : Int) := by omega
  have b1 : (at_ : Int) < (n : Int) := by omega
  have b2 : (at_ : Int) + 1 < (n : Int) := by omega
  have b3 : (0 : Int) ≤ (at_ : Int) + 1 := by omega
  have b4 : IntKind.i64.wrap ((at_ : Int) + 1) = (at_ : Int) + 1 := by rw [IntKind.wrap_i64]; omega
  have b5 : ((at_ : Int) + 1).toNat = at_ + 1 := by omega
  go_enter Tryd.func25, Tryd.ntmps25
  go_wp2_with fail
  go_quiet (fail)
  clear b4 b5
  go_wp2_with fail
  go_ret
  exact ⟨ret_int (by omega), Ext.ofDrewN _ _, rfl⟩

/-- The world while triuneref09.Read reads: its configuration at gc. -/
structure RQ (w : World) (gc : Nat) (cs : Array Value) (W : World) : Prop where
  ext : Ext w W
  res : W.heap[w.heap.size]? = some (.cells zeroCfg 33 (0, 0))
  cfg : W.heap[gc]? = some (.cells cs 33 (0, 0))
  lt : w.heap.size < gc
theorem RQ.set {w : World} {gc : Nat} {cs : Array Value} {W : World} (h : RQ w gc cs W) (j : Nat) (v : Value) : RQ w gc (cs.setIfInBounds j v) (W.setCell ⟨gc, j, none⟩ v) :=
  ⟨h.ext.trans_kept (kept_set W gc j v) (fun i hi => by subst hi; have := h.lt; omega), (kept_set W gc j v).heap h.res (fun e => by have := h.lt; omega), heap_setCell_same _ gc j _ _ v h.cfg, h.lt⟩
theorem RQ.more {w : World} {gc : Nat} {cs : Array Value} {W W' : World} (h : RQ w gc cs W) (hx : Ext W W') : RQ w gc cs W' :=
  ⟨h.ext.trans hx, hx.heap h.res, hx.heap h.cfg, h.lt⟩
theorem RQ.grow {w : World} {gc : Nat} {cs : Array Value} {W W' : World} (h : RQ w gc cs W) (hk : Kept (fun j => gc < j) W W') : RQ w gc cs W' :=
  ⟨h.ext.trans_kept hk (fun j hj => by have := h.lt; omega), hk.heap h.res (fun e => by have := h.lt; omega), hk.heap h.cfg (fun e => Nat.lt_irrefl _ e), h.lt⟩
/-- The world while region 11 reads a point. -/
def SQ (w : World) (gc : Nat) (f : Value → Array Value) (vp : Value) (k : Nat) (xs ys : List Value) (ap st : Nat) (L : Nat → Bool) (W : World) : Prop :=
  ∃ cs, RQ w gc cs W ∧ (L st = false → cs = f vp) ∧ (L ap = false → W.ownsRow (gc + 1) 47 5 vp k xs) ∧ (L st = true → ∃ v', cs = f v' ∧ W.ownsRow (gc + 1) 47 5 v' (k + 1) ys)
section
variable {w : World} {gc : Nat} {f : Value → Array Value} {vp : Value} {k : Nat} {xs ys : List Value} {ap st : Nat} {L : Nat → Bool} {W W' : World}
theorem SQ.ext (h : SQ w gc f vp k xs ys ap st L W) (hx : Ext W W') (i : Nat) (h1 : (ap == i) = false) (h2 : (st == i) = false) : SQ w gc f vp k xs ys ap st (also L i) W' := by
  obtain ⟨cs, hr, h3, h4, h5⟩ := h
  refine ⟨cs, hr.more hx, fun hL => h3 (by simpa [h2] using hL), fun hL => own_ext (h4 (by simpa [h1] using hL)) hx, fun hL => ?_⟩
  obtain ⟨v', e, ho⟩ := h5 (by simpa [h2] using hL)
  exact ⟨v', e, own_ext ho hx⟩
theorem SQ.stored {v' : Value} (h : SQ w gc f vp k xs ys ap st L W) (hst : L st = false) (hap : L ap = true) (hne : (ap == st) = false) (ho : W.ownsRow (gc + 1) 47 5 v' (k + 1) ys) (j : Nat) (hf : (f vp).setIfInBounds j v' = f v') :
    SQ w gc f vp k xs ys ap st (also L st) (W.setCell ⟨gc, j, none⟩ v') := by
  obtain ⟨cs, hr, h3, _, _⟩ := h
  have e := h3 hst
  subst e
  refine ⟨f v', ?_, fun hL => ?_, fun hL => ?_, fun _ => ⟨v', rfl, own_set ho gc j v' (by omega)⟩⟩
  · rw [← hf]
    exact hr.set j v'
  · simp at hL
  · simp [hne, hap] at hL
theorem SQ.grown (h : SQ w gc f vp k xs ys ap st L W) (hg : W.grownBy W' vp.ownBlock) (hap : L ap = false) (hst : L st = false) (hne : (st == ap) = false) : SQ w gc f vp k xs ys ap st (also L ap) W' := by
  obtain ⟨cs, hr, h3, h4, _⟩ := h
  have hk := kept_grown hg (h4 hap) (Nat.lt_succ_self gc)
  refine ⟨cs, hr.grow hk, fun _ => h3 hst, fun hL => ?_, fun hL => ?_⟩
  · simp at hL
  · simp [hne, hst] at hL
/-- The world while region 6 lays the configuration, by operations al (a new one) and st (its numbers). -/
def SA (w1 : World) (cs : Array Value) (al st : Nat) (L : Nat → Bool) (W : World) : Prop :=
  Ext w1 W ∧ (L al = false → W.heap.size = w1.heap.size) ∧ (L al = true → L st = false → W.heap[w1.heap.size]? = some (.cells zeroCfg 33 (0, 0))) ∧ (L st = true → W.heap[w1.heap.size]? = some (.cells cs 33 (0, 0)))
theorem SA.ext {w1 : World} {cs : Array Value} {al : Nat} (h : SA w1 cs al st L W) (hx : Ext W W') (hz : W'.heap.size = W.heap.size) (i : Nat) (h1 : (al == i) = false) (h2 : (st == i) = false) : SA w1 cs al st (also L i) W' := by
  obtain ⟨h3, h4, h5, h6⟩ := h
  exact ⟨h3.trans hx, fun hL => hz.trans (h4 (by simpa [h1] using hL)), fun hL hL' => hx.heap (h5 (by simpa [h1] using hL) (by simpa [h2] using hL')), fun hL => hx.heap (h6 (by simpa [h2] using hL))⟩
end
end Go.Proofs.YtjooacmmgbpkfaaDoor
