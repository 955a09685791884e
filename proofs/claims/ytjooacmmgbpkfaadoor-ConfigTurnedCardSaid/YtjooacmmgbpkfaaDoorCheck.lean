/- config.Check: its contract. No conditions but that errors.errorType's cell is laid. -/
import Derived.Test.YtjooacmmgbpkfaaDoorPointsW
import Derived.Test.YtjooacmmgbpkfaaDoorAs
namespace Go.Proofs.YtjooacmmgbpkfaaDoor
open Go.RowKit

structure Cfg where
  u0 : Nat
  u1 : Nat
  u2 : Nat
  gap : Int
  wait : Int
  tries : Int
  strikes : Int
  queue : Int
  idle : Int
  key : Nat
  pts : List Pt
def Cfg.cells (c : Cfg) (v : Value) : Array Value := #[.int .u8 (c.u0 : Int), .int .u8 (c.u1 : Int), .int .u8 (c.u2 : Int), .int .i64 c.gap, .int .i64 c.wait, .int .i64 c.tries, .int .i64 c.strikes, .int .i64 c.queue, .int .i64 c.idle, .int .u16 (c.key : Int), v]
def Cfg.val (c : Cfg) (v : Value) : Value := .agg (c.cells v)
def Cfg.nums (c : Cfg) : List Spn := [⟨c.gap, 1, 20⟩, ⟨c.wait, 1, 1000⟩, ⟨c.tries, 1, 5⟩, ⟨c.strikes, 1, 20⟩, ⟨c.queue, 1, 8⟩, ⟨c.idle, 1, 65535⟩]
def Cfg.numsOk (c : Cfg) : Bool := !c.nums.any Spn.out
def Cfg.code (c : Cfg) : Int := if inR c.pts.length 1 48 then if inR c.u0 1 247 && inR c.u1 1 247 && inR c.u2 1 247 then if c.numsOk then ptsCode c.pts else 1 else 1 else 4
/-- errors.errorType's cell. -/
def Laid (w : World) : Prop := w.cell? ⟨0, 0, none⟩ = some (.iface 107 (.agg #[.pointer (some ⟨1, 66, none⟩)]))
theorem Laid.ext {w w' : World} (h : Laid w) (k : Ext w w') : Laid w' := k.cell' h
theorem within1 (n low high : Int) (b : Bool) (hb : b = inR n low high) (W : World) (g : Nat) (h : W.heap[g]? = some (.cells #[.int .i64 n, .int .i64 low, .int .i64 high] 62 (0, 0))) :
    Calls Tryd.prog 27 #[.slice (some ⟨g, 0, none⟩) 1 1] W fun e w' => e = .returned (.bool b) ∧ Ext W w' := by
  have h1 := span_Within _ [⟨n, low, high⟩] W (spans_lit (l := [⟨n, low, high⟩]) h rfl (by unfold maxLen; simp))
  have e : (!([⟨n, low, high⟩] : List Spn).any Spn.out) = b := by simp [out_inR, hb]
  rw [e] at h1
  exact h1
theorem cfg_cells {w : World} {g : Nat} {c : Cfg} {v : Value} {t : TypeId} (h : w.heap[g]? = some (.cells (c.cells v) t (0, 0))) :
    w.cell? ⟨g, 0, none⟩ = some (.int .u8 (c.u0 : Int)) ∧ w.cell? ⟨g, 1, none⟩ = some (.int .u8 (c.u1 : Int)) ∧ w.cell? ⟨g, 2, none⟩ = some (.int .u8 (c.u2 : Int)) ∧
    w.cell? ⟨g, 3, none⟩ = some (.int .i64 c.gap) ∧ w.cell? ⟨g, 4, none⟩ = some (.int .i64 c.wait) ∧ w.cell? ⟨g, 5, none⟩ = some (.int .i64 c.tries) ∧ w.cell? ⟨g, 6, none⟩ = some (.int .i64 c.strikes) ∧
    w.cell? ⟨g, 7, none⟩ = some (.int .i64 c.queue) ∧ w.cell? ⟨g, 8, none⟩ = some (.int .i64 c.idle) ∧ w.cell? ⟨g, 9, none⟩ = some (.int .u16 (c.key : Int)) ∧ w.cell? ⟨g, 10, none⟩ = some v ∧ g < w.heap.size :=
  ⟨blk_cell h 0, blk_cell h 1, blk_cell h 2, blk_cell h 3, blk_cell h 4, blk_cell h 5, blk_cell h 6, blk_cell h 7, blk_cell h 8, blk_cell h 9, blk_cell h 10, lt_of_block h⟩
/-- errors.As at a *config.trouble: the target's block gets it, all else is kept. -/
theorem as_hit' (e g : Nat) (w : World) (hg : Laid w) (ht : w.heap[g]? = some (.cells #[.pointer none] 63 (0, 0))) :
    Calls Tryd.prog 28 #[ptrTrouble e, .iface 68 (.pointer (some ⟨g, 0, none⟩))] w fun ev w' => ev = .returned (.bool true) ∧ (Kept (fun k => k = g) w w' ∧ w'.heap[g]? = some (.cells #[.pointer (some ⟨e, 0, none⟩)] 63 (0, 0))) := by
  refine (as_hit ⟨e, 0, none⟩ ⟨g, 0, none⟩ (.pointer none) w hg (blk_cell ht 0) (blk_free ht 0)).mono ?_
  rintro ev w' ⟨rfl, rfl⟩
  refine ⟨rfl, ?_, ?_⟩
  · refine Kept.setCell ((((Kept.refl _ w).alloc _).alloc _).alloc _ |>.alloc _) ?_ _
    exact fun _ => rfl
  · have hk : (((((w.alloc (.cells #[.pointer (some ⟨g, 0, none⟩)] 68)).alloc (.cells #[.pointer (some ⟨1, 68, none⟩), .pointer (some ⟨w.heap.size, 0, none⟩), .int .u64 150] 88)).alloc (.cells #[.pointer (some ⟨1, 68, none⟩), .pointer (some ⟨w.heap.size, 0, none⟩), .int .u64 150] 88)).alloc (.cells #[.pointer (some ⟨e, 0, none⟩)] 63))).heap[g]? = some (.cells #[.pointer none] 63 (0, 0)) :=
      Ext.heap (((((Ext.refl w).alloc _).alloc _).alloc _).alloc _) ht
    exact heap_setCell_same _ g 0 _ _ _ hk
theorem Ext.trans_below {a b c : World} (h : Ext a b) (k : Below a.heap.size b c) : Ext a c := Below.trans h k
theorem as_nil' (t : Value) (w : World) : Calls Tryd.prog 28 #[.nilIface, t] w fun e w' => e = .returned (.bool false) ∧ w = w' := by
  refine (as_nil t w).mono ?_
  rintro e w' ⟨rfl, rfl⟩
  exact ⟨rfl, rfl⟩
theorem unit0 (a b c : Int) (w : World) : (Instr.index 22 (.agg #[.int .u8 a, .int .u8 b, .int .u8 c]) (.int .i64 0)).run Tryd.prog w = .ok (.int .u8 a) w := by kernel_rfl
theorem unit1 (a b c : Int) (w : World) : (Instr.index 22 (.agg #[.int .u8 a, .int .u8 b, .int .u8 c]) (.int .i64 1)).run Tryd.prog w = .ok (.int .u8 b) w := by kernel_rfl
theorem unit2 (a b c : Int) (w : World) : (Instr.index 22 (.agg #[.int .u8 a, .int .u8 b, .int .u8 c]) (.int .i64 2)).run Tryd.prog w = .ok (.int .u8 c) w := by kernel_rfl

set_option maxRecDepth 100000 in
set_option maxHeartbeats 1000000 in
theorem config_Check (c : Cfg) (v : Value) (w : World) (hv : Sz w 5 v c.pts.length (c.pts.flatMap Pt.vals)) (hg : Laid w) (hu : c.u0 < 256 ∧ c.u1 < 256 ∧ c.u2 < 256) :
    Calls Tryd.prog 13 #[c.val v] w fun e w' => e = .returned (.int .i64 c.code) ∧ Ext w w' := by
  have HV := Lib.hid hv
  have HG := Lib.hid hg
  obtain ⟨_, a, cp, rfl, hlc, hcm, _, _⟩ := hv
  have hlen : Hid (0 ≤ (c.pts.length : Int)) := Lib.hid (by omega)
  clear hg
  unfold maxLen at hcm
  obtain ⟨r, hr⟩ : ∃ r, r = c.code := ⟨_, rfl⟩
  rw [← hr]
  unfold Cfg.code at hr
  obtain ⟨b0, h0⟩ : ∃ b, b = inR c.pts.length 1 48 := ⟨_, rfl⟩
  obtain ⟨b1, h1⟩ : ∃ b, b = inR c.u0 1 247 := ⟨_, rfl⟩
  obtain ⟨b2, h2⟩ : ∃ b, b = inR c.u1 1 247 := ⟨_, rfl⟩
  obtain ⟨b3, h3⟩ : ∃ b, b = inR c.u2 1 247 := ⟨_, rfl⟩
  obtain ⟨b4, h4⟩ : ∃ b, b = c.numsOk := ⟨_, rfl⟩
  rw [← h0, ← h1, ← h2, ← h3, ← h4] at hr
  have W0 := Lib.hid (within1 _ _ _ b0 h0)
  have W1 := Lib.hid (within1 _ _ _ b1 h1)
  have W2 := Lib.hid (within1 _ _ _ b2 h2)
  have W3 := Lib.hid (within1 _ _ _ b3 h3)
  have W4 : Hid (∀ (W : World) (g : Nat), W.heap[g]? = some (.cells #[.int .i64 c.gap, .int .i64 1, .int .i64 20, .int .i64 c.wait, .int .i64 1, .int .i64 1000, .int .i64 c.tries, .int .i64 1, .int .i64 5, .int .i64 c.strikes, .int .i64 1, .int .i64 20, .int .i64 c.queue, .int .i64 1, .int .i64 8, .int .i64 c.idle, .int .i64 1, .int .i64 65535] 62 (0, 0)) →
      Calls Tryd.prog 27 #[.slice (some ⟨g, 0, none⟩) 6 6] W fun e w' => e = .returned (.bool b4) ∧ Ext W w') :=
    Lib.hid fun W g h => by
      rw [h4]
      exact span_Within _ c.nums W (spans_lit (l := c.nums) h rfl (by unfold maxLen; simp [Cfg.nums]))
  have HR := Lib.hid hr
  have H0 := Lib.hid h0
  clear hr h0 h1 h2 h3 h4
  obtain ⟨hu0, hu1, hu2⟩ := hu
  have HB0 : Hid (∀ W : World, (W.alloc (.cells (c.cells (.slice a c.pts.length cp)) 26)).heap[W.heap.size]? = some (.cells (c.cells (.slice a c.pts.length cp)) 26 (0, 0))) := Lib.hid fun W => heap_alloc_new _ _
  have hcc := fun (W : World) (h : W.heap[w.heap.size]? = some (.cells (c.cells (.slice a c.pts.length cp)) 26 (0, 0))) => cfg_cells h
  have HCC := Lib.hid hcc
  clear hcc
  obtain ⟨u0, u1, u2, gap, wait, tries, strikes, queue, idle, key, pts⟩ := c
  unfold Cfg.val
  unfold Cfg.cells at HB0 HCC ⊢
  dsimp only at *
  have i0 := unit0
  have i1 := unit1
  have i2 := unit2
  go_enter Tryd.func13, Tryd.ntmps13
  go_wp2_with fail
  refine (W0.out _ _ (new_at (by simp) _ _)).mono ?_
  rintro e w1 ⟨rfl, hx1⟩
  have HX1 := Lib.hid (((Ext.refl w).alloc _).trans (((Ext.refl _).alloc _).trans hx1))
  have HB1 := Lib.hid ((((Ext.refl _).alloc _).trans hx1).heap (HB0.out w))
  clear hx1
  obtain ⟨k0, k1, k2, k3, k4, k5, k6, k7, k8, k9, k10, ksz⟩ := HCC.out _ HB1.out
  cases b0 with
  | false =>
    go_wp2_with fail
    go_ret
    exact ⟨ret_int (by rw [HR.out]; rfl), HX1.out⟩
  | true =>
    go_wp2_with fail
    clear k0 k1 k2 k3 k4 k5 k6 k7 k8 k9 k10
    refine wp_loop_rounds 4 ?_
    rw [rounds_succ]
    go_wp2_with fail
    refine (W1.out _ _ (new_at (by simp) _ _)).mono ?_
    rintro e w2 ⟨rfl, hx⟩
    have HX2 := Lib.hid ((HX1.out.alloc _).trans hx)
    have HB2 := Lib.hid (hx.heap (((Ext.refl _).alloc _).heap HB1.out))
    clear hx
    cases b1
    · go_wp2_with fail
      go_ret
      exact ⟨ret_int (by rw [HR.out]; rfl), HX2.out⟩
    go_wp2_with fail
    rw [rounds_succ]
    go_wp2_with fail
    refine (W2.out _ _ (new_at (by simp) _ _)).mono ?_
    rintro e w3 ⟨rfl, hx⟩
    have HX3 := Lib.hid ((HX2.out.alloc _).trans hx)
    have HB3 := Lib.hid (hx.heap (((Ext.refl _).alloc _).heap HB2.out))
    clear hx
    cases b2
    · go_wp2_with fail
      go_ret
      exact ⟨ret_int (by rw [HR.out]; rfl), HX3.out⟩
    go_wp2_with fail
    rw [rounds_succ]
    go_wp2_with fail
    refine (W3.out _ _ (new_at (by simp) _ _)).mono ?_
    rintro e w4 ⟨rfl, hx⟩
    have HX4 := Lib.hid ((HX3.out.alloc _).trans hx)
    have HB4 := Lib.hid (hx.heap (((Ext.refl _).alloc _).heap HB3.out))
    clear hx
    cases b3
    · go_wp2_with fail
      go_ret
      exact ⟨ret_int (by rw [HR.out]; rfl), HX4.out⟩
    go_wp2_with fail
    rw [rounds_succ]
    obtain ⟨k0, k1, k2, k3, k4, k5, k6, k7, k8, k9, k10, ksz4⟩ := HCC.out _ HB4.out
    go_wp2_with fail
    refine (W4.out _ _ (new_at (by simp) _ _)).mono ?_
    rintro e w5 ⟨rfl, hx⟩
    have HX5 := Lib.hid ((HX4.out.alloc _).trans hx)
    have HB5 := Lib.hid (hx.heap (((Ext.refl _).alloc _).heap HB4.out))
    clear hx
    cases b4
    · go_wp2_with fail
      go_ret
      exact ⟨ret_int (by rw [HR.out]; rfl), HX5.out⟩
    clear k0 k1 k2 k3 k4 k5 k6 k7 k8 k9 k10
    obtain ⟨k0, k1, k2, k3, k4, k5, k6, k7, k8, k9, k10, ksz5⟩ := HCC.out _ HB5.out
    have hl48 : pts.length ≤ 48 := by
      have := H0.out
      unfold inR at this
      simp at this
      omega
    have hp := fun (W : World) (h : Ext w W) => config_points (.slice a pts.length cp) pts W (HV.out.ext h) hl48
    have HP := Lib.hid hp
    clear hp
    go_wp2_with fail
    refine (HP.out _ (HX5.out.alloc _)).mono ?_
    rintro e w6 ⟨rv, rfl, ht, hx⟩
    have HT : Hid (w6.heap[w5.heap.size]? = some (.cells #[.pointer none] 63 (0, 0))) := Lib.hid (hx.heap (heap_alloc_new _ _))
    have HX6 := Lib.hid ((HX5.out.alloc _).trans hx)
    obtain ⟨code, hcode⟩ : ∃ n, n = ptsCode pts := ⟨_, rfl⟩
    rw [← hcode] at ht
    have HCode := Lib.hid hcode
    clear hx hcode
    by_cases hc : code = 0
    · have hrv := ht.1 hc
      subst hrv
      have HC0 := Lib.hid hc
      clear ht hc
      go_wp2_with fail
      refine (as_nil' _ _).mono ?_
      rintro e w7 ⟨rfl, rfl⟩
      go_wp2_with fail
      go_ret
      exact ⟨ret_int (by rw [HR.out]; simp [← HCode.out, HC0.out]), HX6.out⟩
    · obtain ⟨g, i, hrv, hge, hgb⟩ := ht.2 hc
      subst hrv
      have hne : ¬ g = w5.heap.size := by simp at hge; omega
      have HGB := Lib.hid hgb
      have HNE := Lib.hid hne
      clear ht hc hge hgb hne
      have HAs := Lib.hid (as_hit' g w5.heap.size w6 (HG.out.ext HX6.out) HT.out)
      unfold ptrTrouble at HAs ⊢
      go_wp2_with fail
      refine HAs.out.mono ?_
      rintro e w7 ⟨rfl, hk, hb⟩
      have c0 := blk_cell hb 0
      have hg7 := hk.heap HGB.out HNE.out
      have c1 := blk_cell hg7 1
      simp at c0 c1
      have hz5 : w.heap.size ≤ w5.heap.size := HX5.out.size
      have HK := Lib.hid (hk.below (B := w.heap.size) HX6.out.size (fun j hj e => by omega))
      clear hk hb hg7
      go_wp2_with fail
      go_ret
      exact ⟨ret_int (by rw [HR.out]; simp [← HCode.out]), HX6.out.trans_below HK.out⟩
end Go.Proofs.YtjooacmmgbpkfaaDoor
