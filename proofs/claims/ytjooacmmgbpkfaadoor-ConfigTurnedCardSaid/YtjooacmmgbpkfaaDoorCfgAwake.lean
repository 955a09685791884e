/- triunelaw09.awake: it returns true. Condition: errors.errorType's cell is laid. -/
import Derived.Test.YtjooacmmgbpkfaaDoorCfgAll
namespace Go.Proofs.YtjooacmmgbpkfaaDoor
open Go.RowKit

theorem CfgIn.shape {w : World} {c : Cfg} {v : Value} (h : CfgIn w c v) : ∃ a cp, v = .slice a c.pts.length cp := by
  obtain ⟨⟨_, a, cp, rfl, _⟩, _⟩ := h
  exact ⟨a, cp, rfl⟩
theorem Sl.shape8 {w : World} {v : Value} {l : List Nat} (h : Sl w v (by8 l)) : ∃ a c, v = .slice a l.length c := by
  obtain ⟨a, c, rfl, _⟩ := h
  exact ⟨a, c, by rw [by8_length]⟩

set_option maxRecDepth 100000 in
set_option maxHeartbeats 1000000 in
theorem awake_true (w : World) (hg : Laid w) : Calls Tryd.prog 6 #[] w fun e w' => e = .returned (.bool true) ∧ Ext w w' := by
  have HG := Lib.hid hg
  clear hg
  have HIn : Hid (∀ (W : World) (g : Nat), W.heap[g]? = some (.cells #[.int .i64 2, .int .i64 1, .int .i64 2, .int .i64 0, .int .i64 1] 47 (0, 0)) → CfgIn W cfg0 (.slice (some ⟨g, 0, none⟩) 1 1)) := Lib.hid fun W g h =>
    ⟨Sz.lit (cs := [.int .i64 2, .int .i64 1, .int .i64 2, .int .i64 0, .int .i64 1]) h rfl (by unfold maxLen; omega), by simp [cfg0], by simp [cfg0]⟩
  have HBytes : Hid (∀ (W : World) (v : Value), CfgIn W cfg0 v → Laid W → Calls Tryd.prog 7 #[.agg #[.int .u8 1, .int .u8 2, .int .u8 3, .int .i64 1, .int .i64 5, .int .i64 2, .int .i64 3, .int .i64 4, .int .i64 100, .int .u16 7, v]] W fun e w' => ∃ a c, e = .returned (.tuple #[.slice a 29 c, .int .i64 0]) ∧ Hid (Sl w' (.slice a 29 c) (by8 (image cfg0)) ∧ Ext W w')) := Lib.hid fun W v h1 h2 => by
    refine (config_Bytes_all cfg0 v W h1 h2).mono ?_
    rintro e w' ⟨v', rfl, ho, hx⟩
    have hs := Sl.own8 ho
    obtain ⟨a, c, rfl⟩ := hs.shape8
    rw [cfg0_len, cfg0_code] at *
    exact ⟨a, c, rfl, Lib.hid ⟨hs, hx⟩⟩
  have HRead : Hid (∀ (W : World) (v : Value), Sl W v (by8 (image cfg0)) → Laid W → Calls Tryd.prog 9 #[v] W fun e w' => ∃ a c, e = .returned (.tuple #[.agg #[.int .u8 1, .int .u8 2, .int .u8 3, .int .i64 1, .int .i64 5, .int .i64 2, .int .i64 3, .int .i64 4, .int .i64 100, .int .u16 7, .slice a 1 c], .int .i64 0]) ∧ Hid (CfgIn w' cfg0 (.slice a 1 c) ∧ Ext W w')) := Lib.hid fun W v h1 h2 => by
    refine (config_Read_all v (image cfg0) W h1 (image_bytes (by simp [cfg0]) (by simp [cfg0])).1 (by rw [cfg0_len]; omega) h2).mono ?_
    rintro e w' ⟨v', rfl, hc, hx⟩
    rw [cfg0_read.2] at hc
    obtain ⟨a, c, rfl⟩ := hc.shape
    rw [cfg0_read.1, cfg0_read.2]
    exact ⟨a, c, rfl, Lib.hid ⟨hc, hx⟩⟩
  have HRead3 : Hid (∀ (W : World) (g : Nat), W.heap[g]? = some (.cells #[.int .u8 1, .int .u8 2, .int .u8 3] 5 (0, 0)) → Laid W → Calls Tryd.prog 9 #[.slice (some ⟨g, 0, none⟩) 3 3] W fun e w' => ∃ a c, e = .returned (.tuple #[.agg #[.int .u8 0, .int .u8 0, .int .u8 0, .int .i64 0, .int .i64 0, .int .i64 0, .int .i64 0, .int .i64 0, .int .i64 0, .int .u16 0, .slice a 0 c], .int .i64 6]) ∧ Ext W w') := Lib.hid fun W g h1 h2 => by
    refine (config_Read_all _ [1, 2, 3] W (Sl.lit (cs := by8 [1, 2, 3]) h1 (by unfold maxLen; simp [by8])) (by intro c hc; simp at hc; omega) (by simp) h2).mono ?_
    rintro e w' ⟨v', rfl, hc, hx⟩
    have e1 : readCfg [1, 2, 3] = zeroC := readCfg_no (by rw [short_read]; decide)
    rw [e1] at hc
    obtain ⟨a, c, rfl⟩ := hc.shape
    rw [e1, short_read]
    exact ⟨a, c, rfl, hx⟩
  have HCheck : Hid (∀ (W : World) (v : Value), CfgIn W cfg0 v → Laid W → Calls Tryd.prog 13 #[.agg #[.int .u8 1, .int .u8 2, .int .u8 3, .int .i64 1, .int .i64 5, .int .i64 2, .int .i64 3, .int .i64 4, .int .i64 100, .int .u16 7, v]] W fun e w' => e = .returned (.int .i64 0) ∧ Ext W w') := Lib.hid fun W v h1 h2 => by
    have h := config_Check cfg0 v W h1.1 h2 h1.2.1
    rw [cfg0_code] at h
    exact h
  have HCheck0 : Hid (∀ (W : World), Laid W → Calls Tryd.prog 13 #[.agg #[.int .u8 0, .int .u8 0, .int .u8 0, .int .i64 0, .int .i64 0, .int .i64 0, .int .i64 0, .int .i64 0, .int .i64 0, .int .u16 0, .slice none 0 0]] W fun e w' => e = .returned (.int .i64 4) ∧ Ext W w') := Lib.hid fun W h2 => by
    have h := config_Check zeroC (.slice none 0 0) W (zero_in W).1 h2 (zero_in W).2.1
    rw [zero_code] at h
    exact h
  have HSame : Hid (∀ (W : World) (v v' : Value), CfgIn W cfg0 v → CfgIn W cfg0 v' → Calls Tryd.prog 15 #[.agg #[.int .u8 1, .int .u8 2, .int .u8 3, .int .i64 1, .int .i64 5, .int .i64 2, .int .i64 3, .int .i64 4, .int .i64 100, .int .u16 7, v], .agg #[.int .u8 1, .int .u8 2, .int .u8 3, .int .i64 1, .int .i64 5, .int .i64 2, .int .i64 3, .int .i64 4, .int .i64 100, .int .u16 7, v']] W fun e w' => e = .returned (.bool true) ∧ Ext W w') := Lib.hid fun W v v' h1 h2 =>
    config_Same cfg0 cfg0 v v' W h1.1 h2.1 h1.2.2 h2.2.2 true (by simp)
  have hcells : Hid (∀ (W : World) (g : Nat) (v : Value), W.heap[g]? = some (.cells #[.int .u8 1, .int .u8 2, .int .u8 3, .int .i64 1, .int .i64 5, .int .i64 2, .int .i64 3, .int .i64 4, .int .i64 100, .int .u16 7, v] 26 (0, 0)) →
      W.cell? ⟨g, 0, none⟩ = some (.int .u8 1) ∧ W.cell? ⟨g, 1, none⟩ = some (.int .u8 2) ∧ W.cell? ⟨g, 2, none⟩ = some (.int .u8 3) ∧ W.cell? ⟨g, 3, none⟩ = some (.int .i64 1) ∧ W.cell? ⟨g, 4, none⟩ = some (.int .i64 5) ∧ W.cell? ⟨g, 5, none⟩ = some (.int .i64 2) ∧ W.cell? ⟨g, 6, none⟩ = some (.int .i64 3) ∧ W.cell? ⟨g, 7, none⟩ = some (.int .i64 4) ∧ W.cell? ⟨g, 8, none⟩ = some (.int .i64 100) ∧ W.cell? ⟨g, 9, none⟩ = some (.int .u16 7) ∧ W.cell? ⟨g, 10, none⟩ = some v ∧ g < W.heap.size) := Lib.hid fun W g v h =>
    ⟨blk_cell h 0, blk_cell h 1, blk_cell h 2, blk_cell h 3, blk_cell h 4, blk_cell h 5, blk_cell h 6, blk_cell h 7, blk_cell h 8, blk_cell h 9, blk_cell h 10, lt_of_block h⟩
  go_enter Tryd.func6, Tryd.ntmps6
  go_wp2_with fail
  refine (HBytes.out _ _ (HIn.out _ w.heap.size (Ext.heap ((Ext.refl _).alloc _) (heap_alloc_new _ _))) (HG.out.ext (((Ext.refl _).alloc _).alloc _))).mono ?_
  rintro e w1 ⟨a1, c1, rfl, H1⟩
  have HP1 : Hid (w1.heap[w.heap.size]? = some (.cells #[.int .i64 2, .int .i64 1, .int .i64 2, .int .i64 0, .int .i64 1] 47 (0, 0)) ∧ w1.heap[w.heap.size + 1]? = some (.cells #[.int .u8 1, .int .u8 2, .int .u8 3, .int .i64 1, .int .i64 5, .int .i64 2, .int .i64 3, .int .i64 4, .int .i64 100, .int .u16 7, .slice (some ⟨w.heap.size, 0, none⟩) 1 1] 26 (0, 0))) := Lib.hid ⟨H1.out.2.heap (Ext.heap ((Ext.refl _).alloc _) (heap_alloc_new _ _)), H1.out.2.heap (new_at (by simp) _ _)⟩
  have HX1 := Lib.hid ((((Ext.refl w).alloc _).alloc _).trans H1.out.2)
  go_wp2_with fail
  refine (HRead.out _ _ H1.out.1 (HG.out.ext HX1.out)).mono ?_
  rintro e w2 ⟨a2, c2, rfl, H2⟩
  have HX2 := Lib.hid (HX1.out.trans H2.out.2)
  go_wp2_with fail
  refine (HRead3.out _ _ (new_at (by simp) _ _) (HG.out.ext ((HX2.out.alloc _).alloc _))).mono ?_
  rintro e w3 ⟨a3, c3, rfl, hx3⟩
  have HX3 := Lib.hid ((((Ext.refl w2).alloc _).alloc _).trans hx3)
  have HB3 : Hid (w3.heap[w2.heap.size]? = some (.cells #[.int .u8 1, .int .u8 2, .int .u8 3, .int .i64 1, .int .i64 5, .int .i64 2, .int .i64 3, .int .i64 4, .int .i64 100, .int .u16 7, .slice a2 1 c2] 26 (0, 0))) := Lib.hid (hx3.heap (Ext.heap ((Ext.refl _).alloc _) (heap_alloc_new _ _)))
  have HA3 : Hid (w3.heap[w.heap.size + 1]? = some (.cells #[.int .u8 1, .int .u8 2, .int .u8 3, .int .i64 1, .int .i64 5, .int .i64 2, .int .i64 3, .int .i64 4, .int .i64 100, .int .u16 7, .slice (some ⟨w.heap.size, 0, none⟩) 1 1] 26 (0, 0))) := Lib.hid ((H2.out.2.trans HX3.out).heap HP1.out.2)
  have HI3 := Lib.hid ((HIn.out w1 w.heap.size HP1.out.1).ext (H2.out.2.trans HX3.out))
  have HJ3 := Lib.hid (H2.out.1.ext HX3.out)
  clear hx3
  obtain ⟨k0, k1, k2, k3, k4, k5, k6, k7, k8, k9, k10, ksz⟩ := hcells.out _ _ _ HA3.out
  go_wp2_with fail
  refine (HCheck.out _ _ (HI3.out.ext ((Ext.refl _).alloc _)) (HG.out.ext ((HX2.out.trans HX3.out).alloc _))).mono ?_
  rintro e w4 ⟨rfl, hx4⟩
  have HX4 := Lib.hid (((Ext.refl w3).alloc _).trans hx4)
  clear hx4 k0 k1 k2 k3 k4 k5 k6 k7 k8 k9 k10 ksz
  obtain ⟨k0, k1, k2, k3, k4, k5, k6, k7, k8, k9, k10, ksz⟩ := hcells.out _ _ _ (HX4.out.heap HA3.out)
  obtain ⟨m0, m1, m2, m3, m4, m5, m6, m7, m8, m9, m10, msz⟩ := hcells.out _ _ _ (HX4.out.heap HB3.out)
  go_wp2_with fail
  refine (HSame.out _ _ _ (HI3.out.ext HX4.out) (HJ3.out.ext HX4.out)).mono ?_
  rintro e w5 ⟨rfl, hx5⟩
  have HX5 := Lib.hid ((HX2.out.trans HX3.out).trans (HX4.out.trans hx5))
  clear hx5
  go_wp2_with fail
  refine (HCheck0.out _ (HG.out.ext HX5.out)).mono ?_
  rintro e w6 ⟨rfl, hx6⟩
  go_wp2_with fail
  go_ret
  exact ⟨rfl, HX5.out.trans hx6⟩
end Go.Proofs.YtjooacmmgbpkfaaDoor
