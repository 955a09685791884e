/- triunelaw09.ConfigBack: it returns true. Condition: errors.errorType's cell is laid. -/
import Derived.Test.YtjooacmmgbpkfaaDoorTells
namespace Go.Proofs.YtjooacmmgbpkfaaDoor
open Go.RowKit

set_option maxRecDepth 100000 in
set_option maxHeartbeats 2000000 in
theorem back_true (c : Cfg) (vc vb : Value) (l : List Nat) (w : World) (hc : CfgIn w c vc) (hl : Sl w vb (by8 l)) (hb : Bytes l) (hg : Laid w) :
    Calls Tryd.prog 4 #[c.val vc, vb] w fun e w' => e = .returned (.bool true) ∧ Ext w w' := by
  have HG := Lib.hid hg
  have HAw := Lib.hid awake_true
  obtain ⟨a0, p0, rfl⟩ := hc.shape
  obtain ⟨a2, p2, rfl⟩ := hl.shape8
  obtain ⟨n0, hn0⟩ : ∃ m, m = c.pts.length := ⟨_, rfl⟩
  obtain ⟨n2, hn2⟩ : ∃ m, m = l.length := ⟨_, rfl⟩
  rw [← hn0] at hc ⊢
  rw [← hn2] at hl ⊢
  have HC := Lib.hid hc
  have HL := Lib.hid hl
  have HB := Lib.hid hb
  have HN2 := Lib.hid hn2
  have HN0 := Lib.hid hn0
  clear hg hc hl hb hn0 hn2
  unfold Cfg.val Cfg.cells
  have HCells := Lib.hid (fun (w : World) (g : Nat) (x0 x1 x2 x3 x4 x5 x6 x7 x8 x9 x10 : Value) (t : TypeId) => @blk11 w g x0 x1 x2 x3 x4 x5 x6 x7 x8 x9 x10 t)
  have HB0 : Hid (∀ W : World, Ext (w.alloc (.cells #[.int .u8 (c.u0 : Int), .int .u8 (c.u1 : Int), .int .u8 (c.u2 : Int), .int .i64 c.gap, .int .i64 c.wait, .int .i64 c.tries, .int .i64 c.strikes, .int .i64 c.queue, .int .i64 c.idle, .int .u16 (c.key : Int), (.slice a0 n0 p0)] 26)) W → W.heap[w.heap.size]? = some (.cells #[.int .u8 (c.u0 : Int), .int .u8 (c.u1 : Int), .int .u8 (c.u2 : Int), .int .i64 c.gap, .int .i64 c.wait, .int .i64 c.tries, .int .i64 c.strikes, .int .i64 c.queue, .int .i64 c.idle, .int .u16 (c.key : Int), (.slice a0 n0 p0)] 26 (0, 0))) := Lib.hid fun W h => h.heap (heap_alloc_new _ _)
  by_cases h0 : 100 < n0
  · go_enter Tryd.func4, Tryd.ntmps4
    go_wp2_with fail
    refine (HAw.out _ (HG.out.ext ((Ext.refl _).alloc _))).mono ?_
    rintro e w1 ⟨rfl, hx1⟩
    have HX1 := Lib.hid (((Ext.refl w).alloc _).trans hx1)
    obtain ⟨k0, k1, k2, k3, k4, k5, k6, k7, k8, k9, k10, ksz⟩ := HCells.out _ _ _ _ _ _ _ _ _ _ _ _ _ _ (HB0.out _ hx1)
    clear hx1
    go_wp2_with fail
    go_ret
    exact ⟨rfl, HX1.out⟩
  by_cases h2 : 3000 < n2
  · go_enter Tryd.func4, Tryd.ntmps4
    go_wp2_with fail
    refine (HAw.out _ (HG.out.ext ((Ext.refl _).alloc _))).mono ?_
    rintro e w1 ⟨rfl, hx1⟩
    have HX1 := Lib.hid (((Ext.refl w).alloc _).trans hx1)
    obtain ⟨k0, k1, k2, k3, k4, k5, k6, k7, k8, k9, k10, ksz⟩ := HCells.out _ _ _ _ _ _ _ _ _ _ _ _ _ _ (HB0.out _ hx1)
    clear hx1
    go_wp2_with fail
    go_ret
    exact ⟨rfl, HX1.out⟩
  obtain ⟨cc, hcc⟩ : ∃ x, x = c.code := ⟨_, rfl⟩
  obtain ⟨ic, hic⟩ : ∃ x, x = image c := ⟨_, rfl⟩
  obtain ⟨ni, hni⟩ : ∃ x, x = ic.length := ⟨_, rfl⟩
  obtain ⟨rc, hrc⟩ : ∃ x, x = readCode l := ⟨_, rfl⟩
  obtain ⟨r, hr⟩ : ∃ x, x = readCfg l := ⟨_, rfl⟩
  obtain ⟨nr, hnr⟩ : ∃ x, x = r.pts.length := ⟨_, rfl⟩
  have HImg : Hid (Bytes ic ∧ ic.length ≤ 3000 ∧ (cc = 0 → ni = 20 + 9 * n0)) := Lib.hid (by
    have h := image_bytes HC.out.2.1 HC.out.2.2
    rw [← hic, ← hcc] at h
    exact ⟨h.1, h.2.1, fun h9 => by rw [hni, h.2.2 h9, HN0.out]⟩)
  have HBytes : Hid (∀ W : World, Ext w W → Calls Tryd.prog 7 #[.agg #[.int .u8 (c.u0 : Int), .int .u8 (c.u1 : Int), .int .u8 (c.u2 : Int), .int .i64 c.gap, .int .i64 c.wait, .int .i64 c.tries, .int .i64 c.strikes, .int .i64 c.queue, .int .i64 c.idle, .int .u16 (c.key : Int), (.slice a0 n0 p0)]] W fun e w' => ∃ a q, e = .returned (.tuple #[.slice a ni q, .int .i64 cc]) ∧ Hid (Sl w' (.slice a ni q) (by8 ic) ∧ Ext W w')) := Lib.hid fun W h => by
    refine (config_Bytes_all c _ W (HC.out.ext h) (HG.out.ext h)).mono ?_
    rintro e w' ⟨v', rfl, ho, hx⟩
    rw [← hic] at ho
    have hs := Sl.own8 ho
    obtain ⟨a, q, rfl⟩ := hs.shape8
    exact ⟨a, q, by rw [hcc, hni], Lib.hid ⟨by rw [hni]; exact hs, hx⟩⟩
  have HCk : Hid (∀ W : World, Ext w W → Calls Tryd.prog 13 #[.agg #[.int .u8 (c.u0 : Int), .int .u8 (c.u1 : Int), .int .u8 (c.u2 : Int), .int .i64 c.gap, .int .i64 c.wait, .int .i64 c.tries, .int .i64 c.strikes, .int .i64 c.queue, .int .i64 c.idle, .int .u16 (c.key : Int), (.slice a0 n0 p0)]] W fun e w' => e = .returned (.int .i64 cc) ∧ Ext W w') := Lib.hid fun W h => by
    rw [hcc]
    exact config_Check c _ W (HC.out.ext h).1 (HG.out.ext h) HC.out.2.1
  have HReadP : Hid (∀ (W : World) (v : Value), cc = 0 → Ext w W → Sl W v (by8 ic) → Calls Tryd.prog 9 #[v] W fun e w' => ∃ a q, e = .returned (.tuple #[.agg #[.int .u8 (c.u0 : Int), .int .u8 (c.u1 : Int), .int .u8 (c.u2 : Int), .int .i64 c.gap, .int .i64 c.wait, .int .i64 c.tries, .int .i64 c.strikes, .int .i64 c.queue, .int .i64 c.idle, .int .u16 (c.key : Int), (.slice a n0 q)], .int .i64 0]) ∧ Hid (CfgIn w' c (.slice a n0 q) ∧ Ext W w')) := Lib.hid fun W v h0 h hs => by
    refine (config_Read_all v ic W hs HImg.out.1 HImg.out.2.1 (HG.out.ext h)).mono ?_
    rintro e w' ⟨v', rfl, hc, hx⟩
    obtain ⟨n, e, hsm⟩ := code_zero (hcc.symm.trans h0) HC.out.2.2 HC.out.2.1
    have hri : readCode ic = 0 ∧ readCfg ic = c := by
      rw [hic, e]
      exact read_image (by rw [← e, ← hcc]; exact h0) hsm
    rw [hri.2] at hc
    obtain ⟨a, q, rfl⟩ := hc.shape
    rw [← HN0.out] at hc
    exact ⟨a, q, by rw [hri.1, hri.2, ← HN0.out]; rfl, Lib.hid ⟨hc, hx⟩⟩
  have HSm : Hid (∀ (W : World) (a : Option Addr) (q : Nat), Ext w W → CfgIn W c (.slice a n0 q) → Calls Tryd.prog 15 #[.agg #[.int .u8 (c.u0 : Int), .int .u8 (c.u1 : Int), .int .u8 (c.u2 : Int), .int .i64 c.gap, .int .i64 c.wait, .int .i64 c.tries, .int .i64 c.strikes, .int .i64 c.queue, .int .i64 c.idle, .int .u16 (c.key : Int), (.slice a0 n0 p0)], .agg #[.int .u8 (c.u0 : Int), .int .u8 (c.u1 : Int), .int .u8 (c.u2 : Int), .int .i64 c.gap, .int .i64 c.wait, .int .i64 c.tries, .int .i64 c.strikes, .int .i64 c.queue, .int .i64 c.idle, .int .u16 (c.key : Int), (.slice a n0 q)]] W fun e w' => e = .returned (.bool true) ∧ Ext W w') := Lib.hid fun W a q h h' =>
    config_Same c c _ _ W (HC.out.ext h).1 h'.1 HC.out.2.2 HC.out.2.2 true (by simp)
  have HRead : Hid (∀ W : World, Ext w W → Calls Tryd.prog 9 #[.slice a2 n2 p2] W fun e w' => ∃ a q, e = .returned (.tuple #[.agg #[.int .u8 (r.u0 : Int), .int .u8 (r.u1 : Int), .int .u8 (r.u2 : Int), .int .i64 r.gap, .int .i64 r.wait, .int .i64 r.tries, .int .i64 r.strikes, .int .i64 r.queue, .int .i64 r.idle, .int .u16 (r.key : Int), (.slice a nr q)], .int .i64 rc]) ∧ Hid (CfgIn w' r (.slice a nr q) ∧ Ext W w')) := Lib.hid fun W h => by
    refine (config_Read_all _ l W (HL.out.ext h) HB.out (by rw [← HN2.out]; omega) (HG.out.ext h)).mono ?_
    rintro e w' ⟨v', rfl, hc, hx⟩
    rw [← hr] at hc
    obtain ⟨a, q, rfl⟩ := hc.shape
    rw [← hnr] at hc
    exact ⟨a, q, by rw [← hr, ← hrc, ← hnr]; rfl, Lib.hid ⟨hc, hx⟩⟩
  have HZero : Hid (rc ≠ 0 → nr = 0) := Lib.hid fun h => by rw [hnr, hr, readCfg_no (by rw [← hrc]; exact h)]; rfl
  have HBack : Hid (rc = 0 → image r = l ∧ r.code = 0) := Lib.hid fun h => by rw [hr]; exact image_read HB.out (by rw [← hrc]; exact h)
  have HBytesR : Hid (∀ (W : World) (a : Option Addr) (q : Nat), rc = 0 → Ext w W → CfgIn W r (.slice a nr q) → Calls Tryd.prog 7 #[.agg #[.int .u8 (r.u0 : Int), .int .u8 (r.u1 : Int), .int .u8 (r.u2 : Int), .int .i64 r.gap, .int .i64 r.wait, .int .i64 r.tries, .int .i64 r.strikes, .int .i64 r.queue, .int .i64 r.idle, .int .u16 (r.key : Int), (.slice a nr q)]] W fun e w' => ∃ v', e = .returned (.tuple #[v', .int .i64 0]) ∧ Hid (Sl w' v' (by8 l) ∧ Ext W w')) := Lib.hid fun W a q h0 h h' => by
    have hbk := HBack.out h0
    refine (config_Bytes_all r _ W h' (HG.out.ext h)).mono ?_
    rintro e w' ⟨v', rfl, ho, hx⟩
    rw [hbk.1] at ho
    exact ⟨v', by rw [hbk.2], Lib.hid ⟨Sl.own8 ho, hx⟩⟩
  have HCkR : Hid (∀ (W : World) (a : Option Addr) (q : Nat), rc = 0 → Ext w W → CfgIn W r (.slice a nr q) → Calls Tryd.prog 13 #[.agg #[.int .u8 (r.u0 : Int), .int .u8 (r.u1 : Int), .int .u8 (r.u2 : Int), .int .i64 r.gap, .int .i64 r.wait, .int .i64 r.tries, .int .i64 r.strikes, .int .i64 r.queue, .int .i64 r.idle, .int .u16 (r.key : Int), (.slice a nr q)]] W fun e w' => e = .returned (.int .i64 0) ∧ Ext W w') := Lib.hid fun W a q h0 h h' => by
    have h9 := config_Check r _ W h'.1 (HG.out.ext h) h'.2.1
    rw [(HBack.out h0).2] at h9
    exact h9
  have HBS : Hid (∀ (W : World) (v : Value), Ext w W → Sl W v (by8 l) → Calls Tryd.prog 11 #[v, .slice a2 n2 p2] W fun e w' => e = .returned (.bool true) ∧ Ext W w') := Lib.hid fun W v h h' => by
    have h9 := ref_Same v (.slice a2 n2 p2) l l W h' (HL.out.ext h)
    simpa using h9
  clear hcc hic hrc hr hni hnr
  by_cases hz : cc = 0
  · obtain ⟨z, hz0⟩ : ∃ z : Int, z = cc := ⟨_, rfl⟩
    have HCz := Lib.hid hz
    clear hz0 z
    rw [hz] at HBytes HCk
    clear hz
    by_cases hy : rc = 0
    · have HRz := Lib.hid hy
      rw [hy] at HRead
      clear hy
      go_enter Tryd.func4, Tryd.ntmps4
      go_wp2_with fail
      refine (HAw.out _ (HG.out.ext ((Ext.refl _).alloc _))).mono ?_
      rintro e w1 ⟨rfl, hx1⟩
      have HX1 := Lib.hid (((Ext.refl w).alloc _).trans hx1)
      have HH1 := Lib.hid (HB0.out _ hx1)
      clear hx1
      obtain ⟨k0, k1, k2, k3, k4, k5, k6, k7, k8, k9, k10, ksz⟩ := HCells.out _ _ _ _ _ _ _ _ _ _ _ _ _ _ HH1.out
      go_wp2_with fail
      refine (HBytes.out _ HX1.out).mono ?_
      rintro e w2 ⟨b2, q2, rfl, H2⟩
      have HX2 := Lib.hid (HX1.out.trans H2.out.2)
      have HH2 := Lib.hid (H2.out.2.heap HH1.out)
      clear k0 k1 k2 k3 k4 k5 k6 k7 k8 k9 k10 ksz
      obtain ⟨k0, k1, k2, k3, k4, k5, k6, k7, k8, k9, k10, ksz⟩ := HCells.out _ _ _ _ _ _ _ _ _ _ _ _ _ _ HH2.out
      go_wp2_with fail
      refine (HCk.out _ HX2.out).mono ?_
      rintro e w3 ⟨rfl, hx3⟩
      have HX3 := Lib.hid (HX2.out.trans hx3)
      have HH3 := Lib.hid (hx3.heap HH2.out)
      have HP3 := Lib.hid (H2.out.1.ext hx3)
      clear hx3
      clear k0 k1 k2 k3 k4 k5 k6 k7 k8 k9 k10 ksz
      go_wp2_with fail
      refine (HReadP.out _ _ HCz.out HX3.out HP3.out).mono ?_
      rintro e w4 ⟨b4, q4, rfl, H4⟩
      have HX4 := Lib.hid (HX3.out.trans H4.out.2)
      have HH4 := Lib.hid (((Ext.refl w4).alloc (.cells #[.int .u8 (c.u0 : Int), .int .u8 (c.u1 : Int), .int .u8 (c.u2 : Int), .int .i64 c.gap, .int .i64 c.wait, .int .i64 c.tries, .int .i64 c.strikes, .int .i64 c.queue, .int .i64 c.idle, .int .u16 (c.key : Int), (.slice b4 n0 q4)] 26)).heap (H4.out.2.heap HH3.out))
      obtain ⟨k0, k1, k2, k3, k4, k5, k6, k7, k8, k9, k10, ksz⟩ := HCells.out _ _ _ _ _ _ _ _ _ _ _ _ _ _ HH4.out
      go_wp2_with fail
      refine (HSm.out _ _ _ (HX4.out.alloc _) (H4.out.1.ext ((Ext.refl _).alloc _))).mono ?_
      rintro e w5 ⟨rfl, hx5⟩
      have HX5 := Lib.hid ((HX4.out.alloc _).trans hx5)
      have HH5 := Lib.hid (hx5.heap HH4.out)
      clear hx5 k0 k1 k2 k3 k4 k5 k6 k7 k8 k9 k10 ksz
      obtain ⟨k0, k1, k2, k3, k4, k5, k6, k7, k8, k9, k10, ksz⟩ := HCells.out _ _ _ _ _ _ _ _ _ _ _ _ _ _ HH5.out
      have hni : ni = 20 + 9 * n0 := HImg.out.2.2 HCz.out
      have hnb : ((ni : Int) != 20 + 9 * (n0 : Int)) = false := by simp; omega
      clear hni
      go_wp2_with fail
      refine (HRead.out _ HX5.out).mono ?_
      rintro e w6 ⟨b6, q6, rfl, H6⟩
      have HX6 := Lib.hid (HX5.out.trans H6.out.2)
      clear k0 k1 k2 k3 k4 k5 k6 k7 k8 k9 k10 ksz
      clear hnb
      have HR6 : Hid ((w6.alloc (.cells #[.int .u8 (r.u0 : Int), .int .u8 (r.u1 : Int), .int .u8 (r.u2 : Int), .int .i64 r.gap, .int .i64 r.wait, .int .i64 r.tries, .int .i64 r.strikes, .int .i64 r.queue, .int .i64 r.idle, .int .u16 (r.key : Int), (.slice b6 nr q6)] 26)).heap[w6.heap.size]? = some (.cells #[.int .u8 (r.u0 : Int), .int .u8 (r.u1 : Int), .int .u8 (r.u2 : Int), .int .i64 r.gap, .int .i64 r.wait, .int .i64 r.tries, .int .i64 r.strikes, .int .i64 r.queue, .int .i64 r.idle, .int .u16 (r.key : Int), (.slice b6 nr q6)] 26 (0, 0))) := Lib.hid (heap_alloc_new _ _)
      obtain ⟨k0, k1, k2, k3, k4, k5, k6, k7, k8, k9, k10, ksz⟩ := HCells.out _ _ _ _ _ _ _ _ _ _ _ _ _ _ HR6.out
      go_wp2_with fail
      refine (HBytesR.out _ _ _ HRz.out (HX6.out.alloc _) (H6.out.1.ext ((Ext.refl _).alloc _))).mono ?_
      rintro e w7 ⟨v7, rfl, H7⟩
      have HX7 := Lib.hid ((HX6.out.alloc _).trans H7.out.2)
      have HR7 := Lib.hid (H7.out.2.heap HR6.out)
      clear k0 k1 k2 k3 k4 k5 k6 k7 k8 k9 k10 ksz
      go_wp2_with fail
      refine (HBS.out _ _ HX7.out H7.out.1).mono ?_
      rintro e w8 ⟨rfl, hx8⟩
      have HX8 := Lib.hid (HX7.out.trans hx8)
      have HR8 := Lib.hid (hx8.heap HR7.out)
      have HI8 := Lib.hid (H6.out.1.ext ((((Ext.refl w6).alloc _).trans H7.out.2).trans hx8))
      clear hx8
      obtain ⟨k0, k1, k2, k3, k4, k5, k6, k7, k8, k9, k10, ksz⟩ := HCells.out _ _ _ _ _ _ _ _ _ _ _ _ _ _ HR8.out
      go_wp2_with fail
      refine (HCkR.out _ _ _ HRz.out HX8.out HI8.out).mono ?_
      rintro e w9 ⟨rfl, hx9⟩
      clear k0 k1 k2 k3 k4 k5 k6 k7 k8 k9 k10 ksz
      go_wp2_with fail
      go_ret
      exact ⟨rfl, HX8.out.trans hx9⟩
    · have HRz := Lib.hid hy
      have hrb : (rc != 0) = true := by simp [hy]
      clear hy
      go_enter Tryd.func4, Tryd.ntmps4
      go_wp2_with fail
      refine (HAw.out _ (HG.out.ext ((Ext.refl _).alloc _))).mono ?_
      rintro e w1 ⟨rfl, hx1⟩
      have HX1 := Lib.hid (((Ext.refl w).alloc _).trans hx1)
      have HH1 := Lib.hid (HB0.out _ hx1)
      clear hx1
      obtain ⟨k0, k1, k2, k3, k4, k5, k6, k7, k8, k9, k10, ksz⟩ := HCells.out _ _ _ _ _ _ _ _ _ _ _ _ _ _ HH1.out
      go_wp2_with fail
      refine (HBytes.out _ HX1.out).mono ?_
      rintro e w2 ⟨b2, q2, rfl, H2⟩
      have HX2 := Lib.hid (HX1.out.trans H2.out.2)
      have HH2 := Lib.hid (H2.out.2.heap HH1.out)
      clear k0 k1 k2 k3 k4 k5 k6 k7 k8 k9 k10 ksz
      obtain ⟨k0, k1, k2, k3, k4, k5, k6, k7, k8, k9, k10, ksz⟩ := HCells.out _ _ _ _ _ _ _ _ _ _ _ _ _ _ HH2.out
      go_wp2_with fail
      refine (HCk.out _ HX2.out).mono ?_
      rintro e w3 ⟨rfl, hx3⟩
      have HX3 := Lib.hid (HX2.out.trans hx3)
      have HH3 := Lib.hid (hx3.heap HH2.out)
      have HP3 := Lib.hid (H2.out.1.ext hx3)
      clear hx3
      clear k0 k1 k2 k3 k4 k5 k6 k7 k8 k9 k10 ksz
      go_wp2_with fail
      refine (HReadP.out _ _ HCz.out HX3.out HP3.out).mono ?_
      rintro e w4 ⟨b4, q4, rfl, H4⟩
      have HX4 := Lib.hid (HX3.out.trans H4.out.2)
      have HH4 := Lib.hid (((Ext.refl w4).alloc (.cells #[.int .u8 (c.u0 : Int), .int .u8 (c.u1 : Int), .int .u8 (c.u2 : Int), .int .i64 c.gap, .int .i64 c.wait, .int .i64 c.tries, .int .i64 c.strikes, .int .i64 c.queue, .int .i64 c.idle, .int .u16 (c.key : Int), (.slice b4 n0 q4)] 26)).heap (H4.out.2.heap HH3.out))
      obtain ⟨k0, k1, k2, k3, k4, k5, k6, k7, k8, k9, k10, ksz⟩ := HCells.out _ _ _ _ _ _ _ _ _ _ _ _ _ _ HH4.out
      go_wp2_with fail
      refine (HSm.out _ _ _ (HX4.out.alloc _) (H4.out.1.ext ((Ext.refl _).alloc _))).mono ?_
      rintro e w5 ⟨rfl, hx5⟩
      have HX5 := Lib.hid ((HX4.out.alloc _).trans hx5)
      have HH5 := Lib.hid (hx5.heap HH4.out)
      clear hx5 k0 k1 k2 k3 k4 k5 k6 k7 k8 k9 k10 ksz
      obtain ⟨k0, k1, k2, k3, k4, k5, k6, k7, k8, k9, k10, ksz⟩ := HCells.out _ _ _ _ _ _ _ _ _ _ _ _ _ _ HH5.out
      have hni : ni = 20 + 9 * n0 := HImg.out.2.2 HCz.out
      have hnb : ((ni : Int) != 20 + 9 * (n0 : Int)) = false := by simp; omega
      clear hni
      go_wp2_with fail
      refine (HRead.out _ HX5.out).mono ?_
      rintro e w6 ⟨b6, q6, rfl, H6⟩
      have HX6 := Lib.hid (HX5.out.trans H6.out.2)
      clear k0 k1 k2 k3 k4 k5 k6 k7 k8 k9 k10 ksz
      clear hnb
      have HR6 : Hid ((w6.alloc (.cells #[.int .u8 (r.u0 : Int), .int .u8 (r.u1 : Int), .int .u8 (r.u2 : Int), .int .i64 r.gap, .int .i64 r.wait, .int .i64 r.tries, .int .i64 r.strikes, .int .i64 r.queue, .int .i64 r.idle, .int .u16 (r.key : Int), (.slice b6 nr q6)] 26)).heap[w6.heap.size]? = some (.cells #[.int .u8 (r.u0 : Int), .int .u8 (r.u1 : Int), .int .u8 (r.u2 : Int), .int .i64 r.gap, .int .i64 r.wait, .int .i64 r.tries, .int .i64 r.strikes, .int .i64 r.queue, .int .i64 r.idle, .int .u16 (r.key : Int), (.slice b6 nr q6)] 26 (0, 0))) := Lib.hid (heap_alloc_new _ _)
      obtain ⟨k0, k1, k2, k3, k4, k5, k6, k7, k8, k9, k10, ksz⟩ := HCells.out _ _ _ _ _ _ _ _ _ _ _ _ _ _ HR6.out
      have hnz : nr = 0 := HZero.out HRz.out
      subst hnz
      go_wp2_with fail
      go_ret
      exact ⟨rfl, HX6.out.alloc _⟩
  · have HCz := Lib.hid hz
    have hcb : (cc == 0) = false := by simp [hz]
    clear hz
    by_cases hy : rc = 0
    · have HRz := Lib.hid hy
      rw [hy] at HRead
      clear hy
      go_enter Tryd.func4, Tryd.ntmps4
      go_wp2_with fail
      refine (HAw.out _ (HG.out.ext ((Ext.refl _).alloc _))).mono ?_
      rintro e w1 ⟨rfl, hx1⟩
      have HX1 := Lib.hid (((Ext.refl w).alloc _).trans hx1)
      have HH1 := Lib.hid (HB0.out _ hx1)
      clear hx1
      obtain ⟨k0, k1, k2, k3, k4, k5, k6, k7, k8, k9, k10, ksz⟩ := HCells.out _ _ _ _ _ _ _ _ _ _ _ _ _ _ HH1.out
      go_wp2_with fail
      refine (HBytes.out _ HX1.out).mono ?_
      rintro e w2 ⟨b2, q2, rfl, H2⟩
      have HX2 := Lib.hid (HX1.out.trans H2.out.2)
      have HH2 := Lib.hid (H2.out.2.heap HH1.out)
      clear k0 k1 k2 k3 k4 k5 k6 k7 k8 k9 k10 ksz
      obtain ⟨k0, k1, k2, k3, k4, k5, k6, k7, k8, k9, k10, ksz⟩ := HCells.out _ _ _ _ _ _ _ _ _ _ _ _ _ _ HH2.out
      go_wp2_with fail
      refine (HCk.out _ HX2.out).mono ?_
      rintro e w3 ⟨rfl, hx3⟩
      have HX3 := Lib.hid (HX2.out.trans hx3)
      have HH3 := Lib.hid (hx3.heap HH2.out)
      have HP3 := Lib.hid (H2.out.1.ext hx3)
      clear hx3
      clear k0 k1 k2 k3 k4 k5 k6 k7 k8 k9 k10 ksz
      go_wp2_with fail
      refine (HRead.out _ HX3.out).mono ?_
      rintro e w6 ⟨b6, q6, rfl, H6⟩
      have HX6 := Lib.hid (HX3.out.trans H6.out.2)
      have HR6 : Hid ((w6.alloc (.cells #[.int .u8 (r.u0 : Int), .int .u8 (r.u1 : Int), .int .u8 (r.u2 : Int), .int .i64 r.gap, .int .i64 r.wait, .int .i64 r.tries, .int .i64 r.strikes, .int .i64 r.queue, .int .i64 r.idle, .int .u16 (r.key : Int), (.slice b6 nr q6)] 26)).heap[w6.heap.size]? = some (.cells #[.int .u8 (r.u0 : Int), .int .u8 (r.u1 : Int), .int .u8 (r.u2 : Int), .int .i64 r.gap, .int .i64 r.wait, .int .i64 r.tries, .int .i64 r.strikes, .int .i64 r.queue, .int .i64 r.idle, .int .u16 (r.key : Int), (.slice b6 nr q6)] 26 (0, 0))) := Lib.hid (heap_alloc_new _ _)
      obtain ⟨k0, k1, k2, k3, k4, k5, k6, k7, k8, k9, k10, ksz⟩ := HCells.out _ _ _ _ _ _ _ _ _ _ _ _ _ _ HR6.out
      go_wp2_with fail
      refine (HBytesR.out _ _ _ HRz.out (HX6.out.alloc _) (H6.out.1.ext ((Ext.refl _).alloc _))).mono ?_
      rintro e w7 ⟨v7, rfl, H7⟩
      have HX7 := Lib.hid ((HX6.out.alloc _).trans H7.out.2)
      have HR7 := Lib.hid (H7.out.2.heap HR6.out)
      clear k0 k1 k2 k3 k4 k5 k6 k7 k8 k9 k10 ksz
      go_wp2_with fail
      refine (HBS.out _ _ HX7.out H7.out.1).mono ?_
      rintro e w8 ⟨rfl, hx8⟩
      have HX8 := Lib.hid (HX7.out.trans hx8)
      have HR8 := Lib.hid (hx8.heap HR7.out)
      have HI8 := Lib.hid (H6.out.1.ext ((((Ext.refl w6).alloc _).trans H7.out.2).trans hx8))
      clear hx8
      obtain ⟨k0, k1, k2, k3, k4, k5, k6, k7, k8, k9, k10, ksz⟩ := HCells.out _ _ _ _ _ _ _ _ _ _ _ _ _ _ HR8.out
      go_wp2_with fail
      refine (HCkR.out _ _ _ HRz.out HX8.out HI8.out).mono ?_
      rintro e w9 ⟨rfl, hx9⟩
      clear k0 k1 k2 k3 k4 k5 k6 k7 k8 k9 k10 ksz
      go_wp2_with fail
      go_ret
      exact ⟨rfl, HX8.out.trans hx9⟩
    · have HRz := Lib.hid hy
      have hrb : (rc != 0) = true := by simp [hy]
      clear hy
      go_enter Tryd.func4, Tryd.ntmps4
      go_wp2_with fail
      refine (HAw.out _ (HG.out.ext ((Ext.refl _).alloc _))).mono ?_
      rintro e w1 ⟨rfl, hx1⟩
      have HX1 := Lib.hid (((Ext.refl w).alloc _).trans hx1)
      have HH1 := Lib.hid (HB0.out _ hx1)
      clear hx1
      obtain ⟨k0, k1, k2, k3, k4, k5, k6, k7, k8, k9, k10, ksz⟩ := HCells.out _ _ _ _ _ _ _ _ _ _ _ _ _ _ HH1.out
      go_wp2_with fail
      refine (HBytes.out _ HX1.out).mono ?_
      rintro e w2 ⟨b2, q2, rfl, H2⟩
      have HX2 := Lib.hid (HX1.out.trans H2.out.2)
      have HH2 := Lib.hid (H2.out.2.heap HH1.out)
      clear k0 k1 k2 k3 k4 k5 k6 k7 k8 k9 k10 ksz
      obtain ⟨k0, k1, k2, k3, k4, k5, k6, k7, k8, k9, k10, ksz⟩ := HCells.out _ _ _ _ _ _ _ _ _ _ _ _ _ _ HH2.out
      go_wp2_with fail
      refine (HCk.out _ HX2.out).mono ?_
      rintro e w3 ⟨rfl, hx3⟩
      have HX3 := Lib.hid (HX2.out.trans hx3)
      have HH3 := Lib.hid (hx3.heap HH2.out)
      have HP3 := Lib.hid (H2.out.1.ext hx3)
      clear hx3
      clear k0 k1 k2 k3 k4 k5 k6 k7 k8 k9 k10 ksz
      go_wp2_with fail
      refine (HRead.out _ HX3.out).mono ?_
      rintro e w6 ⟨b6, q6, rfl, H6⟩
      have HX6 := Lib.hid (HX3.out.trans H6.out.2)
      have HR6 : Hid ((w6.alloc (.cells #[.int .u8 (r.u0 : Int), .int .u8 (r.u1 : Int), .int .u8 (r.u2 : Int), .int .i64 r.gap, .int .i64 r.wait, .int .i64 r.tries, .int .i64 r.strikes, .int .i64 r.queue, .int .i64 r.idle, .int .u16 (r.key : Int), (.slice b6 nr q6)] 26)).heap[w6.heap.size]? = some (.cells #[.int .u8 (r.u0 : Int), .int .u8 (r.u1 : Int), .int .u8 (r.u2 : Int), .int .i64 r.gap, .int .i64 r.wait, .int .i64 r.tries, .int .i64 r.strikes, .int .i64 r.queue, .int .i64 r.idle, .int .u16 (r.key : Int), (.slice b6 nr q6)] 26 (0, 0))) := Lib.hid (heap_alloc_new _ _)
      obtain ⟨k0, k1, k2, k3, k4, k5, k6, k7, k8, k9, k10, ksz⟩ := HCells.out _ _ _ _ _ _ _ _ _ _ _ _ _ _ HR6.out
      have hnz : nr = 0 := HZero.out HRz.out
      subst hnz
      go_wp2_with fail
      go_ret
      exact ⟨rfl, HX6.out.alloc _⟩
end Go.Proofs.YtjooacmmgbpkfaaDoor
