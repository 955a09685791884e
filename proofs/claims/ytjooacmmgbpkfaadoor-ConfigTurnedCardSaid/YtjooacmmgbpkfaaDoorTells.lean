/- triunelaw09.ConfigTells: it returns true. Condition: errors.errorType's cell is laid. -/
import Derived.Test.YtjooacmmgbpkfaaDoorCfgAwake
namespace Go.Proofs.YtjooacmmgbpkfaaDoor
open Go.RowKit

/-- A block of eleven cells, cell by cell. -/
theorem blk11 {w : World} {g : Nat} {x0 x1 x2 x3 x4 x5 x6 x7 x8 x9 x10 : Value} {t : TypeId} (h : w.heap[g]? = some (.cells #[x0, x1, x2, x3, x4, x5, x6, x7, x8, x9, x10] t (0, 0))) :
    w.cell? ⟨g, 0, none⟩ = some x0 ∧ w.cell? ⟨g, 1, none⟩ = some x1 ∧ w.cell? ⟨g, 2, none⟩ = some x2 ∧ w.cell? ⟨g, 3, none⟩ = some x3 ∧ w.cell? ⟨g, 4, none⟩ = some x4 ∧ w.cell? ⟨g, 5, none⟩ = some x5 ∧ w.cell? ⟨g, 6, none⟩ = some x6 ∧
    w.cell? ⟨g, 7, none⟩ = some x7 ∧ w.cell? ⟨g, 8, none⟩ = some x8 ∧ w.cell? ⟨g, 9, none⟩ = some x9 ∧ w.cell? ⟨g, 10, none⟩ = some x10 ∧ g < w.heap.size :=
  ⟨blk_cell h 0, blk_cell h 1, blk_cell h 2, blk_cell h 3, blk_cell h 4, blk_cell h 5, blk_cell h 6, blk_cell h 7, blk_cell h 8, blk_cell h 9, blk_cell h 10, lt_of_block h⟩

set_option maxRecDepth 100000 in
set_option maxHeartbeats 1000000 in
theorem tells_true (c d : Cfg) (vc vd vb : Value) (l : List Nat) (w : World) (hc : CfgIn w c vc) (hd : CfgIn w d vd) (hl : Sl w vb (by8 l)) (hb : Bytes l) (hg : Laid w) :
    Calls Tryd.prog 3 #[c.val vc, d.val vd, vb] w fun e w' => e = .returned (.bool true) ∧ Ext w w' := by
  have HG := Lib.hid hg
  have HAw := Lib.hid awake_true
  obtain ⟨a0, p0, rfl⟩ := hc.shape
  obtain ⟨a1, p1, rfl⟩ := hd.shape
  obtain ⟨a2, p2, rfl⟩ := hl.shape8
  have hmc : ∃ m, m = c.pts.length := ⟨_, rfl⟩
  obtain ⟨n0, hn0⟩ := hmc
  obtain ⟨n1, hn1⟩ : ∃ m, m = d.pts.length := ⟨_, rfl⟩
  obtain ⟨n2, hn2⟩ : ∃ m, m = l.length := ⟨_, rfl⟩
  rw [← hn0] at hc ⊢
  rw [← hn1] at hd ⊢
  rw [← hn2] at hl ⊢
  have HC := Lib.hid hc
  have HD := Lib.hid hd
  have HL := Lib.hid hl
  have HB := Lib.hid hb
  have HN2 := Lib.hid hn2
  clear hg hc hd hl hb hn0 hn1 hn2
  unfold Cfg.val Cfg.cells
  have hcells := @blk11
  have HCells := Lib.hid (fun (w : World) (g : Nat) (x0 x1 x2 x3 x4 x5 x6 x7 x8 x9 x10 : Value) (t : TypeId) => @blk11 w g x0 x1 x2 x3 x4 x5 x6 x7 x8 x9 x10 t)
  clear hcells
  by_cases h0 : 100 < n0
  · have HB0 : Hid (∀ W : World, Ext ((w.alloc (.cells #[.int .u8 (c.u0 : Int), .int .u8 (c.u1 : Int), .int .u8 (c.u2 : Int), .int .i64 c.gap, .int .i64 c.wait, .int .i64 c.tries, .int .i64 c.strikes, .int .i64 c.queue, .int .i64 c.idle, .int .u16 (c.key : Int), (.slice a0 n0 p0)] 26)).alloc (.cells #[.int .u8 (d.u0 : Int), .int .u8 (d.u1 : Int), .int .u8 (d.u2 : Int), .int .i64 d.gap, .int .i64 d.wait, .int .i64 d.tries, .int .i64 d.strikes, .int .i64 d.queue, .int .i64 d.idle, .int .u16 (d.key : Int), (.slice a1 n1 p1)] 26)) W → W.heap[w.heap.size]? = some (.cells #[.int .u8 (c.u0 : Int), .int .u8 (c.u1 : Int), .int .u8 (c.u2 : Int), .int .i64 c.gap, .int .i64 c.wait, .int .i64 c.tries, .int .i64 c.strikes, .int .i64 c.queue, .int .i64 c.idle, .int .u16 (c.key : Int), (.slice a0 n0 p0)] 26 (0, 0)) ∧ W.heap[w.heap.size + 1]? = some (.cells #[.int .u8 (d.u0 : Int), .int .u8 (d.u1 : Int), .int .u8 (d.u2 : Int), .int .i64 d.gap, .int .i64 d.wait, .int .i64 d.tries, .int .i64 d.strikes, .int .i64 d.queue, .int .i64 d.idle, .int .u16 (d.key : Int), (.slice a1 n1 p1)] 26 (0, 0))) := Lib.hid fun W h => ⟨h.heap (Ext.heap ((Ext.refl _).alloc _) (heap_alloc_new _ _)), h.heap (new_at (by simp) _ _)⟩
    go_enter Tryd.func3, Tryd.ntmps3
    go_wp2_with fail
    refine (HAw.out _ (HG.out.ext (((Ext.refl _).alloc _).alloc _))).mono ?_
    rintro e w1 ⟨rfl, hx1⟩
    have HX1 := Lib.hid ((((Ext.refl w).alloc _).alloc _).trans hx1)
    obtain ⟨k0, k1, k2, k3, k4, k5, k6, k7, k8, k9, k10, ksz⟩ := HCells.out _ _ _ _ _ _ _ _ _ _ _ _ _ _ (HB0.out _ hx1).1
    obtain ⟨m0, m1, m2, m3, m4, m5, m6, m7, m8, m9, m10, msz⟩ := HCells.out _ _ _ _ _ _ _ _ _ _ _ _ _ _ (HB0.out _ hx1).2
    clear hx1
    go_wp2_with fail
    go_ret
    exact ⟨rfl, HX1.out⟩
  by_cases h1 : 100 < n1
  · have HB0 : Hid (∀ W : World, Ext ((w.alloc (.cells #[.int .u8 (c.u0 : Int), .int .u8 (c.u1 : Int), .int .u8 (c.u2 : Int), .int .i64 c.gap, .int .i64 c.wait, .int .i64 c.tries, .int .i64 c.strikes, .int .i64 c.queue, .int .i64 c.idle, .int .u16 (c.key : Int), (.slice a0 n0 p0)] 26)).alloc (.cells #[.int .u8 (d.u0 : Int), .int .u8 (d.u1 : Int), .int .u8 (d.u2 : Int), .int .i64 d.gap, .int .i64 d.wait, .int .i64 d.tries, .int .i64 d.strikes, .int .i64 d.queue, .int .i64 d.idle, .int .u16 (d.key : Int), (.slice a1 n1 p1)] 26)) W → W.heap[w.heap.size]? = some (.cells #[.int .u8 (c.u0 : Int), .int .u8 (c.u1 : Int), .int .u8 (c.u2 : Int), .int .i64 c.gap, .int .i64 c.wait, .int .i64 c.tries, .int .i64 c.strikes, .int .i64 c.queue, .int .i64 c.idle, .int .u16 (c.key : Int), (.slice a0 n0 p0)] 26 (0, 0)) ∧ W.heap[w.heap.size + 1]? = some (.cells #[.int .u8 (d.u0 : Int), .int .u8 (d.u1 : Int), .int .u8 (d.u2 : Int), .int .i64 d.gap, .int .i64 d.wait, .int .i64 d.tries, .int .i64 d.strikes, .int .i64 d.queue, .int .i64 d.idle, .int .u16 (d.key : Int), (.slice a1 n1 p1)] 26 (0, 0))) := Lib.hid fun W h => ⟨h.heap (Ext.heap ((Ext.refl _).alloc _) (heap_alloc_new _ _)), h.heap (new_at (by simp) _ _)⟩
    go_enter Tryd.func3, Tryd.ntmps3
    go_wp2_with fail
    refine (HAw.out _ (HG.out.ext (((Ext.refl _).alloc _).alloc _))).mono ?_
    rintro e w1 ⟨rfl, hx1⟩
    have HX1 := Lib.hid ((((Ext.refl w).alloc _).alloc _).trans hx1)
    obtain ⟨k0, k1, k2, k3, k4, k5, k6, k7, k8, k9, k10, ksz⟩ := HCells.out _ _ _ _ _ _ _ _ _ _ _ _ _ _ (HB0.out _ hx1).1
    obtain ⟨m0, m1, m2, m3, m4, m5, m6, m7, m8, m9, m10, msz⟩ := HCells.out _ _ _ _ _ _ _ _ _ _ _ _ _ _ (HB0.out _ hx1).2
    clear hx1
    go_wp2_with fail
    go_ret
    exact ⟨rfl, HX1.out⟩
  by_cases h2 : 3000 < n2
  · have HB0 : Hid (∀ W : World, Ext ((w.alloc (.cells #[.int .u8 (c.u0 : Int), .int .u8 (c.u1 : Int), .int .u8 (c.u2 : Int), .int .i64 c.gap, .int .i64 c.wait, .int .i64 c.tries, .int .i64 c.strikes, .int .i64 c.queue, .int .i64 c.idle, .int .u16 (c.key : Int), (.slice a0 n0 p0)] 26)).alloc (.cells #[.int .u8 (d.u0 : Int), .int .u8 (d.u1 : Int), .int .u8 (d.u2 : Int), .int .i64 d.gap, .int .i64 d.wait, .int .i64 d.tries, .int .i64 d.strikes, .int .i64 d.queue, .int .i64 d.idle, .int .u16 (d.key : Int), (.slice a1 n1 p1)] 26)) W → W.heap[w.heap.size]? = some (.cells #[.int .u8 (c.u0 : Int), .int .u8 (c.u1 : Int), .int .u8 (c.u2 : Int), .int .i64 c.gap, .int .i64 c.wait, .int .i64 c.tries, .int .i64 c.strikes, .int .i64 c.queue, .int .i64 c.idle, .int .u16 (c.key : Int), (.slice a0 n0 p0)] 26 (0, 0)) ∧ W.heap[w.heap.size + 1]? = some (.cells #[.int .u8 (d.u0 : Int), .int .u8 (d.u1 : Int), .int .u8 (d.u2 : Int), .int .i64 d.gap, .int .i64 d.wait, .int .i64 d.tries, .int .i64 d.strikes, .int .i64 d.queue, .int .i64 d.idle, .int .u16 (d.key : Int), (.slice a1 n1 p1)] 26 (0, 0))) := Lib.hid fun W h => ⟨h.heap (Ext.heap ((Ext.refl _).alloc _) (heap_alloc_new _ _)), h.heap (new_at (by simp) _ _)⟩
    go_enter Tryd.func3, Tryd.ntmps3
    go_wp2_with fail
    refine (HAw.out _ (HG.out.ext (((Ext.refl _).alloc _).alloc _))).mono ?_
    rintro e w1 ⟨rfl, hx1⟩
    have HX1 := Lib.hid ((((Ext.refl w).alloc _).alloc _).trans hx1)
    obtain ⟨k0, k1, k2, k3, k4, k5, k6, k7, k8, k9, k10, ksz⟩ := HCells.out _ _ _ _ _ _ _ _ _ _ _ _ _ _ (HB0.out _ hx1).1
    obtain ⟨m0, m1, m2, m3, m4, m5, m6, m7, m8, m9, m10, msz⟩ := HCells.out _ _ _ _ _ _ _ _ _ _ _ _ _ _ (HB0.out _ hx1).2
    clear hx1
    go_wp2_with fail
    go_ret
    exact ⟨rfl, HX1.out⟩
  obtain ⟨cc, hcc⟩ : ∃ x, x = c.code := ⟨_, rfl⟩
  obtain ⟨ic, hic⟩ : ∃ x, x = image c := ⟨_, rfl⟩
  obtain ⟨rc, hrc⟩ : ∃ x, x = readCode l := ⟨_, rfl⟩
  obtain ⟨r, hr⟩ : ∃ x, x = readCfg l := ⟨_, rfl⟩
  obtain ⟨bs, hbs⟩ : ∃ b : Bool, b = true ↔ c = d := by
    by_cases h : c = d
    · exact ⟨true, by simp [h]⟩
    · exact ⟨false, by simp [h]⟩
  have HBytes : Hid (∀ W : World, Ext w W → Calls Tryd.prog 7 #[.agg #[.int .u8 (c.u0 : Int), .int .u8 (c.u1 : Int), .int .u8 (c.u2 : Int), .int .i64 c.gap, .int .i64 c.wait, .int .i64 c.tries, .int .i64 c.strikes, .int .i64 c.queue, .int .i64 c.idle, .int .u16 (c.key : Int), (.slice a0 n0 p0)]] W fun e w' => ∃ v', e = .returned (.tuple #[v', .int .i64 cc]) ∧ Hid (Sl w' v' (by8 ic) ∧ Ext W w')) := Lib.hid fun W h => by
    refine (config_Bytes_all c _ W (HC.out.ext h) (HG.out.ext h)).mono ?_
    rintro e w' ⟨v', rfl, ho, hx⟩
    exact ⟨v', by rw [hcc], Lib.hid ⟨by rw [hic]; exact Sl.own8 ho, hx⟩⟩
  have HRBytes : Hid (∀ W : World, Ext w W → Calls Tryd.prog 8 #[.agg #[.int .u8 (c.u0 : Int), .int .u8 (c.u1 : Int), .int .u8 (c.u2 : Int), .int .i64 c.gap, .int .i64 c.wait, .int .i64 c.tries, .int .i64 c.strikes, .int .i64 c.queue, .int .i64 c.idle, .int .u16 (c.key : Int), (.slice a0 n0 p0)]] W fun e w' => ∃ v', e = .returned (.tuple #[v', .int .i64 cc]) ∧ Hid (Sl w' v' (by8 ic) ∧ Ext W w')) := Lib.hid fun W h => by
    refine (ref_Bytes_all c _ W (HC.out.ext h)).mono ?_
    rintro e w' ⟨v', rfl, ho, hx⟩
    exact ⟨v', by rw [hcc], Lib.hid ⟨by rw [hic]; exact Sl.own8 ho, hx⟩⟩
  have HRead : Hid (∀ W : World, Ext w W → Calls Tryd.prog 9 #[.slice a2 n2 p2] W fun e w' => ∃ a m q, e = .returned (.tuple #[.agg #[.int .u8 (r.u0 : Int), .int .u8 (r.u1 : Int), .int .u8 (r.u2 : Int), .int .i64 r.gap, .int .i64 r.wait, .int .i64 r.tries, .int .i64 r.strikes, .int .i64 r.queue, .int .i64 r.idle, .int .u16 (r.key : Int), (.slice a m q)], .int .i64 rc]) ∧ Hid (CfgIn w' r (.slice a m q) ∧ Ext W w')) := Lib.hid fun W h => by
    refine (config_Read_all _ l W (HL.out.ext h) HB.out (by rw [← HN2.out]; omega) (HG.out.ext h)).mono ?_
    rintro e w' ⟨v', rfl, hc, hx⟩
    rw [← hr] at hc
    obtain ⟨a, q, rfl⟩ := hc.shape
    exact ⟨a, _, q, by rw [hr, hrc]; rfl, Lib.hid ⟨hc, hx⟩⟩
  have HRRead : Hid (∀ W : World, Ext w W → Calls Tryd.prog 10 #[.slice a2 n2 p2] W fun e w' => ∃ a m q, e = .returned (.tuple #[.agg #[.int .u8 (r.u0 : Int), .int .u8 (r.u1 : Int), .int .u8 (r.u2 : Int), .int .i64 r.gap, .int .i64 r.wait, .int .i64 r.tries, .int .i64 r.strikes, .int .i64 r.queue, .int .i64 r.idle, .int .u16 (r.key : Int), (.slice a m q)], .int .i64 rc]) ∧ Hid (CfgIn w' r (.slice a m q) ∧ Ext W w')) := Lib.hid fun W h => by
    refine (ref_Read_all _ l W (HL.out.ext h) HB.out (by rw [← HN2.out]; omega)).mono ?_
    rintro e w' ⟨v', rfl, hc, hx⟩
    rw [← hr] at hc
    obtain ⟨a, q, rfl⟩ := hc.shape
    exact ⟨a, _, q, by rw [hr, hrc]; rfl, Lib.hid ⟨hc, hx⟩⟩
  have HCk : Hid (∀ W : World, Ext w W → Calls Tryd.prog 13 #[.agg #[.int .u8 (c.u0 : Int), .int .u8 (c.u1 : Int), .int .u8 (c.u2 : Int), .int .i64 c.gap, .int .i64 c.wait, .int .i64 c.tries, .int .i64 c.strikes, .int .i64 c.queue, .int .i64 c.idle, .int .u16 (c.key : Int), (.slice a0 n0 p0)]] W fun e w' => e = .returned (.int .i64 cc) ∧ Ext W w') := Lib.hid fun W h => by
    rw [hcc]
    exact config_Check c _ W (HC.out.ext h).1 (HG.out.ext h) HC.out.2.1
  have HRCk : Hid (∀ W : World, Ext w W → Calls Tryd.prog 14 #[.agg #[.int .u8 (c.u0 : Int), .int .u8 (c.u1 : Int), .int .u8 (c.u2 : Int), .int .i64 c.gap, .int .i64 c.wait, .int .i64 c.tries, .int .i64 c.strikes, .int .i64 c.queue, .int .i64 c.idle, .int .u16 (c.key : Int), (.slice a0 n0 p0)]] W fun e w' => e = .returned (.int .i64 cc) ∧ Ext W w') := Lib.hid fun W h => by
    rw [hcc]
    exact ref_Check c _ W (HC.out.ext h).1 HC.out.2.1
  have HSm : Hid (∀ W : World, Ext w W → Calls Tryd.prog 15 #[.agg #[.int .u8 (c.u0 : Int), .int .u8 (c.u1 : Int), .int .u8 (c.u2 : Int), .int .i64 c.gap, .int .i64 c.wait, .int .i64 c.tries, .int .i64 c.strikes, .int .i64 c.queue, .int .i64 c.idle, .int .u16 (c.key : Int), (.slice a0 n0 p0)], .agg #[.int .u8 (d.u0 : Int), .int .u8 (d.u1 : Int), .int .u8 (d.u2 : Int), .int .i64 d.gap, .int .i64 d.wait, .int .i64 d.tries, .int .i64 d.strikes, .int .i64 d.queue, .int .i64 d.idle, .int .u16 (d.key : Int), (.slice a1 n1 p1)]] W fun e w' => e = .returned (.bool bs) ∧ Ext W w') := Lib.hid fun W h =>
    config_Same c d _ _ W (HC.out.ext h).1 (HD.out.ext h).1 HC.out.2.2 HD.out.2.2 bs hbs
  have HRSm : Hid (∀ W : World, Ext w W → Calls Tryd.prog 12 #[.agg #[.int .u8 (c.u0 : Int), .int .u8 (c.u1 : Int), .int .u8 (c.u2 : Int), .int .i64 c.gap, .int .i64 c.wait, .int .i64 c.tries, .int .i64 c.strikes, .int .i64 c.queue, .int .i64 c.idle, .int .u16 (c.key : Int), (.slice a0 n0 p0)], .agg #[.int .u8 (d.u0 : Int), .int .u8 (d.u1 : Int), .int .u8 (d.u2 : Int), .int .i64 d.gap, .int .i64 d.wait, .int .i64 d.tries, .int .i64 d.strikes, .int .i64 d.queue, .int .i64 d.idle, .int .u16 (d.key : Int), (.slice a1 n1 p1)]] W fun e w' => e = .returned (.bool bs) ∧ Ext W w') := Lib.hid fun W h =>
    ref09_Same c d _ _ W (HC.out.ext h).1 (HD.out.ext h).1 bs hbs
  have HRS2 : Hid (∀ (W : World) (v v' : Value), CfgIn W r v → CfgIn W r v' → Calls Tryd.prog 12 #[.agg #[.int .u8 (r.u0 : Int), .int .u8 (r.u1 : Int), .int .u8 (r.u2 : Int), .int .i64 r.gap, .int .i64 r.wait, .int .i64 r.tries, .int .i64 r.strikes, .int .i64 r.queue, .int .i64 r.idle, .int .u16 (r.key : Int), v], .agg #[.int .u8 (r.u0 : Int), .int .u8 (r.u1 : Int), .int .u8 (r.u2 : Int), .int .i64 r.gap, .int .i64 r.wait, .int .i64 r.tries, .int .i64 r.strikes, .int .i64 r.queue, .int .i64 r.idle, .int .u16 (r.key : Int), v']] W fun e w' => e = .returned (.bool true) ∧ Ext W w') := Lib.hid fun W v v' h h' =>
    ref09_Same r r v v' W h.1 h'.1 true (by simp)
  have HBS : Hid (∀ (W : World) (v v' : Value), Sl W v (by8 ic) → Sl W v' (by8 ic) → Calls Tryd.prog 11 #[v, v'] W fun e w' => e = .returned (.bool true) ∧ Ext W w') := Lib.hid fun W v v' h h' => by
    have h9 := ref_Same v v' ic ic W h h'
    simpa using h9
  have HB0 : Hid (∀ W : World, Ext ((w.alloc (.cells #[.int .u8 (c.u0 : Int), .int .u8 (c.u1 : Int), .int .u8 (c.u2 : Int), .int .i64 c.gap, .int .i64 c.wait, .int .i64 c.tries, .int .i64 c.strikes, .int .i64 c.queue, .int .i64 c.idle, .int .u16 (c.key : Int), (.slice a0 n0 p0)] 26)).alloc (.cells #[.int .u8 (d.u0 : Int), .int .u8 (d.u1 : Int), .int .u8 (d.u2 : Int), .int .i64 d.gap, .int .i64 d.wait, .int .i64 d.tries, .int .i64 d.strikes, .int .i64 d.queue, .int .i64 d.idle, .int .u16 (d.key : Int), (.slice a1 n1 p1)] 26)) W → W.heap[w.heap.size]? = some (.cells #[.int .u8 (c.u0 : Int), .int .u8 (c.u1 : Int), .int .u8 (c.u2 : Int), .int .i64 c.gap, .int .i64 c.wait, .int .i64 c.tries, .int .i64 c.strikes, .int .i64 c.queue, .int .i64 c.idle, .int .u16 (c.key : Int), (.slice a0 n0 p0)] 26 (0, 0)) ∧ W.heap[w.heap.size + 1]? = some (.cells #[.int .u8 (d.u0 : Int), .int .u8 (d.u1 : Int), .int .u8 (d.u2 : Int), .int .i64 d.gap, .int .i64 d.wait, .int .i64 d.tries, .int .i64 d.strikes, .int .i64 d.queue, .int .i64 d.idle, .int .u16 (d.key : Int), (.slice a1 n1 p1)] 26 (0, 0))) := Lib.hid fun W h => ⟨h.heap (Ext.heap ((Ext.refl _).alloc _) (heap_alloc_new _ _)), h.heap (new_at (by simp) _ _)⟩
  clear hcc hic hrc hr hbs
  go_enter Tryd.func3, Tryd.ntmps3
  go_wp2_with fail
  refine (HAw.out _ (HG.out.ext (((Ext.refl _).alloc _).alloc _))).mono ?_
  rintro e w1 ⟨rfl, hx1⟩
  have HX1 := Lib.hid ((((Ext.refl w).alloc _).alloc _).trans hx1)
  have HH1 := Lib.hid (HB0.out _ hx1)
  clear hx1 HB0
  obtain ⟨k0, k1, k2, k3, k4, k5, k6, k7, k8, k9, k10, ksz⟩ := HCells.out _ _ _ _ _ _ _ _ _ _ _ _ _ _ HH1.out.1
  obtain ⟨m0, m1, m2, m3, m4, m5, m6, m7, m8, m9, m10, msz⟩ := HCells.out _ _ _ _ _ _ _ _ _ _ _ _ _ _ HH1.out.2
  go_wp2_with fail
  refine (HBytes.out _ HX1.out).mono ?_
  rintro e w2 ⟨v2, rfl, H2⟩
  have HX2 := Lib.hid (HX1.out.trans H2.out.2)
  have HH2 := Lib.hid (And.intro (H2.out.2.heap HH1.out.1) (H2.out.2.heap HH1.out.2))
  clear k0 k1 k2 k3 k4 k5 k6 k7 k8 k9 k10 ksz m0 m1 m2 m3 m4 m5 m6 m7 m8 m9 m10 msz
  obtain ⟨k0, k1, k2, k3, k4, k5, k6, k7, k8, k9, k10, ksz⟩ := HCells.out _ _ _ _ _ _ _ _ _ _ _ _ _ _ HH2.out.1
  go_wp2_with fail
  refine (HRBytes.out _ HX2.out).mono ?_
  rintro e w3 ⟨v3, rfl, H3⟩
  have HX3 := Lib.hid (HX2.out.trans H3.out.2)
  have HH3 := Lib.hid (And.intro (H3.out.2.heap HH2.out.1) (H3.out.2.heap HH2.out.2))
  clear k0 k1 k2 k3 k4 k5 k6 k7 k8 k9 k10 ksz
  go_wp2_with fail
  refine (HRead.out _ HX3.out).mono ?_
  rintro e w4 ⟨a4, mm4, q4, rfl, H4⟩
  have HX4 := Lib.hid (HX3.out.trans H4.out.2)
  have HH4 := Lib.hid (And.intro (H4.out.2.heap HH3.out.1) (H4.out.2.heap HH3.out.2))
  go_wp2_with fail
  refine (HRRead.out _ (HX4.out.alloc _)).mono ?_
  rintro e w5 ⟨a5, mm5, q5, rfl, H5⟩
  have HY5 := Lib.hid (((Ext.refl w4).alloc _).trans H5.out.2)
  have HX5 := Lib.hid (HX4.out.trans HY5.out)
  have HH5 := Lib.hid (And.intro (HY5.out.heap HH4.out.1) (HY5.out.heap HH4.out.2))
  have HR4 : Hid (w5.heap[w4.heap.size]? = some (.cells #[.int .u8 (r.u0 : Int), .int .u8 (r.u1 : Int), .int .u8 (r.u2 : Int), .int .i64 r.gap, .int .i64 r.wait, .int .i64 r.tries, .int .i64 r.strikes, .int .i64 r.queue, .int .i64 r.idle, .int .u16 (r.key : Int), .slice a4 mm4 q4] 26 (0, 0))) := Lib.hid (H5.out.2.heap (heap_alloc_new _ _))
  go_wp2_with fail
  refine (HBS.out _ _ _ ((H2.out.1.ext H3.out.2).ext (H4.out.2.trans (HY5.out.alloc _))) (H3.out.1.ext (H4.out.2.trans (HY5.out.alloc _)))).mono ?_
  rintro e w6 ⟨rfl, hx6⟩
  have HY6 := Lib.hid (((Ext.refl w5).alloc _).trans hx6)
  have HX6 := Lib.hid (HX5.out.trans HY6.out)
  have HH6 := Lib.hid (And.intro (HY6.out.heap HH5.out.1) (HY6.out.heap HH5.out.2))
  have HR6 := Lib.hid (HY6.out.heap HR4.out)
  have HS6 : Hid (w6.heap[w5.heap.size]? = some (.cells #[.int .u8 (r.u0 : Int), .int .u8 (r.u1 : Int), .int .u8 (r.u2 : Int), .int .i64 r.gap, .int .i64 r.wait, .int .i64 r.tries, .int .i64 r.strikes, .int .i64 r.queue, .int .i64 r.idle, .int .u16 (r.key : Int), .slice a5 mm5 q5] 33 (0, 0))) := Lib.hid (hx6.heap (heap_alloc_new _ _))
  clear hx6
  obtain ⟨k0, k1, k2, k3, k4, k5, k6, k7, k8, k9, k10, ksz⟩ := HCells.out _ _ _ _ _ _ _ _ _ _ _ _ _ _ HR6.out
  obtain ⟨m0, m1, m2, m3, m4, m5, m6, m7, m8, m9, m10, msz⟩ := HCells.out _ _ _ _ _ _ _ _ _ _ _ _ _ _ HS6.out
  go_wp2_with fail
  refine (HRS2.out _ _ _ (H4.out.1.ext (HY5.out.trans HY6.out)) (H5.out.1.ext HY6.out)).mono ?_
  rintro e w7 ⟨rfl, hx7⟩
  have HX7 := Lib.hid (HX6.out.trans hx7)
  have HH7 := Lib.hid (And.intro (hx7.heap HH6.out.1) (hx7.heap HH6.out.2))
  clear hx7 k0 k1 k2 k3 k4 k5 k6 k7 k8 k9 k10 ksz m0 m1 m2 m3 m4 m5 m6 m7 m8 m9 m10 msz
  go_wp2_with fail
  refine wp_region_set 94 [61, 62, 63, 64, 65, 66, 67, 68, 69, 70, 71, 72, 73, 74, 75, 76, 77, 78, 79, 80, 81, 82, 83, 84, 85, 86, 87, 88, 89, 90, 91, 92, 93, 6] (relM [(.eq (.bool true), none), (.eq (.bool true), none), (.eq (.bool true), none), (.eq (.bool true), none), (.eq (.bool true), none), (.eq (.int .i64 cc), none), (.eq (.int .i64 cc), none), (.eq (.bool true), none), (.eq (.bool true), none), (.eq (.bool true), none), (.eq (.bool true), none), (.eq (.bool true), none), (.eq (.bool true), none), (.eq (.int .i64 rc), none), (.eq (.int .i64 rc), none), (.eq (.bool true), none), (.eq (.bool true), none), (.eq (.bool true), none), (.eq (Value.agg #[.int .u8 (c.u0 : Int), .int .u8 (c.u1 : Int), .int .u8 (c.u2 : Int), .int .i64 c.gap, .int .i64 c.wait, .int .i64 c.tries, .int .i64 c.strikes, .int .i64 c.queue, .int .i64 c.idle, .int .u16 (c.key : Int), (.slice a0 n0 p0)]), none), (.eq (.int .i64 cc), none), (.eq (Value.agg #[.int .u8 (c.u0 : Int), .int .u8 (c.u1 : Int), .int .u8 (c.u2 : Int), .int .i64 c.gap, .int .i64 c.wait, .int .i64 c.tries, .int .i64 c.strikes, .int .i64 c.queue, .int .i64 c.idle, .int .u16 (c.key : Int), (.slice a0 n0 p0)]), none), (.eq (.int .i64 cc), none), (.eq (.bool true), none), (.eq (.bool true), none), (.eq (.bool true), none), (.eq (Value.agg #[.int .u8 (c.u0 : Int), .int .u8 (c.u1 : Int), .int .u8 (c.u2 : Int), .int .i64 c.gap, .int .i64 c.wait, .int .i64 c.tries, .int .i64 c.strikes, .int .i64 c.queue, .int .i64 c.idle, .int .u16 (c.key : Int), (.slice a0 n0 p0)]), none), (.eq (Value.agg #[.int .u8 (d.u0 : Int), .int .u8 (d.u1 : Int), .int .u8 (d.u2 : Int), .int .i64 d.gap, .int .i64 d.wait, .int .i64 d.tries, .int .i64 d.strikes, .int .i64 d.queue, .int .i64 d.idle, .int .u16 (d.key : Int), (.slice a1 n1 p1)]), none), (.eq (.bool bs), none), (.eq (Value.agg #[.int .u8 (c.u0 : Int), .int .u8 (c.u1 : Int), .int .u8 (c.u2 : Int), .int .i64 c.gap, .int .i64 c.wait, .int .i64 c.tries, .int .i64 c.strikes, .int .i64 c.queue, .int .i64 c.idle, .int .u16 (c.key : Int), (.slice a0 n0 p0)]), none), (.eq (Value.agg #[.int .u8 (d.u0 : Int), .int .u8 (d.u1 : Int), .int .u8 (d.u2 : Int), .int .i64 d.gap, .int .i64 d.wait, .int .i64 d.tries, .int .i64 d.strikes, .int .i64 d.queue, .int .i64 d.idle, .int .u16 (d.key : Int), (.slice a1 n1 p1)]), none), (.eq (.bool bs), none), (.eq (.bool true), none), (.eq (.bool true), none), (.eq (.bool true), none)]) (SBs w [(w.heap.size, #[.int .u8 (c.u0 : Int), .int .u8 (c.u1 : Int), .int .u8 (c.u2 : Int), .int .i64 c.gap, .int .i64 c.wait, .int .i64 c.tries, .int .i64 c.strikes, .int .i64 c.queue, .int .i64 c.idle, .int .u16 (c.key : Int), (.slice a0 n0 p0)], 26), ((w.heap.size + 1), #[.int .u8 (d.u0 : Int), .int .u8 (d.u1 : Int), .int .u8 (d.u2 : Int), .int .i64 d.gap, .int .i64 d.wait, .int .i64 d.tries, .int .i64 d.strikes, .int .i64 d.queue, .int .i64 d.idle, .int .u16 (d.key : Int), (.slice a1 n1 p1)], 26)] 5 (.slice none 0 0) [] 100) (by kernel_rfl) (by kernel_rfl) (by kernel_rfl) (by kernel_rfl) rfl (SBs.start HX7.out (box_cons HH7.out.1 (box_cons HH7.out.2 box_nil)) (World.ownsRow_nil _ _ _ _)) (LivesG.cons ?_ (LivesG.cons ?_ (LivesG.cons ?_ (LivesG.cons ?_ (LivesG.cons ?_ (LivesG.cons ?_ (LivesG.cons ?_ (LivesG.cons ?_ (LivesG.cons ?_ (LivesG.cons ?_ (LivesG.cons ?_ (LivesG.cons ?_ (LivesG.cons ?_ (LivesG.cons ?_ (LivesG.cons ?_ (LivesG.cons ?_ (LivesG.cons ?_ (LivesG.cons ?_ (LivesG.cons ?_ (LivesG.cons ?_ (LivesG.cons ?_ (LivesG.cons ?_ (LivesG.cons ?_ (LivesG.cons ?_ (LivesG.cons ?_ (LivesG.cons ?_ (LivesG.cons ?_ (LivesG.cons ?_ (LivesG.cons ?_ (LivesG.cons ?_ (LivesG.cons ?_ (LivesG.cons ?_ (LivesG.cons ?_ (LivesG.cons ?_ (LivesG.nil _))))))))))))))))))))))))))))))))))) ?_
  · intro L b W hL hdep hcl hf hu hS hd K hK
    refine step_now rfl ?_
    have f7 : b.tmps[7]?.getD undef = Value.bool true := (hf 7 (by kernel_rfl)).trans rfl
    have HS0 := Lib.hid hS
    have HCL := Lib.hid hcl
    have HDP := Lib.hid hdep
    clear hdep
    clear hf hu hd hS hcl
    go_simp
    exact hK _ _ (HS0.out.ext (Ext.refl _) _) (relM.now rfl rfl) (fun j v h1 h2 h => h.ext (Ext.refl _) _)
  · intro L b W hL hdep hcl hf hu hS hd K hK
    refine step_now rfl ?_
    have d61 : b.tmps[61]?.getD undef = .bool true := (hd ⟨0, .data⟩ (by simp) rfl _ _ rfl rfl).get (c := none) rfl (fun _ h => by cases h)
    have HS0 := Lib.hid hS
    have HCL := Lib.hid hcl
    have HDP := Lib.hid hdep
    clear hdep
    clear hf hu hd hS hcl
    go_simp
    exact hK _ _ (HS0.out.ext (Ext.refl _) _) (relM.now rfl rfl) (fun j v h1 h2 h => h.ext (Ext.refl _) _)
  · intro L b W hL hdep hcl hf hu hS hd K hK
    have dG : slotv b 62 = .bool true := (hd ⟨1, .guard⟩ (by simp) rfl _ _ rfl rfl).get (c := none) rfl (fun _ h => by cases h)
    refine step_on rfl rfl rfl dG ?_
    clear dG
    have f16 : b.tmps[16]?.getD undef = Value.bool true := (hf 16 (by kernel_rfl)).trans rfl
    have HS0 := Lib.hid hS
    have HCL := Lib.hid hcl
    have HDP := Lib.hid hdep
    clear hdep
    clear hf hu hd hS hcl
    go_simp
    exact hK _ _ (HS0.out.ext (Ext.refl _) _) (relM.now rfl rfl) (fun j v h1 h2 h => h.ext (Ext.refl _) _)
  · intro L b W hL hdep hcl hf hu hS hd K hK
    refine step_now rfl ?_
    have d62 : b.tmps[62]?.getD undef = .bool true := (hd ⟨1, .data⟩ (by simp) rfl _ _ rfl rfl).get (c := none) rfl (fun _ h => by cases h)
    have d63 : b.tmps[63]?.getD undef = .bool true := (hd ⟨2, .data⟩ (by simp) rfl _ _ rfl rfl).get (c := none) rfl (fun _ h => by cases h)
    have HS0 := Lib.hid hS
    have HCL := Lib.hid hcl
    have HDP := Lib.hid hdep
    clear hdep
    clear hf hu hd hS hcl
    go_simp
    exact hK _ _ (HS0.out.ext (Ext.refl _) _) (relM.now rfl rfl) (fun j v h1 h2 h => h.ext (Ext.refl _) _)
  · intro L b W hL hdep hcl hf hu hS hd K hK
    refine step_now rfl ?_
    have d64 : b.tmps[64]?.getD undef = .bool true := (hd ⟨3, .data⟩ (by simp) rfl _ _ rfl rfl).get (c := none) rfl (fun _ h => by cases h)
    have HS0 := Lib.hid hS
    have HCL := Lib.hid hcl
    have HDP := Lib.hid hdep
    clear hdep
    clear hf hu hd hS hcl
    go_simp
    exact hK _ _ (HS0.out.ext (Ext.refl _) _) (relM.now rfl rfl) (fun j v h1 h2 h => h.ext (Ext.refl _) _)
  · intro L b W hL hdep hcl hf hu hS hd K hK
    have dG : slotv b 65 = .bool true := (hd ⟨4, .guard⟩ (by simp) rfl _ _ rfl rfl).get (c := none) rfl (fun _ h => by cases h)
    refine step_on rfl rfl rfl dG ?_
    clear dG
    have f9 : b.tmps[9]?.getD undef = Value.int .i64 cc := (hf 9 (by kernel_rfl)).trans rfl
    have HS0 := Lib.hid hS
    have HCL := Lib.hid hcl
    have HDP := Lib.hid hdep
    clear hdep
    clear hf hu hd hS hcl
    go_simp
    exact hK _ _ (HS0.out.ext (Ext.refl _) _) (relM.now rfl rfl) (fun j v h1 h2 h => h.ext (Ext.refl _) _)
  · intro L b W hL hdep hcl hf hu hS hd K hK
    have dG : slotv b 65 = .bool true := (hd ⟨4, .guard⟩ (by simp) rfl _ _ rfl rfl).get (c := none) rfl (fun _ h => by cases h)
    refine step_on rfl rfl rfl dG ?_
    clear dG
    have f11 : b.tmps[11]?.getD undef = Value.int .i64 cc := (hf 11 (by kernel_rfl)).trans rfl
    have HS0 := Lib.hid hS
    have HCL := Lib.hid hcl
    have HDP := Lib.hid hdep
    clear hdep
    clear hf hu hd hS hcl
    go_simp
    exact hK _ _ (HS0.out.ext (Ext.refl _) _) (relM.now rfl rfl) (fun j v h1 h2 h => h.ext (Ext.refl _) _)
  · intro L b W hL hdep hcl hf hu hS hd K hK
    have dG : slotv b 65 = .bool true := (hd ⟨4, .guard⟩ (by simp) rfl _ _ rfl rfl).get (c := none) rfl (fun _ h => by cases h)
    refine step_on rfl rfl rfl dG ?_
    clear dG
    have d66 : b.tmps[66]?.getD undef = .int .i64 cc := (hd ⟨5, .data⟩ (by simp) rfl _ _ rfl rfl).get (c := none) rfl (fun _ h => by cases h)
    have d67 : b.tmps[67]?.getD undef = .int .i64 cc := (hd ⟨6, .data⟩ (by simp) rfl _ _ rfl rfl).get (c := none) rfl (fun _ h => by cases h)
    have HS0 := Lib.hid hS
    have HCL := Lib.hid hcl
    have HDP := Lib.hid hdep
    clear hdep
    clear hf hu hd hS hcl
    go_simp
    exact hK _ _ (HS0.out.ext (Ext.refl _) _) (relM.now rfl rfl) (fun j v h1 h2 h => h.ext (Ext.refl _) _)
  · intro L b W hL hdep hcl hf hu hS hd K hK
    refine step_now rfl ?_
    have d65 : b.tmps[65]?.getD undef = .bool true := (hd ⟨4, .data⟩ (by simp) rfl _ _ rfl rfl).get (c := none) rfl (fun _ h => by cases h)
    have d68 : b.tmps[68]?.getD undef = .bool true := (hd ⟨7, .data⟩ (by simp) rfl _ _ rfl rfl).get (c := none) rfl (fun _ h => by cases h)
    have HS0 := Lib.hid hS
    have HCL := Lib.hid hcl
    have HDP := Lib.hid hdep
    clear hdep
    clear hf hu hd hS hcl
    go_simp
    exact hK _ _ (HS0.out.ext (Ext.refl _) _) (relM.now rfl rfl) (fun j v h1 h2 h => h.ext (Ext.refl _) _)
  · intro L b W hL hdep hcl hf hu hS hd K hK
    refine step_now rfl ?_
    have d69 : b.tmps[69]?.getD undef = .bool true := (hd ⟨8, .data⟩ (by simp) rfl _ _ rfl rfl).get (c := none) rfl (fun _ h => by cases h)
    have HS0 := Lib.hid hS
    have HCL := Lib.hid hcl
    have HDP := Lib.hid hdep
    clear hdep
    clear hf hu hd hS hcl
    go_simp
    exact hK _ _ (HS0.out.ext (Ext.refl _) _) (relM.now rfl rfl) (fun j v h1 h2 h => h.ext (Ext.refl _) _)
  · intro L b W hL hdep hcl hf hu hS hd K hK
    have dG : slotv b 70 = .bool true := (hd ⟨9, .guard⟩ (by simp) rfl _ _ rfl rfl).get (c := none) rfl (fun _ h => by cases h)
    refine step_on rfl rfl rfl dG ?_
    clear dG
    have f17 : b.tmps[17]?.getD undef = Value.bool true := (hf 17 (by kernel_rfl)).trans rfl
    have HS0 := Lib.hid hS
    have HCL := Lib.hid hcl
    have HDP := Lib.hid hdep
    clear hdep
    clear hf hu hd hS hcl
    go_simp
    exact hK _ _ (HS0.out.ext (Ext.refl _) _) (relM.now rfl rfl) (fun j v h1 h2 h => h.ext (Ext.refl _) _)
  · intro L b W hL hdep hcl hf hu hS hd K hK
    refine step_now rfl ?_
    have d70 : b.tmps[70]?.getD undef = .bool true := (hd ⟨9, .data⟩ (by simp) rfl _ _ rfl rfl).get (c := none) rfl (fun _ h => by cases h)
    have d71 : b.tmps[71]?.getD undef = .bool true := (hd ⟨10, .data⟩ (by simp) rfl _ _ rfl rfl).get (c := none) rfl (fun _ h => by cases h)
    have HS0 := Lib.hid hS
    have HCL := Lib.hid hcl
    have HDP := Lib.hid hdep
    clear hdep
    clear hf hu hd hS hcl
    go_simp
    exact hK _ _ (HS0.out.ext (Ext.refl _) _) (relM.now rfl rfl) (fun j v h1 h2 h => h.ext (Ext.refl _) _)
  · intro L b W hL hdep hcl hf hu hS hd K hK
    refine step_now rfl ?_
    have d72 : b.tmps[72]?.getD undef = .bool true := (hd ⟨11, .data⟩ (by simp) rfl _ _ rfl rfl).get (c := none) rfl (fun _ h => by cases h)
    have HS0 := Lib.hid hS
    have HCL := Lib.hid hcl
    have HDP := Lib.hid hdep
    clear hdep
    clear hf hu hd hS hcl
    go_simp
    exact hK _ _ (HS0.out.ext (Ext.refl _) _) (relM.now rfl rfl) (fun j v h1 h2 h => h.ext (Ext.refl _) _)
  · intro L b W hL hdep hcl hf hu hS hd K hK
    have dG : slotv b 73 = .bool true := (hd ⟨12, .guard⟩ (by simp) rfl _ _ rfl rfl).get (c := none) rfl (fun _ h => by cases h)
    refine step_on rfl rfl rfl dG ?_
    clear dG
    have f13 : b.tmps[13]?.getD undef = Value.int .i64 rc := (hf 13 (by kernel_rfl)).trans rfl
    have HS0 := Lib.hid hS
    have HCL := Lib.hid hcl
    have HDP := Lib.hid hdep
    clear hdep
    clear hf hu hd hS hcl
    go_simp
    exact hK _ _ (HS0.out.ext (Ext.refl _) _) (relM.now rfl rfl) (fun j v h1 h2 h => h.ext (Ext.refl _) _)
  · intro L b W hL hdep hcl hf hu hS hd K hK
    have dG : slotv b 73 = .bool true := (hd ⟨12, .guard⟩ (by simp) rfl _ _ rfl rfl).get (c := none) rfl (fun _ h => by cases h)
    refine step_on rfl rfl rfl dG ?_
    clear dG
    have f15 : b.tmps[15]?.getD undef = Value.int .i64 rc := (hf 15 (by kernel_rfl)).trans rfl
    have HS0 := Lib.hid hS
    have HCL := Lib.hid hcl
    have HDP := Lib.hid hdep
    clear hdep
    clear hf hu hd hS hcl
    go_simp
    exact hK _ _ (HS0.out.ext (Ext.refl _) _) (relM.now rfl rfl) (fun j v h1 h2 h => h.ext (Ext.refl _) _)
  · intro L b W hL hdep hcl hf hu hS hd K hK
    have dG : slotv b 73 = .bool true := (hd ⟨12, .guard⟩ (by simp) rfl _ _ rfl rfl).get (c := none) rfl (fun _ h => by cases h)
    refine step_on rfl rfl rfl dG ?_
    clear dG
    have d74 : b.tmps[74]?.getD undef = .int .i64 rc := (hd ⟨13, .data⟩ (by simp) rfl _ _ rfl rfl).get (c := none) rfl (fun _ h => by cases h)
    have d75 : b.tmps[75]?.getD undef = .int .i64 rc := (hd ⟨14, .data⟩ (by simp) rfl _ _ rfl rfl).get (c := none) rfl (fun _ h => by cases h)
    have HS0 := Lib.hid hS
    have HCL := Lib.hid hcl
    have HDP := Lib.hid hdep
    clear hdep
    clear hf hu hd hS hcl
    go_simp
    exact hK _ _ (HS0.out.ext (Ext.refl _) _) (relM.now rfl rfl) (fun j v h1 h2 h => h.ext (Ext.refl _) _)
  · intro L b W hL hdep hcl hf hu hS hd K hK
    refine step_now rfl ?_
    have d73 : b.tmps[73]?.getD undef = .bool true := (hd ⟨12, .data⟩ (by simp) rfl _ _ rfl rfl).get (c := none) rfl (fun _ h => by cases h)
    have d76 : b.tmps[76]?.getD undef = .bool true := (hd ⟨15, .data⟩ (by simp) rfl _ _ rfl rfl).get (c := none) rfl (fun _ h => by cases h)
    have HS0 := Lib.hid hS
    have HCL := Lib.hid hcl
    have HDP := Lib.hid hdep
    clear hdep
    clear hf hu hd hS hcl
    go_simp
    exact hK _ _ (HS0.out.ext (Ext.refl _) _) (relM.now rfl rfl) (fun j v h1 h2 h => h.ext (Ext.refl _) _)
  · intro L b W hL hdep hcl hf hu hS hd K hK
    refine step_now rfl ?_
    have d77 : b.tmps[77]?.getD undef = .bool true := (hd ⟨16, .data⟩ (by simp) rfl _ _ rfl rfl).get (c := none) rfl (fun _ h => by cases h)
    have HS0 := Lib.hid hS
    have HCL := Lib.hid hcl
    have HDP := Lib.hid hdep
    clear hdep
    clear hf hu hd hS hcl
    go_simp
    exact hK _ _ (HS0.out.ext (Ext.refl _) _) (relM.now rfl rfl) (fun j v h1 h2 h => h.ext (Ext.refl _) _)
  · intro L b W hL hdep hcl hf hu hS hd K hK
    have dG : slotv b 78 = .bool true := (hd ⟨17, .guard⟩ (by simp) rfl _ _ rfl rfl).get (c := none) rfl (fun _ h => by cases h)
    refine step_on rfl rfl rfl dG ?_
    clear dG
    have f3 : b.tmps[3]?.getD undef = Value.pointer (some ⟨w.heap.size, 0, none⟩) := (hf 3 (by kernel_rfl)).trans rfl
    have HS0 := Lib.hid hS
    have HCL := Lib.hid hcl
    have HDP := Lib.hid hdep
    clear hdep
    clear hf hu hd hS hcl
    have kc0 : W.cell? ⟨w.heap.size, 0, none⟩ = some (.int .u8 (c.u0 : Int)) := blk_cell HS0.out.box0 0
    have kc1 : W.cell? ⟨w.heap.size, 1, none⟩ = some (.int .u8 (c.u1 : Int)) := blk_cell HS0.out.box0 1
    have kc2 : W.cell? ⟨w.heap.size, 2, none⟩ = some (.int .u8 (c.u2 : Int)) := blk_cell HS0.out.box0 2
    have kc3 : W.cell? ⟨w.heap.size, 3, none⟩ = some (.int .i64 c.gap) := blk_cell HS0.out.box0 3
    have kc4 : W.cell? ⟨w.heap.size, 4, none⟩ = some (.int .i64 c.wait) := blk_cell HS0.out.box0 4
    have kc5 : W.cell? ⟨w.heap.size, 5, none⟩ = some (.int .i64 c.tries) := blk_cell HS0.out.box0 5
    have kc6 : W.cell? ⟨w.heap.size, 6, none⟩ = some (.int .i64 c.strikes) := blk_cell HS0.out.box0 6
    have kc7 : W.cell? ⟨w.heap.size, 7, none⟩ = some (.int .i64 c.queue) := blk_cell HS0.out.box0 7
    have kc8 : W.cell? ⟨w.heap.size, 8, none⟩ = some (.int .i64 c.idle) := blk_cell HS0.out.box0 8
    have kc9 : W.cell? ⟨w.heap.size, 9, none⟩ = some (.int .u16 (c.key : Int)) := blk_cell HS0.out.box0 9
    have kc10 : W.cell? ⟨w.heap.size, 10, none⟩ = some ((.slice a0 n0 p0)) := blk_cell HS0.out.box0 10
    go_simp
    exact hK _ _ (HS0.out.ext (Ext.refl _) _) (relM.now rfl rfl) (fun j v h1 h2 h => h.ext (Ext.refl _) _)
  · intro L b W hL hdep hcl hf hu hS hd K hK
    have dG : slotv b 78 = .bool true := (hd ⟨17, .guard⟩ (by simp) rfl _ _ rfl rfl).get (c := none) rfl (fun _ h => by cases h)
    refine step_on rfl rfl rfl dG ?_
    clear dG
    have d79 : b.tmps[79]?.getD undef = Value.agg #[.int .u8 (c.u0 : Int), .int .u8 (c.u1 : Int), .int .u8 (c.u2 : Int), .int .i64 c.gap, .int .i64 c.wait, .int .i64 c.tries, .int .i64 c.strikes, .int .i64 c.queue, .int .i64 c.idle, .int .u16 (c.key : Int), (.slice a0 n0 p0)] := (hd ⟨18, .data⟩ (by simp) rfl _ _ rfl rfl).get (c := none) rfl (fun _ h => by cases h)
    have HS0 := Lib.hid hS
    have HCL := Lib.hid hcl
    have HDP := Lib.hid hdep
    clear hdep
    clear hf hu hd hS hcl
    go_simp
    refine (HCk.out _ HS0.out.1).mono ?_
    rintro e W' ⟨rfl, hx'⟩
    exact hK _ _ (HS0.out.ext hx' _) (relM.now rfl rfl) (fun j v h1 h2 h => h.ext hx' _)
  · intro L b W hL hdep hcl hf hu hS hd K hK
    have dG : slotv b 78 = .bool true := (hd ⟨17, .guard⟩ (by simp) rfl _ _ rfl rfl).get (c := none) rfl (fun _ h => by cases h)
    refine step_on rfl rfl rfl dG ?_
    clear dG
    have f3 : b.tmps[3]?.getD undef = Value.pointer (some ⟨w.heap.size, 0, none⟩) := (hf 3 (by kernel_rfl)).trans rfl
    have HS0 := Lib.hid hS
    have HCL := Lib.hid hcl
    have HDP := Lib.hid hdep
    clear hdep
    clear hf hu hd hS hcl
    have kc0 : W.cell? ⟨w.heap.size, 0, none⟩ = some (.int .u8 (c.u0 : Int)) := blk_cell HS0.out.box0 0
    have kc1 : W.cell? ⟨w.heap.size, 1, none⟩ = some (.int .u8 (c.u1 : Int)) := blk_cell HS0.out.box0 1
    have kc2 : W.cell? ⟨w.heap.size, 2, none⟩ = some (.int .u8 (c.u2 : Int)) := blk_cell HS0.out.box0 2
    have kc3 : W.cell? ⟨w.heap.size, 3, none⟩ = some (.int .i64 c.gap) := blk_cell HS0.out.box0 3
    have kc4 : W.cell? ⟨w.heap.size, 4, none⟩ = some (.int .i64 c.wait) := blk_cell HS0.out.box0 4
    have kc5 : W.cell? ⟨w.heap.size, 5, none⟩ = some (.int .i64 c.tries) := blk_cell HS0.out.box0 5
    have kc6 : W.cell? ⟨w.heap.size, 6, none⟩ = some (.int .i64 c.strikes) := blk_cell HS0.out.box0 6
    have kc7 : W.cell? ⟨w.heap.size, 7, none⟩ = some (.int .i64 c.queue) := blk_cell HS0.out.box0 7
    have kc8 : W.cell? ⟨w.heap.size, 8, none⟩ = some (.int .i64 c.idle) := blk_cell HS0.out.box0 8
    have kc9 : W.cell? ⟨w.heap.size, 9, none⟩ = some (.int .u16 (c.key : Int)) := blk_cell HS0.out.box0 9
    have kc10 : W.cell? ⟨w.heap.size, 10, none⟩ = some ((.slice a0 n0 p0)) := blk_cell HS0.out.box0 10
    go_simp
    exact hK _ _ (HS0.out.ext (Ext.refl _) _) (relM.now rfl rfl) (fun j v h1 h2 h => h.ext (Ext.refl _) _)
  · intro L b W hL hdep hcl hf hu hS hd K hK
    have dG : slotv b 78 = .bool true := (hd ⟨17, .guard⟩ (by simp) rfl _ _ rfl rfl).get (c := none) rfl (fun _ h => by cases h)
    refine step_on rfl rfl rfl dG ?_
    clear dG
    have d81 : b.tmps[81]?.getD undef = Value.agg #[.int .u8 (c.u0 : Int), .int .u8 (c.u1 : Int), .int .u8 (c.u2 : Int), .int .i64 c.gap, .int .i64 c.wait, .int .i64 c.tries, .int .i64 c.strikes, .int .i64 c.queue, .int .i64 c.idle, .int .u16 (c.key : Int), (.slice a0 n0 p0)] := (hd ⟨20, .data⟩ (by simp) rfl _ _ rfl rfl).get (c := none) rfl (fun _ h => by cases h)
    have HS0 := Lib.hid hS
    have HCL := Lib.hid hcl
    have HDP := Lib.hid hdep
    clear hdep
    clear hf hu hd hS hcl
    go_simp
    refine (HRCk.out _ HS0.out.1).mono ?_
    rintro e W' ⟨rfl, hx'⟩
    exact hK _ _ (HS0.out.ext hx' _) (relM.now rfl rfl) (fun j v h1 h2 h => h.ext hx' _)
  · intro L b W hL hdep hcl hf hu hS hd K hK
    have dG : slotv b 78 = .bool true := (hd ⟨17, .guard⟩ (by simp) rfl _ _ rfl rfl).get (c := none) rfl (fun _ h => by cases h)
    refine step_on rfl rfl rfl dG ?_
    clear dG
    have d80 : b.tmps[80]?.getD undef = .int .i64 cc := (hd ⟨19, .data⟩ (by simp) rfl _ _ rfl rfl).get (c := none) rfl (fun _ h => by cases h)
    have d82 : b.tmps[82]?.getD undef = .int .i64 cc := (hd ⟨21, .data⟩ (by simp) rfl _ _ rfl rfl).get (c := none) rfl (fun _ h => by cases h)
    have HS0 := Lib.hid hS
    have HCL := Lib.hid hcl
    have HDP := Lib.hid hdep
    clear hdep
    clear hf hu hd hS hcl
    go_simp
    exact hK _ _ (HS0.out.ext (Ext.refl _) _) (relM.now rfl rfl) (fun j v h1 h2 h => h.ext (Ext.refl _) _)
  · intro L b W hL hdep hcl hf hu hS hd K hK
    refine step_now rfl ?_
    have d78 : b.tmps[78]?.getD undef = .bool true := (hd ⟨17, .data⟩ (by simp) rfl _ _ rfl rfl).get (c := none) rfl (fun _ h => by cases h)
    have d83 : b.tmps[83]?.getD undef = .bool true := (hd ⟨22, .data⟩ (by simp) rfl _ _ rfl rfl).get (c := none) rfl (fun _ h => by cases h)
    have HS0 := Lib.hid hS
    have HCL := Lib.hid hcl
    have HDP := Lib.hid hdep
    clear hdep
    clear hf hu hd hS hcl
    go_simp
    exact hK _ _ (HS0.out.ext (Ext.refl _) _) (relM.now rfl rfl) (fun j v h1 h2 h => h.ext (Ext.refl _) _)
  · intro L b W hL hdep hcl hf hu hS hd K hK
    refine step_now rfl ?_
    have d84 : b.tmps[84]?.getD undef = .bool true := (hd ⟨23, .data⟩ (by simp) rfl _ _ rfl rfl).get (c := none) rfl (fun _ h => by cases h)
    have HS0 := Lib.hid hS
    have HCL := Lib.hid hcl
    have HDP := Lib.hid hdep
    clear hdep
    clear hf hu hd hS hcl
    go_simp
    exact hK _ _ (HS0.out.ext (Ext.refl _) _) (relM.now rfl rfl) (fun j v h1 h2 h => h.ext (Ext.refl _) _)
  · intro L b W hL hdep hcl hf hu hS hd K hK
    have dG : slotv b 85 = .bool true := (hd ⟨24, .guard⟩ (by simp) rfl _ _ rfl rfl).get (c := none) rfl (fun _ h => by cases h)
    refine step_on rfl rfl rfl dG ?_
    clear dG
    have f3 : b.tmps[3]?.getD undef = Value.pointer (some ⟨w.heap.size, 0, none⟩) := (hf 3 (by kernel_rfl)).trans rfl
    have HS0 := Lib.hid hS
    have HCL := Lib.hid hcl
    have HDP := Lib.hid hdep
    clear hdep
    clear hf hu hd hS hcl
    have kc0 : W.cell? ⟨w.heap.size, 0, none⟩ = some (.int .u8 (c.u0 : Int)) := blk_cell HS0.out.box0 0
    have kc1 : W.cell? ⟨w.heap.size, 1, none⟩ = some (.int .u8 (c.u1 : Int)) := blk_cell HS0.out.box0 1
    have kc2 : W.cell? ⟨w.heap.size, 2, none⟩ = some (.int .u8 (c.u2 : Int)) := blk_cell HS0.out.box0 2
    have kc3 : W.cell? ⟨w.heap.size, 3, none⟩ = some (.int .i64 c.gap) := blk_cell HS0.out.box0 3
    have kc4 : W.cell? ⟨w.heap.size, 4, none⟩ = some (.int .i64 c.wait) := blk_cell HS0.out.box0 4
    have kc5 : W.cell? ⟨w.heap.size, 5, none⟩ = some (.int .i64 c.tries) := blk_cell HS0.out.box0 5
    have kc6 : W.cell? ⟨w.heap.size, 6, none⟩ = some (.int .i64 c.strikes) := blk_cell HS0.out.box0 6
    have kc7 : W.cell? ⟨w.heap.size, 7, none⟩ = some (.int .i64 c.queue) := blk_cell HS0.out.box0 7
    have kc8 : W.cell? ⟨w.heap.size, 8, none⟩ = some (.int .i64 c.idle) := blk_cell HS0.out.box0 8
    have kc9 : W.cell? ⟨w.heap.size, 9, none⟩ = some (.int .u16 (c.key : Int)) := blk_cell HS0.out.box0 9
    have kc10 : W.cell? ⟨w.heap.size, 10, none⟩ = some ((.slice a0 n0 p0)) := blk_cell HS0.out.box0 10
    go_simp
    exact hK _ _ (HS0.out.ext (Ext.refl _) _) (relM.now rfl rfl) (fun j v h1 h2 h => h.ext (Ext.refl _) _)
  · intro L b W hL hdep hcl hf hu hS hd K hK
    have dG : slotv b 85 = .bool true := (hd ⟨24, .guard⟩ (by simp) rfl _ _ rfl rfl).get (c := none) rfl (fun _ h => by cases h)
    refine step_on rfl rfl rfl dG ?_
    clear dG
    have f4 : b.tmps[4]?.getD undef = Value.pointer (some ⟨(w.heap.size + 1), 0, none⟩) := (hf 4 (by kernel_rfl)).trans rfl
    have HS0 := Lib.hid hS
    have HCL := Lib.hid hcl
    have HDP := Lib.hid hdep
    clear hdep
    clear hf hu hd hS hcl
    have kc0 : W.cell? ⟨(w.heap.size + 1), 0, none⟩ = some (.int .u8 (d.u0 : Int)) := blk_cell HS0.out.box1 0
    have kc1 : W.cell? ⟨(w.heap.size + 1), 1, none⟩ = some (.int .u8 (d.u1 : Int)) := blk_cell HS0.out.box1 1
    have kc2 : W.cell? ⟨(w.heap.size + 1), 2, none⟩ = some (.int .u8 (d.u2 : Int)) := blk_cell HS0.out.box1 2
    have kc3 : W.cell? ⟨(w.heap.size + 1), 3, none⟩ = some (.int .i64 d.gap) := blk_cell HS0.out.box1 3
    have kc4 : W.cell? ⟨(w.heap.size + 1), 4, none⟩ = some (.int .i64 d.wait) := blk_cell HS0.out.box1 4
    have kc5 : W.cell? ⟨(w.heap.size + 1), 5, none⟩ = some (.int .i64 d.tries) := blk_cell HS0.out.box1 5
    have kc6 : W.cell? ⟨(w.heap.size + 1), 6, none⟩ = some (.int .i64 d.strikes) := blk_cell HS0.out.box1 6
    have kc7 : W.cell? ⟨(w.heap.size + 1), 7, none⟩ = some (.int .i64 d.queue) := blk_cell HS0.out.box1 7
    have kc8 : W.cell? ⟨(w.heap.size + 1), 8, none⟩ = some (.int .i64 d.idle) := blk_cell HS0.out.box1 8
    have kc9 : W.cell? ⟨(w.heap.size + 1), 9, none⟩ = some (.int .u16 (d.key : Int)) := blk_cell HS0.out.box1 9
    have kc10 : W.cell? ⟨(w.heap.size + 1), 10, none⟩ = some ((.slice a1 n1 p1)) := blk_cell HS0.out.box1 10
    go_simp
    exact hK _ _ (HS0.out.ext (Ext.refl _) _) (relM.now rfl rfl) (fun j v h1 h2 h => h.ext (Ext.refl _) _)
  · intro L b W hL hdep hcl hf hu hS hd K hK
    have dG : slotv b 85 = .bool true := (hd ⟨24, .guard⟩ (by simp) rfl _ _ rfl rfl).get (c := none) rfl (fun _ h => by cases h)
    refine step_on rfl rfl rfl dG ?_
    clear dG
    have d86 : b.tmps[86]?.getD undef = Value.agg #[.int .u8 (c.u0 : Int), .int .u8 (c.u1 : Int), .int .u8 (c.u2 : Int), .int .i64 c.gap, .int .i64 c.wait, .int .i64 c.tries, .int .i64 c.strikes, .int .i64 c.queue, .int .i64 c.idle, .int .u16 (c.key : Int), (.slice a0 n0 p0)] := (hd ⟨25, .data⟩ (by simp) rfl _ _ rfl rfl).get (c := none) rfl (fun _ h => by cases h)
    have d87 : b.tmps[87]?.getD undef = Value.agg #[.int .u8 (d.u0 : Int), .int .u8 (d.u1 : Int), .int .u8 (d.u2 : Int), .int .i64 d.gap, .int .i64 d.wait, .int .i64 d.tries, .int .i64 d.strikes, .int .i64 d.queue, .int .i64 d.idle, .int .u16 (d.key : Int), (.slice a1 n1 p1)] := (hd ⟨26, .data⟩ (by simp) rfl _ _ rfl rfl).get (c := none) rfl (fun _ h => by cases h)
    have HS0 := Lib.hid hS
    have HCL := Lib.hid hcl
    have HDP := Lib.hid hdep
    clear hdep
    clear hf hu hd hS hcl
    go_simp
    refine (HSm.out _ HS0.out.1).mono ?_
    rintro e W' ⟨rfl, hx'⟩
    exact hK _ _ (HS0.out.ext hx' _) (relM.now rfl rfl) (fun j v h1 h2 h => h.ext hx' _)
  · intro L b W hL hdep hcl hf hu hS hd K hK
    have dG : slotv b 85 = .bool true := (hd ⟨24, .guard⟩ (by simp) rfl _ _ rfl rfl).get (c := none) rfl (fun _ h => by cases h)
    refine step_on rfl rfl rfl dG ?_
    clear dG
    have f3 : b.tmps[3]?.getD undef = Value.pointer (some ⟨w.heap.size, 0, none⟩) := (hf 3 (by kernel_rfl)).trans rfl
    have HS0 := Lib.hid hS
    have HCL := Lib.hid hcl
    have HDP := Lib.hid hdep
    clear hdep
    clear hf hu hd hS hcl
    have kc0 : W.cell? ⟨w.heap.size, 0, none⟩ = some (.int .u8 (c.u0 : Int)) := blk_cell HS0.out.box0 0
    have kc1 : W.cell? ⟨w.heap.size, 1, none⟩ = some (.int .u8 (c.u1 : Int)) := blk_cell HS0.out.box0 1
    have kc2 : W.cell? ⟨w.heap.size, 2, none⟩ = some (.int .u8 (c.u2 : Int)) := blk_cell HS0.out.box0 2
    have kc3 : W.cell? ⟨w.heap.size, 3, none⟩ = some (.int .i64 c.gap) := blk_cell HS0.out.box0 3
    have kc4 : W.cell? ⟨w.heap.size, 4, none⟩ = some (.int .i64 c.wait) := blk_cell HS0.out.box0 4
    have kc5 : W.cell? ⟨w.heap.size, 5, none⟩ = some (.int .i64 c.tries) := blk_cell HS0.out.box0 5
    have kc6 : W.cell? ⟨w.heap.size, 6, none⟩ = some (.int .i64 c.strikes) := blk_cell HS0.out.box0 6
    have kc7 : W.cell? ⟨w.heap.size, 7, none⟩ = some (.int .i64 c.queue) := blk_cell HS0.out.box0 7
    have kc8 : W.cell? ⟨w.heap.size, 8, none⟩ = some (.int .i64 c.idle) := blk_cell HS0.out.box0 8
    have kc9 : W.cell? ⟨w.heap.size, 9, none⟩ = some (.int .u16 (c.key : Int)) := blk_cell HS0.out.box0 9
    have kc10 : W.cell? ⟨w.heap.size, 10, none⟩ = some ((.slice a0 n0 p0)) := blk_cell HS0.out.box0 10
    go_simp
    exact hK _ _ (HS0.out.ext (Ext.refl _) _) (relM.now rfl rfl) (fun j v h1 h2 h => h.ext (Ext.refl _) _)
  · intro L b W hL hdep hcl hf hu hS hd K hK
    have dG : slotv b 85 = .bool true := (hd ⟨24, .guard⟩ (by simp) rfl _ _ rfl rfl).get (c := none) rfl (fun _ h => by cases h)
    refine step_on rfl rfl rfl dG ?_
    clear dG
    have f4 : b.tmps[4]?.getD undef = Value.pointer (some ⟨(w.heap.size + 1), 0, none⟩) := (hf 4 (by kernel_rfl)).trans rfl
    have HS0 := Lib.hid hS
    have HCL := Lib.hid hcl
    have HDP := Lib.hid hdep
    clear hdep
    clear hf hu hd hS hcl
    have kc0 : W.cell? ⟨(w.heap.size + 1), 0, none⟩ = some (.int .u8 (d.u0 : Int)) := blk_cell HS0.out.box1 0
    have kc1 : W.cell? ⟨(w.heap.size + 1), 1, none⟩ = some (.int .u8 (d.u1 : Int)) := blk_cell HS0.out.box1 1
    have kc2 : W.cell? ⟨(w.heap.size + 1), 2, none⟩ = some (.int .u8 (d.u2 : Int)) := blk_cell HS0.out.box1 2
    have kc3 : W.cell? ⟨(w.heap.size + 1), 3, none⟩ = some (.int .i64 d.gap) := blk_cell HS0.out.box1 3
    have kc4 : W.cell? ⟨(w.heap.size + 1), 4, none⟩ = some (.int .i64 d.wait) := blk_cell HS0.out.box1 4
    have kc5 : W.cell? ⟨(w.heap.size + 1), 5, none⟩ = some (.int .i64 d.tries) := blk_cell HS0.out.box1 5
    have kc6 : W.cell? ⟨(w.heap.size + 1), 6, none⟩ = some (.int .i64 d.strikes) := blk_cell HS0.out.box1 6
    have kc7 : W.cell? ⟨(w.heap.size + 1), 7, none⟩ = some (.int .i64 d.queue) := blk_cell HS0.out.box1 7
    have kc8 : W.cell? ⟨(w.heap.size + 1), 8, none⟩ = some (.int .i64 d.idle) := blk_cell HS0.out.box1 8
    have kc9 : W.cell? ⟨(w.heap.size + 1), 9, none⟩ = some (.int .u16 (d.key : Int)) := blk_cell HS0.out.box1 9
    have kc10 : W.cell? ⟨(w.heap.size + 1), 10, none⟩ = some ((.slice a1 n1 p1)) := blk_cell HS0.out.box1 10
    go_simp
    exact hK _ _ (HS0.out.ext (Ext.refl _) _) (relM.now rfl rfl) (fun j v h1 h2 h => h.ext (Ext.refl _) _)
  · intro L b W hL hdep hcl hf hu hS hd K hK
    have dG : slotv b 85 = .bool true := (hd ⟨24, .guard⟩ (by simp) rfl _ _ rfl rfl).get (c := none) rfl (fun _ h => by cases h)
    refine step_on rfl rfl rfl dG ?_
    clear dG
    have d89 : b.tmps[89]?.getD undef = Value.agg #[.int .u8 (c.u0 : Int), .int .u8 (c.u1 : Int), .int .u8 (c.u2 : Int), .int .i64 c.gap, .int .i64 c.wait, .int .i64 c.tries, .int .i64 c.strikes, .int .i64 c.queue, .int .i64 c.idle, .int .u16 (c.key : Int), (.slice a0 n0 p0)] := (hd ⟨28, .data⟩ (by simp) rfl _ _ rfl rfl).get (c := none) rfl (fun _ h => by cases h)
    have d90 : b.tmps[90]?.getD undef = Value.agg #[.int .u8 (d.u0 : Int), .int .u8 (d.u1 : Int), .int .u8 (d.u2 : Int), .int .i64 d.gap, .int .i64 d.wait, .int .i64 d.tries, .int .i64 d.strikes, .int .i64 d.queue, .int .i64 d.idle, .int .u16 (d.key : Int), (.slice a1 n1 p1)] := (hd ⟨29, .data⟩ (by simp) rfl _ _ rfl rfl).get (c := none) rfl (fun _ h => by cases h)
    have HS0 := Lib.hid hS
    have HCL := Lib.hid hcl
    have HDP := Lib.hid hdep
    clear hdep
    clear hf hu hd hS hcl
    go_simp
    refine (HRSm.out _ HS0.out.1).mono ?_
    rintro e W' ⟨rfl, hx'⟩
    exact hK _ _ (HS0.out.ext hx' _) (relM.now rfl rfl) (fun j v h1 h2 h => h.ext hx' _)
  · intro L b W hL hdep hcl hf hu hS hd K hK
    have dG : slotv b 85 = .bool true := (hd ⟨24, .guard⟩ (by simp) rfl _ _ rfl rfl).get (c := none) rfl (fun _ h => by cases h)
    refine step_on rfl rfl rfl dG ?_
    clear dG
    have d88 : b.tmps[88]?.getD undef = .bool bs := (hd ⟨27, .data⟩ (by simp) rfl _ _ rfl rfl).get (c := none) rfl (fun _ h => by cases h)
    have d91 : b.tmps[91]?.getD undef = .bool bs := (hd ⟨30, .data⟩ (by simp) rfl _ _ rfl rfl).get (c := none) rfl (fun _ h => by cases h)
    have HS0 := Lib.hid hS
    have HCL := Lib.hid hcl
    have HDP := Lib.hid hdep
    clear hdep
    clear hf hu hd hS hcl
    go_simp
    exact hK _ _ (HS0.out.ext (Ext.refl _) _) (relM.now rfl rfl) (fun j v h1 h2 h => h.ext (Ext.refl _) _)
  · intro L b W hL hdep hcl hf hu hS hd K hK
    refine step_now rfl ?_
    have d85 : b.tmps[85]?.getD undef = .bool true := (hd ⟨24, .data⟩ (by simp) rfl _ _ rfl rfl).get (c := none) rfl (fun _ h => by cases h)
    have d92 : b.tmps[92]?.getD undef = .bool true := (hd ⟨31, .data⟩ (by simp) rfl _ _ rfl rfl).get (c := none) rfl (fun _ h => by cases h)
    have HS0 := Lib.hid hS
    have HCL := Lib.hid hcl
    have HDP := Lib.hid hdep
    clear hdep
    clear hf hu hd hS hcl
    go_simp
    exact hK _ _ (HS0.out.ext (Ext.refl _) _) (relM.now rfl rfl) (fun j v h1 h2 h => h.ext (Ext.refl _) _)
  · intro L b W hL hdep hcl hf hu hS hd K hK
    refine step_now rfl ?_
    have d93 : b.tmps[93]?.getD undef = .bool true := (hd ⟨32, .data⟩ (by simp) rfl _ _ rfl rfl).get (c := none) rfl (fun _ h => by cases h)
    have HS0 := Lib.hid hS
    have HCL := Lib.hid hcl
    have HDP := Lib.hid hdep
    clear hdep
    clear hf hu hd hS hcl
    go_simp
    exact hK _ _ (HS0.out.ext (Ext.refl _) _) (relM.now rfl rfl) (fun j v h1 h2 h => h.ext (Ext.refl _) _)
  · intro L f7 w8 hL7 h4 h5
    have g6 : f7 6 = Value.bool true := (h5 33 _ _ rfl rfl).get (c := none) rfl (fun _ h => by cases h)
    simp only [List.foldl_cons, List.foldl_nil, List.setIfInBounds_toArray, List.set_cons_succ, List.set_cons_zero, g6]
    have HX8 := Lib.hid h4.1
    clear g6 h4 h5 hL7
    go_wp2_with fail
    go_ret
    exact ⟨rfl, HX8.out⟩
end Go.Proofs.YtjooacmmgbpkfaaDoor
