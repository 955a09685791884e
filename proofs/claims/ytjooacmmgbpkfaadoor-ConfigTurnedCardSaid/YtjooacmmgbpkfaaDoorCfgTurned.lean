/- triunelaw09.ConfigTurned: it returns true. Condition: errors.errorType's cell is laid. -/
import Derived.Test.YtjooacmmgbpkfaaDoorTells
namespace Go.Proofs.YtjooacmmgbpkfaaDoor
open Go.RowKit

theorem by8_set (l : List Nat) (j n : Nat) : (by8 l).set j (.int .u8 (n : Int)) = by8 (l.set j n) := by simp [by8, List.map_set]

/-- What the loop carries: the row of bytes, of which the first i bits were turned. -/
def Row (w wr : World) (g n cap at_ T i : Nat) : Prop := ∃ l, wr.ownsRow w.heap.size 5 1 (.slice (some ⟨g, 0, none⟩) n cap) n (by8 l) ∧ Turned n at_ T i l ∧ Ext w wr
theorem Row.cell {w wr : World} {g n cap at_ T i : Nat} (h : Row w wr g n cap at_ T i) (j : Nat) (hj : j < n) : ∃ c : Nat, c < 256 ∧ wr.cell? ⟨g, j, none⟩ = some (.int .u8 (c : Int)) ∧ wr.frozen? ⟨g, j, none⟩ = false ∧ w.heap.size ≤ g ∧ g < wr.heap.size ∧
    ∀ r : Nat, j = (at_ + i) / 8 → r = (at_ + i) % 8 → i < 16 → at_ + 16 ≤ 8 * n → T / 2 ^ i % 2 = 1 → ∀ (W : World), Ext wr W → Row w (W.setCell ⟨g, j, none⟩ (.int .u8 ((c ^^^ 2 ^ r : Nat) : Int))) g n cap at_ T (i + 1) := by
  obtain ⟨l, h1, h2, h3⟩ := h
  refine ⟨l.getD j 0, getD_lt h2.2.1 j, ?_, h1.frozenAt j, (h1.lt g rfl).1, (h1.lt g rfl).2, ?_⟩
  · rw [h1.cellAt j (by omega), by8_get l j (by rw [h2.1]; exact hj)]
  · intro r hj' hr hi ha hb W hW
    have h4 := ((own_ext h1 hW).stored j (.int .u8 ((l.getD j 0 ^^^ 2 ^ r : Nat) : Int))).1
    rw [by8_set] at h4
    refine ⟨_, h4, ?_, (h3.trans hW).setCell (h1.lt g rfl).1 _⟩
    subst hj' hr
    exact turned_bit h2 hb hi ha
theorem Row.ext {w wr W : World} {g n cap at_ T i : Nat} (h : Row w wr g n cap at_ T i) (k : Ext wr W) : Row w W g n cap at_ T i := by
  obtain ⟨l, h1, h2, h3⟩ := h
  exact ⟨l, own_ext h1 k, h2, h3.trans k⟩
theorem Row.skip {w wr : World} {g n cap at_ T i : Nat} (h : Row w wr g n cap at_ T i) (hb : T / 2 ^ i % 2 = 0) : Row w wr g n cap at_ T (i + 1) := by
  obtain ⟨l, h1, h2, h3⟩ := h
  exact ⟨l, h1, turned_none h2 hb, h3⟩



set_option maxRecDepth 100000 in
set_option maxHeartbeats 2000000 in
theorem cfgturned_true (c : Cfg) (vc : Value) (at_ : Int) (T : Nat) (w : World) (hc : CfgIn w c vc) (hg : Laid w) (ha64 : -9223372036854775808 ≤ at_ ∧ at_ ≤ 9223372036854775807) (hT : T < 65536) :
    Calls Tryd.prog 5 #[c.val vc, .int .i64 at_, .int .u16 (T : Int)] w fun e w' => e = .returned (.bool true) ∧ Ext w w' := by
  have HG := Lib.hid hg
  have HAw := Lib.hid awake_true
  obtain ⟨a0, p0, rfl⟩ := hc.shape
  obtain ⟨n0, hn0⟩ : ∃ m, m = c.pts.length := ⟨_, rfl⟩
  rw [← hn0] at hc ⊢
  have HC := Lib.hid hc
  have HN0 := Lib.hid hn0
  clear hg hc hn0
  unfold Cfg.val Cfg.cells
  have HCells := Lib.hid (fun (w : World) (g : Nat) (x0 x1 x2 x3 x4 x5 x6 x7 x8 x9 x10 : Value) (t : TypeId) => @blk11 w g x0 x1 x2 x3 x4 x5 x6 x7 x8 x9 x10 t)
  have HB0 : Hid (∀ W : World, Ext (w.alloc (.cells #[.int .u8 (c.u0 : Int), .int .u8 (c.u1 : Int), .int .u8 (c.u2 : Int), .int .i64 c.gap, .int .i64 c.wait, .int .i64 c.tries, .int .i64 c.strikes, .int .i64 c.queue, .int .i64 c.idle, .int .u16 (c.key : Int), (.slice a0 n0 p0)] 26)) W → W.heap[w.heap.size]? = some (.cells #[.int .u8 (c.u0 : Int), .int .u8 (c.u1 : Int), .int .u8 (c.u2 : Int), .int .i64 c.gap, .int .i64 c.wait, .int .i64 c.tries, .int .i64 c.strikes, .int .i64 c.queue, .int .i64 c.idle, .int .u16 (c.key : Int), (.slice a0 n0 p0)] 26 (0, 0))) := Lib.hid fun W h => h.heap (heap_alloc_new _ _)
  by_cases h0 : 100 < n0
  · go_enter Tryd.func5, Tryd.ntmps5
    go_wp2_with fail
    refine (HAw.out _ (HG.out.ext ((Ext.refl _).alloc _))).mono ?_
    rintro e w1 ⟨rfl, hx1⟩
    have HX1 := Lib.hid (((Ext.refl w).alloc _).trans hx1)
    obtain ⟨k0, k1, k2, k3, k4, k5, k6, k7, k8, k9, k10, ksz⟩ := HCells.out _ _ _ _ _ _ _ _ _ _ _ _ _ _ (HB0.out _ hx1)
    clear hx1
    go_wp2_with fail
    go_ret
    exact ⟨rfl, HX1.out⟩
  obtain ⟨cc, hcc⟩ : ∃ x, x = c.code := ⟨_, rfl⟩
  obtain ⟨ic, hic⟩ : ∃ x, x = image c := ⟨_, rfl⟩
  obtain ⟨n, hn⟩ : ∃ x, x = ic.length := ⟨_, rfl⟩
  have HImg : Hid (Bytes ic ∧ ic.length ≤ 3000 ∧ (cc = 0 → n = 20 + 9 * n0 ∧ n ≤ 500 ∧ crcL 65535 ic = 0)) := Lib.hid (by
    have h := image_bytes HC.out.2.1 HC.out.2.2
    rw [← hic, ← hcc] at h
    refine ⟨h.1, h.2.1, fun h9 => ?_⟩
    have h10 := h.2.2 h9
    obtain ⟨m, e, hsm⟩ := code_zero (hcc.symm.trans h9) HC.out.2.2 HC.out.2.1
    have hlen : c.pts.length ≤ 48 := by rw [e]; simpa [CfgN.cfg] using hsm.len.2
    refine ⟨by rw [hn, h10, HN0.out], by rw [hn, h10]; omega, ?_⟩
    rw [hic, e, image_yes (by rw [← e, ← hcc]; exact h9)]
    exact put_zero _)
  have HBytes : Hid (∀ W : World, Ext w W → Calls Tryd.prog 7 #[.agg #[.int .u8 (c.u0 : Int), .int .u8 (c.u1 : Int), .int .u8 (c.u2 : Int), .int .i64 c.gap, .int .i64 c.wait, .int .i64 c.tries, .int .i64 c.strikes, .int .i64 c.queue, .int .i64 c.idle, .int .u16 (c.key : Int), (.slice a0 n0 p0)]] W fun e w' => ∃ a q, e = .returned (.tuple #[.slice a n q, .int .i64 cc]) ∧ Hid (w'.ownsRow w.heap.size 5 1 (.slice a n q) n (by8 ic) ∧ Ext W w')) := Lib.hid fun W h => by
    refine (config_Bytes_all c _ W (HC.out.ext h) (HG.out.ext h)).mono ?_
    rintro e w' ⟨v', rfl, ho, hx⟩
    rw [← hic] at ho
    have hs := Sl.own8 ho
    obtain ⟨a, q, rfl⟩ := hs.shape8
    exact ⟨a, q, by rw [hcc, hn], Lib.hid ⟨by rw [hn]; exact own_base ho h.size, hx⟩⟩
  have HN := Lib.hid hn
  clear hcc hic hn
  by_cases hz : cc ≠ 0 ∨ (cc = 0 ∧ (T = 0 ∨ at_ < 0 ∨ 8 * (n : Int) - 16 < at_))
  · have hn500 : cc = 0 → 20 ≤ n ∧ n ≤ 500 := fun h => ⟨by have := (HImg.out.2.2 h).1; omega, (HImg.out.2.2 h).2.1⟩
    rcases hz with hz | ⟨hz, hr⟩
    · have hcb : (cc != 0) = true := by simp [hz]
      clear hz hn500
      go_enter Tryd.func5, Tryd.ntmps5
      go_wp2_with fail
      refine (HAw.out _ (HG.out.ext ((Ext.refl _).alloc _))).mono ?_
      rintro e w1 ⟨rfl, hx1⟩
      have HX1 := Lib.hid (((Ext.refl w).alloc _).trans hx1)
      have HH1 := Lib.hid (HB0.out _ hx1)
      clear hx1
      obtain ⟨k0, k1, k2, k3, k4, k5, k6, k7, k8, k9, k10, ksz⟩ := HCells.out _ _ _ _ _ _ _ _ _ _ _ _ _ _ HH1.out
      go_wp2_with fail
      refine (HBytes.out _ HX1.out).mono ?_
      rintro e w2 ⟨b2, q2, rfl, H2⟩
      have HX2 := Lib.hid (HX1.out.trans H2.out.2)
      clear k0 k1 k2 k3 k4 k5 k6 k7 k8 k9 k10 ksz
      go_wp2_with fail
      go_ret
      exact ⟨rfl, HX2.out⟩
    · have hn5 := hn500 hz
      rw [hz] at HBytes
      clear hz hn500
      rcases hr with hr | hr
      · have hT0 : ((T : Int) == 0) = true := by simp [hr]
        clear hr
        go_enter Tryd.func5, Tryd.ntmps5
        go_wp2_with fail
        refine (HAw.out _ (HG.out.ext ((Ext.refl _).alloc _))).mono ?_
        rintro e w1 ⟨rfl, hx1⟩
        have HX1 := Lib.hid (((Ext.refl w).alloc _).trans hx1)
        have HH1 := Lib.hid (HB0.out _ hx1)
        clear hx1
        obtain ⟨k0, k1, k2, k3, k4, k5, k6, k7, k8, k9, k10, ksz⟩ := HCells.out _ _ _ _ _ _ _ _ _ _ _ _ _ _ HH1.out
        go_wp2_with fail
        refine (HBytes.out _ HX1.out).mono ?_
        rintro e w2 ⟨b2, q2, rfl, H2⟩
        have HX2 := Lib.hid (HX1.out.trans H2.out.2)
        clear k0 k1 k2 k3 k4 k5 k6 k7 k8 k9 k10 ksz
        go_wp2_with fail
        go_ret
        exact ⟨rfl, HX2.out⟩
      · by_cases hT0 : T = 0
        · have hTb : ((T : Int) == 0) = true := by simp [hT0]
          clear hT0 hr
          go_enter Tryd.func5, Tryd.ntmps5
          go_wp2_with fail
          refine (HAw.out _ (HG.out.ext ((Ext.refl _).alloc _))).mono ?_
          rintro e w1 ⟨rfl, hx1⟩
          have HX1 := Lib.hid (((Ext.refl w).alloc _).trans hx1)
          have HH1 := Lib.hid (HB0.out _ hx1)
          clear hx1
          obtain ⟨k0, k1, k2, k3, k4, k5, k6, k7, k8, k9, k10, ksz⟩ := HCells.out _ _ _ _ _ _ _ _ _ _ _ _ _ _ HH1.out
          go_wp2_with fail
          refine (HBytes.out _ HX1.out).mono ?_
          rintro e w2 ⟨b2, q2, rfl, H2⟩
          have HX2 := Lib.hid (HX1.out.trans H2.out.2)
          clear k0 k1 k2 k3 k4 k5 k6 k7 k8 k9 k10 ksz
          go_wp2_with fail
          go_ret
          exact ⟨rfl, HX2.out⟩
        · have hTb : ((T : Int) == 0) = false := by simp; omega
          have hnb : ¬ (n : Int) < 2 := by omega
          by_cases hneg : at_ < 0
          · go_enter Tryd.func5, Tryd.ntmps5
            go_wp2_with fail
            refine (HAw.out _ (HG.out.ext ((Ext.refl _).alloc _))).mono ?_
            rintro e w1 ⟨rfl, hx1⟩
            have HX1 := Lib.hid (((Ext.refl w).alloc _).trans hx1)
            have HH1 := Lib.hid (HB0.out _ hx1)
            clear hx1
            obtain ⟨k0, k1, k2, k3, k4, k5, k6, k7, k8, k9, k10, ksz⟩ := HCells.out _ _ _ _ _ _ _ _ _ _ _ _ _ _ HH1.out
            go_wp2_with fail
            refine (HBytes.out _ HX1.out).mono ?_
            rintro e w2 ⟨b2, q2, rfl, H2⟩
            have HX2 := Lib.hid (HX1.out.trans H2.out.2)
            clear k0 k1 k2 k3 k4 k5 k6 k7 k8 k9 k10 ksz
            go_wp2_with fail
            go_ret
            exact ⟨rfl, HX2.out⟩
          · have hbig : 8 * (n : Int) - 16 < at_ := by omega
            clear hr
            go_enter Tryd.func5, Tryd.ntmps5
            go_wp2_with fail
            refine (HAw.out _ (HG.out.ext ((Ext.refl _).alloc _))).mono ?_
            rintro e w1 ⟨rfl, hx1⟩
            have HX1 := Lib.hid (((Ext.refl w).alloc _).trans hx1)
            have HH1 := Lib.hid (HB0.out _ hx1)
            clear hx1
            obtain ⟨k0, k1, k2, k3, k4, k5, k6, k7, k8, k9, k10, ksz⟩ := HCells.out _ _ _ _ _ _ _ _ _ _ _ _ _ _ HH1.out
            go_wp2_with fail
            refine (HBytes.out _ HX1.out).mono ?_
            rintro e w2 ⟨b2, q2, rfl, H2⟩
            have HX2 := Lib.hid (HX1.out.trans H2.out.2)
            clear k0 k1 k2 k3 k4 k5 k6 k7 k8 k9 k10 ksz
            go_wp2_with fail
            go_ret
            exact ⟨rfl, HX2.out⟩
  have hcz : cc = 0 := by omega
  have hT0 : T ≠ 0 := by omega
  obtain ⟨A, rfl⟩ := Int.eq_ofNat_of_zero_le (show 0 ≤ at_ by omega)
  have hI := HImg.out.2.2 hcz
  have k3 : (n : Int) ≤ 500 := by omega
  have k4 : 4 ≤ n := by omega
  have hAn2 : A + 16 ≤ 8 * n := by omega
  have t1 : ((T : Int) == 0) = false := by simp; omega
  have t2 : decide ((A : Int) < 0) = false := by simp
  have t3 : decide (8 * (n : Int) - 16 < (A : Int)) = false := by simp; omega
  have HCrc := Lib.hid hI.2.2
  rw [hcz] at HBytes
  clear hI hcz hz ha64
  go_enter Tryd.func5, Tryd.ntmps5
  go_wp2_with fail
  refine (HAw.out _ (HG.out.ext ((Ext.refl _).alloc _))).mono ?_
  rintro e w1 ⟨rfl, hx1⟩
  have HX1 := Lib.hid (((Ext.refl w).alloc _).trans hx1)
  have HH1 := Lib.hid (HB0.out _ hx1)
  clear hx1
  obtain ⟨k0, k1, k2, k3, k4, k5, k6, k7, k8, k9, k10, ksz⟩ := HCells.out _ _ _ _ _ _ _ _ _ _ _ _ _ _ HH1.out
  go_wp2_with fail
  refine (HBytes.out _ HX1.out).mono ?_
  rintro e w2 ⟨b2, q2, rfl, H2⟩
  have HX2 := Lib.hid (HX1.out.trans H2.out.2)
  clear k0 k1 k2 k3 k4 k5 k6 k7 k8 k9 k10 ksz
  obtain ⟨g, c2, e2⟩ : ∃ g c, Value.slice b2 n q2 = .slice (some ⟨g, 0, none⟩) n c := by
    rcases H2.out.1.2 with ⟨h, _⟩ | ⟨g, cap, cur, hv, _⟩
    · exfalso
      injection h with h1 h2 h3
      omega
    · exact ⟨g, cap, hv⟩
  have HO2 := Lib.hid H2.out.1
  rw [e2] at HO2 ⊢
  clear e2 H2
  have hrow : Row w w2 g n c2 A T 0 := ⟨_, HO2.out, by
    have := turned_start A T (l := ic) HImg.out.1 HCrc.out
    rwa [← HN.out] at this, HX2.out⟩
  have HR := Lib.hid hrow
  clear hrow
  go_wp2_with fail
  go_loopw [2, 10] (fun t x wr => ∃ i : Nat, i ≤ 16 ∧ x = .int .i64 i ∧ t = .int .u16 ((T / 2 ^ i : Nat) : Int) ∧ Row w wr g n c2 A T i) (fun _ x _ => 16 - (intOf x).toNat)
  case atStart => exact ⟨0, by omega, rfl, by simp, HR.out⟩
  case round =>
    obtain ⟨i, hi, rfl, rfl, hrow⟩ := hrel
    have HRw := Lib.hid hrow
    obtain ⟨t, ht⟩ : ∃ t, t = T / 2 ^ i := ⟨_, rfl⟩
    have htl : t < 65536 := by rw [ht]; exact Nat.lt_of_le_of_lt (Nat.div_le_self _ _) hT
    have hts : T / 2 ^ (i + 1) = t / 2 := by rw [ht, Nat.pow_succ, Nat.div_div_eq_div_mul]
    have HTS := Lib.hid hts
    rw [← ht]
    have HT2 := Lib.hid ht
    clear hrow ht hts
    by_cases hlt : i < 16
    · rcases Nat.mod_two_eq_zero_or_one t with hbit | hbit
      · have hb0 : ((t : Int) % 2) = 0 := by omega
        go_wp2_with fail
        go_roundw
        case rel => exact ⟨i + 1, by omega, by go_num, by rw [HTS.out]; go_num, HRw.out.skip (by rw [← HT2.out]; exact hbit)⟩
        case measure => simp [intOf]; omega
      · have hb1 : ((t : Int) % 2) = 1 := by omega
        obtain ⟨j, hj⟩ : ∃ j, j = (A + i) / 8 := ⟨_, rfl⟩
        obtain ⟨r, hr⟩ : ∃ r, r = (A + i) % 8 := ⟨_, rfl⟩
        have hjn : j < n := by omega
        obtain ⟨cc, hcc, d0, d1, d2, d3, dd⟩ := HRw.out.cell j hjn
        have hq : ((A : Int) + (i : Int)) / 8 = (j : Int) := by omega
        have hm : ((A : Int) + (i : Int)) % 8 = (r : Int) := by omega
        have hr8 : r < 8 := by omega
        have DD := Lib.hid (dd r hj hr hlt hAn2 (by rw [← HT2.out]; exact hbit))
        clear dd hj hr
        have hAn : (A : Int) + (i : Int) ≤ 4096 := by omega
        have hrc : r = 0 ∨ r = 1 ∨ r = 2 ∨ r = 3 ∨ r = 4 ∨ r = 5 ∨ r = 6 ∨ r = 7 := by omega
        rcases hrc with rfl | rfl | rfl | rfl | rfl | rfl | rfl | rfl
        · go_wp2_with fail
          go_region
          go_wp2
          go_roundw
          case rel =>
            refine ⟨i + 1, by omega, by go_num, by rw [HTS.out]; go_num, ?_⟩
            rw [show bits BinOp.xor IntKind.u8 (cc : Int) 1 = ((cc ^^^ 2 ^ 0 : Nat) : Int) from u8_xor_nat cc 1 hcc (by omega)]
            exact (DD.out wr (Ext.refl _)).ext (((Ext.refl _).alloc _).drewN 1)
          case measure => simp [intOf]; omega
        · go_wp2_with fail
          go_region
          go_wp2
          go_roundw
          case rel =>
            refine ⟨i + 1, by omega, by go_num, by rw [HTS.out]; go_num, ?_⟩
            rw [show bits BinOp.xor IntKind.u8 (cc : Int) 2 = ((cc ^^^ 2 ^ 1 : Nat) : Int) from u8_xor_nat cc 2 hcc (by omega)]
            exact (DD.out wr (Ext.refl _)).ext (((Ext.refl _).alloc _).drewN 1)
          case measure => simp [intOf]; omega
        · go_wp2_with fail
          go_region
          go_wp2
          go_roundw
          case rel =>
            refine ⟨i + 1, by omega, by go_num, by rw [HTS.out]; go_num, ?_⟩
            rw [show bits BinOp.xor IntKind.u8 (cc : Int) 4 = ((cc ^^^ 2 ^ 2 : Nat) : Int) from u8_xor_nat cc 4 hcc (by omega)]
            exact (DD.out wr (Ext.refl _)).ext (((Ext.refl _).alloc _).drewN 1)
          case measure => simp [intOf]; omega
        · go_wp2_with fail
          go_region
          go_wp2
          go_roundw
          case rel =>
            refine ⟨i + 1, by omega, by go_num, by rw [HTS.out]; go_num, ?_⟩
            rw [show bits BinOp.xor IntKind.u8 (cc : Int) 8 = ((cc ^^^ 2 ^ 3 : Nat) : Int) from u8_xor_nat cc 8 hcc (by omega)]
            exact (DD.out wr (Ext.refl _)).ext (((Ext.refl _).alloc _).drewN 1)
          case measure => simp [intOf]; omega
        · go_wp2_with fail
          go_region
          go_wp2
          go_roundw
          case rel =>
            refine ⟨i + 1, by omega, by go_num, by rw [HTS.out]; go_num, ?_⟩
            rw [show bits BinOp.xor IntKind.u8 (cc : Int) 16 = ((cc ^^^ 2 ^ 4 : Nat) : Int) from u8_xor_nat cc 16 hcc (by omega)]
            exact (DD.out wr (Ext.refl _)).ext (((Ext.refl _).alloc _).drewN 1)
          case measure => simp [intOf]; omega
        · go_wp2_with fail
          go_region
          go_wp2
          go_roundw
          case rel =>
            refine ⟨i + 1, by omega, by go_num, by rw [HTS.out]; go_num, ?_⟩
            rw [show bits BinOp.xor IntKind.u8 (cc : Int) 32 = ((cc ^^^ 2 ^ 5 : Nat) : Int) from u8_xor_nat cc 32 hcc (by omega)]
            exact (DD.out wr (Ext.refl _)).ext (((Ext.refl _).alloc _).drewN 1)
          case measure => simp [intOf]; omega
        · go_wp2_with fail
          go_region
          go_wp2
          go_roundw
          case rel =>
            refine ⟨i + 1, by omega, by go_num, by rw [HTS.out]; go_num, ?_⟩
            rw [show bits BinOp.xor IntKind.u8 (cc : Int) 64 = ((cc ^^^ 2 ^ 6 : Nat) : Int) from u8_xor_nat cc 64 hcc (by omega)]
            exact (DD.out wr (Ext.refl _)).ext (((Ext.refl _).alloc _).drewN 1)
          case measure => simp [intOf]; omega
        · go_wp2_with fail
          go_region
          go_wp2
          go_roundw
          case rel =>
            refine ⟨i + 1, by omega, by go_num, by rw [HTS.out]; go_num, ?_⟩
            rw [show bits BinOp.xor IntKind.u8 (cc : Int) 128 = ((cc ^^^ 2 ^ 7 : Nat) : Int) from u8_xor_nat cc 128 hcc (by omega)]
            exact (DD.out wr (Ext.refl _)).ext (((Ext.refl _).alloc _).drewN 1)
          case measure => simp [intOf]; omega
    · have hi16 : Hid (i = 16) := Lib.hid (by omega)
      obtain ⟨l', o1, o2, o3⟩ := HRw.out
      rw [hi16.out] at o2
      have hne := turned_end o2 hT0 hT
      have hln : l'.length = n := o2.1
      have hbl := o2.2.1
      have hsl : Sl wr (.slice (some ⟨g, 0, none⟩) n c2) (by8 l') := Sl.own o1
      have HRR : Hid (Calls Tryd.prog 9 #[.slice (some ⟨g, 0, none⟩) n c2] wr fun e w' => e = .returned (.tuple #[.agg #[.int .u8 0, .int .u8 0, .int .u8 0, .int .i64 0, .int .i64 0, .int .i64 0, .int .i64 0, .int .i64 0, .int .i64 0, .int .u16 0, .slice none 0 0], .int .i64 6]) ∧ Ext wr w') := Lib.hid (config_Read_sum _ l' wr hsl hbl (.inr hne))
      have HO3 := Lib.hid o3
      clear o1 o2 o3 hsl hbl hln hne
      go_wp2_with fail
      refine HRR.out.mono ?_
      rintro e w5 ⟨rfl, h5⟩
      go_wp2_with fail
      go_ret
      exact ⟨rfl, (HO3.out.trans h5).alloc _⟩
end Go.Proofs.YtjooacmmgbpkfaaDoor
