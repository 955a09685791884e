/- RtuTurned: for every frame, place and turn the law returns true. No conditions. -/
import Derived.Test.YtjooacmmgbpkfaaRtuAwake
namespace Go.Proofs.Ytjooacmmgbpkfaa
open Go.RowKit

theorem by8_set (l : List Nat) (j n : Nat) : (by8 l).set j (.int .u8 (n : Int)) = by8 (l.set j n) := by simp [by8, List.map_set]

/-- What the loop carries: the row of bytes, of which the first i bits were turned. -/
def Row (w wr : World) (g n cap at_ T i : Nat) : Prop := ∃ l, wr.ownsRow w.heap.size 5 1 (.slice (some ⟨g, 0, none⟩) n cap) n (by8 l) ∧ Turned n at_ T i l ∧ Ext w wr
theorem Row.cell {w wr : World} {g n cap at_ T i : Nat} (h : Row w wr g n cap at_ T i) (j : Nat) (hj : j < n) : ∃ c : Nat, c < 256 ∧ wr.cell? ⟨g, j, none⟩ = some (.int .u8 (c : Int)) ∧ wr.frozen? ⟨g, j, none⟩ = false ∧ w.heap.size ≤ g ∧ g < wr.heap.size ∧
    ∀ r : Nat, j = (at_ + i) / 8 → r = (at_ + i) % 8 → i < 16 → at_ + 16 ≤ 8 * n → T / 2 ^ i % 2 = 1 → ∀ (W : World), Ext wr W → Row w (W.setCell ⟨g, j, none⟩ (.int .u8 ((c ^^^ 2 ^ r : Nat) : Int))) g n cap at_ T (i + 1) := by
  obtain ⟨l, h1, h2, h3⟩ := h
  refine ⟨l.getD j 0, getD_lt h2.2.1 j, ?_, h1.frozenAt j, (h1.lt g rfl).1, (h1.lt g rfl).2, ?_⟩
  · rw [h1.cellAt j (by omega), by8_get l j (by rw [h2.1]; exact hj)]
  · intro r hj' hr hi ha hb W hW
    have h4 := ((own_ext h1 hW).stored j (.int .u8 ((l.getD j 0 ^^^ 2 ^ r : Nat) : Int))).1
    rw [by8_set] at h4
    refine ⟨_, h4, ?_, (h3.trans hW).setCell (h1.lt g rfl).1 _⟩
    subst hj' hr
    exact turned_bit h2 hb hi ha
theorem Row.ext {w wr W : World} {g n cap at_ T i : Nat} (h : Row w wr g n cap at_ T i) (k : Ext wr W) : Row w W g n cap at_ T i := by
  obtain ⟨l, h1, h2, h3⟩ := h
  exact ⟨l, own_ext h1 k, h2, h3.trans k⟩
theorem Row.skip {w wr : World} {g n cap at_ T i : Nat} (h : Row w wr g n cap at_ T i) (hb : T / 2 ^ i % 2 = 0) : Row w wr g n cap at_ T (i + 1) := by
  obtain ⟨l, h1, h2, h3⟩ := h
  exact ⟨l, h1, turned_none h2 hb, h3⟩


theorem turned_big (u T : Nat) (at_ : Int) (v : Value) (l : List Nat) (w : World) (hl : Sl w v (by8 l)) (h : 400 < l.length) :
    Calls Try.prog 3 #[frame u v, .int .i64 at_, .int .u16 (T : Int)] w fun e w' => e = .returned (.bool true) ∧ Ext w w' := by
  obtain ⟨a, c, rfl, hlc, hcm, _, _⟩ := hl.bytes
  have hlm : l.length ≤ 9223372036854775807 := by unfold maxLen at hcm; omega
  clear hl hcm
  have h' : (400 : Int) < (l.length : Int) := by omega
  unfold frame
  go_enter Try.func3, Try.ntmps3
  go_wp2_with fail
  refine (law3_awake _).mono ?_
  rintro e w1 ⟨rfl, h1⟩
  obtain ⟨c0, c1, _, _, hg⟩ := blk2 (h1.heap (new_blk _ _ _))
  go_wp2_with fail
  go_ret
  exact ⟨rfl, ((Ext.refl _).alloc _).trans h1⟩

theorem turned_bad (u T : Nat) (at_ : Int) (v : Value) (l : List Nat) (w : World) (hl : Sl w v (by8 l)) (h : l.length < 1 ∨ 253 < l.length) (h4 : l.length ≤ 400) :
    Calls Try.prog 3 #[frame u v, .int .i64 at_, .int .u16 (T : Int)] w fun e w' => e = .returned (.bool true) ∧ Ext w w' := by
  obtain ⟨a, c, rfl, hlc, hcm, _, _⟩ := hl.bytes
  have HV := Lib.hid hl
  clear hl hcm
  have h' : ¬ (400 : Int) < (l.length : Int) := by omega
  obtain ⟨x, hx, hx2⟩ : ∃ x : Int, (if l.length < 1 then (3 : Int) else 4) = x ∧ ((x != 0) = true) := ⟨_, rfl, by split <;> rfl⟩
  have hB := rtu_Bytes_no u (.slice a l.length c) l
  rw [hx] at hB
  have HB := Lib.hid hB
  have HH := Lib.hid h
  clear hB h hx
  unfold frame at HB ⊢
  go_enter Try.func3, Try.ntmps3
  go_wp2_with fail
  refine (law3_awake _).mono ?_
  rintro e w1 ⟨rfl, h1⟩
  obtain ⟨c0, c1, _, _, hg⟩ := blk2 (h1.heap (new_blk _ _ _))
  have H1 := Lib.hid (((Ext.refl _).alloc _).trans h1)
  clear h1
  go_wp2_with fail
  refine (HB.out _ (HV.out.ext H1.out) HH.out).mono ?_
  rintro e w2 ⟨rfl, h2⟩
  go_wp2_with fail
  go_ret
  exact ⟨rfl, H1.out.trans h2⟩

set_option maxRecDepth 100000 in
set_option maxHeartbeats 1000000 in
theorem turned_out (u T : Nat) (at_ : Int) (v : Value) (l : List Nat) (w : World) (hl : Sl w v (by8 l)) (hb : Bytes l) (hu : u < 256) (h1 : 1 ≤ l.length) (h2 : l.length ≤ 253)
    (h : T = 0 ∨ at_ < 0 ∨ 8 * ((l.length : Int) + 3) - 16 < at_) :
    Calls Try.prog 3 #[frame u v, .int .i64 at_, .int .u16 (T : Int)] w fun e w' => e = .returned (.bool true) ∧ Ext w w' := by
  obtain ⟨a, c, rfl, hlc, hcm, _, _⟩ := hl.bytes
  have HV := Lib.hid hl
  clear hl hcm
  have h' : ¬ (400 : Int) < (l.length : Int) := by omega
  have hB := rtu_Bytes u (.slice a l.length c) l
  have HB := Lib.hid hB
  clear hB
  unfold frame at HB ⊢
  have hcase : ((T : Int) == 0) = true ∨ (((T : Int) == 0) = false ∧ decide (at_ < 0) = true) ∨ (((T : Int) == 0) = false ∧ decide (at_ < 0) = false ∧ decide (8 * ((l.length : Int) + 3) - 16 < at_) = true) := by
    simp
    omega
  clear h
  have k3 : (l.length : Int) + 3 ≤ 256 := by omega
  rcases hcase with t1 | ⟨t1, t2⟩ | ⟨t1, t2, t3⟩
  all_goals
    go_enter Try.func3, Try.ntmps3
    go_wp2_with fail
    refine (law3_awake _).mono ?_
    rintro e w1 ⟨rfl, h3⟩
    obtain ⟨c0, c1, _, _, hg⟩ := blk2 (h3.heap (new_blk _ _ _))
    have H1 := Lib.hid (((Ext.refl _).alloc _).trans h3)
    clear h3
    go_wp2_with fail
    refine (HB.out _ (HV.out.ext H1.out) hb hu h1 h2).mono ?_
    rintro e w2 ⟨v2, rfl, h4, h5⟩
    have H2 := Lib.hid (H1.out.trans h5)
    obtain ⟨a2, c2, rfl, _, _⟩ := (Sl.own h4).len
    rw [show (by8 (put (u :: l))).length = l.length + 3 from by rw [by8_length, put_length]; rfl]
    clear h4 h5
    go_wp2_with fail
    go_ret
    exact ⟨rfl, H2.out⟩

set_option maxRecDepth 100000 in
set_option maxHeartbeats 2000000 in
theorem turned_good (u T A : Nat) (v : Value) (l : List Nat) (w : World) (hl : Sl w v (by8 l)) (hb : Bytes l) (hu : u < 256) (h1 : 1 ≤ l.length) (h2 : l.length ≤ 253)
    (hT0 : T ≠ 0) (hT : T < 65536) (hA : A + 16 ≤ 8 * (l.length + 3)) :
    Calls Try.prog 3 #[frame u v, .int .i64 (A : Int), .int .u16 (T : Int)] w fun e w' => e = .returned (.bool true) ∧ Ext w w' := by
  obtain ⟨a, c, rfl, hlc, hcm, _, _⟩ := hl.bytes
  have HV := Lib.hid hl
  clear hl hcm
  have h' : ¬ (400 : Int) < (l.length : Int) := by omega
  have hB := rtu_Bytes u (.slice a l.length c) l
  have HB := Lib.hid hB
  clear hB
  unfold frame at HB ⊢
  have t1 : ((T : Int) == 0) = false := by simp; omega
  have t2 : decide ((A : Int) < 0) = false := by simp
  go_enter Try.func3, Try.ntmps3
  go_wp2_with fail
  refine (law3_awake _).mono ?_
  rintro e w1 ⟨rfl, h3⟩
  obtain ⟨c0, c1, _, _, hg⟩ := blk2 (h3.heap (new_blk _ _ _))
  have H1 := Lib.hid (((Ext.refl _).alloc _).trans h3)
  clear h3
  go_wp2_with fail
  refine (HB.out _ (HV.out.ext H1.out) hb hu h1 h2).mono ?_
  rintro e w2 ⟨v2, rfl, h4, h5⟩
  have H2 := Lib.hid (H1.out.trans h5)
  obtain ⟨n, hn⟩ : ∃ n, n = l.length + 3 := ⟨_, rfl⟩
  have hlen : (by8 (put (u :: l))).length = n := by rw [by8_length, put_length, hn]; rfl
  have hown : w2.ownsRow w.heap.size 5 1 v2 n (by8 (put (u :: l))) := by rw [hn]; exact own_base h4 H1.out.size
  obtain ⟨g, c2, rfl⟩ : ∃ g c, v2 = .slice (some ⟨g, 0, none⟩) n c := by
    rcases hown.2 with ⟨_, h0⟩ | ⟨g, cap, cur, hv, _⟩
    · omega
    · exact ⟨g, cap, hv⟩
  have hrow : Row w w2 g n c2 A T 0 := ⟨_, hown, by
    have := turned_start A T (l := put (u :: l)) (put_bytes (by intro x hx; simp at hx; rcases hx with rfl | hx; exact hu; exact hb x hx)) (put_zero _)
    rw [put_length] at this
    rw [hn]
    exact this, H2.out⟩
  have HR := Lib.hid hrow
  have t3 : decide (8 * (n : Int) - 16 < (A : Int)) = false := by simp; omega
  have k3 : (n : Int) ≤ 256 := by omega
  have k4 : 4 ≤ n := by omega
  have hAn2 : A + 16 ≤ 8 * n := by omega
  clear h4 h5 hlen hown hrow hn
  go_wp2_with fail
  go_loopw [2, 10] (fun t x wr => ∃ i : Nat, i ≤ 16 ∧ x = .int .i64 i ∧ t = .int .u16 ((T / 2 ^ i : Nat) : Int) ∧ Row w wr g n c2 A T i) (fun _ x _ => 16 - (intOf x).toNat)
  case atStart => exact ⟨0, by omega, rfl, by simp, HR.out⟩
  case round =>
    obtain ⟨i, hi, rfl, rfl, hrow⟩ := hrel
    have HRw := Lib.hid hrow
    obtain ⟨t, ht⟩ : ∃ t, t = T / 2 ^ i := ⟨_, rfl⟩
    have htl : t < 65536 := by rw [ht]; exact Nat.lt_of_le_of_lt (Nat.div_le_self _ _) hT
    have hts : T / 2 ^ (i + 1) = t / 2 := by rw [ht, Nat.pow_succ, Nat.div_div_eq_div_mul]
    have HTS := Lib.hid hts
    rw [← ht]
    have HT2 := Lib.hid ht
    clear hrow ht hts
    by_cases hlt : i < 16
    · rcases Nat.mod_two_eq_zero_or_one t with hbit | hbit
      · have hb0 : ((t : Int) % 2) = 0 := by omega
        go_wp2_with fail
        go_roundw
        case rel => exact ⟨i + 1, by omega, by go_num, by rw [HTS.out]; go_num, HRw.out.skip (by rw [← HT2.out]; exact hbit)⟩
        case measure => simp [intOf]; omega
      · have hb1 : ((t : Int) % 2) = 1 := by omega
        obtain ⟨j, hj⟩ : ∃ j, j = (A + i) / 8 := ⟨_, rfl⟩
        obtain ⟨r, hr⟩ : ∃ r, r = (A + i) % 8 := ⟨_, rfl⟩
        have hjn : j < n := by omega
        obtain ⟨cc, hcc, d0, d1, d2, d3, dd⟩ := HRw.out.cell j hjn
        have hq : ((A : Int) + (i : Int)) / 8 = (j : Int) := by omega
        have hm : ((A : Int) + (i : Int)) % 8 = (r : Int) := by omega
        have hr8 : r < 8 := by omega
        have DD := Lib.hid (dd r hj hr hlt hAn2 (by rw [← HT2.out]; exact hbit))
        clear dd hj hr
        have hAn : (A : Int) + (i : Int) ≤ 4096 := by omega
        have hrc : r = 0 ∨ r = 1 ∨ r = 2 ∨ r = 3 ∨ r = 4 ∨ r = 5 ∨ r = 6 ∨ r = 7 := by omega
        rcases hrc with rfl | rfl | rfl | rfl | rfl | rfl | rfl | rfl
        · go_wp2_with fail
          go_region
          go_wp2
          go_roundw
          case rel =>
            refine ⟨i + 1, by omega, by go_num, by rw [HTS.out]; go_num, ?_⟩
            rw [show bits BinOp.xor IntKind.u8 (cc : Int) 1 = ((cc ^^^ 2 ^ 0 : Nat) : Int) from u8_xor_nat cc 1 hcc (by omega)]
            exact (DD.out wr (Ext.refl _)).ext (((Ext.refl _).alloc _).drewN 1)
          case measure => simp [intOf]; omega
        · go_wp2_with fail
          go_region
          go_wp2
          go_roundw
          case rel =>
            refine ⟨i + 1, by omega, by go_num, by rw [HTS.out]; go_num, ?_⟩
            rw [show bits BinOp.xor IntKind.u8 (cc : Int) 2 = ((cc ^^^ 2 ^ 1 : Nat) : Int) from u8_xor_nat cc 2 hcc (by omega)]
            exact (DD.out wr (Ext.refl _)).ext (((Ext.refl _).alloc _).drewN 1)
          case measure => simp [intOf]; omega
        · go_wp2_with fail
          go_region
          go_wp2
          go_roundw
          case rel =>
            refine ⟨i + 1, by omega, by go_num, by rw [HTS.out]; go_num, ?_⟩
            rw [show bits BinOp.xor IntKind.u8 (cc : Int) 4 = ((cc ^^^ 2 ^ 2 : Nat) : Int) from u8_xor_nat cc 4 hcc (by omega)]
            exact (DD.out wr (Ext.refl _)).ext (((Ext.refl _).alloc _).drewN 1)
          case measure => simp [intOf]; omega
        · go_wp2_with fail
          go_region
          go_wp2
          go_roundw
          case rel =>
            refine ⟨i + 1, by omega, by go_num, by rw [HTS.out]; go_num, ?_⟩
            rw [show bits BinOp.xor IntKind.u8 (cc : Int) 8 = ((cc ^^^ 2 ^ 3 : Nat) : Int) from u8_xor_nat cc 8 hcc (by omega)]
            exact (DD.out wr (Ext.refl _)).ext (((Ext.refl _).alloc _).drewN 1)
          case measure => simp [intOf]; omega
        · go_wp2_with fail
          go_region
          go_wp2
          go_roundw
          case rel =>
            refine ⟨i + 1, by omega, by go_num, by rw [HTS.out]; go_num, ?_⟩
            rw [show bits BinOp.xor IntKind.u8 (cc : Int) 16 = ((cc ^^^ 2 ^ 4 : Nat) : Int) from u8_xor_nat cc 16 hcc (by omega)]
            exact (DD.out wr (Ext.refl _)).ext (((Ext.refl _).alloc _).drewN 1)
          case measure => simp [intOf]; omega
        · go_wp2_with fail
          go_region
          go_wp2
          go_roundw
          case rel =>
            refine ⟨i + 1, by omega, by go_num, by rw [HTS.out]; go_num, ?_⟩
            rw [show bits BinOp.xor IntKind.u8 (cc : Int) 32 = ((cc ^^^ 2 ^ 5 : Nat) : Int) from u8_xor_nat cc 32 hcc (by omega)]
            exact (DD.out wr (Ext.refl _)).ext (((Ext.refl _).alloc _).drewN 1)
          case measure => simp [intOf]; omega
        · go_wp2_with fail
          go_region
          go_wp2
          go_roundw
          case rel =>
            refine ⟨i + 1, by omega, by go_num, by rw [HTS.out]; go_num, ?_⟩
            rw [show bits BinOp.xor IntKind.u8 (cc : Int) 64 = ((cc ^^^ 2 ^ 6 : Nat) : Int) from u8_xor_nat cc 64 hcc (by omega)]
            exact (DD.out wr (Ext.refl _)).ext (((Ext.refl _).alloc _).drewN 1)
          case measure => simp [intOf]; omega
        · go_wp2_with fail
          go_region
          go_wp2
          go_roundw
          case rel =>
            refine ⟨i + 1, by omega, by go_num, by rw [HTS.out]; go_num, ?_⟩
            rw [show bits BinOp.xor IntKind.u8 (cc : Int) 128 = ((cc ^^^ 2 ^ 7 : Nat) : Int) from u8_xor_nat cc 128 hcc (by omega)]
            exact (DD.out wr (Ext.refl _)).ext (((Ext.refl _).alloc _).drewN 1)
          case measure => simp [intOf]; omega
    · have hi16 : Hid (i = 16) := Lib.hid (by omega)
      obtain ⟨l', o1, o2, o3⟩ := HRw.out
      rw [hi16.out] at o2
      have HNE := Lib.hid (turned_end o2 hT0 hT)
      have hln : l'.length = n := o2.1
      have hsl := Sl.own o1
      have hbl := o2.2.1
      have hn4 : 4 ≤ l'.length := by omega
      have hn256 : l'.length ≤ 256 := by omega
      have HSL := Lib.hid hsl
      have HBL := Lib.hid hbl
      have HO3 := Lib.hid o3
      clear o1 o2 o3 hsl hbl
      have hR := rtu_Read_sum (.slice (some ⟨g, 0, none⟩) n c2) l' wr HSL.out HBL.out hn4 hn256 HNE.out
      have HRR := Lib.hid hR
      clear hR hln
      go_wp2_with fail
      refine HRR.out.mono ?_
      rintro e w5 ⟨rfl, h5⟩
      rw [show frame 0 (.slice none 0 0) = .agg #[.int .u8 0, .slice none 0 0] from rfl]
      go_wp2_with fail
      go_ret
      exact ⟨rfl, (HO3.out.trans h5).alloc _⟩

theorem turned_walk (u T : Nat) (at_ : Int) (v : Value) (l : List Nat) (w : World) (hl : Sl w v (by8 l)) (hb : Bytes l) (hu : u < 256) (hT : T < 65536) :
    Calls Try.prog 3 #[frame u v, .int .i64 at_, .int .u16 (T : Int)] w fun e w' => e = .returned (.bool true) ∧ Ext w w' := by
  by_cases h1 : 400 < l.length
  · exact turned_big u T at_ v l w hl h1
  · by_cases h2 : l.length < 1 ∨ 253 < l.length
    · exact turned_bad u T at_ v l w hl h2 (by omega)
    · by_cases h3 : T = 0 ∨ at_ < 0 ∨ 8 * ((l.length : Int) + 3) - 16 < at_
      · exact turned_out u T at_ v l w hl hb hu (by omega) (by omega) h3
      · obtain ⟨A, rfl⟩ := Int.eq_ofNat_of_zero_le (show 0 ≤ at_ by omega)
        exact turned_good u T A v l w hl hb hu (by omega) (by omega) (by omega) hT (by omega)
end Go.Proofs.Ytjooacmmgbpkfaa
