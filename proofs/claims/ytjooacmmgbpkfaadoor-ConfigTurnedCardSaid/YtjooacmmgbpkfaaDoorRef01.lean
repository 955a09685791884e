/- Contracts of triuneref01's functions: sums of bytes by definition, bytes and their sum, whether bytes are the same. Condition: each byte is below 256. -/
import Derived.Test.YtjooacmmgbpkfaaDoorWordB
import Derived.IntWalk
namespace Go.Proofs.YtjooacmmgbpkfaaDoor
open Go.RowKit

theorem xmod_succ (a j : Nat) : a % 2 ^ (j + 1) = a % 2 ^ j + 2 ^ j * (a / 2 ^ j % 2) := by
  rw [Nat.pow_succ, Nat.mod_mul]
theorem xbit (a b j : Nat) : (a ^^^ b) / 2 ^ j % 2 = if a / 2 ^ j % 2 = b / 2 ^ j % 2 then 0 else 1 := by
  rw [Nat.xor_div_two_pow, xor_mod2]
  have h1 := Nat.mod_two_eq_zero_or_one (a / 2 ^ j)
  have h2 := Nat.mod_two_eq_zero_or_one (b / 2 ^ j)
  rcases h1 with h1 | h1 <;> rcases h2 with h2 | h2 <;> rw [h1, h2] <;> rfl
theorem refq (a b : Nat) (ha : a < 256) : (wrap64 ((a : Int) / (b : Int))).tmod 2 = ((a / b % 2 : Nat) : Int) := by
  have h : a / b ≤ a := Nat.div_le_self a b
  rw [show (a : Int) / (b : Int) = ((a / b : Nat) : Int) from rfl]
  generalize a / b = q at h ⊢
  rw [IntWalk.wrap64_in _ (by omega)]
  rfl
theorem low_xor (s c : Nat) (hc : c < 256) : s - s % 256 + (s % 256 ^^^ c) = s ^^^ c := by
  have h1 : (s ^^^ c) % 2 ^ 8 = s % 2 ^ 8 ^^^ c % 2 ^ 8 := Nat.xor_mod_two_pow
  have h2 : (s ^^^ c) / 2 ^ 8 = s / 2 ^ 8 ^^^ c / 2 ^ 8 := Nat.xor_div_two_pow
  simp only [Nat.reducePow] at h1 h2
  rw [Nat.mod_eq_of_lt hc] at h1
  rw [Nat.div_eq_of_lt hc, Nat.xor_zero] at h2
  rw [← h1]
  omega

set_option maxRecDepth 100000 in
set_option maxHeartbeats 400000 in
theorem ref_step (s c : Nat) (w : World) (hs : s < 65536) (hc : c < 256) :
    Calls Tryd.prog 54 #[.int .u16 s, .int .u8 c] w fun e w' => e = .returned (.int .u16 (crcB s c : Nat)) ∧ Ext w w' := by
  have HX := Lib.hid (low_xor s c hc)
  obtain ⟨low, hlow⟩ : ∃ low, low = s % 256 := ⟨_, rfl⟩
  rw [← hlow] at HX
  have hl : low < 256 := by omega
  have hsl : low ≤ s := by omega
  have HL : Hid ((s : Int) % 256 = (low : Int)) := Lib.hid (by omega)
  clear hlow
  go_enter Tryd.func54, Tryd.ntmps54
  go_wp2_with fail
  rw [HL.out]
  go_loopw [7, 8] (fun x b wr => ∃ j : Nat, j ≤ 8 ∧ ∃ n bit : Nat, (bit = 2 ^ j ∧ n = (low ^^^ c) % 2 ^ j ∧ Ext w wr) ∧ 1 ≤ bit ∧ bit ≤ 256 ∧ n < 256 ∧ x = .int .i64 n ∧ b = .int .i64 bit) (fun _ b _ => 512 - (intOf b).toNat)
  case atStart => exact ⟨0, by omega, 0, 1, ⟨rfl, by rw [Nat.pow_zero, Nat.mod_one], Ext.refl _⟩, by omega, by omega, by omega, rfl, rfl⟩
  case round =>
    obtain ⟨j, hj, n, bit, hrest, hb1, hb2, hn, rfl, rfl⟩ := hrel
    have HR := Lib.hid hrest
    clear hrest
    by_cases hlt : bit < 256
    · have HJ : Hid (j < 8) := Lib.hid (by
        have h := HR.out.1
        rcases Nat.lt_or_ge j 8 with h8 | h8
        · exact h8
        · obtain rfl : j = 8 := by omega
          rw [h] at hlt
          simp at hlt)
      have HP : Hid (2 * bit = 2 ^ (j + 1) ∧ 2 * bit ≤ 256) := Lib.hid (by
        have h := HR.out.1
        have h2 : 2 * bit = 2 ^ (j + 1) := by rw [Nat.pow_succ, h]; omega
        have h3 : 2 ^ (j + 1) ≤ 2 ^ 8 := Nat.pow_le_pow_right (by omega) HJ.out
        omega)
      have hx := xmod_succ (low ^^^ c) j
      have hx2 := xbit low c j
      have hlx : low ^^^ c < 256 := Nat.xor_lt_two_pow (n := 8) hl hc
      have hml := Nat.mod_le (low ^^^ c) (2 ^ (j + 1))
      rw [hx2] at hx
      by_cases hq : low / 2 ^ j % 2 = c / 2 ^ j % 2
      · have HX2 : Hid ((low ^^^ c) % 2 ^ (j + 1) = n) := Lib.hid (by rw [hx, if_pos hq, HR.out.2.1]; omega)
        have hb : ((wrap64 ((low : Int) / (bit : Int))).tmod 2 != (wrap64 ((c : Int) / (bit : Int))).tmod 2) = false := by
          rw [refq low bit hl, refq c bit hc, HR.out.1, hq]
          simp
        clear hx hx2 hq hlx hml
        go_wp2_with fail
        go_quiet (fail)
        go_wp2_with fail
        go_roundw
        case rel => exact ⟨j + 1, HJ.out, n, 2 * bit, ⟨HP.out.1, HX2.out.symm, HR.out.2.2.drewN _⟩, by omega, HP.out.2, by omega, rfl, by go_num⟩
        case measure => simp [intOf]; omega
      · have HX2 : Hid ((low ^^^ c) % 2 ^ (j + 1) = n + bit ∧ n + bit < 256) := Lib.hid (by
          have e1 := HR.out.1
          have e2 := HR.out.2.1
          rw [if_neg hq, ← e2, Nat.mul_one, ← e1] at hx
          omega)
        have hb : ((wrap64 ((low : Int) / (bit : Int))).tmod 2 != (wrap64 ((c : Int) / (bit : Int))).tmod 2) = true := by
          rw [refq low bit hl, refq c bit hc, HR.out.1]
          exact bne_iff_ne.2 (fun h => hq (Int.ofNat.inj h))
        clear hx hx2 hq hlx hml
        go_wp2_with fail
        go_quiet (fail)
        go_wp2_with fail
        go_roundw
        case rel => exact ⟨j + 1, HJ.out, n + bit, 2 * bit, ⟨HP.out.1, HX2.out.1.symm, HR.out.2.2.drewN _⟩, by omega, HP.out.2, HX2.out.2, by go_num, by go_num⟩
        case measure => simp [intOf]; omega
    · have HN : Hid (n = low ^^^ c) := Lib.hid (by
        have h := HR.out
        have h8 : j = 8 := by
          rcases Nat.lt_or_ge j 8 with h8 | h8
          · have : 2 ^ j < 2 ^ 8 := Nat.pow_lt_pow_right (by omega) h8
            omega
          · omega
        subst h8
        rw [h.2.1]
        exact Nat.mod_eq_of_lt (Nat.xor_lt_two_pow (n := 8) hl hc))
      obtain ⟨t, ht⟩ : ∃ t, t = s - low + n := ⟨_, rfl⟩
      have HT : Hid (t = s ^^^ c) := Lib.hid (by rw [ht, HN.out, HX.out])
      have htl : t < 65536 := by rw [HT.out]; exact xor_lt16 hs (by omega)
      have HU : Hid ((s : Int) - low + n = t) := Lib.hid (by omega)
      clear ht
      go_wp2_with fail
      obtain ⟨wo, hwo⟩ : ∃ wo : World, wo = wr := ⟨_, rfl⟩
      have HXo : Hid (Ext w wo) := Lib.hid (by rw [hwo]; exact HR.out.2.2)
      rw [HU.out, ← hwo]
      clear hwo
      go_loop [0, 9, 10] (fun x i _ => ∃ k : Nat, k ≤ 8 ∧ ∃ m : Nat, m < 65536 ∧ Hid (crcN (8 - k) m = crcB s c) ∧ x = .int .u16 m ∧ i = .int .i64 k) (fun _ i _ => 8 - (intOf i).toNat)
      case atStart => exact ⟨0, by omega, t, htl, Lib.hid (by rw [HT.out]; rfl), by rw [IntWalk.u16_in _ (by omega)], rfl⟩
      case round =>
        obtain ⟨k, hk, m, hm, HM, rfl, rfl⟩ := hrel
        by_cases hk8 : k < 8
        · have h1 := crc1_lt hm
          have HC : Hid (crcN (8 - (k + 1)) (crc1 m) = crcB s c) := Lib.hid (by rw [← HM.out, show 8 - k = (8 - (k + 1)) + 1 from by omega]; rfl)
          rcases Nat.mod_two_eq_zero_or_one m with hm2 | hm2
          · have HC1 : Hid (crc1 m = m / 2) := Lib.hid (by unfold crc1; simp [hm2])
            have hd : ((m : Int) % 2 == 1) = false := by simp; omega
            clear hm2
            go_wp2_with fail
            go_round
            case rel => exact ⟨k + 1, hk8, crc1 m, h1, HC, by rw [HC1.out]; rfl, by go_num⟩
            case measure => simp [intOf]; omega
          · have HC1 : Hid (crc1 m = m / 2 ^^^ 40961) := Lib.hid (by unfold crc1; simp [hm2])
            have hd : ((m : Int) % 2 == 1) = true := by simp; omega
            clear hm2
            go_wp2_with fail
            go_round
            case rel => exact ⟨k + 1, hk8, crc1 m, h1, HC, by rw [HC1.out]; exact congrArg _ (u16_xor_nat (m / 2) 40961 (by omega) (by omega)), by go_num⟩
            case measure => simp [intOf]; omega
        · have hk2 : Hid (k = 8) := Lib.hid (by omega)
          go_wp2_with fail
          go_ret
          refine ⟨ret_int ?_, HXo.out⟩
          rw [← HM.out, hk2.out]
          rfl

set_option maxRecDepth 100000 in
theorem ref_More (s : Nat) (v : Value) (l : List Nat) (w : World) (hs : s < 65536) (hl : Sl w v (by8 l)) (hb : Bytes l) :
    Calls Tryd.prog 49 #[.int .u16 s, v] w fun e w' => e = .returned (.int .u16 (crcL s l : Nat)) ∧ Ext w w' := by
  obtain ⟨a, c, rfl, hlc, hcm, _, hcell⟩ := hl.bytes
  unfold maxLen at hcm
  have HC := Lib.hid hcell
  have HS := Lib.hid ref_step
  clear hcell hl
  go_enter Tryd.func49, Tryd.ntmps49
  go_wp2_with fail
  go_loopw [0, 5] (fun x i wr => ∃ k : Nat, k ≤ l.length ∧ i = .int .i64 k ∧ ∃ n : Nat, n < 65536 ∧ Hid (n = crcL s (l.take k)) ∧ x = .int .u16 n ∧ Hid (Ext w wr)) (fun _ i _ => l.length - (intOf i).toNat)
  case atStart => exact ⟨0, by omega, rfl, s, hs, Lib.hid rfl, rfl, Lib.hid (Ext.refl _)⟩
  case round =>
    obtain ⟨k, hk, rfl, n, hn, HN, rfl, HX⟩ := hrel
    by_cases hlt : k < l.length
    · obtain ⟨b, off, rfl, _, hcx⟩ := HC.out k hlt
      obtain ⟨x, hx⟩ : ∃ x, x = l.getD k 0 := ⟨_, rfl⟩
      rw [← hx] at hcx
      have hxb : x < 256 := by rw [hx]; exact hb.at_ k
      have hcr := HX.out.cell' hcx
      have HE := Lib.hid hx
      clear hx hcx
      go_wp2_with fail
      refine (HS.out n x _ hn hxb).mono ?_
      rintro e w' ⟨rfl, hx1⟩
      have HX1 := Lib.hid (HX.out.trans hx1)
      clear hx1
      go_wp2_with fail
      go_roundw
      case rel => exact ⟨k + 1, by omega, by go_num, crcB n x, crcB_lt hn hxb, Lib.hid (by rw [crcL_snoc s l k hlt, ← HN.out, HE.out]), rfl, HX1⟩
      case measure => simp [intOf]; omega
    · have hkl : Hid (k = l.length) := Lib.hid (by omega)
      go_wp2_with fail
      go_ret
      exact ⟨ret_int (by rw [HN.out, hkl.out, List.take_length]), HX.out⟩
theorem ref_Sum (v : Value) (l : List Nat) (w : World) (hl : Sl w v (by8 l)) (hb : Bytes l) :
    Calls Tryd.prog 37 #[v] w fun e w' => e = .returned (.int .u16 (crcL 65535 l : Nat)) ∧ Ext w w' := by
  have hm := ref_More 65535 v l w (by omega) hl hb
  have HM := Lib.hid hm
  clear hm hl hb
  go_enter Tryd.func37, Tryd.ntmps37
  go_wp2_with fail
  refine HM.out.mono ?_
  rintro e w' ⟨rfl, hx⟩
  go_wp2_with fail
  go_ret
  exact ⟨rfl, hx⟩

set_option maxRecDepth 100000 in
theorem ref_Put (v : Value) (l : List Nat) (w : World) (hl : Sl w v (by8 l)) (hb : Bytes l) (h47 : l.length + 2 ≤ 140737488355328) :
    Calls Tryd.prog 20 #[v] w fun e w' => ∃ v', e = .returned v' ∧ (w'.ownsRow w.heap.size 5 1 v' (put l).length (by8 (put l)) ∧ Ext w w') := by
  have hm := ref_Sum v l w hl hb
  obtain ⟨i0, hi, hz0, hz1, hz2⟩ := info_parts info8
  have HV := Lib.hid hl
  have hsum := crcL_lt l (n := 65535) (by omega) hb
  have HP : Hid (by8 (put l) = by8 l ++ by8 [crcL 65535 l % 256, crcL 65535 l / 256]) := Lib.hid (by rw [← by8_append]; rfl)
  obtain ⟨s, hs⟩ : ∃ s, s = crcL 65535 l := ⟨_, rfl⟩
  rw [← hs] at hsum hm HP
  clear hs hl hb
  have HM := Lib.hid hm
  have HL : Hid (∀ W : World, Sl (W.alloc (.cells #[.int .u8 ((s : Int) % 256), .int .u8 ((s : Int) / 256)] 5)) (.slice (some ⟨W.heap.size, 0, none⟩) 2 2) (by8 [s % 256, s / 256])) :=
    Lib.hid fun W => Sl.lit (cs := by8 [s % 256, s / 256]) (heap_alloc_new _ _) (by unfold maxLen; simp [by8])
  clear hm
  go_enter Tryd.func20, Tryd.ntmps20
  go_wp2_with fail
  refine HM.out.mono ?_
  rintro e w1 ⟨rfl, hx1⟩
  have HX1 := Lib.hid hx1
  have hz := hx1.size
  have HZ := Lib.hid hz
  have HV1 := Lib.hid (HV.out.ext (hx1.alloc (.cells #[] 5)))
  have HO0 : Hid ((w1.alloc (.cells #[] 5)).ownsRow w.heap.size 5 1 (.slice (some ⟨w1.heap.size, 0, none⟩) 0 0) 0 []) := Lib.hid (own_lit (cs := []) hz (by unfold maxLen; simp))
  clear hx1 hz
  have HZ1 : Hid (w.heap.size ≤ (w1.alloc (.cells #[] 5)).heap.size) := Lib.hid (by have := HZ.out; simp; omega)
  go_wp2_with (first | (at_builtin; refine app_own rfl _ _ 27 rfl w.heap.size 5 i0 (.int .u8 0) 1 Tryd.underlying27 hi hz0 hz1 hz2 rfl v2 (by8 l) rfl HO2.out _ (by8 [s % 256, s / 256]) rfl (HL.out _) (by8_one _) (by rw [by8_length]; simp [by8]; omega) (by omega) HZ2.out ?_; intro v3 w3 hown hgrow) | (at_builtin; refine app_own rfl _ _ 27 rfl w.heap.size 5 i0 (.int .u8 0) 1 Tryd.underlying27 hi hz0 hz1 hz2 rfl (.slice (some ⟨w1.heap.size, 0, none⟩) 0 0) [] rfl HO0.out v (by8 l) rfl HV1.out (by8_one _) (by rw [by8_length]; simp; omega) (by omega) HZ1.out ?_; intro v2 w2 hown hgrow; have HX2 := Lib.hid ((HX1.out.alloc (.cells #[] 5)).grown hgrow (own_block HO0.out)); rw [List.nil_append] at hown; have HO2 := Lib.hid (own_ext hown ((Ext.refl w2).alloc (.cells #[.int .u8 ((s : Int) % 256), .int .u8 ((s : Int) / 256)] 5))); have HZ2 : Hid (w.heap.size ≤ (w2.alloc (.cells #[.int .u8 ((s : Int) % 256), .int .u8 ((s : Int) / 256)] 5)).heap.size) := Lib.hid (by have := HX2.out.size; simp; omega); clear hown hgrow))
  go_ret
  rw [← HP.out, by8_length] at hown
  exact ⟨_, rfl, hown, (HX2.out.alloc _).grown hgrow (own_block HO2.out)⟩

/-- Whether bytes are the same. -/
theorem getD_ext {l m : List Nat} (h : l.length = m.length) (hg : ∀ i, i < l.length → l.getD i 0 = m.getD i 0) : l = m := by
  refine List.ext_getElem h fun i h1 h2 => ?_
  have := hg i h1
  simpa [h1, h2] using this
set_option maxRecDepth 100000 in
theorem ref_Same (v1 v2 : Value) (l m : List Nat) (w : World) (hl : Sl w v1 (by8 l)) (hm : Sl w v2 (by8 m)) :
    Calls Tryd.prog 11 #[v1, v2] w fun e w' => e = .returned (.bool (decide (l = m))) ∧ Ext w w' := by
  obtain ⟨a, c, rfl, hlc, hcm, _, hcell⟩ := hl.bytes
  obtain ⟨a', c', rfl, hlc', hcm', _, hcell'⟩ := hm.bytes
  unfold maxLen at hcm hcm'
  have HC := Lib.hid hcell
  have HC' := Lib.hid hcell'
  clear hcell hcell' hl hm
  by_cases hlen : l.length = m.length
  · obtain ⟨n, hn⟩ : ∃ n, n = l.length := ⟨_, rfl⟩
    have HN : Hid (m.length = n) := Lib.hid (by omega)
    rw [← hn] at HC
    rw [HN.out] at HC' ⊢
    rw [← hn]
    have HN1 := Lib.hid hn
    have hlc2 : n ≤ c := by omega
    have hlc2' : n ≤ c' := by omega
    clear hlen hn hlc hlc'
    go_enter Tryd.func11, Tryd.ntmps11
    go_wp2_with fail
    go_loopw [5] (fun i wr => ∃ k : Nat, k ≤ n ∧ i = .int .i64 k ∧ Hid (Ext w wr ∧ ∀ j, j < k → l.getD j 0 = m.getD j 0)) (fun i _ => n - (intOf i).toNat)
    case atStart => exact ⟨0, by omega, rfl, Lib.hid ⟨Ext.refl _, fun j hj => by omega⟩⟩
    case round =>
      obtain ⟨k, hk, rfl, HX⟩ := hrel
      by_cases hlt : k < n
      · obtain ⟨b, off, rfl, _, hcx⟩ := HC.out k hlt
        obtain ⟨b', off', rfl, _, hcx'⟩ := HC'.out k hlt
        have hc1 := HX.out.1.cell' hcx
        have hc2 := HX.out.1.cell' hcx'
        obtain ⟨x, hx⟩ : ∃ x, x = l.getD k 0 := ⟨_, rfl⟩
        obtain ⟨y, hy⟩ : ∃ y, y = m.getD k 0 := ⟨_, rfl⟩
        rw [← hx] at hc1
        rw [← hy] at hc2
        have HEx := Lib.hid hx
        have HEy := Lib.hid hy
        have hk0 : (0 : Int) ≤ (k : Int) := by omega
        have hkn : (k : Int) < (n : Int) := by omega
        clear hcx hcx' hx hy
        by_cases hxy : x = y
        · have hb : ((x : Int) != (y : Int)) = false := by simp [hxy]
          have HXY := Lib.hid hxy
          clear hxy
          go_wp2_with fail
          go_quiet (fail)
          go_wp2_with fail
          go_roundw
          case rel =>
            refine ⟨k + 1, by omega, by go_num, Lib.hid ⟨HX.out.1.drewN _, fun j hj => ?_⟩⟩
            by_cases hjk : j = k
            · subst hjk; rw [← HEx.out, ← HEy.out, HXY.out]
            · exact HX.out.2 j (by omega)
          case measure => simp [intOf]; omega
        · have hb : ((x : Int) != (y : Int)) = true := by simp; omega
          have HXY := Lib.hid hxy
          clear hxy
          go_wp2_with fail
          go_quiet (fail)
          go_wp2_with fail
          go_ret
          refine ⟨ret_bool (decide_eq_false ?_).symm, HX.out.1.drewN _⟩
          intro h
          exact HXY.out (by rw [HEx.out, HEy.out, h])
      · have hkl : Hid (k = n) := Lib.hid (by omega)
        go_wp2_with fail
        go_ret
        refine ⟨ret_bool (decide_eq_true ?_).symm, HX.out.1⟩
        exact getD_ext (by rw [HN.out]; exact HN1.out.symm) (fun j hj => HX.out.2 j (by rw [hkl.out, HN1.out]; exact hj))
  · have HL := Lib.hid hlen
    have hb : ((l.length : Int) != (m.length : Int)) = true := by simp; omega
    clear hlen
    go_enter Tryd.func11, Tryd.ntmps11
    go_wp2_with fail
    go_ret
    exact ⟨ret_bool (decide_eq_false (fun h => HL.out (by rw [h]))).symm, Ext.refl _⟩

theorem crcN8_small : ∀ d : Fin 256, crcN 8 d.1 < 256 → d.1 = 0 := by decide +kernel
/-- Bytes end in the sum of those ahead just where their own sum is 0. -/
theorem put_iff {l : List Nat} (hb : Bytes l) (h2 : 2 ≤ l.length) : put (l.take (l.length - 2)) = l ↔ crcL 65535 l = 0 := by
  constructor
  · intro h
    rw [← h]
    exact put_zero _
  · intro h
    obtain ⟨f, a, b, rfl⟩ : ∃ f a b, l = f ++ [a, b] := by
      obtain ⟨f, b, rfl⟩ : ∃ f b, l = f ++ [b] := ⟨l.dropLast, l.getLast (by intro e; subst e; simp at h2), (List.dropLast_concat_getLast _).symm⟩
      obtain ⟨g, a, rfl⟩ : ∃ g a, f = g ++ [a] := ⟨f.dropLast, f.getLast (by intro e; subst e; simp at h2), (List.dropLast_concat_getLast _).symm⟩
      exact ⟨g, a, b, by simp⟩
    have ha : a < 256 := hb a (by simp)
    have hbb : b < 256 := hb b (by simp)
    have e1 : (f ++ [a, b]).take ((f ++ [a, b]).length - 2) = f := by simp
    rw [e1]
    have hs := crcL_lt f (n := 65535) (by omega) (fun c hc => hb c (by simp [hc]))
    unfold put
    rw [crcL_append] at h
    generalize crcL 65535 f = s at h hs ⊢
    have h' : crcB (crcB s a) b = 0 := h
    have h3 : crcB s a ^^^ b = 0 := crcN_zero 8 (xor_lt16 (crcB_lt hs ha) (by omega)) h'
    have h4 : crcB s a = b := by
      have := congrArg (· ^^^ b) h3
      simpa [Nat.xor_assoc] using this
    have h5 : s ^^^ a = (s ^^^ s % 256) ^^^ (s % 256 ^^^ a) := by
      rw [Nat.xor_assoc, ← Nat.xor_assoc (s % 256), Nat.xor_self, Nat.zero_xor]
    have h6 : s / 256 ^^^ crcN 8 (s % 256 ^^^ a) = b := by
      rw [← h4]
      unfold crcB
      rw [h5, crcN_xor 8 (s ^^^ s % 256), xor_low, crcN_shift]
    have hd : s % 256 ^^^ a < 256 := Nat.xor_lt_two_pow (n := 8) (by omega) ha
    have h7 : crcN 8 (s % 256 ^^^ a) = b ^^^ s / 256 := by
      rw [← h6, Nat.xor_comm (s / 256), Nat.xor_assoc, Nat.xor_self, Nat.xor_zero]
    have h8 : s % 256 ^^^ a = 0 := crcN8_small ⟨_, hd⟩ (by show crcN 8 (s % 256 ^^^ a) < 256; rw [h7]; exact Nat.xor_lt_two_pow (n := 8) hbb (by omega))
    have h9 : s % 256 = a := by
      have := congrArg (· ^^^ a) h8
      simpa [Nat.xor_assoc] using this
    rw [h8] at h6
    have h10 : s / 256 = b := by rw [← h6]; exact (Nat.xor_zero _).symm
    rw [h9, h10]

theorem Sl.own8 {w : World} {base : Nat} {e : TypeId} {v : Value} {m : List Nat} (h : w.ownsRow base e 1 v m.length (by8 m)) : Sl w v (by8 m) := Sl.own (n := m.length) (base := base) (e := e) h
theorem Sl.front {w : World} {a : Option Addr} {c : Nat} {l : List Nat} (h : Sl w (.slice a l.length c) (by8 l)) (k : Nat) (hk : k ≤ l.length) : Sl w (.slice a k c) (by8 (l.take k)) := by
  have h1 := h.take k hk
  have e : (by8 l).take k = by8 (l.take k) := by simp [by8, List.map_take]
  rw [e] at h1
  exact h1

set_option maxRecDepth 100000 in
theorem ref_Cut_no (v : Value) (l : List Nat) (w : World) (hl : Sl w v (by8 l)) (hb : Bytes l) (h : l.length < 2 ∨ crcL 65535 l ≠ 0) (h47 : l.length ≤ 140737488355328) :
    Calls Tryd.prog 24 #[v] w fun e w' => e = .returned (.tuple #[.slice none 0 0, .bool false]) ∧ Ext w w' := by
  obtain ⟨a, c, rfl, hlc, hcm, _, _⟩ := hl.bytes
  unfold maxLen at hcm
  by_cases h2 : l.length < 2
  · clear hl
    go_enter Tryd.func24, Tryd.ntmps24
    go_wp2_with fail
    go_ret2
    exact ⟨rfl, Ext.refl _⟩
  · have hne : put (l.take (l.length - 2)) ≠ l := fun e => by
      rcases h with h | h
      · exact h2 h
      · exact h ((put_iff hb (by omega)).1 e)
    have hf := hl.front (l.length - 2) (by omega)
    have HP := Lib.hid (ref_Put _ _ w hf (fun c hc => hb c (List.mem_of_mem_take hc)) (by rw [List.length_take]; omega))
    have HSm := Lib.hid (fun (v1 : Value) (W : World) (h1 : Sl W v1 (by8 (put (l.take (l.length - 2))))) (hx : Ext w W) => ref_Same v1 _ _ l W h1 (hl.ext hx))
    rw [decide_eq_false hne] at HSm
    clear hl hb h hne hf
    go_enter Tryd.func24, Tryd.ntmps24
    go_wp2_with fail
    refine HP.out.mono ?_
    rintro e w1 ⟨v1, rfl, ho, hx⟩
    have HS1 := Lib.hid (Sl.own8 ho)
    have HX1 := Lib.hid hx
    clear ho hx
    go_wp2_with fail
    refine (HSm.out _ _ HS1.out HX1.out).mono ?_
    rintro e w2 ⟨rfl, hx⟩
    go_wp2_with fail
    go_ret2
    exact ⟨rfl, HX1.out.trans hx⟩

set_option maxRecDepth 100000 in
theorem ref_Cut_yes (v : Value) (l : List Nat) (w : World) (hl : Sl w v (by8 l)) (hb : Bytes l) (h2 : 2 ≤ l.length) (h : crcL 65535 l = 0) (h47 : l.length ≤ 140737488355328) :
    Calls Tryd.prog 24 #[v] w fun e w' => ∃ v', e = .returned (.tuple #[v', .bool true]) ∧ (w'.ownsRow w.heap.size 5 1 v' (l.length - 2) (by8 (l.take (l.length - 2))) ∧ Ext w w') := by
  obtain ⟨i0, hi, hz0, hz1, hz2⟩ := info_parts info8
  obtain ⟨a, c, rfl, hlc, hcm, _, _⟩ := hl.bytes
  unfold maxLen at hcm
  have heq := (put_iff hb h2).2 h
  have hf := hl.front (l.length - 2) (by omega)
  have HF := Lib.hid hf
  have HP := Lib.hid (ref_Put _ _ w hf (fun c hc => hb c (List.mem_of_mem_take hc)) (by rw [List.length_take]; omega))
  have HSm := Lib.hid (fun (v1 : Value) (W : World) (h1 : Sl W v1 (by8 (put (l.take (l.length - 2))))) (hx : Ext w W) => ref_Same v1 _ _ l W h1 (hl.ext hx))
  rw [decide_eq_true heq] at HSm
  have HT : Hid ((by8 (l.take (l.length - 2))).length = l.length - 2) := Lib.hid (by rw [by8_length, List.length_take]; omega)
  clear hl hb h heq hf
  go_enter Tryd.func24, Tryd.ntmps24
  go_wp2_with fail
  refine HP.out.mono ?_
  rintro e w1 ⟨v1, rfl, ho, hx⟩
  have HS1 := Lib.hid (Sl.own8 ho)
  have HX1 := Lib.hid hx
  clear ho hx
  go_wp2_with fail
  refine (HSm.out _ _ HS1.out HX1.out).mono ?_
  rintro e w2 ⟨rfl, hx⟩
  have HX2 := Lib.hid (HX1.out.trans hx)
  clear hx
  have HF2 := Lib.hid (HF.out.ext (HX2.out.alloc (.cells #[] 5)))
  have HO0 : Hid ((w2.alloc (.cells #[] 5)).ownsRow w.heap.size 5 1 (.slice (some ⟨w2.heap.size, 0, none⟩) 0 0) 0 []) := Lib.hid (own_lit (cs := []) HX2.out.size (by unfold maxLen; simp))
  have HZ1 : Hid (w.heap.size ≤ (w2.alloc (.cells #[] 5)).heap.size) := Lib.hid (by have := HX2.out.size; simp; omega)
  go_wp2_with (at_builtin; refine app_own rfl _ _ 27 rfl w.heap.size 5 i0 (.int .u8 0) 1 Tryd.underlying27 hi hz0 hz1 hz2 rfl (.slice (some ⟨w2.heap.size, 0, none⟩) 0 0) [] rfl HO0.out _ (by8 (l.take (l.length - 2))) rfl HF2.out (by8_one _) (by rw [HT.out]; simp; omega) (by omega) HZ1.out ?_; intro v2 w3 hown hgrow)
  go_ret2
  rw [List.nil_append, HT.out] at hown
  exact ⟨_, rfl, hown, (HX2.out.alloc _).grown hgrow (own_block HO0.out)⟩
end Go.Proofs.YtjooacmmgbpkfaaDoor
