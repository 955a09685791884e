/- Contracts of package crc's functions (More, Sum, Put, Cut). Conditions: each byte is below 256. -/
import Derived.Test.YtjooacmmgbpkfaaDoorProg
import Derived.Test.YtjooacmmgbpkfaaDoorBase
import Derived.Test.YtjooacmmgbpkfaaDoorSums
namespace Go.Proofs.YtjooacmmgbpkfaaDoor
open Go.RowKit

/-- Bytes as values. -/
def by8 (l : List Nat) : List Value := l.map fun n : Nat => .int .u8 (n : Int)
theorem by8_length (l : List Nat) : (by8 l).length = l.length := by simp [by8]
theorem by8_get (l : List Nat) (i : Nat) (h : i < l.length) : (by8 l)[i]? = some (.int .u8 ((l.getD i 0 : Nat) : Int)) := by simp [by8, h]
theorem by8_nil {l : List Nat} : by8 l = [] ↔ l = [] := by simp [by8]
theorem by8_append (l m : List Nat) : by8 (l ++ m) = by8 l ++ by8 m := by simp [by8]
theorem by8_one (l : List Nat) : ∀ u ∈ by8 l, u.oneCell' = true := by
  intro u hu
  simp [by8] at hu
  obtain ⟨n, _, rfl⟩ := hu
  rfl
def Bytes (l : List Nat) : Prop := ∀ c ∈ l, c < 256
theorem Bytes.at_ {l : List Nat} (h : Bytes l) (i : Nat) : l.getD i 0 < 256 := getD_lt h i

/-- What holds of a slice of bytes, cell by cell. -/
theorem Sl.bytes {w : World} {v : Value} {l : List Nat} (h : Sl w v (by8 l)) : ∃ a c, v = .slice a l.length c ∧ l.length ≤ c ∧ c ≤ maxLen ∧ (a = none → c = 0) ∧
    ∀ i, i < l.length → ∃ b off, a = some ⟨b, off, none⟩ ∧ b < w.heap.size ∧ w.cell? ⟨b, off + i, none⟩ = some (.int .u8 ((l.getD i 0 : Nat) : Int)) := by
  obtain ⟨a, c, rfl, h1, h2, h3, h4⟩ := h
  rw [by8_length] at h1 h4
  refine ⟨a, c, by rw [by8_length], h1, h2, h3, fun i hi => ?_⟩
  rcases h4 with h4 | ⟨b, off, rfl, hc⟩
  · rw [by8_nil] at h4; subst h4; simp at hi
  · have := hc i hi
    rw [by8_get l i hi] at this
    exact ⟨b, off, rfl, block_lt_of_cell this, this⟩

theorem crc_step {m : Nat} (hm : m < 65536) : bits BinOp.xor IntKind.u16 ((m : Int) / 2) (bits BinOp.and IntKind.u16 40961 (IntKind.u16.wrap (-bits BinOp.and IntKind.u16 (m : Int) 1))) = (crc1 m : Nat) := by
  have h1 : bits BinOp.and IntKind.u16 (m : Int) 1 = ((m % 2 : Nat) : Int) := by
    have := u16_and_nat m 1 hm (by omega)
    rw [nat_mask1] at this
    exact this
  rw [h1, IntKind.wrap_u16]
  unfold crc1
  rcases Nat.mod_two_eq_zero_or_one m with h | h
  · rw [h]
    have h2 : bits BinOp.and IntKind.u16 40961 (-((0 : Nat) : Int) % 65536) = 0 := by
      have := u16_and_nat 40961 0 (by omega) (by omega)
      simpa using this
    rw [h2]
    have := u16_xor_nat (m / 2) 0 (by omega) (by omega)
    simpa using this
  · rw [h]
    have h2 : bits BinOp.and IntKind.u16 40961 (-((1 : Nat) : Int) % 65536) = ((40961 : Nat) : Int) := by
      have := u16_and_nat 40961 65535 (by omega) (by omega)
      exact this
    rw [h2]
    have := u16_xor_nat (m / 2) 40961 (by omega) (by omega)
    simpa using this
theorem crcL_snoc (s : Nat) (l : List Nat) (k : Nat) (h : k < l.length) : crcL s (l.take (k + 1)) = crcB (crcL s (l.take k)) (l.getD k 0) := by
  rw [List.take_succ_eq_append_getElem h, crcL_append]
  simp [crcL, h]

set_option maxHeartbeats 400000 in
theorem crc_More (s : Nat) (v : Value) (l : List Nat) (w : World) (hs : s < 65536) (hl : Sl w v (by8 l)) (hb : Bytes l) :
    Calls Tryd.prog 48 #[.int .u16 s, v] w fun e w' => e = .returned (.int .u16 (crcL s l : Nat)) ∧ w = w' := by
  obtain ⟨a, c, rfl, hlc, hcm, _, hcell⟩ := hl.bytes
  unfold maxLen at hcm
  have HC := Lib.hid hcell
  clear hcell hl
  go_enter Tryd.func48, Tryd.ntmps48
  go_wp2_with fail
  go_loop [0, 10] (fun x i => ∃ k : Nat, k ≤ l.length ∧ i = .int .i64 k ∧ ∃ n : Nat, n < 65536 ∧ n = crcL s (l.take k) ∧ x = .int .u16 n) (fun _ i => l.length - (intOf i).toNat)
  case atStart => exact ⟨0, by omega, rfl, s, hs, rfl, rfl⟩
  case round =>
    obtain ⟨k, hk, rfl, n, hn, hnk, rfl⟩ := hrel
    have HN := Lib.hid hnk
    clear hnk
    by_cases hlt : k < l.length
    · obtain ⟨b, off, rfl, _, hcx⟩ := HC.out k hlt
      obtain ⟨x, hx⟩ : ∃ x, x = l.getD k 0 := ⟨_, rfl⟩
      rw [← hx] at hcx
      have hxb : x < 256 := by rw [hx]; exact hb.at_ k
      have HX := Lib.hid hx
      clear hx
      go_wp2_with fail
      go_loop [0, 18] (fun x i => ∃ j : Nat, j ≤ 8 ∧ i = .int .i64 j ∧ ∃ m : Nat, m < 65536 ∧ crcN (8 - j) m = crcL s (l.take (k + 1)) ∧ x = .int .u16 m) (fun _ i => 8 - (intOf i).toNat)
      case atStart =>
        refine ⟨0, by omega, rfl, n ^^^ x, xor_lt16 hn (by omega), ?_, ?_⟩
        · rw [crcL_snoc s l k hlt, ← HN.out, ← HX.out]; rfl
        · rw [u16_xor_nat n x hn (by omega)]
      case round =>
        obtain ⟨j, hj, rfl, m, hm, hmk, rfl⟩ := hrel
        have HM := Lib.hid hmk
        clear hmk
        have hlk : k ≤ 9223372036854775806 := by omega
        by_cases hj8 : j < 8
        · go_wp2_with fail
          go_round
          case rel =>
            refine ⟨j + 1, by omega, by go_num, crc1 m, crc1_lt hm, ?_, ?_⟩
            · rw [← HM.out, show 8 - j = (8 - (j + 1)) + 1 from by omega]; rfl
            · rw [crc_step hm]
          case measure => simp [intOf]; omega
        · have hj : Hid (j = 8) := Lib.hid (by omega)
          go_wp2_with fail
          go_round
          case rel => exact ⟨k + 1, by omega, by go_num, m, hm, by rw [← HM.out, hj.out]; rfl, rfl⟩
          case measure => simp [intOf]; omega
    · have hkl : Hid (k = l.length) := Lib.hid (by omega)
      go_wp2_with fail
      go_ret
      exact ⟨ret_int (by rw [HN.out, hkl.out, List.take_length]), rfl⟩
theorem crc_Sum (v : Value) (l : List Nat) (w : World) (hl : Sl w v (by8 l)) (hb : Bytes l) :
    Calls Tryd.prog 36 #[v] w fun e w' => e = .returned (.int .u16 (crcL 65535 l : Nat)) ∧ w = w' := by
  have hm := crc_More 65535 v l w (by omega) hl hb
  go_enter Tryd.func36, Tryd.ntmps36
  go_wp2_with fail
  refine hm.mono ?_
  rintro e w' ⟨rfl, rfl⟩
  go_wp2_with fail
  go_ret
  exact ⟨rfl, rfl⟩

theorem info8 : (Tryd.prog.info? 5).map (fun i => (i.zero, i.size, i.bytes)) = some (some (.int .u8 0), 1, 1) := by kernel_rfl

set_option maxRecDepth 100000 in
theorem crc_Put (v : Value) (l : List Nat) (w : World) (hl : Sl w v (by8 l)) (hb : Bytes l) (h47 : l.length + 2 ≤ 140737488355328) :
    Calls Tryd.prog 18 #[v] w fun e w' => ∃ v', e = .returned v' ∧ w'.ownsRow w.heap.size 5 1 v' (l.length + 2) (by8 (put l)) ∧ Ext w w' := by
  have hm := crc_Sum v l w hl hb
  obtain ⟨i0, hi, hz0, hz1, hz2⟩ := info_parts info8
  obtain ⟨a, c, rfl, hlc, hcm, hnone, hcell⟩ := hl.bytes
  have hfl : Sl w (.slice a l.length l.length) (by8 l) := by
    obtain ⟨a1, c1, e1, k1, k2, k3, k4⟩ := hl
    injection e1 with ea en ec
    subst ea ec
    refine ⟨a, l.length, by rw [by8_length], by rw [by8_length]; exact Nat.le_refl _, by omega, fun e => ?_, k4⟩
    have := k3 e
    omega
  have HV := Lib.hid hfl
  clear hcell hl hnone hfl
  have hsum := crcL_lt l (n := 65535) (by omega) hb
  unfold maxLen at hcm
  have HP : Hid (by8 (put l) = by8 l ++ by8 [crcL 65535 l % 256, crcL 65535 l / 256]) := Lib.hid (by rw [← by8_append]; rfl)
  obtain ⟨s, hs⟩ : ∃ s, s = crcL 65535 l := ⟨_, rfl⟩
  rw [← hs] at hsum hm HP
  clear hs
  have HL : Hid (∀ W : World, Sl (W.alloc (.cells #[.int .u8 ((s : Int) % 256), .int .u8 ((s : Int) / 256)] 5)) (.slice (some ⟨W.heap.size, 0, none⟩) 2 2) (by8 [s % 256, s / 256])) :=
    Lib.hid fun W => Sl.lit (cs := by8 [s % 256, s / 256]) (heap_alloc_new _ _) (by unfold maxLen; simp [by8])
  go_enter Tryd.func18, Tryd.ntmps18
  go_wp2_with fail
  refine hm.mono ?_
  rintro e w' ⟨rfl, rfl⟩
  clear hm
  go_wp2_with (at_builtin; refine app_grows rfl _ _ 27 rfl 5 i0 (.int .u8 0) 1 Tryd.underlying27 hi hz0 hz1 hz2 rfl a l.length l.length (by8 l) rfl (HV.out.ext ((Ext.refl _).alloc _)) _ (by8 [s % 256, s / 256]) (by simp [by8]) rfl (HL.out _) (by simp [by8]) (by8_one _) (by rw [by8_length]; simp [by8]; omega) (by omega) ?_; intro v' w1 hown hext)
  go_ret
  refine ⟨_, rfl, ?_, ?_⟩
  · rw [HP.out]
    have : (by8 l ++ by8 [s % 256, s / 256]).length = l.length + 2 := by simp [by8]
    rw [this] at hown
    exact own_base hown (by simp)
  · exact ((Ext.refl _).alloc _).trans hext

set_option maxRecDepth 100000 in
/-- No sum: too short, or another one. -/
theorem crc_Cut_no (v : Value) (l : List Nat) (w : World) (hl : Sl w v (by8 l)) (hb : Bytes l) (h : l.length < 2 ∨ crcL 65535 l ≠ 0) :
    Calls Tryd.prog 21 #[v] w fun e w' => e = .returned (.tuple #[.slice none 0 0, .bool false]) ∧ w = w' := by
  have hm := crc_Sum v l w hl hb
  obtain ⟨a, c, rfl, hlc, hcm, _, _⟩ := hl.bytes
  clear hl
  unfold maxLen at hcm
  obtain ⟨s, hs⟩ : ∃ s, s = crcL 65535 l := ⟨_, rfl⟩
  rw [← hs] at hm h
  clear hs
  by_cases h2 : l.length < 2
  · go_enter Tryd.func21, Tryd.ntmps21
    go_wp2_with fail
    go_ret2
    exact ⟨rfl, rfl⟩
  · have hs0 : ((s : Int) == 0) = false := by simp; omega
    have hs1 : ((s : Int) != 0) = true := by simp; omega
    go_enter Tryd.func21, Tryd.ntmps21
    go_wp2_with fail
    refine hm.mono ?_
    rintro e w' ⟨rfl, rfl⟩
    go_wp2_with fail
    go_ret2
    exact ⟨rfl, rfl⟩

set_option maxRecDepth 100000 in
theorem crc_Cut_yes (v : Value) (l : List Nat) (w : World) (hl : Sl w v (by8 l)) (hb : Bytes l) (h2 : 2 ≤ l.length) (h : crcL 65535 l = 0) (h47 : l.length ≤ 140737488355328) :
    Calls Tryd.prog 21 #[v] w fun e w' => ∃ v', e = .returned (.tuple #[v', .bool true]) ∧ w'.ownsRow w.heap.size 5 1 v' (l.length - 2) (by8 (l.take (l.length - 2))) ∧ Ext w w' := by
  have hm := crc_Sum v l w hl hb
  rw [h] at hm
  obtain ⟨i0, hi, hz0, hz1, hz2⟩ := info_parts info8
  obtain ⟨a, c, rfl, hlc, hcm, hnone, hcell⟩ := hl.bytes
  have hfl : Sl w (.slice a (l.length - 2) c) (by8 (l.take (l.length - 2))) := by
    obtain ⟨a1, c1, e1, k1, k2, k3, k4⟩ := hl
    injection e1 with ea en ec
    subst ea ec
    refine ⟨a, c, by rw [by8_length, List.length_take, Nat.min_eq_left (by omega)], by rw [by8_length, List.length_take]; omega, k2, k3, ?_⟩
    rcases k4 with k4 | ⟨b, off, hb, k4⟩
    · left; rw [by8_nil] at k4; subst k4; rfl
    · refine .inr ⟨b, off, hb, fun i hi => ?_⟩
      rw [by8_length, List.length_take] at hi
      rw [k4 i (by rw [by8_length]; omega)]
      have h9 : i < l.length := by omega
      simp [by8, show i < l.length - 2 from by omega, h9]
  have HV := Lib.hid hfl
  clear hcell hl hnone hfl h
  unfold maxLen at hcm
  have HT : Hid ((by8 (l.take (l.length - 2))).length = l.length - 2) := Lib.hid (by rw [by8_length, List.length_take]; omega)
  go_enter Tryd.func21, Tryd.ntmps21
  go_wp2_with fail
  refine hm.mono ?_
  rintro e w' ⟨rfl, rfl⟩
  clear hm
  go_wp2_with (at_builtin; refine app_own rfl _ _ 27 rfl w.heap.size 5 i0 (.int .u8 0) 1 Tryd.underlying27 hi hz0 hz1 hz2 rfl (.slice none 0 0) [] rfl (World.ownsRow_nil _ _ _ _) _ (by8 (l.take (l.length - 2))) rfl HV.out (by8_one _) (by rw [HT.out]; simp; omega) (by omega) (by simp) ?_; intro v' w1 hown hgrow)
  go_ret2
  refine ⟨_, rfl, ?_, (Ext.refl _).grown hgrow (by intro k hk; cases hk)⟩
  simpa [HT.out] using hown
end Go.Proofs.YtjooacmmgbpkfaaDoor
