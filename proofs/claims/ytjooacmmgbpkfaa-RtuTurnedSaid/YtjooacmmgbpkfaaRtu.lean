/- Contracts of package rtu's functions (Bytes, Read, Same). Condition: each byte is below 256. -/
import Derived.Test.YtjooacmmgbpkfaaRtuErr
import Derived.Test.YtjooacmmgbpkfaaCrc
import Derived.Test.YtjooacmmgbpkfaaBytesEq
namespace Go.Proofs.Ytjooacmmgbpkfaa
open Go.RowKit

def frame (u : Nat) (v : Value) : Value := .agg #[.int .u8 (u : Int), v]

set_option maxRecDepth 100000 in
theorem rtu_Bytes_no (u : Nat) (v : Value) (l : List Nat) (w : World) (hl : Sl w v (by8 l)) (h : l.length < 1 ∨ 253 < l.length) :
    Calls Try.prog 8 #[frame u v] w fun e w' => e = .returned (.tuple #[.slice none 0 0, .int .i64 (if l.length < 1 then 3 else 4)]) ∧ Ext w w' := by
  obtain ⟨a, c, rfl, hlc, hcm, _, _⟩ := hl.bytes
  have hlm : l.length ≤ 9223372036854775807 := by unfold maxLen at hcm; omega
  clear hl hcm
  obtain ⟨x, hx, hxw⟩ : ∃ x : Int, (x = 3 ∨ x = 4) ∧ witR l.length 1 253 = trouble l.length x ∧ (if l.length < 1 then (3 : Int) else 4) = x := by
    unfold witR
    by_cases h1 : l.length < 1
    · exact ⟨3, .inl rfl, by rw [if_pos (by omega)], by rw [if_pos h1]⟩
    · exact ⟨4, .inr rfl, by rw [if_neg (by omega), if_pos (by omega)], by rw [if_neg h1]⟩
  rw [hxw.2]
  have hw := rtu_within l.length 1 253
  rw [hxw.1] at hw
  have ht := rtu_told l.length x
  unfold trouble at hw ht
  have HW := Lib.hid hw
  have HT := Lib.hid ht
  clear hxw hw ht
  unfold frame
  go_enter Try.func8, Try.ntmps8
  go_wp2_with fail
  refine (HW.out _).mono ?_
  rintro e w1 ⟨rfl, h1⟩
  go_wp2_with fail
  refine (HT.out _ _ hx (heap_alloc_new _ _)).mono ?_
  rintro e w2 ⟨rfl, h2⟩
  go_wp2_with fail
  go_ret2
  exact ⟨rfl, (((Ext.refl _).alloc _).trans h1).trans (((Ext.refl _).alloc _).trans h2)⟩

set_option maxRecDepth 100000 in
theorem rtu_Bytes (u : Nat) (v : Value) (l : List Nat) (w : World) (hl : Sl w v (by8 l)) (hb : Bytes l) (hu : u < 256) (h1 : 1 ≤ l.length) (h2 : l.length ≤ 253) :
    Calls Try.prog 8 #[frame u v] w fun e w' => ∃ v', e = .returned (.tuple #[v', .int .i64 0]) ∧ (w'.ownsRow w.heap.size 5 1 v' (l.length + 3) (by8 (put (u :: l))) ∧ Ext w w') := by
  obtain ⟨a, c, rfl, hlc, hcm, _, _⟩ := hl.bytes
  have HV := Lib.hid hl
  clear hl hcm
  obtain ⟨i0, hi, hz0, hz1, hz2⟩ := info_parts info8
  have hw := rtu_within l.length 1 253
  rw [show witR l.length 1 253 = .nilIface from by unfold witR; rw [if_neg (by omega), if_neg (by omega)]] at hw
  have HW := Lib.hid hw
  clear hw
  have HB : Hid (Bytes (u :: l)) := Lib.hid (by intro x hx; simp at hx; rcases hx with rfl | hx; exact hu; exact hb x hx)
  unfold frame
  go_enter Try.func8, Try.ntmps8
  go_wp2_with fail
  refine (HW.out _).mono ?_
  rintro e w1 ⟨rfl, h1⟩
  have c0 := h1.cell' (show (w.alloc (.cells #[.int .u8 (u : Int), .slice a l.length c] 24)).cell? ⟨w.heap.size, 0, none⟩ = some (.int .u8 (u : Int)) from by simp)
  have c1 := h1.cell' (show (w.alloc (.cells #[.int .u8 (u : Int), .slice a l.length c] 24)).cell? ⟨w.heap.size, 1, none⟩ = some (.slice a l.length c) from by simp)
  have hs1 : w.heap.size < w1.heap.size := by have := h1.size; simp at this; omega
  have HX := Lib.hid (((Ext.refl w).alloc _).trans h1)
  clear h1
  have HL : Hid (∀ W : World, w1.heap.size = W.heap.size → (W.alloc (.cells #[.int .u8 (u : Int)] 5)).ownsRow w.heap.size 5 1 (.slice (some ⟨w1.heap.size, 0, none⟩) 1 1) 1 (by8 [u])) :=
    Lib.hid fun W e => by
      have := own_lit (w := W) (cs := by8 [u]) (e := 5) (base := w.heap.size) (by omega) (by unfold maxLen; simp [by8])
      rw [e]
      exact this
  go_wp2_with (at_builtin; refine app_own rfl _ _ 22 rfl w.heap.size 5 i0 (.int .u8 0) 1 Try.underlying22 hi hz0 hz1 hz2 rfl (.slice (some ⟨w1.heap.size, 0, none⟩) 1 1) (by8 [u]) rfl (HL.out _ rfl) _ (by8 l) rfl (HV.out.ext (HX.out.alloc _)) (by8_one _) (by simp [by8]; omega) (by omega) (by simp; omega) ?_; intro v' w2 hown hgrow)
  have hown' : w2.ownsRow w.heap.size 5 1 v' (u :: l).length (by8 (u :: l)) := by simpa [by8] using hown
  have hx2 : Ext w w2 := (HX.out.alloc _).grown hgrow (by intro k hk; simp [Value.ownBlock] at hk; omega)
  have HX2 := Lib.hid hx2
  have hp := crc_Put v' (u :: l) w2 (Sl.own hown') HB.out (by simp; omega)
  have HP := Lib.hid hp
  clear hown hown' hgrow hx2 hp c0 c1
  go_wp2_with fail
  refine HP.out.mono ?_
  rintro e w3 ⟨v3, rfl, h3, h4⟩
  go_wp2_with fail
  go_ret2
  exact ⟨_, rfl, own_base h3 HX2.out.size, HX2.out.trans h4⟩

set_option maxRecDepth 100000 in
/-- Too short, or too long. -/
theorem rtu_Read_size (v : Value) (l : List Nat) (w : World) (hl : Sl w v (by8 l)) (h : l.length < 4 ∨ 256 < l.length) :
    Calls Try.prog 9 #[v] w fun e w' => e = .returned (.tuple #[frame 0 (.slice none 0 0), .int .i64 (if l.length < 4 then 3 else 4)]) ∧ Ext w w' := by
  obtain ⟨a, c, rfl, hlc, hcm, _, _⟩ := hl.bytes
  have hlm : l.length ≤ 9223372036854775807 := by unfold maxLen at hcm; omega
  clear hl hcm
  obtain ⟨x, hx, hxw⟩ : ∃ x : Int, (x = 3 ∨ x = 4) ∧ witR l.length 4 256 = trouble l.length x ∧ (if l.length < 4 then (3 : Int) else 4) = x := by
    unfold witR
    by_cases h1 : l.length < 4
    · exact ⟨3, .inl rfl, by rw [if_pos (by omega)], by rw [if_pos h1]⟩
    · exact ⟨4, .inr rfl, by rw [if_neg (by omega), if_pos (by omega)], by rw [if_neg h1]⟩
  rw [hxw.2]
  have hw := rtu_within l.length 4 256
  rw [hxw.1] at hw
  have ht := rtu_told l.length x
  unfold trouble at hw ht
  have HW := Lib.hid hw
  have HT := Lib.hid ht
  clear hxw hw ht
  unfold frame
  go_enter Try.func9, Try.ntmps9
  go_wp2_with fail
  refine (HW.out _).mono ?_
  rintro e w1 ⟨rfl, h1⟩
  have hb1 := h1.heap (new_blk _ _ _)
  have HB1 := Lib.hid hb1
  have HX := Lib.hid (((Ext.refl w).alloc _).trans h1)
  clear h1 hb1
  go_wp2_with fail
  refine (HT.out _ _ hx (heap_alloc_new _ _)).mono ?_
  rintro e w2 ⟨rfl, h2⟩
  have hb2 := h2.heap (((Ext.refl w1).alloc _).heap HB1.out)
  obtain ⟨c0, c1, f0, f1, hg⟩ := blk2 hb2
  have HB2 := Lib.hid hb2
  have HX2 := Lib.hid (HX.out.trans (((Ext.refl w1).alloc _).trans h2))
  clear h2 hb2
  go_wp2_with fail
  obtain ⟨d0, d1, _⟩ := blk2 (blk2_set HB2.out (.int .u8 0) (.slice none 0 0))
  refine bodyPost_ret (v := .tuple #[frame 0 (.slice none 0 0), .int .i64 x]) (by simp [results, Try.results9, go_sem, d0, d1, frame]) rfl ?_
  exact ⟨rfl, (HX2.out.setCell (Nat.le_refl _) _).setCell (Nat.le_refl _) _⟩

set_option maxRecDepth 100000 in
/-- Another sum. -/
theorem rtu_Read_sum (v : Value) (l : List Nat) (w : World) (hl : Sl w v (by8 l)) (hb : Bytes l) (h4 : 4 ≤ l.length) (h256 : l.length ≤ 256) (h : crcL 65535 l ≠ 0) :
    Calls Try.prog 9 #[v] w fun e w' => e = .returned (.tuple #[frame 0 (.slice none 0 0), .int .i64 6]) ∧ Ext w w' := by
  obtain ⟨a, c, rfl, hlc, hcm, _, _⟩ := hl.bytes
  have HV := Lib.hid hl
  clear hl hcm
  have hw := rtu_within l.length 4 256
  rw [show witR l.length 4 256 = .nilIface from by unfold witR; rw [if_neg (by omega), if_neg (by omega)]] at hw
  have HW := Lib.hid hw
  clear hw
  have HC : Hid (l.length < 2 ∨ crcL 65535 l ≠ 0) := Lib.hid (.inr h)
  clear h
  unfold frame
  go_enter Try.func9, Try.ntmps9
  go_wp2_with fail
  refine (HW.out _).mono ?_
  rintro e w1 ⟨rfl, h1⟩
  have hb1 := h1.heap (new_blk _ _ _)
  obtain ⟨c0, c1, f0, f1, hg⟩ := blk2 hb1
  have HB1 := Lib.hid hb1
  have HX := Lib.hid (((Ext.refl w).alloc _).trans h1)
  clear h1 hb1
  go_wp2_with fail
  refine (crc_Cut_no _ l _ (HV.out.ext HX.out) hb HC.out).mono ?_
  rintro e w2 ⟨rfl, rfl⟩
  go_wp2_with fail
  obtain ⟨d0, d1, _⟩ := blk2 (blk2_set HB1.out (.int .u8 0) (.slice none 0 0))
  refine bodyPost_ret (v := .tuple #[frame 0 (.slice none 0 0), .int .i64 6]) (by simp [results, Try.results9, go_sem, d0, d1, frame]) rfl ?_
  exact ⟨rfl, (HX.out.setCell (Nat.le_refl _) _).setCell (Nat.le_refl _) _⟩

set_option maxRecDepth 100000 in
theorem rtu_Read (v : Value) (l : List Nat) (w : World) (hl : Sl w v (by8 l)) (hb : Bytes l) (h4 : 4 ≤ l.length) (h256 : l.length ≤ 256) (h : crcL 65535 l = 0) :
    Calls Try.prog 9 #[v] w fun e w' => ∃ v', e = .returned (.tuple #[frame (l.getD 0 0) v', .int .i64 0]) ∧ (Sl w' v' (by8 ((l.take (l.length - 2)).drop 1)) ∧ Ext w w') := by
  obtain ⟨a, c, rfl, hlc, hcm, _, _⟩ := hl.bytes
  have HV := Lib.hid hl
  clear hl hcm
  have hw := rtu_within l.length 4 256
  rw [show witR l.length 4 256 = .nilIface from by unfold witR; rw [if_neg (by omega), if_neg (by omega)]] at hw
  have HW := Lib.hid hw
  clear hw
  have HC := Lib.hid h
  clear h
  obtain ⟨x, hx⟩ : ∃ x, x = l.getD 0 0 := ⟨_, rfl⟩
  rw [← hx]
  have HX0 := Lib.hid hx
  clear hx
  unfold frame
  go_enter Try.func9, Try.ntmps9
  go_wp2_with fail
  refine (HW.out _).mono ?_
  rintro e w1 ⟨rfl, h1⟩
  have hb1 := h1.heap (new_blk _ _ _)
  have HB1 := Lib.hid hb1
  have HX := Lib.hid (((Ext.refl w).alloc _).trans h1)
  clear h1 hb1
  go_wp2_with fail
  refine (crc_Cut_yes _ l _ (HV.out.ext HX.out) hb (by omega) HC.out (by omega)).mono ?_
  rintro e w2 ⟨v', rfl, h2, h3⟩
  obtain ⟨c0, c1, f0, f1, hg⟩ := blk2 (h3.heap HB1.out)
  have HX2 := Lib.hid (HX.out.trans h3)
  have hs := Sl.own h2
  obtain ⟨n, hn⟩ : ∃ n, n = l.length - 2 := ⟨_, rfl⟩
  have hn2 : 2 ≤ n := by omega
  have hlen : (by8 (l.take (l.length - 2))).length = n := by rw [by8_length, List.length_take]; omega
  obtain ⟨b, off, cc, e, k1, k2, k3, k4⟩ := hs.cells (by rw [← List.length_pos_iff, hlen]; omega)
  rw [hlen] at e k1
  subst e
  have hbb := (h2.lt b rfl).1
  have h9 : 0 < l.length := by omega
  have k5 := k4 0 (.int .u8 (x : Int)) (by rw [by8_get _ _ (by rw [List.length_take]; omega), HX0.out]; simp [List.getD_eq_getElem?_getD, show 0 < l.length - 2 from by omega, h9])
  have HS := Lib.hid hs
  have HB2 := Lib.hid (h3.heap HB1.out)
  have HN := Lib.hid hn
  have HL := Lib.hid hlen
  have hncc : (n : Int) ≤ cc := by omega
  have hnm : cc ≤ 9223372036854775807 := by unfold maxLen at k2; omega
  rw [show off + 0 = off from rfl] at k5
  have HK := Lib.hid k4
  clear hs h2 h3 hn k4 hlen k2
  go_wp2_with fail
  go_region
  go_wp2
  obtain ⟨d0, d1, _⟩ := blk2 (blk2_set HB2.out (.int .u8 (x : Int)) (.slice (some ⟨b, off + 1, none⟩) (n - 1) (cc - 1)))
  refine bodyPost_ret (v := .tuple #[.agg #[.int .u8 (x : Int), .slice (some ⟨b, off + 1, none⟩) (n - 1) (cc - 1)], .int .i64 0]) (by simp [results, Try.results9, go_sem, d0, d1]) rfl ?_
  refine ⟨_, rfl, ?_, ?_⟩
  · have hd := Sl.drop HS.out 1 (by omega)
    have h1s := lt_of_block HB1.out
    have hk : Kept (fun i => i = w.heap.size) w2 ((w2.setCell ⟨w.heap.size, 0, none⟩ (.int .u8 (x : Int))).setCell ⟨w.heap.size, 1, none⟩ (.slice (some ⟨b, off + 1, none⟩) (n - 1) (cc - 1))).drew := by
      refine Kept.drew (Kept.setCell (Kept.setCell (Kept.refl _ _) ?_ _) ?_ _) <;> exact fun _ => rfl
    have := hd.kept hk (by intro k hk; simp [Value.ownBlock] at hk; omega)
    simpa [by8, List.map_drop] using this
  · exact ((HX2.out.setCell (Nat.le_refl _) _).setCell (Nat.le_refl _) _).drew

theorem rtu_Same (u x : Nat) (v y : Value) (l m : List Nat) (w : World) (hv : Sl w v (by8 l)) (hy : Sl w y (by8 m)) (hl : Bytes l) (hm : Bytes m) :
    Calls Try.prog 23 #[frame u v, frame x y] w fun e w' => e = .returned (.bool (decide (u = x ∧ l = m))) ∧ Ext w w' := by
  have HV := Lib.hid hv
  have HY := Lib.hid hy
  clear hv hy
  unfold frame
  by_cases h : u = x
  · subst h
    go_enter Try.func23, Try.ntmps23
    go_wp2_with fail
    refine (bytes_Equal v y l m _ (HV.out.ext (((Ext.refl _).alloc _).alloc _)) (HY.out.ext (((Ext.refl _).alloc _).alloc _)) hl hm).mono ?_
    rintro e w' ⟨rfl, rfl⟩
    go_wp2_with fail
    go_ret
    exact ⟨ret_bool (by simp), ((Ext.refl _).alloc _).alloc _⟩
  · have h' : ((u : Int) == (x : Int)) = false := by simp; omega
    have H : Hid (decide (u = x ∧ l = m) = false) := Lib.hid (by simp [h])
    clear h
    go_enter Try.func23, Try.ntmps23
    go_wp2_with fail
    go_ret
    exact ⟨ret_bool (by rw [H.out]), ((Ext.refl _).alloc _).alloc _⟩
end Go.Proofs.Ytjooacmmgbpkfaa
