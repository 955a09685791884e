/- The law's awake: a frame, there and back. -/
import Derived.Test.YtjooacmmgbpkfaaRtu
namespace Go.Proofs.Ytjooacmmgbpkfaa
open Go.RowKit

theorem put_ex : put [1, 4, 0, 0, 0, 10] = [1, 4, 0, 0, 0, 10, 112, 13] := by decide
theorem bytes_small {l : List Nat} (h : l.all (· < 256) = true) : Bytes l := by
  intro c hc
  have := List.all_eq_true.1 h c hc
  simpa using this

set_option maxRecDepth 100000 in
set_option maxHeartbeats 1000000 in
theorem law3_awake (w : World) : Calls Try.prog 7 #[] w fun e w' => e = .returned (.bool true) ∧ Ext w w' := by
  have HL5 : Hid (∀ (W : World) (g : Nat), g = W.heap.size → Sl (W.alloc (.cells #[.int .u8 4, .int .u8 0, .int .u8 0, .int .u8 0, .int .u8 10] 5)) (.slice (some ⟨g, 0, none⟩) 5 5) (by8 [4, 0, 0, 0, 10])) :=
    Lib.hid fun W g hg => by subst hg; exact Sl.lit (cs := by8 [4, 0, 0, 0, 10]) (heap_alloc_new _ _) (by unfold maxLen; simp [by8])
  have HL3 : Hid (∀ (W : World) (g : Nat), g = W.heap.size → Sl (W.alloc (.cells #[.int .u8 1, .int .u8 2, .int .u8 3] 5)) (.slice (some ⟨g, 0, none⟩) 3 3) (by8 [1, 2, 3])) :=
    Lib.hid fun W g hg => by subst hg; exact Sl.lit (cs := by8 [1, 2, 3]) (heap_alloc_new _ _) (by unfold maxLen; simp [by8])
  have HL4 : Hid (∀ (W : World) (g : Nat), g = W.heap.size → Sl (W.alloc (.cells #[.int .u8 1, .int .u8 2, .int .u8 3, .int .u8 4] 5)) (.slice (some ⟨g, 0, none⟩) 4 4) (by8 [1, 2, 3, 4])) :=
    Lib.hid fun W g hg => by subst hg; exact Sl.lit (cs := by8 [1, 2, 3, 4]) (heap_alloc_new _ _) (by unfold maxLen; simp [by8])
  go_enter Try.func7, Try.ntmps7
  go_wp2_with fail
  refine (rtu_Bytes 1 _ [4, 0, 0, 0, 10] _ (HL5.out _ _ rfl) (bytes_small rfl) (by decide) (by decide) (by decide)).mono ?_
  rintro e w1 ⟨v1, rfl, h1, k1⟩
  rw [put_ex] at h1
  have K1 := Lib.hid (((Ext.refl w).alloc _).trans k1)
  have S1 := Lib.hid (Sl.own h1)
  obtain ⟨b1, o1, c1, rfl, j1, j2, j3, j4⟩ := S1.out.cells (by simp [by8])
  have c6 := j4 6 (.int .u8 112) rfl
  rw [show (by8 [1, 4, 0, 0, 0, 10, 112, 13]).length = 8 from rfl] at j1 S1 ⊢
  have J6 := Lib.hid c6
  clear h1 k1 j4 c6
  go_wp2_with fail
  refine (rtu_Read _ _ _ S1.out (bytes_small rfl) (by decide) (by decide) (by decide)).mono ?_
  rintro e w2 ⟨v2, rfl, h2, k2⟩
  rw [show frame ([1, 4, 0, 0, 0, 10, 112, 13].getD 0 0) v2 = .agg #[.int .u8 1, v2] from rfl]
  have S2 : Hid (Sl w2 v2 (by8 [4, 0, 0, 0, 10])) := Lib.hid h2
  obtain ⟨a2, c2, rfl, j5, j6⟩ := S2.out.len
  rw [show (by8 [4, 0, 0, 0, 10]).length = 5 from rfl] at j5 S2 ⊢
  have K2 := Lib.hid (K1.out.trans k2)
  have J6b := Lib.hid (k2.cell' J6.out)
  clear h2 k2
  go_wp2_with fail
  refine (rtu_Read_size _ _ _ (HL3.out _ _ (by simp)) (.inl (by decide))).mono ?_
  rintro e w3 ⟨rfl, k3⟩
  rw [show frame 0 (.slice none 0 0) = .agg #[.int .u8 0, .slice none 0 0] from rfl, show (if [1, 2, 3].length < 4 then (3 : Int) else 4) = 3 from rfl]
  have B3 := Lib.hid (k3.heap (((Ext.refl _).alloc _).heap (new_blk w2 #[.int .u8 1, .slice a2 5 c2] 24)))
  have X3 : Hid (Ext w2 w3) := Lib.hid ((((Ext.refl _).alloc _).alloc _).trans k3)
  clear k3
  go_wp2_with fail
  refine (rtu_Read_sum _ _ _ (HL4.out _ _ (by simp)) (bytes_small rfl) (by decide) (by decide) (by decide)).mono ?_
  rintro e w4 ⟨rfl, k4⟩
  rw [show frame 0 (.slice none 0 0) = .agg #[.int .u8 0, .slice none 0 0] from rfl]
  have B4 := Lib.hid (k4.heap ((((Ext.refl w3).alloc _).alloc _).heap B3.out))
  have X4 : Hid (Ext w2 w4) := Lib.hid (X3.out.trans ((((Ext.refl _).alloc _).alloc _).trans k4))
  clear k4
  obtain ⟨d0, d1, _, _, d2⟩ := blk2 B4.out
  have d3 := X4.out.cell' J6b.out
  have d4 : b1 < w4.heap.size := block_lt_of_cell d3
  have S5 := Lib.hid (S2.out.ext X4.out)
  go_wp2_with fail
  have hS := rtu_Same 1 1 (.slice a2 5 c2) (.slice a2 5 c2) [4, 0, 0, 0, 10] [4, 0, 0, 0, 10] _ (S5.out.ext ((Ext.refl _).alloc (.cells #[.int .u8 0, .slice none 0 0] 24))) (S5.out.ext ((Ext.refl _).alloc _)) (bytes_small rfl) (bytes_small rfl)
  refine hS.mono ?_
  rintro e w5 ⟨rfl, k5⟩
  rw [show decide ((1 : Nat) = 1 ∧ ([4, 0, 0, 0, 10] : List Nat) = [4, 0, 0, 0, 10]) = true from by decide]
  go_wp2_with fail
  go_ret
  exact ⟨rfl, (K2.out.trans X4.out).trans (((Ext.refl _).alloc _).trans k5)⟩
end Go.Proofs.Ytjooacmmgbpkfaa
