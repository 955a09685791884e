/- config.words: numbers below 65536 as bytes. -/
import Derived.Test.YtjooacmmgbpkfaaDoorConcat
namespace Go.Proofs.YtjooacmmgbpkfaaDoor
open Go.RowKit

def byI (l : List Nat) : List Value := l.map fun n : Nat => .int .i64 (n : Int)
theorem byI_length (l : List Nat) : (byI l).length = l.length := by simp [byI]
theorem info16 : (Tryd.prog.info? 23).map (fun i => (i.zero, i.size, i.bytes)) = some (some (.int .u16 0), 1, 2) := by kernel_rfl
theorem Words.take {l : List Nat} (h : Words l) (k : Nat) : Words (l.take k) := fun c hc => h c (List.mem_of_mem_take hc)

set_option maxRecDepth 100000 in
theorem config_words (v : Value) (l : List Nat) (w : World) (hl : Sl w v (byI l)) (hb : Words l) (h47 : 2 * l.length ≤ 140737488355328) :
    Calls Tryd.prog 17 #[v] w fun e w' => ∃ v', e = .returned v' ∧ (w'.ownsRow w.heap.size 5 1 v' (wordsB l).length (by8 (wordsB l)) ∧ Ext w w') := by
  obtain ⟨a, c, rfl, hlc, hcm, _, hcell⟩ := hl
  rw [byI_length] at hlc hcell ⊢
  obtain ⟨i0, hi, hz0, hz1, hz2⟩ := info_parts info16
  unfold maxLen at hcm
  have HC : Hid (∀ k, k < l.length → ∃ b off, a = some ⟨b, off, none⟩ ∧ b < w.heap.size ∧ w.cell? ⟨b, off + k, none⟩ = some (.int .i64 ((l.getD k 0 : Nat) : Int))) := Lib.hid fun k hk => by
    rcases hcell with h | ⟨b, off, rfl, h⟩
    · simp [byI] at h; subst h; simp at hk
    · have := h k hk
      have e : (byI l)[k]? = some (.int .i64 ((l.getD k 0 : Nat) : Int)) := by simp [byI, hk]
      rw [e] at this
      exact ⟨b, off, rfl, block_lt_of_cell this, this⟩
  have HB := Lib.hid hb
  clear hcell hb
  go_enter Tryd.func17, Tryd.ntmps17
  go_wp2_with fail
  go_loopw [3, 8] (fun x i wr => ∃ k : Nat, k ≤ l.length ∧ i = .int .i64 k ∧ (wr.ownsRow w.heap.size 23 1 x (l.take k).length (by16 (l.take k)) ∧ Ext w wr)) (fun _ i _ => l.length - (intOf i).toNat)
  case atStart => exact ⟨0, by omega, rfl, by simpa [by16] using World.ownsRow_nil _ _ _ _, Ext.refl _⟩
  case round =>
    obtain ⟨k, hk, rfl, hown, hext⟩ := hrel
    have HO := Lib.hid hown
    have HX := Lib.hid hext
    clear hown hext
    by_cases hlt : k < l.length
    · obtain ⟨b, off, rfl, _, hcx⟩ := HC.out k hlt
      have hcr := HX.out.cell' hcx
      have hW := HB.out.at_ k
      have HA : Hid (by16 (l.take (k + 1)) = by16 (l.take k) ++ by16 [l.getD k 0]) := Lib.hid (by rw [List.take_succ_eq_append_getElem hlt, by16_append]; simp [hlt])
      obtain ⟨x, hx⟩ : ∃ x, x = l.getD k 0 := ⟨_, rfl⟩
      rw [← hx] at hcr HA hW
      clear hx hcx
      have hxm : (x : Int) % 65536 = x := by omega
      have HL : Hid (∀ W : World, Sl (W.alloc (.cells #[.int .u16 (x : Int)] 23)) (.slice (some ⟨W.heap.size, 0, none⟩) 1 1) (by16 [x])) :=
        Lib.hid fun W => Sl.lit (cs := by16 [x]) (heap_alloc_new _ _) (by unfold maxLen; simp [by16])
      have hsz : Hid (w.heap.size ≤ wr.heap.size) := Lib.hid HX.out.size
      have HLk : Hid ((by16 (l.take k)).length = (l.take k).length) := Lib.hid (by16_length _)
      have HL2 : Hid ((l.take (k + 1)).length = (l.take k).length + 1 ∧ (l.take k).length ≤ l.length) := Lib.hid (by simp; omega)
      go_wp2_with (at_builtin; refine app_own rfl _ _ 78 rfl w.heap.size 23 i0 (.int .u16 0) 2 Tryd.underlying78 hi hz0 hz1 hz2 rfl _ (by16 (l.take k)) rfl (by rw [HLk.out]; exact own_ext HO.out ((Ext.refl _).alloc _)) _ (by16 [x]) rfl (HL.out _) (by16_one _) (by have := HL2.out.2; rw [HLk.out]; simp [by16]; omega) (by omega) (by have := hsz.out; simp; omega) ?_; intro v' w2 hown hgrow)
      have hg : (wr.alloc (.cells #[.int .u16 (x : Int)] 23)).grownBy w2 u3.ownBlock := hgrow
      rw [← HA.out, by16_length] at hown
      go_roundw
      case rel => exact ⟨k + 1, by omega, by go_num, hown, (HX.out.alloc _).grown hg (own_block HO.out)⟩
      case measure => simp [intOf]; omega
    · have hkl : Hid (k = l.length) := Lib.hid (by omega)
      have hob := HO.out
      rw [hkl.out, List.take_length] at hob
      have HWB := Lib.hid (fun (W : World) (h : Sl W u3 (by16 l)) => word_Bytes u3 l W h HB.out h47)
      have HS := Lib.hid (Sl.own hob)
      clear hob
      go_wp2_with fail
      refine (HWB.out _ HS.out).mono ?_
      rintro e w1 ⟨v1, rfl, h1, h2⟩
      go_wp2_with fail
      go_ret
      exact ⟨_, rfl, own_base h1 HX.out.size, HX.out.trans h2⟩
end Go.Proofs.YtjooacmmgbpkfaaDoor
