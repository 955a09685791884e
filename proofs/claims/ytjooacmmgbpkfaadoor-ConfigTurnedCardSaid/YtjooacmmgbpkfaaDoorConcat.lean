/- Contracts of slices.Grow at nil, and of slices.Concat at slices of bytes of no more than 1000 bytes. -/
import Derived.Test.YtjooacmmgbpkfaaDoorWordB
import Derived.Test.YtjooacmmgbpkfaaDoorSized
import Derived.Lib.AppendZeros
namespace Go.Proofs.YtjooacmmgbpkfaaDoor
open Go.RowKit

set_option maxRecDepth 100000 in
theorem slices_Grow (n : Nat) (w : World) (h0 : 0 < n) (h1 : n ≤ 1000) :
    Calls Tryd.prog 34 #[.slice none 0 0, .int .i64 (n : Int)] w fun e w' => ∃ v, e = .returned v ∧ (w'.ownsRow w.heap.size 5 1 v 0 [] ∧ Ext w w') := by
  obtain ⟨i0, hi, hz0, hz1, hz2⟩ := info_parts info8
  have ha := fun ty => Lib.run_append_nil_zeros (P := Tryd.prog) w 27 3 ty 5 i0 (.int .u8 0) .i64 .i64 Tryd.underlying27 Tryd.underlying3 hi hz0 n h0 (by omega) (by omega) (by rw [hz2]; omega)
  have HA := Lib.hid ha
  have hc := grownCap_ge w n 0 5
  have hc2 := grownCap_le_maxLen w n 0 5 (by unfold maxLen; omega)
  clear ha
  obtain ⟨C, hC⟩ : ∃ C, C = grownCap w n 0 5 := ⟨_, rfl⟩
  rw [← hC] at HA hc hc2
  clear hC
  unfold maxLen at hc2
  go_enter Tryd.func34, Tryd.ntmps34
  go_wp2_with (at_builtin; refine Lib.wpList_append_run _ rfl _ _ _ _ rfl _ _ rfl rfl _ _ (HA.out _) ?_)
  go_ret
  refine ⟨_, rfl, ⟨rfl, .inr ⟨_, C, _, rfl, Nat.le_refl _, heap_alloc_new _ _, Nat.zero_le _, by unfold maxLen; omega, ?_, ?_⟩⟩, ((Ext.refl _).alloc _).drewN 1⟩
  · simp [Builtin.zeroCells]
    omega
  · simp

def total (ls : List (Value × List Nat)) : Nat := (ls.flatMap Prod.snd).length
theorem total_succ (ls : List (Value × List Nat)) (k : Nat) (p : Value × List Nat) (h : ls[k]? = some p) : total (ls.take (k + 1)) = total (ls.take k) + p.2.length ∧ (ls.take (k + 1)).flatMap Prod.snd = (ls.take k).flatMap Prod.snd ++ p.2 := by
  obtain ⟨hk, rfl⟩ := List.getElem?_eq_some_iff.1 h
  unfold total
  rw [List.take_succ_eq_append_getElem hk, List.flatMap_append]
  simp
theorem total_le (ls : List (Value × List Nat)) (k : Nat) : total (ls.take k) ≤ total ls := by
  unfold total
  conv => rhs; rw [← List.take_append_drop k ls, List.flatMap_append, List.length_append]
  omega

set_option maxRecDepth 100000 in
theorem slices_Concat (v : Value) (ls : List (Value × List Nat)) (w : World) (hv : Sl w v (ls.map Prod.fst)) (he : ∀ p ∈ ls, Sl w p.1 (by8 p.2)) (h0 : 0 < total ls) (h1 : total ls ≤ 1000) :
    Calls Tryd.prog 16 #[v] w fun e w' => ∃ v', e = .returned v' ∧ (w'.ownsRow w.heap.size 5 1 v' (total ls) (by8 (ls.flatMap Prod.snd)) ∧ Ext w w') := by
  obtain ⟨i0, hi, hz0, hz1, hz2⟩ := info_parts info8
  obtain ⟨a, c, rfl, hlc, hcm, _, hcell⟩ := hv
  rw [List.length_map] at hlc hcell ⊢
  unfold maxLen at hcm
  have HC : Hid (∀ k p, ls[k]? = some p → ∃ b off, a = some ⟨b, off, none⟩ ∧ b < w.heap.size ∧ w.cell? ⟨b, off + k, none⟩ = some p.1) := Lib.hid fun k p hp => by
    have hk := (List.getElem?_eq_some_iff.1 hp).1
    rcases hcell with h | ⟨b, off, rfl, h⟩
    · simp at h; subst h; simp at hk
    · have := h k hk
      rw [List.getElem?_map, hp] at this
      exact ⟨b, off, rfl, block_lt_of_cell this, this⟩
  have HE := Lib.hid he
  have HG := Lib.hid (fun w => slices_Grow (total ls) w h0 h1)
  have HT : Hid (∀ k, total (ls.take k) ≤ 1000) := Lib.hid fun k => Nat.le_trans (total_le ls k) h1
  obtain ⟨N, hN⟩ : ∃ N, N = total ls := ⟨_, rfl⟩
  rw [← hN] at HG h0 h1 ⊢
  have HN := Lib.hid hN
  clear he hcell hN
  go_enter Tryd.func16, Tryd.ntmps16
  go_wp2_with fail
  go_loop [3, 11] (fun n i => ∃ k s : Nat, k ≤ ls.length ∧ i = .int .i64 k ∧ s = total (ls.take k) ∧ s ≤ 1000 ∧ n = .int .i64 s) (fun _ i => ls.length - (intOf i).toNat)
  case atStart => exact ⟨0, 0, by omega, rfl, rfl, by omega, rfl⟩
  case round =>
    obtain ⟨k, s, hk, rfl, hs, hs1, rfl⟩ := hrel
    have HS := Lib.hid hs
    clear hs
    by_cases hlt : k < ls.length
    · obtain ⟨p, hp⟩ : ∃ p, ls[k]? = some p := ⟨_, List.getElem?_eq_getElem hlt⟩
      obtain ⟨b, off, rfl, _, hcx⟩ := HC.out k p hp
      obtain ⟨a1, c1, hv1, _⟩ := (HE.out p (List.mem_of_getElem? hp)).len
      rw [by8_length] at hv1
      rw [hv1] at hcx
      have hT := (total_succ ls k p hp).1
      have hT2 := HT.out (k + 1)
      rw [hT, ← HS.out] at hT2
      have HT1 := Lib.hid hT
      obtain ⟨m, hm⟩ : ∃ m, m = p.2.length := ⟨_, rfl⟩
      rw [← hm] at hcx hT2 HT1
      clear hm hT hv1 hp
      go_wp2_with fail
      go_round
      case rel => exact ⟨k + 1, s + m, by omega, by go_num, by rw [HT1.out, ← HS.out], hT2, by go_num⟩
      case measure => simp [intOf]; omega
    · have hkl : Hid (k = ls.length) := Lib.hid (by omega)
      have hsN : s = N := by rw [HS.out, hkl.out, List.take_length, HN.out]
      subst hsN
      go_wp2_with fail
      refine (HG.out _).mono ?_
      rintro e w1 ⟨v1, rfl, hown, hx1⟩
      have HO := Lib.hid hown
      have HX := Lib.hid hx1
      clear hown hx1
      go_wp2_with fail
      go_loopw [6, 27] (fun x i wr => ∃ k : Nat, k ≤ ls.length ∧ i = .int .i64 k ∧ (wr.ownsRow w.heap.size 5 1 x (total (ls.take k)) (by8 ((ls.take k).flatMap Prod.snd)) ∧ Ext w wr)) (fun _ i _ => ls.length - (intOf i).toNat)
      case atStart => exact ⟨0, by omega, rfl, by simpa [total, by8] using HO.out, HX.out⟩
      case round =>
        obtain ⟨k, hk, rfl, hown, hext⟩ := hrel
        have HO := Lib.hid hown
        have HX := Lib.hid hext
        clear hown hext
        by_cases hlt : k < ls.length
        · obtain ⟨p, hp⟩ : ∃ p, ls[k]? = some p := ⟨_, List.getElem?_eq_getElem hlt⟩
          obtain ⟨b, off, rfl, _, hcx⟩ := HC.out k p hp
          have c0 := HX.out.cell' hcx
          have HP := Lib.hid ((HE.out p (List.mem_of_getElem? hp)).ext HX.out)
          have HT1 := Lib.hid (total_succ ls k p hp)
          have HT2 := HT.out (k + 1)
          rw [HT1.out.1] at HT2
          obtain ⟨px, pl⟩ := p
          dsimp only at c0 HP HT1 HT2
          have hl1 : (by8 ((ls.take k).flatMap Prod.snd)).length = total (ls.take k) := by rw [by8_length]; rfl
          have HL1 := Lib.hid hl1
          have HT3 := Lib.hid HT2
          have hsz : Hid (w.heap.size ≤ wr.heap.size) := Lib.hid HX.out.size
          clear hcx hp HT2 hl1
          go_wp2_with (at_builtin; refine app_own rfl _ _ 27 rfl w.heap.size 5 i0 (.int .u8 0) 1 Tryd.underlying27 hi hz0 hz1 hz2 rfl _ (by8 ((ls.take k).flatMap Prod.snd)) rfl (by rw [HL1.out]; exact HO.out) _ (by8 pl) rfl HP.out (by8_one _) (by have := HT3.out; rw [HL1.out, by8_length]; omega) (by omega) hsz.out ?_; intro v' w2 hown hgrow)
          have hg := hgrow
          rw [← by8_append, ← HT1.out.2, by8_length] at hown
          go_roundw
          case rel => exact ⟨k + 1, by omega, by go_num, hown, HX.out.grown hg (own_block HO.out)⟩
          case measure => simp [intOf]; omega
        · have hkl2 : Hid (k = ls.length) := Lib.hid (by omega)
          go_wp2_with fail
          go_ret
          have := HO.out
          rw [hkl2.out, List.take_length] at this
          exact ⟨_, rfl, by rw [HN.out]; exact this, HX.out⟩
end Go.Proofs.YtjooacmmgbpkfaaDoor
