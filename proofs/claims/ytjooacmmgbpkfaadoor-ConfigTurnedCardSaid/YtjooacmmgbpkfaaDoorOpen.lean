/- Arguments, from how they read as data to how the walks have them: a slice of bytes. -/
import Derived.Test.YtjooacmmgbpkfaaDoorCrc
import Derived.ProofKit
import Derived.OpenShut
import Derived.ChangeOld
import Derived.Below
import Derived.Lib.SmallJoins
namespace Go.Proofs.YtjooacmmgbpkfaaDoor
open Go.ChangeShapes Go.WideShapes Go.ChangeAt Go.RowKit

theorem wf_u8 {n : Int} (h : (Lit.int .u8 n).wf = true) : 0 ≤ n ∧ n < 256 := by
  have := bounds_u8 h
  omega
theorem wf_u16 {n : Int} (h : (Lit.int .u16 n).wf = true) : 0 ≤ n ∧ n < 65536 := by
  have := bounds_u16 h
  omega
theorem take_nat (zs : List Int) (n : Nat) : (zs.take n).map Int.toNat = (zs.map Int.toNat).take n := List.map_take
/-- A slice of bytes that came in. -/
theorem open_bytes {H : Type} {enc : TypeId × Value → H} {W : World} {m : Nat} {c : Value} {y : DataW H × List MemPlace} (hf : DataW.trod enc Tryd.prog W 0 (fun _ => true) true m 27 [c] = some y) : ∃ l, Sl W c (by8 l) ∧ Bytes l := by
  rcases open_ints Tryd.underlying27 Tryd.underlying5 (by kernel_rfl) hf with ⟨hcs, _⟩ | ⟨a, len, cap, zs, hcs, _, hl, hm, hz, _, hcell, hwz⟩
  · simp at hcs
    subst hcs
    exact ⟨[], Sl.nil W, fun c hc => by cases hc⟩
  · simp at hcs
    subst hcs
    simp at hz
    have hlen : (by8 ((zs.take len).map Int.toNat)).length = len := by simp [by8]; omega
    refine ⟨(zs.take len).map Int.toNat, ⟨some a, cap, by rw [hlen], by rw [hlen]; exact hl, hm, by simp, ?_⟩, ?_⟩
    · by_cases h0 : len = 0
      · left; subst h0; rfl
      · obtain ⟨b, off, rfl, hc⟩ := ints_at hcell (by omega)
        refine .inr ⟨b, off, rfl, fun i hi => ?_⟩
        rw [hlen] at hi
        have hi2 : i < zs.length := by omega
        rw [hc i hi2]
        have hw := wf_u8 (hwz (zs.getD i 0) (by simp [hi2]))
        simp [by8, hi2, hi]
        simp [hi2] at hw
        omega
    · intro c hc
      obtain ⟨x, hx, rfl⟩ := List.mem_map.1 hc
      have := wf_u8 (hwz x (List.mem_of_mem_take hx))
      omega
end Go.Proofs.YtjooacmmgbpkfaaDoor
