/- bytes.Equal by a contract. Condition: each byte is below 256. -/
import Derived.Test.YtjooacmmgbpkfaaCrc
import Derived.Laws.BytesArg
import Derived.StringKeys
namespace Go.Proofs.Ytjooacmmgbpkfaa
open Go.RowKit

/-- Bytes as a text. -/
def strOf (l : List Nat) : ByteArray := strOfNums (l.map Int.ofNat)
theorem strOf_inj {l m : List Nat} (hl : Bytes l) (hm : Bytes m) (h : strOf l = strOf m) : l = m := by
  have : (strOf l).data.toList = (strOf m).data.toList := by rw [h]
  unfold strOf at this
  rw [strOfNums_data, strOfNums_data, List.map_map, List.map_map] at this
  have key : ∀ (l : List Nat), Bytes l → (l.map ((fun n : Int => UInt8.ofNat n.toNat) ∘ Int.ofNat)).map (fun u => u.toNat) = l := by
    intro l hl
    rw [List.map_map]
    conv => rhs; rw [← List.map_id l]
    apply List.map_congr_left
    intro c hc
    have := hl c hc
    simp
    omega
  rw [← key l hl, ← key m hm, this]

theorem conv_str (v : Value) (l : List Nat) (w : World) (hl : Sl w v (by8 l)) : (convert 22 9 v).run Try.prog w = .ok (.string (strOf l)) w := by
  obtain ⟨a, c, rfl, hlc, hcm, _, hcell⟩ := hl.bytes
  by_cases h0 : l = []
  · subst h0
    rw [List.length_nil, run_convert_bytes_string w 22 9 5 _ 0 c Try.underlying22 Try.underlying5 Try.underlying9]
    cases a <;> simp [Conv.bytesToString, loadCells]
    all_goals rfl
  · have h1 : 0 < l.length := List.length_pos_iff.2 h0
    obtain ⟨b, off, rfl, _, _⟩ := hcell 0 h1
    refine run_convert_bytes_arg w 22 5 Try.underlying22 Try.underlying5 b off l.length c (l.map Int.ofNat) (by simp) (fun i hi => ?_) 9 Try.underlying9
    obtain ⟨b', off', e, _, h⟩ := hcell i hi
    simp at e
    obtain ⟨rfl, rfl⟩ := e
    rw [h]
    simp [hi]

theorem bytes_Equal (u v : Value) (l m : List Nat) (w : World) (hu : Sl w u (by8 l)) (hv : Sl w v (by8 m)) (hl : Bytes l) (hm : Bytes m) :
    Calls Try.prog 50 #[u, v] w fun e w' => e = .returned (.bool (decide (l = m))) ∧ w = w' := by
  have h1 := conv_str u l w hu
  have h2 := conv_str v m w hv
  have H : Hid (decide (l = m) = ((strOf l).toList == (strOf m).toList)) := Lib.hid (by rw [Bool.eq_iff_iff, ByteArray.toList_eq, ByteArray.toList_eq]; simp only [decide_eq_true_eq, beq_iff_eq]; exact ⟨fun h => by rw [h], fun h => strOf_inj hl hm (Go.WideShapes.bytes_inj h)⟩)
  generalize strOf l = s at *
  generalize strOf m = t at *
  go_enter Try.func50, Try.ntmps50
  go_wp2
  go_ret
  exact ⟨ret_bool (by rw [H.out]), rfl⟩
end Go.Proofs.Ytjooacmmgbpkfaa
