/- Contracts of config.within and of what it calls: whether all numbers lie where they may. No conditions. -/
import Derived.Test.YtjooacmmgbpkfaaDoorProg
import Derived.Test.YtjooacmmgbpkfaaDoorSized
namespace Go.Proofs.YtjooacmmgbpkfaaDoor
open Go.RowKit

structure Spn where
  n : Int
  low : Int
  high : Int
def Spn.vals (s : Spn) : List Value := [.int .i64 s.n, .int .i64 s.low, .int .i64 s.high]
theorem Spn.vals_length (s : Spn) : s.vals.length = 3 := rfl
/-- It lies where it may not. -/
def Spn.out (s : Spn) : Bool := decide (s.n < s.low) || decide (s.n > s.high)

set_option maxRecDepth 100000 in
theorem span_Out (s : Spn) (w : World) :
    Calls Tryd.prog 39 #[.agg #[.int .i64 s.n, .int .i64 s.low, .int .i64 s.high]] w fun e w' => e = .returned (.bool s.out) ∧ Ext w w' := by
  go_enter Tryd.func39, Tryd.ntmps39
  go_wp2_with fail
  all_goals
    go_ret
    refine ⟨ret_bool ?_, (Ext.refl _).alloc _⟩
    unfold Spn.out
    simp [*]

theorem any_take_succ (l : List Spn) (k : Nat) (s : Spn) (h : l[k]? = some s) : (l.take (k + 1)).any Spn.out = ((l.take k).any Spn.out || s.out) := by
  obtain ⟨hk, rfl⟩ := List.getElem?_eq_some_iff.1 h
  rw [List.take_succ_eq_append_getElem hk, List.any_append]
  simp
theorem any_of_at (l : List Spn) (k : Nat) (s : Spn) (h : l[k]? = some s) (hs : s.out = true) : l.any Spn.out = true := by
  obtain ⟨hk, rfl⟩ := List.getElem?_eq_some_iff.1 h
  exact List.any_eq_true.2 ⟨_, List.getElem_mem hk, hs⟩

set_option maxRecDepth 100000 in
theorem span_Index (v : Value) (l : List Spn) (w : World) (hl : Sz w 3 v l.length (l.flatMap Spn.vals)) :
    Calls Tryd.prog 50 #[v, .func (.func 39) #[] #[]] w fun e w' => ∃ r : Int, e = .returned (.int .i64 r) ∧ (decide (0 ≤ r) = l.any Spn.out ∧ Ext w w') := by
  obtain ⟨a, c, rfl, hlc, hcm, _, hcell⟩ := hl.at_ Spn.vals_length (by omega)
  unfold maxLen at hcm
  have HC := Lib.hid hcell
  have HM := Lib.hid span_Out
  clear hcell hl
  go_enter Tryd.func50, Tryd.ntmps50
  go_wp2_with fail
  go_loopw [8] (fun i wr => ∃ k : Nat, k ≤ l.length ∧ i = .int .i64 k ∧ (l.take k).any Spn.out = false ∧ Ext w wr) (fun i _ => l.length - (intOf i).toNat)
  case atStart => exact ⟨0, by omega, rfl, rfl, Ext.refl _⟩
  case round =>
    obtain ⟨k, hk, rfl, hany, hext⟩ := hrel
    have HO := Lib.hid hany
    have HX := Lib.hid hext
    clear hany hext
    by_cases hlt : k < l.length
    · obtain ⟨s, hs⟩ : ∃ s, l[k]? = some s := ⟨_, List.getElem?_eq_getElem hlt⟩
      obtain ⟨b, off, rfl, _, hcx⟩ := HC.out k s hs
      have c0 : wr.cell? ⟨b, off + k * 3, none⟩ = some (.int .i64 s.n) := HX.out.cell' (hcx 0 _ (by omega) rfl)
      have c1 := HX.out.cell' (hcx 1 _ (by omega) rfl)
      have c2 := HX.out.cell' (hcx 2 _ (by omega) rfl)
      have HS := Lib.hid hs
      clear hcx hs
      obtain ⟨o, ho⟩ : ∃ o, o = s.out := ⟨_, rfl⟩
      have HM1 := Lib.hid (fun w => HM.out s w)
      rw [← ho] at HM1
      have HO1 := Lib.hid ho
      clear ho
      cases o with
      | true =>
        go_wp2_with fail
        refine (HM1.out _).mono ?_
        rintro e w1 ⟨rfl, h1⟩
        go_wp2_with fail
        go_ret
        refine ⟨_, rfl, ?_, HX.out.trans h1⟩
        rw [any_of_at l k s HS.out HO1.out.symm]
        simp
      | false =>
        go_wp2_with fail
        refine (HM1.out _).mono ?_
        rintro e w1 ⟨rfl, h1⟩
        go_wp2_with fail
        go_roundw
        case rel => exact ⟨k + 1, by omega, by go_num, by rw [any_take_succ l k s HS.out, HO.out, ← HO1.out]; rfl, HX.out.trans h1⟩
        case measure => simp [intOf]; omega
    · have hkl : Hid (k = l.length) := Lib.hid (by omega)
      go_wp2_with fail
      go_ret
      have := HO.out
      rw [hkl.out, List.take_length] at this
      exact ⟨_, rfl, by rw [this]; rfl, HX.out⟩

theorem span_Contains (v : Value) (l : List Spn) (w : World) (hl : Sz w 3 v l.length (l.flatMap Spn.vals)) :
    Calls Tryd.prog 38 #[v, .func (.func 39) #[] #[]] w fun e w' => e = .returned (.bool (l.any Spn.out)) ∧ Ext w w' := by
  have HM := Lib.hid (span_Index v l w hl)
  clear hl
  obtain ⟨o, ho⟩ : ∃ o, o = l.any Spn.out := ⟨_, rfl⟩
  rw [← ho] at HM ⊢
  clear ho
  go_enter Tryd.func38, Tryd.ntmps38
  go_wp2_with fail
  refine HM.out.mono ?_
  rintro e w1 ⟨r, rfl, h1, h2⟩
  subst h1
  go_wp2_with fail
  go_ret
  exact ⟨rfl, h2⟩

theorem span_Within (v : Value) (l : List Spn) (w : World) (hl : Sz w 3 v l.length (l.flatMap Spn.vals)) :
    Calls Tryd.prog 27 #[v] w fun e w' => e = .returned (.bool (!l.any Spn.out)) ∧ Ext w w' := by
  have HM := Lib.hid (span_Contains v l w hl)
  clear hl
  obtain ⟨o, ho⟩ : ∃ o, o = l.any Spn.out := ⟨_, rfl⟩
  rw [← ho] at HM ⊢
  clear ho
  go_enter Tryd.func27, Tryd.ntmps27
  go_wp2_with fail
  refine HM.out.mono ?_
  rintro e w1 ⟨rfl, h2⟩
  go_wp2_with fail
  go_ret
  exact ⟨rfl, h2⟩
/-- A slice literal of spans. -/
theorem spans_lit {w : World} {l : List Spn} {cs : Array Value} {e : TypeId} {g : Nat} (h : w.heap[g]? = some (.cells cs e (0, 0))) (hc : cs = (l.flatMap Spn.vals).toArray) (hm : l.length ≤ maxLen) :
    Sz w 3 (.slice (some ⟨g, 0, none⟩) l.length l.length) l.length (l.flatMap Spn.vals) := by
  subst hc
  exact Sz.lit h (flat_length Spn.vals 3 Spn.vals_length l) hm
end Go.Proofs.YtjooacmmgbpkfaaDoor
