/- Contracts of package word's functions Put, joined, Bytes: words as bytes. Condition: each word is below 65536. -/
import Derived.Test.YtjooacmmgbpkfaaDoorCrc
namespace Go.Proofs.YtjooacmmgbpkfaaDoor
open Go.RowKit

/-- Words as values. -/
def by16 (l : List Nat) : List Value := l.map fun n : Nat => .int .u16 (n : Int)
theorem by16_length (l : List Nat) : (by16 l).length = l.length := by simp [by16]
theorem by16_get (l : List Nat) (i : Nat) (h : i < l.length) : (by16 l)[i]? = some (.int .u16 ((l.getD i 0 : Nat) : Int)) := by simp [by16, h]
theorem by16_nil {l : List Nat} : by16 l = [] ↔ l = [] := by simp [by16]
theorem by16_append (l m : List Nat) : by16 (l ++ m) = by16 l ++ by16 m := by simp [by16]
theorem by16_one (l : List Nat) : ∀ u ∈ by16 l, u.oneCell' = true := by
  intro u hu
  simp [by16] at hu
  obtain ⟨n, _, rfl⟩ := hu
  rfl
def Words (l : List Nat) : Prop := ∀ c ∈ l, c < 65536
theorem Words.at_ {l : List Nat} (h : Words l) (i : Nat) : l.getD i 0 < 65536 := by
  by_cases hj : i < l.length
  · simp [List.getD_eq_getElem?_getD, hj]; exact h _ (List.getElem_mem hj)
  · simp [List.getD_eq_getElem?_getD, hj]
theorem Sl.words {w : World} {v : Value} {l : List Nat} (h : Sl w v (by16 l)) : ∃ a c, v = .slice a l.length c ∧ l.length ≤ c ∧ c ≤ maxLen ∧ (a = none → c = 0) ∧
    ∀ i, i < l.length → ∃ b off, a = some ⟨b, off, none⟩ ∧ b < w.heap.size ∧ w.cell? ⟨b, off + i, none⟩ = some (.int .u16 ((l.getD i 0 : Nat) : Int)) := by
  obtain ⟨a, c, rfl, h1, h2, h3, h4⟩ := h
  rw [by16_length] at h1 h4
  refine ⟨a, c, by rw [by16_length], h1, h2, h3, fun i hi => ?_⟩
  rcases h4 with h4 | ⟨b, off, rfl, hc⟩
  · rw [by16_nil] at h4; subst h4; simp at hi
  · have := hc i hi
    rw [by16_get l i hi] at this
    exact ⟨b, off, rfl, block_lt_of_cell this, this⟩

/-- Words' bytes, the higher one first. -/
def wordsB (l : List Nat) : List Nat := l.flatMap fun n => [n / 256, n % 256]
theorem wordsB_length (l : List Nat) : (wordsB l).length = 2 * l.length := by
  induction l with
  | nil => rfl
  | cons n l ih => show ([n / 256, n % 256] ++ wordsB l).length = _; rw [List.length_append, ih]; simp; omega
theorem wordsB_bytes {l : List Nat} (h : Words l) : Bytes (wordsB l) := by
  intro c hc
  simp [wordsB] at hc
  obtain ⟨n, hn, hc⟩ := hc
  have := h n hn
  omega
theorem wordsB_snoc (l : List Nat) (k : Nat) (h : k < l.length) : wordsB (l.take (k + 1)) = wordsB (l.take k) ++ [l.getD k 0 / 256, l.getD k 0 % 256] := by
  rw [List.take_succ_eq_append_getElem h]
  unfold wordsB
  rw [List.flatMap_append]
  simp [h]

/-- What is owned lies above the base. -/
theorem own_block {w : World} {base : Nat} {e : TypeId} {size : Nat} {v : Value} {n : Nat} {xs : List Value} (h : w.ownsRow base e size v n xs) : ∀ k, v.ownBlock = some k → base ≤ k := by
  intro k hk
  rcases h.2 with ⟨rfl, _⟩ | ⟨g, cap, cur, rfl, hg, _⟩
  · simp [Value.ownBlock] at hk
  · simp [Value.ownBlock] at hk; omega

theorem word_Put (n : Nat) (w : World) (hn : n < 65536) :
    Calls Tryd.prog 47 #[.int .u16 (n : Int)] w fun e w' => e = .returned (.agg #[.int .u8 ((n / 256 : Nat) : Int), .int .u8 ((n % 256 : Nat) : Int)]) ∧ Ext w w' := by
  go_enter Tryd.func47, Tryd.ntmps47
  go_wp2
  go_returns
  exact ⟨rfl, (Ext.refl _).alloc _⟩

/-- One word's bytes. -/
theorem word_BytesF (n : Nat) (w : World) (hn : n < 65536) :
    Calls Tryd.prog 46 #[.int .u16 (n : Int)] w fun e w' => ∃ v, e = .returned v ∧ Sl w' v (by8 [n / 256, n % 256]) ∧ Ext w w' := by
  have HL : Hid (∀ (W : World) (g : Nat), W.heap[g]? = some (.cells #[.int .u8 ((n / 256 : Nat) : Int), .int .u8 ((n % 256 : Nat) : Int)] 101 (0, 0)) → Sl W (.slice (some ⟨g, 0, none⟩) 2 2) (by8 [n / 256, n % 256])) :=
    Lib.hid fun W g h => Sl.lit (cs := by8 [n / 256, n % 256]) h (by unfold maxLen; simp [by8])
  have hm := fun w => word_Put n w hn
  go_enter Tryd.func46, Tryd.ntmps46
  go_wp2_with fail
  refine (hm _).mono ?_
  rintro e w' ⟨rfl, hext⟩
  go_wp2_with fail
  go_ret
  exact ⟨_, rfl, HL.out _ _ (heap_alloc_new _ _), hext.alloc _⟩

set_option maxRecDepth 100000 in
/-- All words' bytes, one behind the other. -/
theorem word_joined (v : Value) (l : List Nat) (w : World) (hl : Sl w v (by16 l)) (hb : Words l) (h47 : 2 * l.length ≤ 140737488355328) :
    Calls Tryd.prog 45 #[v, .func (.func 46) #[] #[]] w fun e w' => ∃ v', e = .returned v' ∧ w'.ownsRow w.heap.size 5 1 v' (wordsB l).length (by8 (wordsB l)) ∧ Ext w w' := by
  obtain ⟨a, c, rfl, hlc, hcm, _, hcell⟩ := hl.words
  obtain ⟨i0, hi, hz0, hz1, hz2⟩ := info_parts info8
  unfold maxLen at hcm
  have HC := Lib.hid hcell
  have HB := Lib.hid hb
  clear hcell hl hb
  go_enter Tryd.func45, Tryd.ntmps45
  go_wp2_with fail
  go_loopw [5, 10] (fun x i wr => ∃ k : Nat, k ≤ l.length ∧ i = .int .i64 k ∧ wr.ownsRow w.heap.size 5 1 x (wordsB (l.take k)).length (by8 (wordsB (l.take k))) ∧ Ext w wr) (fun _ i _ => l.length - (intOf i).toNat)
  case atStart => exact ⟨0, by omega, rfl, by simpa [wordsB, by8] using World.ownsRow_nil _ _ _ _, Ext.refl _⟩
  case round =>
    obtain ⟨k, hk, rfl, hown, hext⟩ := hrel
    have HO := Lib.hid hown
    have HX := Lib.hid hext
    clear hown hext
    by_cases hlt : k < l.length
    · obtain ⟨b, off, rfl, _, hcx⟩ := HC.out k hlt
      have hcr := HX.out.cell' hcx
      have HA : Hid (wordsB (l.take (k + 1)) = wordsB (l.take k) ++ [l.getD k 0 / 256, l.getD k 0 % 256]) := Lib.hid (wordsB_snoc l k hlt)
      have HW : Hid (l.getD k 0 < 65536) := Lib.hid (HB.out.at_ k)
      obtain ⟨x, hx⟩ : ∃ x, x = l.getD k 0 := ⟨_, rfl⟩
      rw [← hx] at hcr HA HW
      clear hx hcx
      have HM := Lib.hid (fun w => word_BytesF x w HW.out)
      go_wp2_with fail
      refine (HM.out _).mono ?_
      rintro e w1 ⟨v1, rfl, h1, h2⟩
      have HV1 := Lib.hid h1
      have HX1 := Lib.hid (HX.out.trans h2)
      have HO1 := Lib.hid (own_ext HO.out h2)
      clear h1 h2
      have HN : Hid (by8 (wordsB (List.take k l)) ++ by8 [x / 256, x % 256] = by8 (wordsB (l.take (k + 1)))) := Lib.hid (by rw [HA.out, by8_append])
      have HZ : Hid (w.heap.size ≤ w1.heap.size) := Lib.hid HX1.out.size
      have HB2 : Hid ((by8 (wordsB (List.take k l))).length + (by8 [x / 256, x % 256]).length ≤ 140737488355328) := Lib.hid (by
        rw [by8_length, by8_length, wordsB_length, List.length_take]; simp; omega)
      go_wp2_with (at_builtin; refine app_own rfl _ _ 27 rfl w.heap.size 5 i0 (.int .u8 0) 1 Tryd.underlying27 hi hz0 hz1 hz2 rfl _ (by8 (wordsB (List.take k l))) rfl (by rw [by8_length]; exact HO1.out) _ (by8 [x / 256, x % 256]) rfl HV1.out (by8_one _) (by rw [Nat.mul_one]; exact HB2.out) (by omega) HZ.out ?_; intro v' w2 hown hgrow)
      have hg : w1.grownBy w2 u5.ownBlock := hgrow
      rw [HN.out] at hown
      rw [by8_length] at hown
      go_roundw
      case rel => exact ⟨k + 1, by omega, by go_num, hown, HX1.out.grown hg (own_block HO1.out)⟩
      case measure => simp [intOf]; omega
    · have hkl : Hid (k = l.length) := Lib.hid (by omega)
      go_wp2_with fail
      go_ret
      have := HO.out
      rw [hkl.out, List.take_length] at this
      exact ⟨_, rfl, this, HX.out⟩

theorem word_Bytes (v : Value) (l : List Nat) (w : World) (hl : Sl w v (by16 l)) (hb : Words l) (h47 : 2 * l.length ≤ 140737488355328) :
    Calls Tryd.prog 35 #[v] w fun e w' => ∃ v', e = .returned v' ∧ w'.ownsRow w.heap.size 5 1 v' (wordsB l).length (by8 (wordsB l)) ∧ Ext w w' := by
  have hm := word_joined v l w hl hb h47
  have HM := Lib.hid hm
  clear hm hl hb h47
  go_enter Tryd.func35, Tryd.ntmps35
  go_wp2_with fail
  refine HM.out.mono ?_
  rintro e w1 ⟨v1, rfl, h1, h2⟩
  go_wp2_with fail
  go_ret
  exact ⟨_, rfl, h1, h2⟩
end Go.Proofs.YtjooacmmgbpkfaaDoor
