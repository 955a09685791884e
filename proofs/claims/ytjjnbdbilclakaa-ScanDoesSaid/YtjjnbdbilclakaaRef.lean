/- Contracts of package triuneref17's functions (New, Next, Done, Complete, Begin). -/
import Derived.Test.YtjjnbdbilclakaaProg
import Derived.Test.YtjjnbdbilclakaaPlain
import Derived.Handy
import Derived.Lib.Hide
import Derived.Deep.QuietTactic
import Derived.BigQuiet
import Derived.RegionTactic
import Derived.ChangeAlike
namespace Go.Proofs.Ytjjnbdbilclakaa
open Go.RowKit Go.Maps

def IsRef (w : World) (h : Nat) (n r : Int) (p : Int → Int) : Prop :=
  w.heap[h]? = some (.cells #[.int .i64 n, .int .i64 r, .int .i64 (p 0), .int .i64 (p 1), .int .i64 (p 2)] 38 (0, 0))
theorem IsRef.kept {w w' : World} {g : Nat} {n r : Int} {p : Int → Int} {S : Nat → Prop} (h : IsRef w g n r p) (k : Kept S w w') (hg : ¬ S g) : IsRef w' g n r p := k.heap h hg

theorem rnext_any (g : Nat) (n r : Int) (p : Int → Int) (c : Int) (w : World) (h : IsRef w g n r p) :
    Calls Try.prog 13 #[.pointer (some ⟨g, 0, none⟩), .int .i64 c] w fun e w' => e = .returned (.tuple #[.int .i64 (nxt n p c), .bool (has n p c)]) ∧ ∃ m, w' = w.drewN m := by
  have c0 := blk_cell h 0
  have c2 := blk_cell h 2
  have c3 := blk_cell h 3
  have c4 := blk_cell h 4
  simp at c0 c2 c3 c4
  clear h
  by_cases hc : 0 ≤ c ∧ c ≤ 2
  · by_cases hlt : p c < n
    · have e1 : has n p c = true := by simp [has, hc, hlt]
      have e2 : nxt n p c = p c := by simp [nxt, e1]
      rw [e1, e2]
      clear e1 e2
      have : c = 0 ∨ c = 1 ∨ c = 2 := by omega
      clear hc
      rcases this with rfl | rfl | rfl
      · have g1 : decide (n ≤ p 0) = false := by simp; omega
        go_enter Try.func13, Try.ntmps13
        go_wp2_with fail
        go_quiet (fail)
        go_wp2
        go_ret2
        exact ⟨rfl, _, rfl⟩
      · have g1 : decide (n ≤ p 1) = false := by simp; omega
        go_enter Try.func13, Try.ntmps13
        go_wp2_with fail
        go_quiet (fail)
        go_wp2
        go_ret2
        exact ⟨rfl, _, rfl⟩
      · have g1 : decide (n ≤ p 2) = false := by simp; omega
        go_enter Try.func13, Try.ntmps13
        go_wp2_with fail
        go_quiet (fail)
        go_wp2
        go_ret2
        exact ⟨rfl, _, rfl⟩
    · have e1 : has n p c = false := by simp [has, hlt]
      have e2 : nxt n p c = 0 := by simp [nxt, e1]
      rw [e1, e2]
      clear e1 e2
      have : c = 0 ∨ c = 1 ∨ c = 2 := by omega
      clear hc
      rcases this with rfl | rfl | rfl
      · have g1 : decide (n ≤ p 0) = true := by simp; omega
        go_enter Try.func13, Try.ntmps13
        go_wp2_with fail
        go_quiet (fail)
        go_wp2
        go_ret2
        exact ⟨rfl, _, rfl⟩
      · have g1 : decide (n ≤ p 1) = true := by simp; omega
        go_enter Try.func13, Try.ntmps13
        go_wp2_with fail
        go_quiet (fail)
        go_wp2
        go_ret2
        exact ⟨rfl, _, rfl⟩
      · have g1 : decide (n ≤ p 2) = true := by simp; omega
        go_enter Try.func13, Try.ntmps13
        go_wp2_with fail
        go_quiet (fail)
        go_wp2
        go_ret2
        exact ⟨rfl, _, rfl⟩
  · have e1 : has n p c = false := by simp [has]; omega
    have e2 : nxt n p c = 0 := by simp [nxt, e1]
    rw [e1, e2]
    clear e1 e2
    by_cases hn : c < 0
    · have g1 : decide (c < 0) = true := by simpa using hn
      clear hc hn
      · go_enter Try.func13, Try.ntmps13
        go_wp2_with fail
        go_quiet (fail)
        go_wp2
        go_ret2
        exact ⟨rfl, _, rfl⟩
    · have g1 : decide (c < 0) = false := by simpa using hn
      have g2 : decide (2 < c) = true := by simp; omega
      clear hc hn
      · go_enter Try.func13, Try.ntmps13
        go_wp2_with fail
        go_quiet (fail)
        go_wp2
        go_ret2
        exact ⟨rfl, _, rfl⟩

theorem IsRef.drewN {w : World} {g : Nat} {n r : Int} {p : Int → Int} (h : IsRef w g n r p) (m : Nat) : IsRef (w.drewN m) g n r p := h

theorem ref_set0 {w : World} {g : Nat} {n r : Int} {p : Int → Int} (h : IsRef w g n r p) (hh : has n p 0 = true) (k : Nat) : IsRef ((w.drewN k).setCell ⟨g, 2, none⟩ (.int .i64 (p 0 + 1))) g n r (upd n p 0) := by
  have := heap_setCell_same (w.drewN k) g 2 _ 38 (.int .i64 (p 0 + 1)) (h.drewN k)
  unfold IsRef
  rw [this]
  simp [upd, hh]
theorem ref_set1 {w : World} {g : Nat} {n r : Int} {p : Int → Int} (h : IsRef w g n r p) (hh : has n p 1 = true) (k : Nat) : IsRef ((w.drewN k).setCell ⟨g, 3, none⟩ (.int .i64 (p 1 + 1))) g n r (upd n p 1) := by
  have := heap_setCell_same (w.drewN k) g 3 _ 38 (.int .i64 (p 1 + 1)) (h.drewN k)
  unfold IsRef
  rw [this]
  simp [upd, hh]
theorem ref_set2 {w : World} {g : Nat} {n r : Int} {p : Int → Int} (h : IsRef w g n r p) (hh : has n p 2 = true) (k : Nat) : IsRef ((w.drewN k).setCell ⟨g, 4, none⟩ (.int .i64 (p 2 + 1))) g n r (upd n p 2) := by
  have := heap_setCell_same (w.drewN k) g 4 _ 38 (.int .i64 (p 2 + 1)) (h.drewN k)
  unfold IsRef
  rw [this]
  simp [upd, hh]
theorem rdone_any (g : Nat) (n r : Int) (p : Int → Int) (c : Int) (w : World) (h : IsRef w g n r p) (hok : Ok n p) :
    Calls Try.prog 9 #[.pointer (some ⟨g, 0, none⟩), .int .i64 c] w fun e w' => e = .returned (.int .i64 (ans (has n p c))) ∧ (IsRef w' g n r (upd n p c) ∧ Kept (fun i => i = g) w w') := by
  have hn := rnext_any g n r p c w h
  by_cases hh : has n p c = true
  · rw [hh] at hn
    have hh2 := hh
    simp [has] at hh2
    have hp := hok.2.2 c (by omega) (by omega)
    have hn48 := hok.2.1
    have HH := Lib.hid hh
    have HB := Lib.hid h
    have c2 := blk_cell h 2
    have c3 := blk_cell h 3
    have c4 := blk_cell h 4
    have f2 := blk_free h 2
    have f3 := blk_free h 3
    have f4 := blk_free h 4
    simp at c2 c3 c4
    clear h hh hok
    have : c = 0 ∨ c = 1 ∨ c = 2 := by omega
    rcases this with rfl | rfl | rfl
    · go_enter Try.func9, Try.ntmps9
      go_wp2_with fail
      refine hn.mono ?_
      rintro e w' ⟨rfl, m, rfl⟩
      go_wp2_with fail
      go_region
      go_wp2
      go_ret
      exact ⟨by rw [HH.out]; rfl, ref_set0 HB.out HH.out _, by refine Kept.setCell (Kept.drewN (Kept.refl _ _) _) ?_ _; exact fun _ => rfl⟩
    · go_enter Try.func9, Try.ntmps9
      go_wp2_with fail
      refine hn.mono ?_
      rintro e w' ⟨rfl, m, rfl⟩
      go_wp2_with fail
      go_region
      go_wp2
      go_ret
      exact ⟨by rw [HH.out]; rfl, ref_set1 HB.out HH.out _, by refine Kept.setCell (Kept.drewN (Kept.refl _ _) _) ?_ _; exact fun _ => rfl⟩
    · go_enter Try.func9, Try.ntmps9
      go_wp2_with fail
      refine hn.mono ?_
      rintro e w' ⟨rfl, m, rfl⟩
      go_wp2_with fail
      go_region
      go_wp2
      go_ret
      exact ⟨by rw [HH.out]; rfl, ref_set2 HB.out HH.out _, by refine Kept.setCell (Kept.drewN (Kept.refl _ _) _) ?_ _; exact fun _ => rfl⟩
  · have hf : has n p c = false := by simpa using hh
    have hu : upd n p c = p := by funext x; simp [upd, hf]
    rw [hf] at hn
    have HH := Lib.hid hf
    have HU := Lib.hid hu
    clear hh hf hu hok
    go_enter Try.func9, Try.ntmps9
    go_wp2_with fail
    refine hn.mono ?_
    rintro e w' ⟨rfl, m, rfl⟩
    go_wp2
    go_ret
    exact ⟨by rw [HH.out]; rfl, by rw [HU.out]; exact h, ⟨rfl, rfl, rfl, Nat.le_refl _, fun _ _ _ => rfl⟩⟩

theorem rcomplete_any (g : Nat) (n r : Int) (p : Int → Int) (w : World) (h : IsRef w g n r p) :
    Calls Try.prog 16 #[.pointer (some ⟨g, 0, none⟩)] w fun e w' => e = .returned (.bool (full n p)) ∧ ∃ m, w' = w.drewN m := by
  have c0 := blk_cell h 0
  have c2 := blk_cell h 2
  have c3 := blk_cell h 3
  have c4 := blk_cell h 4
  simp at c0 c2 c3 c4
  clear h
  unfold full
  by_cases h0 : p 0 = n
  · have g0 : (p 0 == n) = true := by simpa using h0
    by_cases h1 : p 1 = n
    · have g1 : (p 1 == n) = true := by simpa using h1
      clear h0 h1
      rw [g0, g1]
      go_enter Try.func16, Try.ntmps16
      go_wp2_with fail
      go_quiet (fail)
      go_wp2
      go_ret
      exact ⟨ret_bool (by simp), _, rfl⟩
    · have g1 : (p 1 == n) = false := by simpa using h1
      clear h0 h1
      rw [g0, g1]
      go_enter Try.func16, Try.ntmps16
      go_wp2_with fail
      go_quiet (fail)
      go_wp2
      go_ret
      exact ⟨ret_bool (by simp), _, rfl⟩
  · have g0 : (p 0 == n) = false := by simpa using h0
    clear h0
    rw [g0]
    go_enter Try.func16, Try.ntmps16
    go_wp2_with fail
    go_quiet (fail)
    go_wp2
    go_ret
    exact ⟨ret_bool (by simp), _, rfl⟩

theorem rnew_bad (n : Int) (w : World) (h : ¬ (1 ≤ n ∧ n ≤ 48)) :
    Calls Try.prog 7 #[.int .i64 n] w fun e w' => e = .returned (.tuple #[.pointer none, .int .i64 1]) ∧ w' = w := by
  have h' : n < 1 ∨ 48 < n := by omega
  clear h
  rcases h' with h | h
  · go_enter Try.func7, Try.ntmps7
    go_wp2
    go_ret2
    exact ⟨rfl, rfl⟩
  · have h2 : ¬ n < 1 := by omega
    go_enter Try.func7, Try.ntmps7
    go_wp2
    go_ret2
    exact ⟨rfl, rfl⟩
theorem rnew_good (n : Int) (w : World) (h1 : 1 ≤ n) (h2 : n ≤ 48) :
    Calls Try.prog 7 #[.int .i64 n] w fun e w' => ∃ g, e = .returned (.tuple #[.pointer (some ⟨g, 0, none⟩), .int .i64 0]) ∧ IsRef w' g n 1 (fun _ => 0) ∧ w.heap.size ≤ g ∧ Below w.heap.size w w' := by
  have h3 : ¬ n < 1 := by omega
  have h4 : ¬ 48 < n := by omega
  go_enter Try.func7, Try.ntmps7
  go_wp2
  go_ret2
  exact ⟨_, rfl, heap_alloc_new _ _, Nat.le_refl _, (Below.refl _ _).alloc (Nat.le_refl _) _⟩

theorem ref_clear {w : World} {g : Nat} {n r : Int} {p : Int → Int} (h : IsRef w g n r p) (k : Nat) (x : Int := wrap64 (r + 1)) :
    IsRef (((((w.drewN k).setCell ⟨g, 1, none⟩ (.int .i64 x)).setCell ⟨g, 2, none⟩ (.int .i64 0)).setCell ⟨g, 3, none⟩ (.int .i64 0)).setCell ⟨g, 4, none⟩ (.int .i64 0)) g n x (fun _ => 0) := by
  have e1 := heap_setCell_same (w.drewN k) g 1 _ 38 (.int .i64 x) (h.drewN k)
  have e2 := heap_setCell_same _ g 2 _ 38 (.int .i64 0) e1
  have e3 := heap_setCell_same _ g 3 _ 38 (.int .i64 0) e2
  have e4 := heap_setCell_same _ g 4 _ 38 (.int .i64 0) e3
  unfold IsRef
  rw [e4]
  simp

theorem rBegin_any (g : Nat) (n r : Int) (p : Int → Int) (w : World) (h : IsRef w g n r p) :
    Calls Try.prog 11 #[.pointer (some ⟨g, 0, none⟩)] w fun e w' => e = .returned (.int .i64 (ans (full n p))) ∧
      ((full n p = false → ∃ m, w' = w.drewN m) ∧ (full n p = true → IsRef w' g n (wrap64 (r + 1)) (fun _ => 0) ∧ Kept (fun i => i = g) w w')) := by
  have hc := rcomplete_any g n r p w h
  by_cases hf : full n p = true
  · rw [hf] at hc
    have HF := Lib.hid hf
    have HB := Lib.hid h
    have c1 := blk_cell h 1
    have c2 := blk_cell h 2
    have c3 := blk_cell h 3
    have c4 := blk_cell h 4
    have f1 := blk_free h 1
    have f2 := blk_free h 2
    have f3 := blk_free h 3
    have f4 := blk_free h 4
    simp at c1 c2 c3 c4
    clear hf h
    go_enter Try.func11, Try.ntmps11
    go_wp2_with fail
    refine hc.mono ?_
    rintro e w' ⟨rfl, m, rfl⟩
    go_wp2_with fail
    go_ret
    rw [HF.out]
    refine ⟨rfl, by simp, fun _ => ⟨ref_clear HB.out m, ?_⟩⟩
    refine Kept.setCell (Kept.setCell (Kept.setCell (Kept.setCell (Kept.drewN (Kept.refl _ _) _) ?_ _) ?_ _) ?_ _) ?_ _ <;> exact fun _ => rfl
  · have hf' : full n p = false := by simpa using hf
    rw [hf'] at hc
    have HF := Lib.hid hf'
    clear hf hf'
    go_enter Try.func11, Try.ntmps11
    go_wp2_with fail
    refine hc.mono ?_
    rintro e w' ⟨rfl, m, rfl⟩
    go_wp2_with fail
    go_ret
    rw [HF.out]
    exact ⟨rfl, fun _ => ⟨_, rfl⟩, by simp⟩
end Go.Proofs.Ytjjnbdbilclakaa
