/- ScanOnce: for every input the law returns true. No conditions. -/
import Derived.Test.YtjjnbdbilclakaaRows
import Derived.WalkKit
import Derived.ProofKit
import Derived.OpenShut
import Derived.ShutString
import Derived.ChangeOld
import Derived.Below
import Derived.Test.YtjjnbdbilclakaaAwake
namespace Go.Proofs.Ytjjnbdbilclakaa.scanOnce
open Go.ChangeShapes Go.WideShapes Go.ChangeAt Go.RowKit
open Go.ChangeMaps (open_string shut_string)
set_option linter.unusedVariables false

theorem own : ownKnob Try.prog.godebug = none := by kernel_rfl
theorem laidOut : laidOutB Try.prog = true := by kernel_rfl

/-- WHAT THE WALK IS TOLD OF A SLICE OF INTEGERS THAT CAME IN: it is nil; or it leads to a row of 'cap' cells, the numbers 'zs' (the first 'len' are its elements, the rest its spare room), each fitting its kind. -/
def IsRow (k : IntKind) (w : World) (a : Option Addr) (len cap : Nat) (zs : List Int) : Prop :=
  (a = none ∧ len = 0 ∧ cap = 0 ∧ zs = []) ∨
  ∃ x, a = some x ∧ len ≤ cap ∧ cap ≤ maxLen ∧ zs.length = cap ∧ (∀ i, i < zs.length → w.cell? (x.add i) = some (.int k (zs.getD i 0))) ∧ ∀ n ∈ zs, (Lit.int k n).wf = true


theorem ok0 {n : Int} (h1 : 1 ≤ n) (h2 : n ≤ 48) : Ok n (fun _ => 0) := ⟨h1, h2, fun c _ _ => by simp; omega⟩

def sum (p : Int → Int) : Int := p 0 + p 1 + p 2
theorem full_no {n : Int} {p : Int → Int} (h : Ok n p) (hs : sum p < 3 * n) : full n p = false := by
  have h0 := h.2.2 0 (by omega) (by omega)
  have h1 := h.2.2 1 (by omega) (by omega)
  have h2 := h.2.2 2 (by omega) (by omega)
  unfold sum at hs
  rw [Bool.eq_false_iff]
  simp [full]
  omega
theorem full_yes {n : Int} {p : Int → Int} (h : Ok n p) (hs : sum p = 3 * n) : full n p = true := by
  have h0 := h.2.2 0 (by omega) (by omega)
  have h1 := h.2.2 1 (by omega) (by omega)
  have h2 := h.2.2 2 (by omega) (by omega)
  unfold sum at hs
  simp [full]
  omega
theorem sum_upd {n : Int} {p : Int → Int} {c : Int} (h0 : 0 ≤ c) (h2 : c ≤ 2) (h : has n p c = true) : sum (upd n p c) = sum p + 1 := by
  have : c = 0 ∨ c = 1 ∨ c = 2 := by omega
  unfold sum
  rcases this with rfl | rfl | rfl
  · rw [upd_self h, upd_other (by omega), upd_other (by omega)]; omega
  · rw [upd_self h, upd_other (by omega), upd_other (by omega)]; omega
  · rw [upd_self h, upd_other (by omega), upd_other (by omega)]; omega
def left (n : Int) (p : Int → Int) (c : Int) : Nat := if p c < n then 0 else if p ((c + 1) % 3) < n then 1 else 2
def Cnt (w : World) (b : Nat) (p : Int → Int) : Prop := w.heap[b]? = some (.cells #[.int .i64 (p 0), .int .i64 (p 1), .int .i64 (p 2)] 36 (0, 0))

theorem cnt_cell {w : World} {b : Nat} {p : Int → Int} (h : Cnt w b p) (j : Nat) (hj : j ≤ 2) : w.cell? ⟨b, j, none⟩ = some (.int .i64 (p j)) := by
  rw [blk_cell h j]
  have : j = 0 ∨ j = 1 ∨ j = 2 := by omega
  rcases this with rfl | rfl | rfl <;> rfl
theorem cnt_free {w : World} {b : Nat} {p : Int → Int} (h : Cnt w b p) (j : Nat) : w.frozen? ⟨b, j, none⟩ = false := blk_free h j
theorem cnt_set {w : World} {b : Nat} {p : Int → Int} {n : Int} (h : Cnt w b p) (j : Nat) (hj : j ≤ 2) (hh : has n p j = true) : Cnt (w.setCell ⟨b, j, none⟩ (.int .i64 (p j + 1))) b (upd n p j) := by
  have e := heap_setCell_same w b j _ 36 (.int .i64 (p j + 1)) h
  unfold Cnt
  rw [e]
  have : j = 0 ∨ j = 1 ∨ j = 2 := by omega
  rcases this with rfl | rfl | rfl <;> simp at hh ⊢ <;> simp [upd_self hh, upd_other]
theorem left_next {n : Int} {p : Int → Int} {j : Nat} (hj : j ≤ 2) (ho : Ok n p) (hs : sum p < 3 * n) (h : ¬ p j < n) : left n p ((j + 1) % 3 : Nat) < left n p j := by
  have h0 := ho.2.2 0 (by omega) (by omega)
  have h1 := ho.2.2 1 (by omega) (by omega)
  have h2 := ho.2.2 2 (by omega) (by omega)
  unfold sum at hs
  have : j = 0 ∨ j = 1 ∨ j = 2 := by omega
  rcases this with rfl | rfl | rfl
  · simp at h; simp [left]; (repeat' split) <;> omega
  · simp at h; simp [left]; (repeat' split) <;> omega
  · simp at h; simp [left]; (repeat' split) <;> omega

theorem walk_bad (a0 a1 : Int) (A : Option Addr) (l c : Nat) (w : World) (h : ¬ (1 ≤ a0 ∧ a0 ≤ 48)) :
    Calls Try.prog 4 #[.int .i64 a0, .int .i64 a1, .slice A l c] w fun e w' => e = .returned (.bool true) ∧ Below w.heap.size w w' := by
  go_enter Try.func4, Try.ntmps4
  go_wp2_with fail
  refine (awake_any w).mono ?_
  rintro e w1 ⟨rfl, hB⟩
  go_wp2_with fail
  refine (new_bad a0 _ h).mono ?_
  rintro e w2 ⟨rfl, rfl⟩
  go_wp2_with fail
  go_ret
  exact ⟨rfl, hB⟩
theorem walk_out (a0 a1 : Int) (A : Option Addr) (l c : Nat) (w : World) (h1 : 1 ≤ a0) (h2 : a0 ≤ 48) (hm : l ≤ maxLen) (h : a1 < 1 ∨ 5 < a1 ∨ 300 < l) :
    Calls Try.prog 4 #[.int .i64 a0, .int .i64 a1, .slice A l c] w fun e w' => e = .returned (.bool true) ∧ Below w.heap.size w w' := by
  unfold maxLen at hm
  have h' : a1 < 1 ∨ (¬ a1 < 1 ∧ 5 < a1) ∨ (¬ a1 < 1 ∧ ¬ 5 < a1 ∧ (300 : Int) < (l : Int)) := by omega
  clear h
  rcases h' with h | ⟨h3, h⟩ | ⟨h3, h4, h⟩
  all_goals
    go_enter Try.func4, Try.ntmps4
    go_wp2_with fail
    refine (awake_any w).mono ?_
    rintro e w1 ⟨rfl, hB⟩
    go_wp2_with fail
    refine (new_good a0 _ h1 h2).mono ?_
    rintro e w2 ⟨g, m, rfl, s2, hg, hm, hB2⟩
    clear s2
    go_wp2_with fail
    go_ret
    exact ⟨rfl, hB.trans (hB2.mono hB.size)⟩

set_option maxRecDepth 100000 in
set_option maxHeartbeats 1000000 in
theorem walk_good (a0 a1 : Int) (A : Option Addr) (b off l c : Nat) (z1 : List Int) (w : World) (h1 : 1 ≤ a0) (h2 : a0 ≤ 48) (h3 : 1 ≤ a1) (h4 : a1 ≤ 5) (hl : l ≤ 300) (hA : 0 < l → A = some ⟨b, off, none⟩ ∧ b < w.heap.size)
    (hc : ∀ i, i < l → w.cell? ⟨b, off + i, none⟩ = some (.int .i64 (z1.getD i 0))) :
    Calls Try.prog 4 #[.int .i64 a0, .int .i64 a1, .slice A l c] w fun e w' => e = .returned (.bool true) ∧ Below w.heap.size w w' := by
  have t1 : decide (a1 < 1) = false := by simp; omega
  have t2 : decide (5 < a1) = false := by simp; omega
  have t3 : decide ((300 : Int) < (l : Int)) = false := by simp; omega
  have HC := Lib.hid hc
  have HA := Lib.hid hA
  clear hc hA
  go_enter Try.func4, Try.ntmps4
  go_wp2_with fail
  refine (awake_any w).mono ?_
  rintro e w1 ⟨rfl, hB⟩
  go_wp2_with fail
  refine (new_good a0 _ h1 h2).mono ?_
  rintro e w2 ⟨g, m, rfl, s2, hg, hm, hB2⟩
  have S2 := Lib.hid s2
  clear s2
  have hgB : w.heap.size ≤ g := by have := hB.size; omega
  have hmB : w.heap.size ≤ m := by have := hB.size; omega
  go_wp2_with fail
  go_loopw [10, 11] (fun x y wr => ∃ n : Nat, n ≤ 5 ∧ (n : Int) ≤ a1 ∧ y = .int .i64 ((n : Int) + 1) ∧ (∃ q : Nat, q ≤ 144 * n ∧ x = .int .i64 q) ∧ (∃ m, IsScan wr g m a0 ((n : Int) + 1) (fun _ => 0) ∧ w.heap.size ≤ m) ∧ Below w.heap.size w wr)
    (fun _ y _ => 5 - (intOf y - 1).toNat)
  case atStart =>
    exact ⟨0, by omega, by omega, rfl, ⟨0, by omega, rfl⟩, ⟨m, S2.out, hmB⟩, hB.trans (hB2.mono hB.size)⟩
  case round =>
    obtain ⟨n, hn, hna, rfl, ⟨q, hq, rfl⟩, ⟨m', hs, hm'⟩, hbel⟩ := hrel
    obtain ⟨wo, rfl⟩ : ∃ wo : World, wo = wr := ⟨_, rfl⟩
    have hsz := hbel.size
    have HS := Lib.hid hs
    clear hs
    by_cases hlt : (n : Int) + 1 ≤ a1
    · go_wp2_with fail
      have hg9 := lt_of_block HS.out.1
      have hm9 : m' < wo.heap.size := by obtain ⟨_, D, ho, _⟩ := HS.out; exact ho.lt
      go_loopw [10, 13] (fun x y wr => ∃ k q : Nat, (k : Int) ≤ 3 * a0 ∧ y = .int .i64 k ∧ q ≤ 144 * n + k ∧ x = .int .i64 q ∧ (∃ p, IsScan wr g m' a0 ((n : Int) + 1) p ∧ Ok a0 p ∧ sum p = k ∧ Cnt wr wo.heap.size p) ∧ Below w.heap.size w wr)
        (fun _ y _ => (3 * a0 - intOf y).toNat)
      case atStart =>
        refine ⟨0, q, by omega, rfl, by omega, rfl, ⟨fun _ => 0, ?_, ok0 h1 h2, rfl, ?_⟩, ?_⟩
        · exact HS.out.kept (S := fun _ => False) (Kept.alloc (Kept.refl _ _) _) id id
        · exact heap_alloc_new _ _
        · exact hbel.alloc hbel.size _
      case round =>
        obtain ⟨k, q', hk, rfl, hq', rfl, ⟨p, hs, hok, hsum, hcnt⟩, hbel'⟩ := hrel
        obtain ⟨wp, rfl⟩ : ∃ wp : World, wp = wr := ⟨_, rfl⟩
        have S3 := Lib.hid hs
        have O3 := Lib.hid hok
        have U3 := Lib.hid hsum
        have C3 := Lib.hid hcnt
        have B3 := Lib.hid hbel'
        clear hs hok hsum hcnt hbel'
        by_cases hkl : (k : Int) < 3 * a0
        · have hcase : (q' < l ∧ ∃ j : Nat, j ≤ 2 ∧ z1.getD q' 0 = j) ∨ (q' < l ∧ ∃ v, z1.getD q' 0 = v ∧ v < 0) ∨ (q' < l ∧ ∃ v, z1.getD q' 0 = v ∧ ¬ v < 0 ∧ 2 < v) ∨ ¬ q' < l := by
            by_cases hql : q' < l
            · by_cases hv0 : z1.getD q' 0 < 0
              · exact .inr (.inl ⟨hql, _, rfl, hv0⟩)
              · by_cases hv2 : 2 < z1.getD q' 0
                · exact .inr (.inr (.inl ⟨hql, _, rfl, hv0, hv2⟩))
                · exact .inl ⟨hql, (z1.getD q' 0).toNat, by omega, by omega⟩
            · exact .inr (.inr (.inr hql))
          rcases hcase with ⟨hql, jv, hj2, hv⟩ | ⟨hql, v, hv, hv0⟩ | ⟨hql, v, hv, hv0, hv2⟩ | hql
          · obtain ⟨rfl, hbb⟩ := HA.out (by omega)
            have hcx : wp.cell? ⟨b, off + q', none⟩ = some (.int .i64 (jv : Int)) := by rw [← hv]; exact (B3.out.cell (by exact hbb)).trans (HC.out q' hql)
            clear hv
            go_wp2_with fail
            refine (complete_any g m' a0 _ p _ S3.out O3.out).mono ?_
            rintro e w4 ⟨rfl, rfl⟩
            rw [full_no O3.out (by rw [U3.out]; exact hkl)]
            go_wp2_with fail
            refine (round_any g m' a0 _ p _ S3.out).mono ?_
            rintro e w4 ⟨rfl, rfl⟩
            go_wp2_with fail
            go_loop [14] (fun x => ∃ j : Nat, j ≤ 2 ∧ x = .int .i64 j) (fun x => left a0 p (intOf x))
            case atStart => first | exact ⟨jv, hj2, rfl⟩ | exact ⟨0, by omega, rfl⟩
            case round =>
              obtain ⟨j, hj, rfl⟩ := hrel
              have hcj := cnt_cell C3.out j hj
              have hfj := cnt_free C3.out j
              have hbj := O3.out.2.2 j (by omega) (by omega)
              by_cases hpj : p j < a0
              · have HH : Hid (has a0 p j = true) := Lib.hid (by simp [has, hpj]; omega)
                go_wp2_with fail
                refine (next_any g m' a0 _ p _ _ S3.out (WalkArith.wf_i64 (by omega))).mono ?_
                rintro e w4 ⟨rfl, rfl⟩
                rw [HH.out, show nxt a0 p j = p j from by simp [nxt, HH.out]]
                go_wp2_with fail
                refine (done_any g m' a0 _ p _ _ S3.out O3.out (WalkArith.wf_i64 (by omega))).mono ?_
                rintro e w5 ⟨rfl, s5, k5⟩
                rw [HH.out, show ans true = 0 from rfl]
                have hcj5 := k5.cell hcj (by simp; omega)
                have hc5 : Cnt w5 wo.heap.size p := k5.heap C3.out (by omega)
                have hfj5 := cnt_free hc5 j
                have S5 := Lib.hid s5
                have K5 := Lib.hid k5
                have C5 := Lib.hid hc5
                clear s5 k5 hc5
                go_wp2_with fail
                go_roundw
                case rel =>
                  refine ⟨k + 1, q' + 1, by omega, by go_num, by omega, by go_num, ⟨upd a0 p j, ?_, O3.out.upd, ?_, cnt_set C5.out j hj HH.out⟩, ?_⟩
                  · refine S5.out.kept (S := fun i => i = wo.heap.size) (Kept.setCell (Kept.refl _ _) ?_ _) (by omega) (by omega)
                    exact fun _ => rfl
                  · rw [sum_upd (by omega) (by omega) HH.out, U3.out]; simp
                  · exact (B3.out.trans (K5.out.below (by have := B3.out.size; omega) (by intro i hi; omega))).setCell (by simp; omega) _
                case measure => simp [intOf]; omega
              · go_wp2_with fail
                go_round
                case rel => exact ⟨(j + 1) % 3, by omega, by go_num⟩
                case measure =>
                  have := left_next hj O3.out (by rw [U3.out]; exact hkl) hpj
                  simpa [intOf] using this
          · obtain ⟨rfl, hbb⟩ := HA.out (by omega)
            have hcx : wp.cell? ⟨b, off + q', none⟩ = some (.int .i64 v) := by rw [← hv]; exact (B3.out.cell (by exact hbb)).trans (HC.out q' hql)
            clear hv
            go_wp2_with fail
            refine (complete_any g m' a0 _ p _ S3.out O3.out).mono ?_
            rintro e w4 ⟨rfl, rfl⟩
            rw [full_no O3.out (by rw [U3.out]; exact hkl)]
            go_wp2_with fail
            refine (round_any g m' a0 _ p _ S3.out).mono ?_
            rintro e w4 ⟨rfl, rfl⟩
            go_wp2_with fail
            go_loop [14] (fun x => ∃ j : Nat, j ≤ 2 ∧ x = .int .i64 j) (fun x => left a0 p (intOf x))
            case atStart => first | exact ⟨jv, hj2, rfl⟩ | exact ⟨0, by omega, rfl⟩
            case round =>
              obtain ⟨j, hj, rfl⟩ := hrel
              have hcj := cnt_cell C3.out j hj
              have hfj := cnt_free C3.out j
              have hbj := O3.out.2.2 j (by omega) (by omega)
              by_cases hpj : p j < a0
              · have HH : Hid (has a0 p j = true) := Lib.hid (by simp [has, hpj]; omega)
                go_wp2_with fail
                refine (next_any g m' a0 _ p _ _ S3.out (WalkArith.wf_i64 (by omega))).mono ?_
                rintro e w4 ⟨rfl, rfl⟩
                rw [HH.out, show nxt a0 p j = p j from by simp [nxt, HH.out]]
                go_wp2_with fail
                refine (done_any g m' a0 _ p _ _ S3.out O3.out (WalkArith.wf_i64 (by omega))).mono ?_
                rintro e w5 ⟨rfl, s5, k5⟩
                rw [HH.out, show ans true = 0 from rfl]
                have hcj5 := k5.cell hcj (by simp; omega)
                have hc5 : Cnt w5 wo.heap.size p := k5.heap C3.out (by omega)
                have hfj5 := cnt_free hc5 j
                have S5 := Lib.hid s5
                have K5 := Lib.hid k5
                have C5 := Lib.hid hc5
                clear s5 k5 hc5
                go_wp2_with fail
                go_roundw
                case rel =>
                  refine ⟨k + 1, q' + 1, by omega, by go_num, by omega, by go_num, ⟨upd a0 p j, ?_, O3.out.upd, ?_, cnt_set C5.out j hj HH.out⟩, ?_⟩
                  · refine S5.out.kept (S := fun i => i = wo.heap.size) (Kept.setCell (Kept.refl _ _) ?_ _) (by omega) (by omega)
                    exact fun _ => rfl
                  · rw [sum_upd (by omega) (by omega) HH.out, U3.out]; simp
                  · exact (B3.out.trans (K5.out.below (by have := B3.out.size; omega) (by intro i hi; omega))).setCell (by simp; omega) _
                case measure => simp [intOf]; omega
              · go_wp2_with fail
                go_round
                case rel => exact ⟨(j + 1) % 3, by omega, by go_num⟩
                case measure =>
                  have := left_next hj O3.out (by rw [U3.out]; exact hkl) hpj
                  simpa [intOf] using this
          · obtain ⟨rfl, hbb⟩ := HA.out (by omega)
            have hcx : wp.cell? ⟨b, off + q', none⟩ = some (.int .i64 v) := by rw [← hv]; exact (B3.out.cell (by exact hbb)).trans (HC.out q' hql)
            clear hv
            go_wp2_with fail
            refine (complete_any g m' a0 _ p _ S3.out O3.out).mono ?_
            rintro e w4 ⟨rfl, rfl⟩
            rw [full_no O3.out (by rw [U3.out]; exact hkl)]
            go_wp2_with fail
            refine (round_any g m' a0 _ p _ S3.out).mono ?_
            rintro e w4 ⟨rfl, rfl⟩
            go_wp2_with fail
            go_loop [14] (fun x => ∃ j : Nat, j ≤ 2 ∧ x = .int .i64 j) (fun x => left a0 p (intOf x))
            case atStart => first | exact ⟨jv, hj2, rfl⟩ | exact ⟨0, by omega, rfl⟩
            case round =>
              obtain ⟨j, hj, rfl⟩ := hrel
              have hcj := cnt_cell C3.out j hj
              have hfj := cnt_free C3.out j
              have hbj := O3.out.2.2 j (by omega) (by omega)
              by_cases hpj : p j < a0
              · have HH : Hid (has a0 p j = true) := Lib.hid (by simp [has, hpj]; omega)
                go_wp2_with fail
                refine (next_any g m' a0 _ p _ _ S3.out (WalkArith.wf_i64 (by omega))).mono ?_
                rintro e w4 ⟨rfl, rfl⟩
                rw [HH.out, show nxt a0 p j = p j from by simp [nxt, HH.out]]
                go_wp2_with fail
                refine (done_any g m' a0 _ p _ _ S3.out O3.out (WalkArith.wf_i64 (by omega))).mono ?_
                rintro e w5 ⟨rfl, s5, k5⟩
                rw [HH.out, show ans true = 0 from rfl]
                have hcj5 := k5.cell hcj (by simp; omega)
                have hc5 : Cnt w5 wo.heap.size p := k5.heap C3.out (by omega)
                have hfj5 := cnt_free hc5 j
                have S5 := Lib.hid s5
                have K5 := Lib.hid k5
                have C5 := Lib.hid hc5
                clear s5 k5 hc5
                go_wp2_with fail
                go_roundw
                case rel =>
                  refine ⟨k + 1, q' + 1, by omega, by go_num, by omega, by go_num, ⟨upd a0 p j, ?_, O3.out.upd, ?_, cnt_set C5.out j hj HH.out⟩, ?_⟩
                  · refine S5.out.kept (S := fun i => i = wo.heap.size) (Kept.setCell (Kept.refl _ _) ?_ _) (by omega) (by omega)
                    exact fun _ => rfl
                  · rw [sum_upd (by omega) (by omega) HH.out, U3.out]; simp
                  · exact (B3.out.trans (K5.out.below (by have := B3.out.size; omega) (by intro i hi; omega))).setCell (by simp; omega) _
                case measure => simp [intOf]; omega
              · go_wp2_with fail
                go_round
                case rel => exact ⟨(j + 1) % 3, by omega, by go_num⟩
                case measure =>
                  have := left_next hj O3.out (by rw [U3.out]; exact hkl) hpj
                  simpa [intOf] using this
          · skip
            go_wp2_with fail
            refine (complete_any g m' a0 _ p _ S3.out O3.out).mono ?_
            rintro e w4 ⟨rfl, rfl⟩
            rw [full_no O3.out (by rw [U3.out]; exact hkl)]
            go_wp2_with fail
            refine (round_any g m' a0 _ p _ S3.out).mono ?_
            rintro e w4 ⟨rfl, rfl⟩
            go_wp2_with fail
            go_loop [14] (fun x => ∃ j : Nat, j ≤ 2 ∧ x = .int .i64 j) (fun x => left a0 p (intOf x))
            case atStart => first | exact ⟨jv, hj2, rfl⟩ | exact ⟨0, by omega, rfl⟩
            case round =>
              obtain ⟨j, hj, rfl⟩ := hrel
              have hcj := cnt_cell C3.out j hj
              have hfj := cnt_free C3.out j
              have hbj := O3.out.2.2 j (by omega) (by omega)
              by_cases hpj : p j < a0
              · have HH : Hid (has a0 p j = true) := Lib.hid (by simp [has, hpj]; omega)
                go_wp2_with fail
                refine (next_any g m' a0 _ p _ _ S3.out (WalkArith.wf_i64 (by omega))).mono ?_
                rintro e w4 ⟨rfl, rfl⟩
                rw [HH.out, show nxt a0 p j = p j from by simp [nxt, HH.out]]
                go_wp2_with fail
                refine (done_any g m' a0 _ p _ _ S3.out O3.out (WalkArith.wf_i64 (by omega))).mono ?_
                rintro e w5 ⟨rfl, s5, k5⟩
                rw [HH.out, show ans true = 0 from rfl]
                have hcj5 := k5.cell hcj (by simp; omega)
                have hc5 : Cnt w5 wo.heap.size p := k5.heap C3.out (by omega)
                have hfj5 := cnt_free hc5 j
                have S5 := Lib.hid s5
                have K5 := Lib.hid k5
                have C5 := Lib.hid hc5
                clear s5 k5 hc5
                go_wp2_with fail
                go_roundw
                case rel =>
                  refine ⟨k + 1, q' + 1, by omega, by go_num, by omega, by go_num, ⟨upd a0 p j, ?_, O3.out.upd, ?_, cnt_set C5.out j hj HH.out⟩, ?_⟩
                  · refine S5.out.kept (S := fun i => i = wo.heap.size) (Kept.setCell (Kept.refl _ _) ?_ _) (by omega) (by omega)
                    exact fun _ => rfl
                  · rw [sum_upd (by omega) (by omega) HH.out, U3.out]; simp
                  · exact (B3.out.trans (K5.out.below (by have := B3.out.size; omega) (by intro i hi; omega))).setCell (by simp; omega) _
                case measure => simp [intOf]; omega
              · go_wp2_with fail
                go_round
                case rel => exact ⟨(j + 1) % 3, by omega, by go_num⟩
                case measure =>
                  have := left_next hj O3.out (by rw [U3.out]; exact hkl) hpj
                  simpa [intOf] using this
        · have hk3 : sum p = 3 * a0 := by rw [U3.out]; omega
          have HK3 := Lib.hid hk3
          clear hk3
          go_wp2_with fail
          refine (complete_any g m' a0 _ p _ S3.out O3.out).mono ?_
          rintro e w4 ⟨rfl, rfl⟩
          rw [full_yes O3.out HK3.out]
          go_wp2_with fail
          refine (Begin_any g m' a0 _ p _ S3.out O3.out).mono ?_
          rintro e w4 ⟨rfl, -, hx⟩
          obtain ⟨m4, s4, hm4, k4⟩ := hx (full_yes O3.out HK3.out)
          clear hx
          rw [full_yes O3.out HK3.out, show ans true = 0 from rfl]
          rw [show wrap64 ((n : Int) + 1 + 1) = (n : Int) + 1 + 1 from by unfold wrap64; omega] at s4
          have S4 := Lib.hid s4
          have K4 := Lib.hid k4
          clear s4 k4
          have hsz4 := B3.out.size
          go_wp2_with fail
          go_roundw
          case rel =>
            refine ⟨n + 1, by omega, by omega, by go_num, ⟨q', by omega, rfl⟩, ⟨m4, ?_, by omega⟩, B3.out.trans (K4.out.below hsz4 (by intro i hi; omega))⟩
            have := S4.out
            simpa using this
          case measure => simp [intOf]; omega
    · obtain rfl : a1 = (n : Int) := by omega
      go_wp2_with fail
      refine (round_any g m' a0 _ _ _ HS.out).mono ?_
      rintro e w4 ⟨rfl, rfl⟩
      go_wp2_with fail
      go_ret
      exact ⟨rfl, hbel⟩

theorem walk (a0 : Int) (a1 : Int) (a2 : Option Addr) (len2 cap2 : Nat) (z2 : List Int) (w : World) (w0 : (Lit.int .i64 a0).wf = true) (w1 : (Lit.int .i64 a1).wf = true) (w2 : IsRow .i64 w a2 len2 cap2 z2) :
    Calls Try.prog 4 #[.int .i64 a0, .int .i64 a1, .slice a2 len2 cap2] w fun e w' => e = .returned (.bool true) ∧ Below w.heap.size w w' := by
  have hmax : len2 ≤ maxLen := by
    rcases w2 with ⟨_, h, _⟩ | ⟨x, _, h1, h2, _⟩
    · omega
    · omega
  by_cases h : 1 ≤ a0 ∧ a0 ≤ 48
  · by_cases h' : a1 < 1 ∨ 5 < a1 ∨ 300 < len2
    · exact walk_out a0 a1 a2 len2 cap2 w h.1 h.2 hmax h'
    · by_cases hz : len2 = 0
      · subst hz
        exact walk_good a0 a1 a2 0 0 0 cap2 z2 w h.1 h.2 (by omega) (by omega) (by omega) (by omega) (by omega)
      · rcases w2 with ⟨_, h0, _⟩ | ⟨x, rfl, hlc, hcm, hlen, hcell, hwf⟩
        · omega
        · obtain ⟨b, off, rfl, hc⟩ := ints_at hcell (by omega)
          exact walk_good a0 a1 _ b off len2 cap2 z2 w h.1 h.2 (by omega) (by omega) (by omega) (fun _ => ⟨rfl, block_lt_of_cell (hc 0 (by omega))⟩) (fun i hi => hc i (by omega))
  · exact walk_bad a0 a1 a2 len2 cap2 w h

/-! ### THE ROW's STEP: WRITTEN OUT: LEAVE IT -/
set_option maxRecDepth 100000 in
theorem lifted (os : Os) (started : os.Started) (H : Type) (enc : TypeId × Value → H) :
    ReturnsInHanded {} Try.checked os 4 .any (Rows.scanOnceSpec.pre6 enc Try.prog Try.f4 Rows.scanOnceRow.domain false) (Rows.scanOnceSpec.post enc Try.prog Try.f4 false true false false) := by
  refine returnsInHanded_of_change (C := Try.checked) own started (by kernel_rfl) Try.func4
    (ChangeSpec.witness6 (enc := enc) (C := Try.checked) false ⟨#[], #[.int .i64 0, .int .i64 0, .slice none 0 0], []⟩ 8 (by kernel_rfl) (by kernel_rfl) (by kernel_rfl) (by kernel_rfl)) ?_
  intro W base args ds gs before hval0 hW hcnd _
  have hval : ∀ (j : Nat) t v, Try.f4.params[j]? = some t → args[j]? = some v → Value.okWide Try.prog W .any base t v := hval0
  have hW' := hW
  obtain ⟨p, q, hA0, hV, rfl, hfz, hnd⟩ := hW
  have hA : DataW.TrodAll enc Try.prog W 0 (fun _ => true) true Try.f4.params.toList args.toList ds p := hA0
  rw [Try.params4] at hA hval
  obtain ⟨v0, vs0, d0, ds0, p0, q0, hargs, rfl, rfl, h0, r0⟩ := trodAll_cons hA
  obtain ⟨v1, vs1, d1, ds1, p1, q1, rfl, rfl, rfl, h1, r1⟩ := trodAll_cons r0
  obtain ⟨v2, vs2, d2, ds2, p2, q2, rfl, rfl, rfl, h2, r2⟩ := trodAll_cons r1
  obtain ⟨rfl, rfl, rfl⟩ := trodAll_nil r2
  obtain rfl : args = #[v0, v1, v2] := by cases args; simp_all
  obtain ⟨rfl, rfl⟩ := trodVars_none hV
  obtain ⟨a0, rfl, rfl, rfl, w0⟩ := open_int Try.underlying3 (hval 0 3 v0 rfl rfl) h0
  obtain ⟨a1, rfl, rfl, rfl, w1⟩ := open_int Try.underlying3 (hval 1 3 v1 rfl rfl) h1
  obtain ⟨a2, len2, cap2, rfl⟩ := okWide_slice Try.underlying22 (hval 2 22 v2 rfl rfl)
  have k2 := h2
  have lt2 : ∀ x ∈ p2, x.block < W.heap.size := by obtain ⟨m, hm⟩ := k2; exact DataW.trod_lt m _ _ _ hm
  obtain ⟨z2, w2⟩ : ∃ zs, IsRow .i64 W a2 len2 cap2 zs := by
    obtain ⟨fuel, hf⟩ := h2
    rcases open_ints Try.underlying22 Try.underlying3 (by kernel_rfl) hf with ⟨hcs, _⟩ | ⟨x, l, c, zs, hcs, _, hl, hm, hz, _, hcell, hwz⟩
    · simp [Value.cells] at hcs
      obtain ⟨rfl, rfl, rfl⟩ := hcs
      exact ⟨[], .inl ⟨rfl, rfl, rfl, rfl⟩⟩
    · simp [Value.cells] at hcs
      obtain ⟨rfl, rfl, rfl⟩ := hcs
      exact ⟨zs, .inr ⟨_, rfl, hl, hm, by simpa using hz, hcell, hwz⟩⟩
  clear hA0 hval0
  refine (walk a0 a1 a2 len2 cap2 z2 W w0 w1 w2).mono fun e W' ⟨he, bel⟩ => ?_
  subst he
  exact ⟨_, rfl, _, _, _, [], _, [], hW', trodAll_mk1 (shut_bool Try.underlying4 _), (trodAll_cons_mk (shut_int Try.underlying3 w0) (trodAll_cons_mk (shut_int Try.underlying3 w1) (trodAll_cons_mk (Below.trod laidOut (by kernel_rfl) (of_decide_eq_true (by kernel_rfl)) k2 bel lt2) trodAll_mk0))), rfl, bel.frame _, fun h => by cases h⟩

theorem over : Rows.scanOnceRow.holds Try.pinned (OpenSpec.ofChange Rows.scanOnceSpec) :=
  OpenClaim.holds_of_wide 4 Try.f4 rfl rfl rfl rfl rfl rfl rfl ⟨rfl, rfl, rfl, rfl, rfl⟩ rfl rfl rfl rfl rfl (by kernel_rfl) Try.func4 (by kernel_rfl)
    (of_decide_eq_true (by kernel_rfl)) (by unfold Func.isWrapper; first | (rw [if_pos (by decide +kernel)]; kernel_rfl) | (rw [if_neg (by decide +kernel)]; exact ⟨rfl, rfl⟩))
    (fun os started H enc _ => lifted os started H enc)

/-- ████ THE STATEMENT ████ -/
theorem proved : Rows.ScanOnceSaid := over
#print axioms proved
end Go.Proofs.Ytjjnbdbilclakaa.scanOnce
