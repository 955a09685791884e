/- ScanDoes: for every input the law returns true. No conditions. -/
import Derived.Test.YtjjnbdbilclakaaRows
import Derived.WalkKit
import Derived.ProofKit
import Derived.OpenShut
import Derived.ShutString
import Derived.ChangeOld
import Derived.Below
import Derived.Test.YtjjnbdbilclakaaAwake
import Derived.Test.YtjjnbdbilclakaaRef
import Derived.Deep.RegionHeld3
namespace Go.Proofs.Ytjjnbdbilclakaa.scanDoes
open Go.ChangeShapes Go.WideShapes Go.ChangeAt Go.RowKit
open Go.ChangeMaps (open_string shut_string)
set_option linter.unusedVariables false

theorem own : ownKnob Try.prog.godebug = none := by kernel_rfl
theorem laidOut : laidOutB Try.prog = true := by kernel_rfl

/-- WHAT THE WALK IS TOLD OF A SLICE OF INTEGERS THAT CAME IN: it is nil; or it leads to a row of 'cap' cells, the numbers 'zs' (the first 'len' are its elements, the rest its spare room), each fitting its kind. -/
def IsRow (k : IntKind) (w : World) (a : Option Addr) (len cap : Nat) (zs : List Int) : Prop :=
  (a = none ∧ len = 0 ∧ cap = 0 ∧ zs = []) ∨
  ∃ x, a = some x ∧ len ≤ cap ∧ cap ≤ maxLen ∧ zs.length = cap ∧ (∀ i, i < zs.length → w.cell? (x.add i) = some (.int k (zs.getD i 0))) ∧ ∀ n ∈ zs, (Lit.int k n).wf = true


theorem ref_ne_scan {w : World} {g h m : Nat} {n r : Int} {p : Int → Int} {n' r' : Int} {p' : Int → Int} (a : IsScan w g m n r p) (b : IsRef w h n' r' p') : h ≠ g ∧ h ≠ m := by
  obtain ⟨h1, D, ⟨es, cl, hh, _⟩, _⟩ := a
  unfold IsRef at b
  refine ⟨?_, ?_⟩
  · rintro rfl
    rw [h1] at b
    cases b
  · rintro rfl
    rw [hh] at b
    cases b

theorem ok0 {n : Int} (h1 : 1 ≤ n) (h2 : n ≤ 48) : Ok n (fun _ => 0) := ⟨h1, h2, fun c _ _ => by simp; omega⟩

/-- Both machines, in one state. -/
def Both (w : World) (B g h : Nat) (n : Int) : Prop := ∃ m r p, IsScan w g m n r p ∧ IsRef w h n r p ∧ Ok n p ∧ B ≤ m

theorem walk_big (a0 : Int) (a1 : Option Addr) (len1 cap1 : Nat) (w : World) (hl : 500 < len1) (hm : len1 ≤ maxLen) :
    Calls Try.prog 3 #[.int .i64 a0, .slice a1 len1 cap1] w fun e w' => e = .returned (.bool true) ∧ Below w.heap.size w w' := by
  unfold maxLen at hm
  have hl' : (500 : Int) < (len1 : Int) := by omega
  go_enter Try.func3, Try.ntmps3
  go_wp2_with fail
  refine (awake_any w).mono ?_
  rintro e w1 ⟨rfl, hB⟩
  go_wp2_with fail
  go_ret
  exact ⟨rfl, hB⟩
theorem walk_bad (a0 : Int) (a1 : Option Addr) (len1 cap1 : Nat) (w : World) (hl : len1 ≤ 500) (h : ¬ (1 ≤ a0 ∧ a0 ≤ 48)) :
    Calls Try.prog 3 #[.int .i64 a0, .slice a1 len1 cap1] w fun e w' => e = .returned (.bool true) ∧ Below w.heap.size w w' := by
  have hl' : ¬ (500 : Int) < (len1 : Int) := by omega
  go_enter Try.func3, Try.ntmps3
  go_wp2_with fail
  refine (awake_any w).mono ?_
  rintro e w1 ⟨rfl, hB⟩
  go_wp2_with fail
  refine (new_bad a0 _ h).mono ?_
  rintro e w2 ⟨rfl, rfl⟩
  go_wp2_with fail
  refine (rnew_bad a0 _ h).mono ?_
  rintro e w2 ⟨rfl, rfl⟩
  go_wp2_with fail
  go_ret
  exact ⟨rfl, hB⟩

set_option maxRecDepth 100000 in
set_option maxHeartbeats 1000000 in
theorem walk_good (a0 : Int) (b off len1 cap1 : Nat) (z1 : List Int) (w : World) (hl : len1 ≤ 500) (h1 : 1 ≤ a0) (h2 : a0 ≤ 48) (hb : b < w.heap.size)
    (hc : ∀ i, i < len1 → w.cell? ⟨b, off + i, none⟩ = some (.int .i64 (z1.getD i 0))) (hw : ∀ i, (Lit.int .i64 (z1.getD i 0)).wf = true) :
    Calls Try.prog 3 #[.int .i64 a0, .slice (some ⟨b, off, none⟩) len1 cap1] w fun e w' => e = .returned (.bool true) ∧ Below w.heap.size w w' := by
  have hl' : ¬ (500 : Int) < (len1 : Int) := by omega
  have HC := Lib.hid hc
  have HW := Lib.hid hw
  clear hc hw
  go_enter Try.func3, Try.ntmps3
  go_wp2_with fail
  refine (awake_any w).mono ?_
  rintro e w1 ⟨rfl, hB⟩
  go_wp2_with fail
  refine (new_good a0 _ h1 h2).mono ?_
  rintro e w2 ⟨g, m, rfl, s2, hg, hm, hB2⟩
  have S2 := Lib.hid s2
  clear s2
  go_wp2_with fail
  refine (rnew_good a0 _ h1 h2).mono ?_
  rintro e w3 ⟨h, rfl, s3, hh, hB3⟩
  have S3 := Lib.hid s3
  clear s3
  have hgB : w.heap.size ≤ g := by have := hB.size; omega
  have hhB : w.heap.size ≤ h := by have := hB.size; have := hB2.size; omega
  go_wp2_with fail
  go_loopw [10] (fun i wr => ∃ k : Nat, k ≤ len1 ∧ i = .int .i64 k ∧ Both wr w.heap.size g h a0 ∧ Below w.heap.size w wr)
    (fun i _ => len1 - (intOf i).toNat)
  case atStart =>
    have z1 := hB.size
    have z2 := hB2.size
    have z3 := hB3.size
    refine ⟨0, by omega, rfl, ⟨m, 1, fun _ => 0, ?_, S3.out, ⟨h1, h2, fun c _ _ => by simp; omega⟩, by omega⟩, hB.trans ((hB2.mono (by omega)).trans (hB3.mono (by omega)))⟩
    exact S2.out.kept (S := fun i => w2.heap.size ≤ i) ⟨hB3.os, hB3.tape, hB3.output, hB3.size, fun k hk _ => hB3.block k hk⟩ (by have := lt_of_block S2.out.1; omega) (by obtain ⟨_, D, ho, _⟩ := S2.out; have := ho.lt; omega)
  case round =>
    obtain ⟨k, hk, rfl, ⟨m', r, p, hs, hr, hok, hm'⟩, hbel⟩ := hrel
    obtain ⟨wo, rfl⟩ : ∃ wo : World, wo = wr := ⟨_, rfl⟩
    have hne := ref_ne_scan hs hr
    have hsz := hbel.size
    have HS := Lib.hid hs
    have HR := Lib.hid hr
    have HOK := Lib.hid hok
    clear hs hr hok
    by_cases hlt : k < len1
    · obtain ⟨v, hv⟩ : ∃ v, v = z1.getD k 0 := ⟨_, rfl⟩
      have hcx : wo.cell? ⟨b, off + k, none⟩ = some (.int .i64 v) := by rw [hv]; exact (hbel.cell (by exact hb)).trans (HC.out k hlt)
      have hwv : (Lit.int .i64 v).wf = true := by rw [hv]; exact HW.out k
      clear hv
      by_cases hin : -1 ≤ v ∧ v ≤ 3
      · obtain ⟨t1, t2⟩ := hin
        go_wp2_with fail
        go_region_held3 (fun W => W.cell? ⟨b, off + k, none⟩ = some (.int .i64 v)) (first | exact hcx | exact hcx1 | exact hcx2) (first
          | (go_at_call 8; refine (done_any g m' a0 r p v _ (by exact HS.out) HOK.out hwv).mono ?_; rintro e w4 ⟨rfl, s4, k4⟩; have hcx1 := k4.cell hcx (by simp; omega); have S4 := Lib.hid s4; have K4 := Lib.hid k4; clear s4 k4)
          | (go_at_call 9; refine (rdone_any h a0 r p v _ (by exact IsRef.kept (w := wo.drew) HR.out K4.out hne.2) HOK.out).mono ?_; rintro e w5 ⟨rfl, s5, k5⟩; have hcx2 := k5.cell hcx1 (by simp; omega); have S5 := Lib.hid s5; have K5 := Lib.hid k5; clear s5 k5))
        have HF : Hid (Both w5 w.heap.size g h a0 ∧ Below w.heap.size w w5) := Lib.hid ⟨⟨m', r, upd a0 p v, IsScan.kept S4.out (S := fun i => i = h) K5.out hne.1.symm hne.2.symm, S5.out, HOK.out.upd, hm'⟩, (Below.drew hbel).trans ((K4.out.below (a := wo.drew) (by exact hsz) (by intro i hi; omega)).trans (K5.out.below (Nat.le_trans hsz K4.out.size) (by intro i hi; omega)))⟩
        obtain ⟨⟨m2, r2, p2, s2, f2, o2, hm2⟩, bel2⟩ := HF.out
        have T2 := Lib.hid s2
        have F2 := Lib.hid f2
        have O2 := Lib.hid o2
        have B2 := Lib.hid bel2
        clear s2 f2 o2 bel2
        go_wp2_with fail
        go_loopw [11] (fun c wr => ∃ j : Nat, j ≤ 5 ∧ c = .int .i64 ((j : Int) - 1) ∧ (IsScan wr g m2 a0 r2 p2 ∧ IsRef wr h a0 r2 p2 ∧ Below w.heap.size w wr)) (fun c _ => 5 - (intOf c + 1).toNat)
        case atStart => exact ⟨0, by omega, rfl, T2.out, F2.out, B2.out⟩
        case round =>
          obtain ⟨j, hj, rfl, t3, f3, bel3⟩ := hrel
          have T3 := Lib.hid t3
          have F3 := Lib.hid f3
          have B3 := Lib.hid bel3
          clear t3 f3 bel3
          by_cases hj4 : j < 5
          · have hwj : (Lit.int .i64 ((j : Int) - 1)).wf = true := WalkArith.wf_i64 (by omega)
            go_wp2_with fail
            refine (next_any g m2 a0 r2 p2 _ _ T3.out hwj).mono ?_
            rintro e w6 ⟨rfl, rfl⟩
            go_wp2_with fail
            refine (rnext_any h a0 r2 p2 _ _ F3.out).mono ?_
            rintro e w6 ⟨rfl, m6, rfl⟩
            go_wp2_with fail
            go_roundw
            case rel => exact ⟨j + 1, by omega, by go_num, T3.out, F3.out, Below_drewN B3.out _⟩
            case measure => simp [intOf]; omega
          · obtain rfl : j = 5 := by omega
            have d1 := blk_cell F3.out 1
            simp at d1
            go_wp2_with fail
            go_quiet ((first
              | (go_at_call 14; exact Calls.quiet_of_same (round_any g m2 a0 r2 p2 _ (by exact T3.out)))
              | (go_at_call 15; exact Calls.quiet_of_same (complete_any g m2 a0 r2 p2 _ (by exact T3.out) O2.out))
              | (go_at_call 16; exact Calls.quiet_of (rcomplete_any h a0 r2 p2 _ (by exact F3.out)))))
            go_wp2_with fail
            go_roundw
            case rel => exact ⟨k + 1, by omega, by go_num, ⟨m2, r2, p2, T3.out, F3.out, O2.out, hm2⟩, Below_drewN B3.out _⟩
            case measure => simp [intOf]; omega
      · have hin' : v < -1 ∨ 3 < v := by omega
        clear hin
        have hn1 : decide (-1 ≤ v) = false ∨ (decide (-1 ≤ v) = true ∧ decide (v ≤ 3) = false) := by simp; omega
        rcases hn1 with hn1 | ⟨hn1, hn2⟩
        all_goals
          clear hin'
          by_cases hfull : full a0 p = true
          · have HFU := Lib.hid hfull
            clear hfull
            go_wp2_with fail
            refine (Begin_any g m' a0 r p _ HS.out HOK.out).mono ?_
            rintro e w4 ⟨rfl, -, hx⟩
            obtain ⟨m4, s4, hm4, k4⟩ := hx HFU.out
            have S4 := Lib.hid s4
            have K4 := Lib.hid k4
            clear s4 k4 hx
            go_wp2_with fail
            refine (rBegin_any h a0 r p _ (HR.out.kept K4.out hne.1)).mono ?_
            rintro e w5 ⟨rfl, -, hy⟩
            obtain ⟨f5, k5⟩ := hy HFU.out
            have F5 := Lib.hid f5
            have K5 := Lib.hid k5
            clear f5 k5 hy
            have HF : Hid (Both w5 w.heap.size g h a0 ∧ Below w.heap.size w w5) := Lib.hid ⟨⟨m4, wrap64 (r + 1), _, IsScan.kept S4.out (S := fun i => i = h) K5.out hne.1.symm (by have := lt_of_block HR.out; omega), F5.out, ok0 h1 h2, by omega⟩, hbel.trans ((K4.out.below hsz (by intro i hi; omega)).trans (K5.out.below (Nat.le_trans hsz K4.out.size) (by intro i hi; omega)))⟩
            obtain ⟨⟨m2, r2, p2, s2, f2, o2, hm2⟩, bel2⟩ := HF.out
            have T2 := Lib.hid s2
            have F2 := Lib.hid f2
            have O2 := Lib.hid o2
            have B2 := Lib.hid bel2
            clear s2 f2 o2 bel2
            go_wp2_with fail
            go_loopw [11] (fun c wr => ∃ j : Nat, j ≤ 5 ∧ c = .int .i64 ((j : Int) - 1) ∧ (IsScan wr g m2 a0 r2 p2 ∧ IsRef wr h a0 r2 p2 ∧ Below w.heap.size w wr)) (fun c _ => 5 - (intOf c + 1).toNat)
            case atStart => exact ⟨0, by omega, rfl, T2.out, F2.out, B2.out⟩
            case round =>
              obtain ⟨j, hj, rfl, t3, f3, bel3⟩ := hrel
              have T3 := Lib.hid t3
              have F3 := Lib.hid f3
              have B3 := Lib.hid bel3
              clear t3 f3 bel3
              by_cases hj4 : j < 5
              · have hwj : (Lit.int .i64 ((j : Int) - 1)).wf = true := WalkArith.wf_i64 (by omega)
                go_wp2_with fail
                refine (next_any g m2 a0 r2 p2 _ _ T3.out hwj).mono ?_
                rintro e w6 ⟨rfl, rfl⟩
                go_wp2_with fail
                refine (rnext_any h a0 r2 p2 _ _ F3.out).mono ?_
                rintro e w6 ⟨rfl, m6, rfl⟩
                go_wp2_with fail
                go_roundw
                case rel => exact ⟨j + 1, by omega, by go_num, T3.out, F3.out, Below_drewN B3.out _⟩
                case measure => simp [intOf]; omega
              · obtain rfl : j = 5 := by omega
                have d1 := blk_cell F3.out 1
                simp at d1
                go_wp2_with fail
                go_quiet ((first
                  | (go_at_call 14; exact Calls.quiet_of_same (round_any g m2 a0 r2 p2 _ (by exact T3.out)))
                  | (go_at_call 15; exact Calls.quiet_of_same (complete_any g m2 a0 r2 p2 _ (by exact T3.out) O2.out))
                  | (go_at_call 16; exact Calls.quiet_of (rcomplete_any h a0 r2 p2 _ (by exact F3.out)))))
                go_wp2_with fail
                go_roundw
                case rel => exact ⟨k + 1, by omega, by go_num, ⟨m2, r2, p2, T3.out, F3.out, O2.out, hm2⟩, Below_drewN B3.out _⟩
                case measure => simp [intOf]; omega
          · have HFU : Hid (full a0 p = false) := Lib.hid (by simpa using hfull)
            clear hfull
            go_wp2_with fail
            refine (Begin_any g m' a0 r p _ HS.out HOK.out).mono ?_
            rintro e w4 ⟨rfl, hx, -⟩
            obtain rfl := hx HFU.out
            clear hx
            go_wp2_with fail
            refine (rBegin_any h a0 r p _ HR.out).mono ?_
            rintro e w5 ⟨rfl, hy, -⟩
            have HY := Lib.hid (hy HFU.out)
            clear hy
            have HF : Hid (Both w5 w.heap.size g h a0 ∧ Below w.heap.size w w5) := Lib.hid (by obtain ⟨md, rfl⟩ := HY.out; exact ⟨⟨m', r, p, HS.out, HR.out, HOK.out, hm'⟩, Below_drewN hbel _⟩)
            obtain ⟨⟨m2, r2, p2, s2, f2, o2, hm2⟩, bel2⟩ := HF.out
            have T2 := Lib.hid s2
            have F2 := Lib.hid f2
            have O2 := Lib.hid o2
            have B2 := Lib.hid bel2
            clear s2 f2 o2 bel2
            go_wp2_with fail
            go_loopw [11] (fun c wr => ∃ j : Nat, j ≤ 5 ∧ c = .int .i64 ((j : Int) - 1) ∧ (IsScan wr g m2 a0 r2 p2 ∧ IsRef wr h a0 r2 p2 ∧ Below w.heap.size w wr)) (fun c _ => 5 - (intOf c + 1).toNat)
            case atStart => exact ⟨0, by omega, rfl, T2.out, F2.out, B2.out⟩
            case round =>
              obtain ⟨j, hj, rfl, t3, f3, bel3⟩ := hrel
              have T3 := Lib.hid t3
              have F3 := Lib.hid f3
              have B3 := Lib.hid bel3
              clear t3 f3 bel3
              by_cases hj4 : j < 5
              · have hwj : (Lit.int .i64 ((j : Int) - 1)).wf = true := WalkArith.wf_i64 (by omega)
                go_wp2_with fail
                refine (next_any g m2 a0 r2 p2 _ _ T3.out hwj).mono ?_
                rintro e w6 ⟨rfl, rfl⟩
                go_wp2_with fail
                refine (rnext_any h a0 r2 p2 _ _ F3.out).mono ?_
                rintro e w6 ⟨rfl, m6, rfl⟩
                go_wp2_with fail
                go_roundw
                case rel => exact ⟨j + 1, by omega, by go_num, T3.out, F3.out, Below_drewN B3.out _⟩
                case measure => simp [intOf]; omega
              · obtain rfl : j = 5 := by omega
                have d1 := blk_cell F3.out 1
                simp at d1
                go_wp2_with fail
                go_quiet ((first
                  | (go_at_call 14; exact Calls.quiet_of_same (round_any g m2 a0 r2 p2 _ (by exact T3.out)))
                  | (go_at_call 15; exact Calls.quiet_of_same (complete_any g m2 a0 r2 p2 _ (by exact T3.out) O2.out))
                  | (go_at_call 16; exact Calls.quiet_of (rcomplete_any h a0 r2 p2 _ (by exact F3.out)))))
                go_wp2_with fail
                go_roundw
                case rel => exact ⟨k + 1, by omega, by go_num, ⟨m2, r2, p2, T3.out, F3.out, O2.out, hm2⟩, Below_drewN B3.out _⟩
                case measure => simp [intOf]; omega
    · obtain rfl : k = len1 := by omega
      go_wp2_with fail
      go_ret
      exact ⟨rfl, hbel⟩

theorem walk_zero (a0 : Int) (a1 : Option Addr) (cap1 : Nat) (w : World) (h1 : 1 ≤ a0) (h2 : a0 ≤ 48) :
    Calls Try.prog 3 #[.int .i64 a0, .slice a1 0 cap1] w fun e w' => e = .returned (.bool true) ∧ Below w.heap.size w w' := by
  go_enter Try.func3, Try.ntmps3
  go_wp2_with fail
  refine (awake_any w).mono ?_
  rintro e w1 ⟨rfl, hB⟩
  go_wp2_with fail
  refine (new_good a0 _ h1 h2).mono ?_
  rintro e w2 ⟨g, m, rfl, s2, hg, hm, hB2⟩
  clear s2
  go_wp2_with fail
  refine (rnew_good a0 _ h1 h2).mono ?_
  rintro e w3 ⟨h, rfl, s3, hh, hB3⟩
  clear s3
  go_wp2_with fail
  refine wp_loop_rounds 1 ?_
  rw [rounds_succ]
  go_wp2
  go_ret
  exact ⟨rfl, hB.trans ((hB2.mono hB.size).trans (hB3.mono (Nat.le_trans hB.size hB2.size)))⟩

theorem walk (a0 : Int) (a1 : Option Addr) (len1 cap1 : Nat) (z1 : List Int) (w : World) (w0 : (Lit.int .i64 a0).wf = true) (w1 : IsRow .i64 w a1 len1 cap1 z1) :
    Calls Try.prog 3 #[.int .i64 a0, .slice a1 len1 cap1] w fun e w' => e = .returned (.bool true) ∧ Below w.heap.size w w' := by
  have hmax : len1 ≤ maxLen := by
    rcases w1 with ⟨_, h, _⟩ | ⟨x, _, h1, h2, _⟩
    · omega
    · omega
  by_cases hl : 500 < len1
  · exact walk_big a0 a1 len1 cap1 w hl hmax
  · by_cases h : 1 ≤ a0 ∧ a0 ≤ 48
    · by_cases hz : len1 = 0
      · subst hz; exact walk_zero a0 a1 cap1 w h.1 h.2
      · rcases w1 with ⟨_, h0, _⟩ | ⟨x, rfl, hlc, hcm, hlen, hcell, hwf⟩
        · omega
        · obtain ⟨b, off, rfl, hc⟩ := ints_at hcell (by omega)
          refine walk_good a0 b off len1 cap1 z1 w (by omega) h.1 h.2 (block_lt_of_cell (hc 0 (by omega))) (fun i hi => hc i (by omega)) (fun i => ?_)
          by_cases hi : i < z1.length
          · have : z1.getD i 0 ∈ z1 := by simp [hi]
            exact hwf _ this
          · have : z1.getD i 0 = 0 := by simp at hi; simp [hi]
            rw [this]; decide
    · exact walk_bad a0 a1 len1 cap1 w (by omega) h

/-! ### THE ROW's STEP: WRITTEN OUT: LEAVE IT -/
set_option maxRecDepth 100000 in
theorem lifted (os : Os) (started : os.Started) (H : Type) (enc : TypeId × Value → H) :
    ReturnsInHanded {} Try.checked os 3 .any (Rows.scanDoesSpec.pre6 enc Try.prog Try.f3 Rows.scanDoesRow.domain false) (Rows.scanDoesSpec.post enc Try.prog Try.f3 false true false false) := by
  refine returnsInHanded_of_change (C := Try.checked) own started (by kernel_rfl) Try.func3
    (ChangeSpec.witness6 (enc := enc) (C := Try.checked) false ⟨#[], #[.int .i64 0, .slice none 0 0], []⟩ 8 (by kernel_rfl) (by kernel_rfl) (by kernel_rfl) (by kernel_rfl)) ?_
  intro W base args ds gs before hval0 hW hcnd _
  have hval : ∀ (j : Nat) t v, Try.f3.params[j]? = some t → args[j]? = some v → Value.okWide Try.prog W .any base t v := hval0
  have hW' := hW
  obtain ⟨p, q, hA0, hV, rfl, hfz, hnd⟩ := hW
  have hA : DataW.TrodAll enc Try.prog W 0 (fun _ => true) true Try.f3.params.toList args.toList ds p := hA0
  rw [Try.params3] at hA hval
  obtain ⟨v0, vs0, d0, ds0, p0, q0, hargs, rfl, rfl, h0, r0⟩ := trodAll_cons hA
  obtain ⟨v1, vs1, d1, ds1, p1, q1, rfl, rfl, rfl, h1, r1⟩ := trodAll_cons r0
  obtain ⟨rfl, rfl, rfl⟩ := trodAll_nil r1
  obtain rfl : args = #[v0, v1] := by cases args; simp_all
  obtain ⟨rfl, rfl⟩ := trodVars_none hV
  obtain ⟨a0, rfl, rfl, rfl, w0⟩ := open_int Try.underlying3 (hval 0 3 v0 rfl rfl) h0
  obtain ⟨a1, len1, cap1, rfl⟩ := okWide_slice Try.underlying22 (hval 1 22 v1 rfl rfl)
  have k1 := h1
  have lt1 : ∀ x ∈ p1, x.block < W.heap.size := by obtain ⟨m, hm⟩ := k1; exact DataW.trod_lt m _ _ _ hm
  obtain ⟨z1, w1⟩ : ∃ zs, IsRow .i64 W a1 len1 cap1 zs := by
    obtain ⟨fuel, hf⟩ := h1
    rcases open_ints Try.underlying22 Try.underlying3 (by kernel_rfl) hf with ⟨hcs, _⟩ | ⟨x, l, c, zs, hcs, _, hl, hm, hz, _, hcell, hwz⟩
    · simp [Value.cells] at hcs
      obtain ⟨rfl, rfl, rfl⟩ := hcs
      exact ⟨[], .inl ⟨rfl, rfl, rfl, rfl⟩⟩
    · simp [Value.cells] at hcs
      obtain ⟨rfl, rfl, rfl⟩ := hcs
      exact ⟨zs, .inr ⟨_, rfl, hl, hm, by simpa using hz, hcell, hwz⟩⟩
  clear hA0 hval0
  refine (walk a0 a1 len1 cap1 z1 W w0 w1).mono fun e W' ⟨he, bel⟩ => ?_
  subst he
  exact ⟨_, rfl, _, _, _, [], _, [], hW', trodAll_mk1 (shut_bool Try.underlying4 _), (trodAll_cons_mk (shut_int Try.underlying3 w0) (trodAll_cons_mk (Below.trod laidOut (by kernel_rfl) (of_decide_eq_true (by kernel_rfl)) k1 bel lt1) trodAll_mk0)), rfl, bel.frame _, fun h => by cases h⟩

theorem over : Rows.scanDoesRow.holds Try.pinned (OpenSpec.ofChange Rows.scanDoesSpec) :=
  OpenClaim.holds_of_wide 3 Try.f3 rfl rfl rfl rfl rfl rfl rfl ⟨rfl, rfl, rfl, rfl, rfl⟩ rfl rfl rfl rfl rfl (by kernel_rfl) Try.func3 (by kernel_rfl)
    (of_decide_eq_true (by kernel_rfl)) (by unfold Func.isWrapper; first | (rw [if_pos (by decide +kernel)]; kernel_rfl) | (rw [if_neg (by decide +kernel)]; exact ⟨rfl, rfl⟩))
    (fun os started H enc _ => lifted os started H enc)

/-- ████ THE STATEMENT ████ -/
theorem proved : Rows.ScanDoesSaid := over
#print axioms proved
end Go.Proofs.Ytjjnbdbilclakaa.scanDoes
