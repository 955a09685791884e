/- awake: a round of one group, told by scan, is as it should be. -/
import Derived.Test.YtjjnbdbilclakaaScan
namespace Go.Proofs.Ytjjnbdbilclakaa
open Go.RowKit Go.Maps

def q0 : Int → Int := fun _ => 0
def q1 : Int → Int := upd 1 q0 0
def q2 : Int → Int := upd 1 q1 1
def q3 : Int → Int := upd 1 q2 2
theorem oq0 : Ok 1 q0 := ⟨by omega, by omega, fun c _ _ => by simp [q0]⟩
theorem oq1 : Ok 1 q1 := oq0.upd
theorem oq2 : Ok 1 q2 := oq1.upd
theorem oq3 : Ok 1 q3 := oq2.upd

set_option maxHeartbeats 1000000 in
theorem awake_any (w : World) : Calls Try.prog 5 #[] w fun e w' => e = .returned (.bool true) ∧ Below w.heap.size w w' := by
  go_enter Try.func5, Try.ntmps5
  go_wp2_with fail
  refine (new_good 1 w (by omega) (by omega)).mono ?_
  rintro e w1 ⟨g, m, rfl, h1, hg, hm, hB⟩
  replace h1 : IsScan w1 g m 1 1 q0 := h1
  have H1 := Lib.hid h1
  clear h1
  go_wp2_with fail
  refine (next_any g m 1 1 q0 0 _ H1.out (by decide)).mono ?_
  rintro e w2 ⟨rfl, rfl⟩
  rw [show nxt 1 q0 0 = 0 from by decide, show has 1 q0 0 = true from by decide]
  go_wp2_with fail
  refine (done_any g m 1 1 q0 0 _ H1.out oq0 (by decide)).mono ?_
  rintro e w2 ⟨rfl, h2, k2⟩
  replace h2 : IsScan w2 g m 1 1 q1 := h2
  rw [show ans (has 1 q0 0) = 0 from by decide]
  have H2 := Lib.hid h2
  have K2 := Lib.hid k2
  clear h2 k2
  go_wp2_with fail
  refine (next_any g m 1 1 q1 0 _ H2.out (by decide)).mono ?_
  rintro e w3 ⟨rfl, rfl⟩
  rw [show nxt 1 q1 0 = 0 from by decide, show has 1 q1 0 = false from by decide]
  go_wp2_with fail
  refine (Begin_any g m 1 1 q1 _ H2.out oq1).mono ?_
  rintro e w3 ⟨rfl, hx, -⟩
  obtain rfl := hx (by decide)
  clear hx
  rw [show ans (full 1 q1) = 8 from by decide]
  go_wp2_with fail
  refine (done_any g m 1 1 q1 1 _ H2.out oq1 (by decide)).mono ?_
  rintro e w4 ⟨rfl, h4, k4⟩
  replace h4 : IsScan w4 g m 1 1 q2 := h4
  have H4 := Lib.hid h4
  have K4 := Lib.hid k4
  clear h4 k4
  rw [show ans (has 1 q1 1) = 0 from by decide]
  go_wp2_with fail
  refine (done_any g m 1 1 q2 2 _ H4.out oq2 (by decide)).mono ?_
  rintro e w5 ⟨rfl, h5, k5⟩
  replace h5 : IsScan w5 g m 1 1 q3 := h5
  have H5 := Lib.hid h5
  have K5 := Lib.hid k5
  clear h5 k5
  rw [show ans (has 1 q2 2) = 0 from by decide]
  go_wp2_with fail
  refine (complete_any g m 1 1 q3 _ H5.out oq3).mono ?_
  rintro e w6 ⟨rfl, rfl⟩
  rw [show full 1 q3 = true from by decide]
  go_wp2_with fail
  refine (Begin_any g m 1 1 q3 _ H5.out oq3).mono ?_
  rintro e w6 ⟨rfl, -, hx⟩
  obtain ⟨m', h6, hm', k6⟩ := hx (by decide)
  clear hx
  rw [show ans (full 1 q3) = 0 from by decide]
  replace h6 : IsScan w6 g m' 1 2 q0 := by rw [show wrap64 (1 + 1) = 2 from by unfold wrap64; omega] at h6; exact h6
  have H6 := Lib.hid h6
  have K6 := Lib.hid k6
  clear h6 k6
  go_wp2_with fail
  refine (round_any g m' 1 2 q0 _ H6.out).mono ?_
  rintro e w7 ⟨rfl, rfl⟩
  go_wp2_with fail
  refine (done_any g m' 1 2 q0 3 _ H6.out oq0 (by decide)).mono ?_
  rintro e w7 ⟨rfl, h7, k7⟩
  have K7 := Lib.hid k7
  clear h7 k7
  rw [show ans (has 1 q0 3) = 8 from by decide]
  go_wp2_with fail
  go_ret
  refine ⟨rfl, hB.trans (Below.trans (K2.out.below hB.size (by omega)) ?_)⟩
  have s2 := K2.out.size
  have s4 := K4.out.size
  have s5 := K5.out.size
  have s6 := K6.out.size
  have sB := hB.size
  exact (K4.out.below (by omega) (by omega)).trans ((K5.out.below (by omega) (by omega)).trans ((K6.out.below (by omega) (by omega)).trans (K7.out.below (by omega) (by omega))))
end Go.Proofs.Ytjjnbdbilclakaa
