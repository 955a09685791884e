/- Points: which may be (config.may, triuneref09.in, triuneref09.may). No conditions. -/
import Derived.Test.YtjooacmmgbpkfaaDoorSpan
namespace Go.Proofs.YtjooacmmgbpkfaaDoor
open Go.RowKit

structure Pt where
  kind : Int
  addr : Int
  at_ : Int
  band : Int
  safe : Int
def Pt.vals (p : Pt) : List Value := [.int .i64 p.kind, .int .i64 p.addr, .int .i64 p.at_, .int .i64 p.band, .int .i64 p.safe]
theorem Pt.vals_length (p : Pt) : p.vals.length = 5 := rfl
def Pt.spans (p : Pt) : List Spn := [⟨p.kind, 0, 3⟩, ⟨p.addr, 0, 65535⟩, ⟨p.at_, 0, 899⟩, ⟨p.band, 0, if 2 ≤ p.kind then 0 else 65535⟩, ⟨p.safe, 0, if 2 ≤ p.kind then 1 else 65535⟩]
def Pt.may (p : Pt) : Bool := !p.spans.any Spn.out
abbrev Pt.val (p : Pt) : Value := .agg #[.int .i64 p.kind, .int .i64 p.addr, .int .i64 p.at_, .int .i64 p.band, .int .i64 p.safe]

theorem new_at {W : World} {n : Nat} (h : W.heap.size = n) (c : Array Value) (t : TypeId) : (W.alloc (.cells c t)).heap[n]? = some (.cells c t (0, 0)) := by
  subst h
  exact heap_alloc_new _ _

set_option maxRecDepth 100000 in
theorem config_may (p : Pt) (w : World) :
    Calls Tryd.prog 44 #[p.val] w fun e w' => e = .returned (.bool p.may) ∧ Ext w w' := by
  obtain ⟨m, hm⟩ : ∃ m, m = p.may := ⟨_, rfl⟩
  have HS : Hid (∀ (W : World) (g : Nat), W.heap[g]? = some (.cells #[.int .i64 p.kind, .int .i64 0, .int .i64 3, .int .i64 p.addr, .int .i64 0, .int .i64 65535, .int .i64 p.at_, .int .i64 0, .int .i64 899, .int .i64 p.band, .int .i64 0, .int .i64 (if 2 ≤ p.kind then 0 else 65535), .int .i64 p.safe, .int .i64 0, .int .i64 (if 2 ≤ p.kind then 1 else 65535)] 62 (0, 0)) →
      Calls Tryd.prog 27 #[.slice (some ⟨g, 0, none⟩) 5 5] W fun e w' => e = .returned (.bool m) ∧ Ext W w') :=
    Lib.hid fun W g h => by
      rw [hm]
      exact span_Within _ p.spans W (spans_lit (l := p.spans) h rfl (by unfold maxLen; simp [Pt.spans]))
  rw [← hm]
  clear hm
  by_cases hk : 2 ≤ p.kind
  · rw [if_pos hk, if_pos hk] at HS
    go_enter Tryd.func44, Tryd.ntmps44
    go_wp2_with fail
    refine (HS.out _ _ (new_at (by simp) _ _)).mono ?_
    rintro e w1 ⟨rfl, h1⟩
    go_wp2_with fail
    go_ret
    exact ⟨rfl, (((Ext.refl _).alloc _).alloc _).trans h1⟩
  · rw [if_neg hk, if_neg hk] at HS
    go_enter Tryd.func44, Tryd.ntmps44
    go_wp2_with fail
    refine (HS.out _ _ (new_at (by simp) _ _)).mono ?_
    rintro e w1 ⟨rfl, h1⟩
    go_wp2_with fail
    go_ret
    exact ⟨rfl, (((Ext.refl _).alloc _).alloc _).trans h1⟩

/-- Between two numbers. -/
def inR (n low high : Int) : Bool := decide (low ≤ n) && decide (n ≤ high)
theorem ref_in (n low high : Int) (w : World) : Calls Tryd.prog 30 #[.int .i64 n, .int .i64 low, .int .i64 high] w fun e w' => e = .returned (.bool (inR n low high)) ∧ w = w' := by
  go_enter Tryd.func30, Tryd.ntmps30
  go_wp2_with fail
  all_goals
    go_ret
    refine ⟨ret_bool ?_, rfl⟩
    unfold inR
    simp [*]
    try omega

theorem out_inR (n low high : Int) : (Spn.mk n low high).out = !inR n low high := by
  unfold Spn.out inR
  by_cases h1 : n < low <;> by_cases h2 : n > high <;> simp [h1, h2] <;> omega
theorem may_inR (p : Pt) : p.may = (inR p.kind 0 3 && inR p.addr 0 65535 && inR p.at_ 0 899 && inR p.band 0 (if 2 ≤ p.kind then 0 else 65535) && inR p.safe 0 (if 2 ≤ p.kind then 1 else 65535)) := by
  unfold Pt.may Pt.spans
  simp only [List.any_cons, List.any_nil, out_inR, Bool.not_or, Bool.not_not, Bool.or_false, Bool.and_assoc]
theorem inR_zero (n : Int) : inR n 0 0 = decide (n = 0) := by
  unfold inR
  by_cases h : n = 0
  · subst h; rfl
  · simp only [h, decide_false, Bool.and_eq_false_iff, decide_eq_false_iff_not]
    omega

set_option maxRecDepth 100000 in
theorem ref_may (p : Pt) (w : World) : Calls Tryd.prog 31 #[p.val] w fun e w' => e = .returned (.bool p.may) ∧ Ext w w' := by
  rw [may_inR]
  have C1 := Lib.hid (fun w => ref_in p.kind 0 3 w)
  have C2 := Lib.hid (fun w => ref_in p.addr 0 65535 w)
  have C3 := Lib.hid (fun w => ref_in p.at_ 0 899 w)
  have C4 := Lib.hid (fun w => ref_in p.band 0 65535 w)
  have C5 := Lib.hid (fun w => ref_in p.safe 0 65535 w)
  have C6 := Lib.hid (fun w => ref_in p.safe 0 1 w)
  obtain ⟨r, hr⟩ : ∃ r, r = (inR p.kind 0 3 && inR p.addr 0 65535 && inR p.at_ 0 899 && inR p.band 0 (if 2 ≤ p.kind then 0 else 65535) && inR p.safe 0 (if 2 ≤ p.kind then 1 else 65535)) := ⟨_, rfl⟩
  rw [← hr]
  by_cases hk : 2 ≤ p.kind
  · rw [if_pos hk, if_pos hk, inR_zero] at hr
    generalize inR p.kind 0 3 = b1 at C1 hr
    generalize inR p.addr 0 65535 = b2 at C2 hr
    generalize inR p.at_ 0 899 = b3 at C3 hr
    generalize inR p.safe 0 1 = b6 at C6 hr
    obtain ⟨bz, hz⟩ : ∃ bz, bz = decide (p.band = 0) := ⟨_, rfl⟩
    rw [← hz] at hr
    have hz1 : (p.band == 0) = bz := by rw [hz]; by_cases h : p.band = 0 <;> simp [h]
    have hk1 : decide (p.kind ≤ 1) = false := by simp; omega
    clear hz
    have HR := Lib.hid hr
    clear hr hk
    go_enter Tryd.func31, Tryd.ntmps31
    go_wp2_with fail
    refine (C1.out _).mono ?_
    rintro e w1 ⟨rfl, rfl⟩
    cases b1
    · go_wp2_with fail
      go_ret
      exact ⟨ret_bool (by rw [HR.out]; simp), (Ext.refl _).alloc _⟩
    · go_wp2_with fail
      refine (C2.out _).mono ?_
      rintro e w1 ⟨rfl, rfl⟩
      cases b2
      · go_wp2_with fail
        go_ret
        exact ⟨ret_bool (by rw [HR.out]; simp), (Ext.refl _).alloc _⟩
      · go_wp2_with fail
        refine (C3.out _).mono ?_
        rintro e w1 ⟨rfl, rfl⟩
        cases b3
        · go_wp2_with fail
          go_ret
          exact ⟨ret_bool (by rw [HR.out]; simp), (Ext.refl _).alloc _⟩
        · cases bz
          · go_wp2_with fail
            go_ret
            exact ⟨ret_bool (by rw [HR.out]; simp), (Ext.refl _).alloc _⟩
          · go_wp2_with fail
            refine (C6.out _).mono ?_
            rintro e w1 ⟨rfl, rfl⟩
            go_wp2_with fail
            go_ret
            exact ⟨ret_bool (by rw [HR.out]; simp), (Ext.refl _).alloc _⟩
  · rw [if_neg hk, if_neg hk] at hr
    generalize inR p.kind 0 3 = b1 at C1 hr
    generalize inR p.addr 0 65535 = b2 at C2 hr
    generalize inR p.at_ 0 899 = b3 at C3 hr
    generalize inR p.band 0 65535 = b4 at C4 hr
    generalize inR p.safe 0 65535 = b5 at C5 hr
    have hk1 : decide (p.kind ≤ 1) = true := by simp; omega
    have HR := Lib.hid hr
    clear hr hk
    go_enter Tryd.func31, Tryd.ntmps31
    go_wp2_with fail
    refine (C1.out _).mono ?_
    rintro e w1 ⟨rfl, rfl⟩
    cases b1
    · go_wp2_with fail
      go_ret
      exact ⟨ret_bool (by rw [HR.out]; simp), (Ext.refl _).alloc _⟩
    · go_wp2_with fail
      refine (C2.out _).mono ?_
      rintro e w1 ⟨rfl, rfl⟩
      cases b2
      · go_wp2_with fail
        go_ret
        exact ⟨ret_bool (by rw [HR.out]; simp), (Ext.refl _).alloc _⟩
      · go_wp2_with fail
        refine (C3.out _).mono ?_
        rintro e w1 ⟨rfl, rfl⟩
        cases b3
        · go_wp2_with fail
          go_ret
          exact ⟨ret_bool (by rw [HR.out]; simp), (Ext.refl _).alloc _⟩
        · go_wp2_with fail
          refine (C4.out _).mono ?_
          rintro e w1 ⟨rfl, rfl⟩
          cases b4
          · go_wp2_with fail
            go_ret
            exact ⟨ret_bool (by rw [HR.out]; simp), (Ext.refl _).alloc _⟩
          · go_wp2_with fail
            refine (C5.out _).mono ?_
            rintro e w1 ⟨rfl, rfl⟩
            go_wp2_with fail
            go_ret
            exact ⟨ret_bool (by rw [HR.out]; simp), (Ext.refl _).alloc _⟩
end Go.Proofs.YtjooacmmgbpkfaaDoor
