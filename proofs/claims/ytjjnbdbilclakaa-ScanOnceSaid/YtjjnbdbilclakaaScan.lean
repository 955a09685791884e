/- Contracts of package scan's functions (New, begin, Next, Done, Complete, Begin, Round). -/
import Derived.Test.YtjjnbdbilclakaaProg
import Derived.Test.YtjjnbdbilclakaaPlain
import Derived.Deep.QuietTactic
import Derived.BigQuiet
import Derived.Handy
import Derived.Lib.Hide
namespace Go.Proofs.Ytjjnbdbilclakaa
open Go.RowKit Go.Maps

theorem law3 : Keyed Try.prog 3 := int_keyed Try.underlying3
theorem zero3 (w : World) : (zeroValue 3).run Try.prog w = .ok (.int .i64 0) w := by kernel_rfl

set_option maxHeartbeats 400000 in
theorem begin_any (g : Nat) (n r : Int) (m : Value) (w : World) (hb : w.heap[g]? = some (.cells #[.int .i64 n, .int .i64 r, m] 43 (0, 0))) :
    Calls Try.prog 17 #[.pointer (some ⟨g, 0, none⟩)] w fun e w' => e = .returned (.tuple #[]) ∧
      (w'.heap[g]? = some (.cells #[.int .i64 n, .int .i64 (wrap64 (r + 1)), .map (some w.heap.size)] 43 (0, 0)) ∧ w'.ownsMap Try.prog 3 (plainElem Try.prog 3) w.heap.size 3 (D0 3) ∧ Kept (fun i => i = g) w w') := by
  have hmm := @run_makeMap Try.prog
  have c1 := blk_cell hb 1
  have c2 := blk_cell hb 2
  have f1 := blk_free hb 1
  have f2 := blk_free hb 2
  simp at c1 c2
  have hlt := lt_of_block hb
  have HB := Lib.hid hb
  clear hb
  go_enter Try.func17, Try.ntmps17
  go_wp2_with fail
  go_loopw [14] (fun i wr => ∃ k : Nat, k ≤ 3 ∧ i = .int .i64 k ∧ wr.heap[g]? = some (.cells #[.int .i64 n, .int .i64 (wrap64 (r + 1)), .map (some w.heap.size)] 43 (0, 0)) ∧ wr.ownsMap Try.prog 3 (plainElem Try.prog 3) w.heap.size k (D0 k) ∧ Kept (fun i => i = g) w wr)
    (fun i _ => 3 - (intOf i).toNat)
  case atStart =>
    have e := heap_setCell_same w g 1 _ 43 (.int .i64 (wrap64 (r + 1))) HB.out
    have e2 := heap_setCell_same _ g 2 _ 43 (.map (some w.heap.size)) e
    refine ⟨0, by omega, rfl, ?_, ?_, ?_⟩
    · rw [Below.heap_alloc _ _ _ (by simpa using hlt)]; simpa using e2
    · have := World.ownsMap_made ((w.setCell ⟨g, 1, none⟩ (.int .i64 (wrap64 (r + 1)))).setCell ⟨g, 2, none⟩ (.map (some w.heap.size))) Try.prog 3 (plainElem (H := Unit) Try.prog 3)
      simpa [D0] using this
    · refine Kept.alloc (Kept.setCell (Kept.setCell (Kept.refl _ _) ?_ _) ?_ _) _ <;> exact fun _ => rfl
  case round =>
    obtain ⟨k, hk, rfl, hb, hown, hkept⟩ := hrel
    have c2 := blk_cell hb 2
    simp at c2
    have HB2 := Lib.hid hb
    clear hb
    have hkey : keyOf Try.prog 3 (.int .i64 k) = some (.int .i64 k) := keyOf_int_mk Try.underlying3 (WalkArith.wf_i64 (by omega))
    go_wp2_with (first
      | (at_mapUpdate; refine wpList_mapUpdate_own _ rfl _ _ _ 41 rfl 3 3 law3 Try.underlying41 _ w.heap.size k _ rfl hown (by unfold maxLen; omega) _ _ _ rfl rfl hkey _ [] (plainElem_int Try.underlying3 (by decide)) ?_; intro w1 hown1 hgrow1))
    · go_roundw
      case rel =>
        refine ⟨k + 1, by omega, by go_num, ?_, hown1, ?_⟩
        · rw [hgrow1.block g (lt_of_block HB2.out) (by intro h; cases h; omega)]; exact HB2.out
        · exact hkept.grown hgrow1 (fun i hi e => by cases e; omega)
      case measure => simp [intOf]; omega
    · obtain rfl : k = 3 := by omega
      go_end0
      exact ⟨rfl, HB2.out, hown, hkept⟩

/-- A scan's state: its struct, and its map. -/
def IsScan (w : World) (g m : Nat) (n r : Int) (p : Int → Int) : Prop :=
  w.heap[g]? = some (.cells #[.int .i64 n, .int .i64 r, .map (some m)] 43 (0, 0)) ∧ ∃ D, w.ownsMap Try.prog 3 (plainElem Try.prog 3) m 3 D ∧ MapIs D n p
theorem IsScan.kept {w w' : World} {g m : Nat} {n r : Int} {p : Int → Int} {S : Nat → Prop} (h : IsScan w g m n r p) (k : Kept S w w') (hg : ¬ S g) (hm : ¬ S m) : IsScan w' g m n r p := by
  obtain ⟨h1, D, h2, h3⟩ := h
  exact ⟨k.heap h1 hg, D, ownsMap_kept k h2 hm, h3⟩
theorem IsScan.ne {w : World} {g m : Nat} {n r : Int} {p : Int → Int} (h : IsScan w g m n r p) : g ≠ m := by
  obtain ⟨h1, D, ⟨es, cl, hh, _⟩, _⟩ := h
  rintro rfl
  rw [h1] at hh
  cases hh

theorem next_any (g m : Nat) (n r : Int) (p : Int → Int) (c : Int) (w : World) (h : IsScan w g m n r p) (hc : (Lit.int .i64 c).wf = true) :
    Calls Try.prog 12 #[.pointer (some ⟨g, 0, none⟩), .int .i64 c] w fun e w' => e = .returned (.tuple #[.int .i64 (nxt n p c), .bool (has n p c)]) ∧ w' = w := by
  obtain ⟨hb, D, hown, hm⟩ := h
  have c2 := blk_cell hb 2
  simp at c2
  clear hb
  have hkey : keyOf Try.prog 3 (.int .i64 c) = some (.int .i64 c) := keyOf_int_mk Try.underlying3 hc
  have k1 := Lib.hid (hm.key c)
  have k2 := Lib.hid (hm.at_ c)
  clear hm
  go_enter Try.func12, Try.ntmps12
  go_wp2_with (first
    | (at_lookup; refine wpList_lookup_own_ok_int _ rfl _ _ 41 rfl 3 3 .i64 law3 Try.underlying41 Try.underlying3 (zero3 _) m 3 D rfl hown _ _ rfl hkey ?_; intro x hat hwc))
  have hx : x = nxt n p c := by have := hat.symm.trans k2.out; simpa using this
  go_ret2
  exact ⟨by rw [hx, k1.out]; rfl, rfl⟩

theorem complete_any (g m : Nat) (n r : Int) (p : Int → Int) (w : World) (h : IsScan w g m n r p) (hok : Ok n p) :
    Calls Try.prog 15 #[.pointer (some ⟨g, 0, none⟩)] w fun e w' => e = .returned (.bool (full n p)) ∧ w' = w := by
  obtain ⟨hb, D, hown, hm⟩ := h
  have c2 := blk_cell hb 2
  simp at c2
  clear hb
  have k1 := Lib.hid (cnt_zero hok)
  have k2 := Lib.hid hm.size
  clear hm hok
  go_enter Try.func15, Try.ntmps15
  go_wp2_with (first
    | (at_len; refine wpList_len_own _ rfl _ 41 rfl 3 3 Try.underlying41 _ m 3 D rfl hown ?_))
  go_ret
  exact ⟨ret_bool (by rw [← k1.out, ← k2.out, Bool.eq_iff_iff]; simp), rfl⟩

theorem round_any (g m : Nat) (n r : Int) (p : Int → Int) (w : World) (h : IsScan w g m n r p) :
    Calls Try.prog 14 #[.pointer (some ⟨g, 0, none⟩)] w fun e w' => e = .returned (.int .i64 r) ∧ w' = w := by
  obtain ⟨hb, _⟩ := h
  have c1 := blk_cell hb 1
  simp at c1
  clear hb
  go_enter Try.func14, Try.ntmps14
  go_wp2
  go_ret
  exact ⟨rfl, rfl⟩

theorem ownsMap_tight3 {w : World} {b k : Nat} {D : DataW Unit} {n : Int} {p : Int → Int} (h : w.ownsMap Try.prog 3 (plainElem Try.prog 3) b k D) (hm : MapIs D n p) : w.ownsMap Try.prog 3 (plainElem Try.prog 3) b 3 D :=
  (ownsMap_tight h).mono (by rw [hm.size]; exact cnt_le n p)

theorem done_any (g m : Nat) (n r : Int) (p : Int → Int) (c : Int) (w : World) (h : IsScan w g m n r p) (hok : Ok n p) (hc : (Lit.int .i64 c).wf = true) :
    Calls Try.prog 8 #[.pointer (some ⟨g, 0, none⟩), .int .i64 c] w fun e w' => e = .returned (.int .i64 (ans (has n p c))) ∧ (IsScan w' g m n r (upd n p c) ∧ Kept (fun i => i = m) w w') := by
  have hne := h.ne
  obtain ⟨hb, D, hown, hm⟩ := h
  have c0 := blk_cell hb 0
  have c2 := blk_cell hb 2
  simp at c0 c2
  have HB := Lib.hid hb
  clear hb
  have hkey : keyOf Try.prog 3 (.int .i64 c) = some (.int .i64 c) := keyOf_int_mk Try.underlying3 hc
  have k2 := Lib.hid (hm.at_ c)
  have HM := Lib.hid hm
  by_cases hh : has n p c = true
  · have k1 := (hm.key c).trans hh
    have hn : nxt n p c = p c := by simp [nxt, hh]
    have hp : 0 ≤ p c ∧ p c < n ∧ n ≤ 48 := by
      have := hh
      simp [has] at this
      have := hok.2.2 c (by omega) (by omega)
      have := hok.2.1
      omega
    have HH := Lib.hid hh
    have HN := Lib.hid hn
    have HOK := Lib.hid hok
    clear hm hh hn hok
    have hne' : g ≠ m := hne
    by_cases hlast : p c + 1 < n
    · have h9 : ((p c + 1) == n) = false := by simp; omega
      go_enter Try.func8, Try.ntmps8
      go_wp2_with (first
        | (at_lookup; refine wpList_lookup_own_ok_int _ rfl _ _ 41 rfl 3 3 .i64 law3 Try.underlying41 Try.underlying3 (zero3 _) m 3 D rfl hown _ _ rfl hkey ?_; intro x hat hwc; obtain rfl : x = p c := by {have := hat.symm.trans k2.out; rw [HN.out] at this; simpa using this}; clear hat hwc)
        | (at_mapUpdate; refine wpList_mapUpdate_own _ rfl _ _ _ 41 rfl 3 3 law3 Try.underlying41 _ m 3 D rfl hown (by unfold maxLen; omega) _ _ _ rfl rfl hkey _ [] (plainElem_int Try.underlying3 (WalkArith.wf_i64 (by omega))) ?_; intro w1 hown1 hgrow1; have d0 := hgrow1.cell c0 (by simpa using hne); have d2 := hgrow1.cell c2 (by simpa using hne)))
      go_ret
      have hmi := mapIs_put (hown.tidy law3) HM.out HH.out hlast
      have hk : Kept (fun i => i = m) w w1 := (Kept.refl _ _).grown hgrow1 (fun i _ e => by cases e; rfl)
      exact ⟨by rw [HH.out]; rfl, ⟨hk.heap HB.out hne', _, ownsMap_tight3 hown1 hmi, hmi⟩, hk⟩
    · have h9 : ((p c + 1) == n) = true := by simp; omega
      go_enter Try.func8, Try.ntmps8
      go_wp2_with (first
        | (at_lookup; refine wpList_lookup_own_ok_int _ rfl _ _ 41 rfl 3 3 .i64 law3 Try.underlying41 Try.underlying3 (zero3 _) m 3 D rfl hown _ _ rfl hkey ?_; intro x hat hwc; obtain rfl : x = p c := by {have := hat.symm.trans k2.out; rw [HN.out] at this; simpa using this}; clear hat hwc)
        | (at_mapUpdate; refine wpList_mapUpdate_own _ rfl _ _ _ 41 rfl 3 3 law3 Try.underlying41 _ m 3 D rfl hown (by unfold maxLen; omega) _ _ _ rfl rfl hkey _ [] (plainElem_int Try.underlying3 (WalkArith.wf_i64 (by omega))) ?_; intro w1 hown1 hgrow1; have d0 := hgrow1.cell c0 (by simpa using hne); have d2 := hgrow1.cell c2 (by simpa using hne))
        | (at_delete; refine wpList_delete_own _ rfl _ _ 41 3 rfl 3 law3 Try.underlying41 _ m _ _ rfl hown1 _ _ rfl hkey ?_; intro w2 hown2 hturn2))
      go_ret
      have hmi := mapIs_del (hown.tidy law3) HM.out HH.out (by omega)
      have hk : Kept (fun i => i = m) w w2 := ((Kept.refl _ _).grown hgrow1 (fun i _ e => by cases e; rfl)).grown hturn2.grown (fun i _ e => by cases e; rfl)
      exact ⟨by rw [HH.out]; rfl, ⟨hk.heap HB.out hne', _, ownsMap_tight3 hown2 hmi, hmi⟩, hk⟩
  · have hf : has n p c = false := by simpa using hh
    have k1 := (hm.key c).trans hf
    have hu : upd n p c = p := by funext x; simp [upd, hf]
    have HH := Lib.hid hf
    have HU := Lib.hid hu
    clear hm hh hf hu hok
    go_enter Try.func8, Try.ntmps8
    go_wp2_with (first
      | (at_lookup; refine wpList_lookup_own_ok_int _ rfl _ _ 41 rfl 3 3 .i64 law3 Try.underlying41 Try.underlying3 (zero3 _) m 3 D rfl hown _ _ rfl hkey ?_; intro x hat hwc; clear hat hwc))
    go_ret
    exact ⟨by rw [HH.out]; rfl, by rw [HU.out]; exact ⟨HB.out, D, hown, HM.out⟩, Kept.refl _ _⟩

theorem Begin_any (g m : Nat) (n r : Int) (p : Int → Int) (w : World) (h : IsScan w g m n r p) (hok : Ok n p) :
    Calls Try.prog 10 #[.pointer (some ⟨g, 0, none⟩)] w fun e w' => e = .returned (.int .i64 (ans (full n p))) ∧
      ((full n p = false → w' = w) ∧ (full n p = true → ∃ m', IsScan w' g m' n (wrap64 (r + 1)) (fun _ => 0) ∧ w.heap.size ≤ m' ∧ Kept (fun i => i = g) w w')) := by
  have hc := complete_any g m n r p w h hok
  have hb := begin_any g n r _ w h.1
  have HK := Lib.hid hok
  clear hok
  by_cases hf : full n p = true
  · rw [hf] at hc
    have HF := Lib.hid hf
    clear hf
    go_enter Try.func10, Try.ntmps10
    go_wp2_with fail
    refine hc.mono ?_
    rintro e w' ⟨rfl, rfl⟩
    go_wp2_with fail
    refine hb.mono ?_
    rintro e w1 ⟨rfl, h1, h2, h3⟩
    go_wp2_with fail
    go_ret
    rw [HF.out]
    exact ⟨rfl, by simp, fun _ => ⟨_, ⟨h1, _, h2, mapIs_first HK.out.1⟩, Nat.le_refl _, h3⟩⟩
  · have hf' : full n p = false := by simpa using hf
    rw [hf'] at hc
    have HF := Lib.hid hf'
    clear hf hf'
    go_enter Try.func10, Try.ntmps10
    go_wp2_with fail
    refine hc.mono ?_
    rintro e w' ⟨rfl, rfl⟩
    go_wp2_with fail
    go_ret
    rw [HF.out]
    exact ⟨rfl, by simp, by simp⟩

theorem new_bad (n : Int) (w : World) (h : ¬ (1 ≤ n ∧ n ≤ 48)) :
    Calls Try.prog 6 #[.int .i64 n] w fun e w' => e = .returned (.tuple #[.pointer none, .int .i64 1]) ∧ w' = w := by
  have h' : n < 1 ∨ 48 < n := by omega
  clear h
  rcases h' with h | h
  · go_enter Try.func6, Try.ntmps6
    go_wp2
    go_ret2
    exact ⟨rfl, rfl⟩
  · have h2 : ¬ n < 1 := by omega
    go_enter Try.func6, Try.ntmps6
    go_wp2
    go_ret2
    exact ⟨rfl, rfl⟩
theorem new_good (n : Int) (w : World) (h1 : 1 ≤ n) (h2 : n ≤ 48) :
    Calls Try.prog 6 #[.int .i64 n] w fun e w' => ∃ g m, e = .returned (.tuple #[.pointer (some ⟨g, 0, none⟩), .int .i64 0]) ∧ IsScan w' g m n 1 (fun _ => 0) ∧ w.heap.size ≤ g ∧ w.heap.size ≤ m ∧ Below w.heap.size w w' := by
  have hb := begin_any w.heap.size n 0 (.map none) (w.alloc (.cells #[.int .i64 n, .int .i64 0, .map none] 43)) (heap_alloc_new _ _)
  have h3 : ¬ n < 1 := by omega
  have h4 : ¬ 48 < n := by omega
  go_enter Try.func6, Try.ntmps6
  go_wp2_with fail
  refine hb.mono ?_
  rintro e w1 ⟨rfl, e1, e2, e3⟩
  rw [show wrap64 (0 + 1) = 1 from by unfold wrap64; omega] at e1
  go_wp2_with fail
  go_ret2
  refine ⟨_, _, rfl, ⟨e1, _, e2, mapIs_first h1⟩, Nat.le_refl _, by simp, ?_⟩
  exact (Below.alloc (Below.refl _ _) (Nat.le_refl _) _).trans (e3.below (by simp) (fun i hi => by omega))
end Go.Proofs.Ytjjnbdbilclakaa
