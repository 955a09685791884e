/- config.points: its contract: which trouble a list of points has. No conditions. -/
import Derived.Test.YtjooacmmgbpkfaaDoorPoints
namespace Go.Proofs.YtjooacmmgbpkfaaDoor
open Go.RowKit Go.Maps Go.WideMaps

def ptrTrouble (g : Nat) : Value := .iface 63 (.pointer (some ⟨g, 0, none⟩))
/-- What an error of points is. -/
def TroubleAt (w' : World) (base : Nat) (r : Value) (c : Int) : Prop :=
  (c = 0 → r = .nilIface) ∧ (c ≠ 0 → ∃ g i : _, r = ptrTrouble g ∧ base ≤ g ∧ w'.heap[g]? = some (.cells #[.int .i64 i, .int .i64 c] 70 (0, 0)))
theorem all_take_succ (l : List Pt) (k : Nat) (s : Pt) (h : l[k]? = some s) : (l.take (k + 1)).all Pt.may = ((l.take k).all Pt.may && s.may) := by
  obtain ⟨hk, rfl⟩ := List.getElem?_eq_some_iff.1 h
  rw [List.take_succ_eq_append_getElem hk, List.all_append]
  simp
theorem all_not (l : List Pt) (k : Nat) (s : Pt) (h : l[k]? = some s) (hs : s.may = false) : l.all Pt.may = false := by
  obtain ⟨hk, rfl⟩ := List.getElem?_eq_some_iff.1 h
  exact List.all_eq_false.2 ⟨_, List.getElem_mem hk, by simp [hs]⟩

theorem i64_0 : I64 0 := by unfold I64; decide
theorem i64_1 : I64 1 := by unfold I64; decide
theorem index0 (a b c d e f : Int) (w : World) : (Instr.index 99 (.agg #[.int .i64 a, .int .i64 b, .int .i64 c, .int .i64 d, .int .i64 e, .int .i64 f]) (.int .i64 0)).run Tryd.prog w = .ok (.agg #[.int .i64 a, .int .i64 b, .int .i64 c]) w := by kernel_rfl
theorem index1 (a b c d e f : Int) (w : World) : (Instr.index 99 (.agg #[.int .i64 a, .int .i64 b, .int .i64 c, .int .i64 d, .int .i64 e, .int .i64 f]) (.int .i64 1)).run Tryd.prog w = .ok (.agg #[.int .i64 d, .int .i64 e, .int .i64 f]) w := by kernel_rfl
theorem may_I64 {p : Pt} (h : p.may = true) : I64 p.kind ∧ I64 p.addr ∧ I64 p.at_ := by
  rw [may_inR] at h
  simp [inR] at h
  refine ⟨WalkArith.wf_i64 (by omega), WalkArith.wf_i64 (by omega), WalkArith.wf_i64 (by omega)⟩

set_option maxRecDepth 100000 in
set_option maxHeartbeats 1000000 in
theorem config_points (v : Value) (l : List Pt) (w : World) (hl : Sz w 5 v l.length (l.flatMap Pt.vals)) (h48 : l.length ≤ 48) :
    Calls Tryd.prog 29 #[v] w fun e w' => ∃ r, e = .returned r ∧ (TroubleAt w' w.heap.size r (ptsCode l) ∧ Ext w w') := by
  obtain ⟨a, c, rfl, hlc, hcm, _, hcell⟩ := hl.at_ Pt.vals_length (by omega)
  unfold maxLen at hcm
  have HC := Lib.hid hcell
  have HM := Lib.hid config_may
  have hmm := @run_makeMap Tryd.prog
  have hi0 := index0
  have hi1 := index1
  clear hcell hl
  go_enter Tryd.func29, Tryd.ntmps29
  go_wp2_with fail
  go_loopw [12] (fun i wr => ∃ k : Nat, k ≤ l.length ∧ i = .int .i64 k ∧ (l.take k).all Pt.may = true ∧ Ext w wr) (fun i _ => l.length - (intOf i).toNat)
  case atStart => exact ⟨0, by omega, rfl, rfl, Ext.refl _⟩
  case round =>
    obtain ⟨k, hk, rfl, hany, hext⟩ := hrel
    have HO := Lib.hid hany
    have HX := Lib.hid hext
    clear hany hext
    by_cases hlt : k < l.length
    · obtain ⟨s, hs⟩ : ∃ s, l[k]? = some s := ⟨_, List.getElem?_eq_getElem hlt⟩
      obtain ⟨b, off, rfl, _, hcx⟩ := HC.out k s hs
      have c0 : wr.cell? ⟨b, off + k * 5, none⟩ = some (.int .i64 s.kind) := HX.out.cell' (hcx 0 _ (by omega) rfl)
      have c1 : wr.cell? ⟨b, off + k * 5 + 1, none⟩ = some (.int .i64 s.addr) := HX.out.cell' (hcx 1 _ (by omega) rfl)
      have c2 : wr.cell? ⟨b, off + k * 5 + 2, none⟩ = some (.int .i64 s.at_) := HX.out.cell' (hcx 2 _ (by omega) rfl)
      have c3 : wr.cell? ⟨b, off + k * 5 + 3, none⟩ = some (.int .i64 s.band) := HX.out.cell' (hcx 3 _ (by omega) rfl)
      have c4 : wr.cell? ⟨b, off + k * 5 + 4, none⟩ = some (.int .i64 s.safe) := HX.out.cell' (hcx 4 _ (by omega) rfl)
      have HS := Lib.hid hs
      clear hcx hs
      have HM1 := Lib.hid (fun w => HM.out s w)
      obtain ⟨o, ho⟩ : ∃ o, o = s.may := ⟨_, rfl⟩
      rw [← ho] at HM1
      have HO1 := Lib.hid ho
      clear ho
      cases o with
      | true =>
        go_wp2_with fail
        refine (HM1.out _).mono ?_
        rintro e w1 ⟨rfl, h1⟩
        go_wp2_with fail
        go_roundw
        case rel => exact ⟨k + 1, by omega, by go_num, by rw [all_take_succ l k s HS.out, HO.out, ← HO1.out]; rfl, (HX.out.alloc _).trans h1⟩
        case measure => simp [intOf]; omega
      | false =>
        go_wp2_with fail
        refine (HM1.out _).mono ?_
        rintro e w1 ⟨rfl, h1⟩
        go_wp2_with fail
        go_ret
        have hc1 : ptsCode l = 1 := by unfold ptsCode; rw [all_not l k s HS.out HO1.out.symm]; rfl
        rw [hc1]
        have hX := (HX.out.alloc _).trans h1
        refine ⟨_, rfl, ⟨fun h => by simp at h, fun _ => ⟨_, _, rfl, hX.size, heap_alloc_new _ _⟩⟩, hX.alloc _⟩
    · have hkl : Hid (k = l.length) := Lib.hid (by omega)
      have HA : Hid (l.all Pt.may = true) := Lib.hid (by have := HO.out; rwa [hkl.out, List.take_length] at this)
      go_wp2_with fail
      obtain ⟨wo, hwo⟩ : ∃ wo : World, wo = wr := ⟨_, rfl⟩
      rw [← hwo]
      rw [← hwo] at HX
      clear hwo
      go_loopw [28] (fun i wr => ∃ j : Nat, j ≤ l.length ∧ i = .int .i64 j ∧ ((∀ i, i < j → dupAt l i = false) ∧ (∃ D : DataW Unit, wr.ownsMap Tryd.prog 98 (plainElem Tryd.prog 4) wo.heap.size (2 * j) D ∧ SeenAs D (keysOf (l.take j))) ∧ Ext w wr)) (fun i _ => l.length - (intOf i).toNat)
      case atStart => exact ⟨0, by omega, rfl, fun i hi => by omega, ⟨_, World.ownsMap_made _ _ _ _, SeenAs.nil⟩, HX.out.alloc _⟩
      case round =>
        obtain ⟨j, hj, rfl, hdup, ⟨D, hown, hD⟩, hext⟩ := hrel
        have HU := Lib.hid hdup
        have HW := Lib.hid hown
        have HD := Lib.hid hD
        have HX2 := Lib.hid hext
        clear hdup hown hD hext
        by_cases hjt : j < l.length
        · obtain ⟨s, hs⟩ : ∃ s, l[j]? = some s := ⟨_, List.getElem?_eq_getElem hjt⟩
          obtain ⟨b, off, rfl, _, hcx⟩ := HC.out j s hs
          have c0 : wr.cell? ⟨b, off + j * 5, none⟩ = some (.int .i64 s.kind) := HX2.out.cell' (hcx 0 _ (by omega) rfl)
          have c1 : wr.cell? ⟨b, off + j * 5 + 1, none⟩ = some (.int .i64 s.addr) := HX2.out.cell' (hcx 1 _ (by omega) rfl)
          have c2 : wr.cell? ⟨b, off + j * 5 + 2, none⟩ = some (.int .i64 s.at_) := HX2.out.cell' (hcx 2 _ (by omega) rfl)
          have c3 : wr.cell? ⟨b, off + j * 5 + 3, none⟩ = some (.int .i64 s.band) := HX2.out.cell' (hcx 3 _ (by omega) rfl)
          have c4 : wr.cell? ⟨b, off + j * 5 + 4, none⟩ = some (.int .i64 s.safe) := HX2.out.cell' (hcx 4 _ (by omega) rfl)
          have HS := Lib.hid hs
          clear hcx hs
          have hb : s.may = true := by
            obtain ⟨hk, rfl⟩ := List.getElem?_eq_some_iff.1 HS.out
            exact List.all_eq_true.1 HA.out _ (List.getElem_mem hk)
          have hI := may_I64 hb
          obtain ⟨l0, hl0⟩ := key3 hI.1 hI.2.1 i64_0
          obtain ⟨l1, hl1⟩ := key3 hI.1 hI.2.2 i64_1
          obtain ⟨f0, hf0⟩ : ∃ f0, f0 = (keysOf (l.take j)).contains (s.kind, s.addr, 0) := ⟨_, rfl⟩
          have ha0 : D.atKey l0 (.lit (.bool false)) = .lit (.bool f0) := by rw [hf0]; exact HD.out _ _ _ _ hl0
          have HK0 := Lib.hid hl0
          have HK1 := Lib.hid hl1
          have HF0 := Lib.hid hf0
          have HA0 := Lib.hid ha0
          clear hb hI hl0 hl1 hf0 ha0
          go_wp2_with fail
          refine wp_loop_rounds 3 ?_
          rw [rounds_succ]
          cases f0 with
          | true =>
            go_wp2_with (at_lookup; refine lookup_own_bool _ rfl _ _ 97 rfl 98 4 keyLaw Tryd.underlying97 Tryd.underlying4 (zeroBool _) wo.heap.size (2 * j) D rfl ((HW.out.alloc _).alloc _) _ l0 rfl HK0.out true HA0.out ?_)
            go_ret
            have hc1 : ptsCode l = 9 := by
              unfold ptsCode
              rw [HA.out, dup_yes (i := j) (by rw [dupAt_keys l j s HS.out, ← HF0.out]; rfl)]
              rfl
            rw [hc1]
            have hz := HX2.out.size
            exact ⟨_, rfl, ⟨fun h => by simp at h, fun _ => ⟨_, _, rfl, (by omega), new_at (by simp) _ _⟩⟩, ((HX2.out.alloc _).alloc _).alloc _⟩
          | false =>
            go_wp2_with (first | (at_lookup; refine lookup_own_bool _ rfl _ _ 97 rfl 98 4 keyLaw Tryd.underlying97 Tryd.underlying4 (zeroBool _) wo.heap.size (2 * j) D rfl ((HW.out.alloc _).alloc _) _ l0 rfl HK0.out false HA0.out ?_) | (at_mapUpdate; refine wpList_mapUpdate_own _ rfl _ _ _ 97 rfl 98 4 keyLaw Tryd.underlying97 _ wo.heap.size (2 * j) D rfl ((HW.out.alloc _).alloc _) (by unfold maxLen; omega) _ _ l0 rfl rfl HK0.out (.lit (.bool true)) [] (plainElem_bool Tryd.underlying4 true) ?_; intro w1 hown1 hg1))
            rw [rounds_succ]
            have hs1 := HD.out.put HW.out.isMap HK0.out
            have hx1 : Ext w w1 := ((HX2.out.alloc _).alloc _).grown hg1 (fun k hk => by cases hk; exact HX.out.size)
            obtain ⟨D1, hD1⟩ : ∃ D1, D1 = D.put l0 (.lit (.bool true)) := ⟨_, rfl⟩
            rw [← hD1] at hs1 hown1
            obtain ⟨f1, hf1⟩ : ∃ f1, f1 = (keysOf (l.take j) ++ [(s.kind, s.addr, 0)]).contains (s.kind, s.at_, 1) := ⟨_, rfl⟩
            have ha1 : D1.atKey l1 (.lit (.bool false)) = .lit (.bool f1) := by rw [hf1]; exact hs1 _ _ _ _ HK1.out
            have HW1 := Lib.hid hown1
            have HX3 := Lib.hid hx1
            have HS1 := Lib.hid hs1
            have HF1 := Lib.hid hf1
            have HA1 := Lib.hid ha1
            clear hown1 hx1 hs1 hf1 ha1 hD1 hg1
            cases f1 with
            | true =>
              go_wp2_with (at_lookup; refine lookup_own_bool _ rfl _ _ 97 rfl 98 4 keyLaw Tryd.underlying97 Tryd.underlying4 (zeroBool _) wo.heap.size (2 * j + 1) D1 rfl (HW1.out.alloc _) _ l1 rfl HK1.out true HA1.out ?_)
              go_ret
              have hc1 : ptsCode l = 9 := by
                unfold ptsCode
                rw [HA.out, dup_yes (i := j) (by rw [dupAt_keys l j s HS.out, ← HF0.out, ← HF1.out]; rfl)]
                rfl
              rw [hc1]
              have hz := HX3.out.size
              exact ⟨_, rfl, ⟨fun h => by simp at h, fun _ => ⟨_, _, rfl, (by omega), new_at (by simp) _ _⟩⟩, (HX3.out.alloc _).alloc _⟩
            | false =>
              go_wp2_with (first | (at_lookup; refine lookup_own_bool _ rfl _ _ 97 rfl 98 4 keyLaw Tryd.underlying97 Tryd.underlying4 (zeroBool _) wo.heap.size (2 * j + 1) D1 rfl (HW1.out.alloc _) _ l1 rfl HK1.out false HA1.out ?_) | (at_mapUpdate; refine wpList_mapUpdate_own _ rfl _ _ _ 97 rfl 98 4 keyLaw Tryd.underlying97 _ wo.heap.size (2 * j + 1) D1 rfl (HW1.out.alloc _) (by unfold maxLen; omega) _ _ l1 rfl rfl HK1.out (.lit (.bool true)) [] (plainElem_bool Tryd.underlying4 true) ?_; intro w2 hown2 hg2))
              rw [rounds_succ]
              have hs2 := HS1.out.put HW1.out.isMap HK1.out
              have hx2 : Ext w w2 := (HX3.out.alloc _).grown hg2 (fun k hk => by cases hk; exact HX.out.size)
              have HW2 := Lib.hid hown2
              have HX4 := Lib.hid hx2
              have HS2 := Lib.hid hs2
              clear hown2 hx2 hs2 hg2
              go_wp2_with fail
              go_roundw
              case rel =>
                refine ⟨j + 1, by omega, by go_num, ?_, ⟨_, HW2.out, by rw [keysOf_snoc l j s HS.out]; exact HS2.out⟩, HX4.out⟩
                intro i hi
                by_cases hij : i = j
                · subst hij
                  rw [dupAt_keys l i s HS.out, ← HF0.out, ← HF1.out]
                  rfl
                · exact HU.out i (by omega)
              case measure => simp [intOf]; omega
        · have hjl : Hid (j = l.length) := Lib.hid (by omega)
          go_wp2_with fail
          go_ret
          have hc1 : ptsCode l = 0 := by
            unfold ptsCode
            rw [HA.out, dup_no (fun i hi => HU.out i (by rw [hjl.out]; exact hi))]
            rfl
          rw [hc1]
          exact ⟨_, rfl, ⟨fun _ => rfl, fun h => absurd rfl h⟩, HX2.out⟩
end Go.Proofs.YtjooacmmgbpkfaaDoor
