/- triuneref09.Check: its contract. No conditions. -/
import Derived.Test.YtjooacmmgbpkfaaDoorCheck
namespace Go.Proofs.YtjooacmmgbpkfaaDoor
open Go.RowKit

theorem numsOk_inR (c : Cfg) : c.numsOk = (inR c.gap 1 20 && inR c.wait 1 1000 && inR c.tries 1 5 && inR c.strikes 1 20 && inR c.queue 1 8 && inR c.idle 1 65535) := by
  unfold Cfg.numsOk Cfg.nums
  simp only [List.any_cons, List.any_nil, out_inR, Bool.not_or, Bool.not_not, Bool.or_false, Bool.and_assoc]
theorem take_any_succ (f : Pt → Bool) (l : List Pt) (k : Nat) (s : Pt) (h : l[k]? = some s) : (l.take (k + 1)).any f = ((l.take k).any f || f s) := by
  obtain ⟨hk, rfl⟩ := List.getElem?_eq_some_iff.1 h
  rw [List.take_succ_eq_append_getElem hk, List.any_append]
  simp
theorem dupAt_hit (l : List Pt) (i k : Nat) (p q : Pt) (hp : l[i]? = some p) (hq : l[k]? = some q) (hk : k < i) (h : clash p q = true) : dupAt l i = true := by
  unfold dupAt
  rw [hp]
  show (l.take i).any (clash p) = true
  refine List.any_eq_true.2 ⟨q, ?_, h⟩
  obtain ⟨hk2, rfl⟩ := List.getElem?_eq_some_iff.1 hq
  exact List.mem_take_iff_getElem.2 ⟨k, by omega, rfl⟩
theorem dupAt_miss (l : List Pt) (i : Nat) (p : Pt) (hp : l[i]? = some p) (h : (l.take i).any (clash p) = false) : dupAt l i = false := by
  unfold dupAt
  rw [hp]
  exact h

set_option maxRecDepth 100000 in
set_option maxHeartbeats 2000000 in
theorem ref_Check (c : Cfg) (v : Value) (w : World) (hv : Sz w 5 v c.pts.length (c.pts.flatMap Pt.vals)) (hu : c.u0 < 256 ∧ c.u1 < 256 ∧ c.u2 < 256) :
    Calls Tryd.prog 14 #[c.val v] w fun e w' => e = .returned (.int .i64 c.code) ∧ Ext w w' := by
  have HV := Lib.hid hv
  obtain ⟨a, cp, rfl, hlc, hcm, _, hcell⟩ := hv.at_ Pt.vals_length (by omega)
  have hlen : Hid (0 ≤ (c.pts.length : Int)) := Lib.hid (by omega)
  unfold maxLen at hcm
  obtain ⟨r, hr⟩ : ∃ r, r = c.code := ⟨_, rfl⟩
  rw [← hr]
  unfold Cfg.code at hr
  rw [numsOk_inR] at hr
  have C0 := Lib.hid (fun w => ref_in c.pts.length 1 48 w)
  obtain ⟨b0, h0⟩ : ∃ b, b = inR c.pts.length 1 48 := ⟨_, rfl⟩
  rw [← h0] at C0 hr
  have H0 := Lib.hid h0
  clear h0
  have C1 := Lib.hid (fun w => ref_in c.u0 1 247 w)
  generalize inR c.u0 1 247 = b1 at C1 hr
  have C2 := Lib.hid (fun w => ref_in c.u1 1 247 w)
  generalize inR c.u1 1 247 = b2 at C2 hr
  have C3 := Lib.hid (fun w => ref_in c.u2 1 247 w)
  generalize inR c.u2 1 247 = b3 at C3 hr
  have C4 := Lib.hid (fun w => ref_in c.gap 1 20 w)
  generalize inR c.gap 1 20 = b4 at C4 hr
  have C5 := Lib.hid (fun w => ref_in c.wait 1 1000 w)
  generalize inR c.wait 1 1000 = b5 at C5 hr
  have C6 := Lib.hid (fun w => ref_in c.tries 1 5 w)
  generalize inR c.tries 1 5 = b6 at C6 hr
  have C7 := Lib.hid (fun w => ref_in c.strikes 1 20 w)
  generalize inR c.strikes 1 20 = b7 at C7 hr
  have C8 := Lib.hid (fun w => ref_in c.queue 1 8 w)
  generalize inR c.queue 1 8 = b8 at C8 hr
  have C9 := Lib.hid (fun w => ref_in c.idle 1 65535 w)
  generalize inR c.idle 1 65535 = b9 at C9 hr
  have HR := Lib.hid hr
  have HCL := Lib.hid hcell
  have HM := Lib.hid ref_may
  clear hr hv hcell
  obtain ⟨hu0, hu1, hu2⟩ := hu
  have hcc := fun (W : World) (h : W.heap[w.heap.size]? = some (.cells (c.cells (.slice a c.pts.length cp)) 33 (0, 0))) => cfg_cells h
  have HCC := Lib.hid hcc
  clear hcc
  have HB0 : Hid ((w.alloc (.cells (c.cells (.slice a c.pts.length cp)) 33)).heap[w.heap.size]? = some (.cells (c.cells (.slice a c.pts.length cp)) 33 (0, 0))) := Lib.hid (heap_alloc_new _ _)
  obtain ⟨n0, n1, n2, gap, wait, tries, strikes, queue, idle, key, pts⟩ := c
  unfold Cfg.val
  unfold Cfg.cells at HB0 HCC ⊢
  dsimp only at *
  go_enter Tryd.func14, Tryd.ntmps14
  go_wp2_with fail
  refine (C0.out _).mono ?_
  rintro e w1 ⟨rfl, rfl⟩
  cases b0
  · go_wp2_with fail
    go_ret
    exact ⟨ret_int (by rw [HR.out]; rfl), (Ext.refl _).alloc _⟩
  go_wp2_with fail
  refine wp_loop_rounds 4 ?_
  rw [rounds_succ]
  go_wp2_with fail
  refine (C1.out _).mono ?_
  rintro e w1 ⟨rfl, rfl⟩
  cases b1
  · go_wp2_with fail
    go_ret
    exact ⟨ret_int (by rw [HR.out]; rfl), (Ext.refl _).alloc _⟩
  go_wp2_with fail
  rw [rounds_succ]
  go_wp2_with fail
  refine (C2.out _).mono ?_
  rintro e w1 ⟨rfl, rfl⟩
  cases b2
  · go_wp2_with fail
    go_ret
    exact ⟨ret_int (by rw [HR.out]; rfl), (Ext.refl _).alloc _⟩
  go_wp2_with fail
  rw [rounds_succ]
  go_wp2_with fail
  refine (C3.out _).mono ?_
  rintro e w1 ⟨rfl, rfl⟩
  cases b3
  · go_wp2_with fail
    go_ret
    exact ⟨ret_int (by rw [HR.out]; rfl), (Ext.refl _).alloc _⟩
  go_wp2_with fail
  rw [rounds_succ]
  go_wp2_with fail
  refine (C4.out _).mono ?_
  rintro e w1 ⟨rfl, rfl⟩
  cases b4
  · go_wp2_with fail
    go_ret
    exact ⟨ret_int (by rw [HR.out]; rfl), (Ext.refl _).alloc _⟩
  go_wp2_with fail
  refine (C5.out _).mono ?_
  rintro e w1 ⟨rfl, rfl⟩
  cases b5
  · go_wp2_with fail
    go_ret
    exact ⟨ret_int (by rw [HR.out]; rfl), (Ext.refl _).alloc _⟩
  go_wp2_with fail
  refine (C6.out _).mono ?_
  rintro e w1 ⟨rfl, rfl⟩
  cases b6
  · go_wp2_with fail
    go_ret
    exact ⟨ret_int (by rw [HR.out]; rfl), (Ext.refl _).alloc _⟩
  go_wp2_with fail
  refine (C7.out _).mono ?_
  rintro e w1 ⟨rfl, rfl⟩
  cases b7
  · go_wp2_with fail
    go_ret
    exact ⟨ret_int (by rw [HR.out]; rfl), (Ext.refl _).alloc _⟩
  go_wp2_with fail
  refine (C8.out _).mono ?_
  rintro e w1 ⟨rfl, rfl⟩
  cases b8
  · go_wp2_with fail
    go_ret
    exact ⟨ret_int (by rw [HR.out]; rfl), (Ext.refl _).alloc _⟩
  go_wp2_with fail
  refine (C9.out _).mono ?_
  rintro e w1 ⟨rfl, rfl⟩
  cases b9
  · go_wp2_with fail
    go_ret
    exact ⟨ret_int (by rw [HR.out]; rfl), (Ext.refl _).alloc _⟩
  go_wp2_with fail
  have HLN : Hid (r = ptsCode pts) := Lib.hid (by rw [HR.out]; simp)
  clear HR C0 C1 C2 C3 C4 C5 C6 C7 C8 C9
  go_loopw [4] (fun i wr => ∃ k : Nat, k ≤ pts.length ∧ i = .int .i64 k ∧ ((pts.take k).all Pt.may = true ∧ wr.heap[w.heap.size]? = some (.cells #[.int .u8 (n0 : Int), .int .u8 (n1 : Int), .int .u8 (n2 : Int), .int .i64 gap, .int .i64 wait, .int .i64 tries, .int .i64 strikes, .int .i64 queue, .int .i64 idle, .int .u16 (key : Int), .slice a pts.length cp] 33 (0, 0)) ∧ Ext w wr)) (fun i _ => pts.length - (intOf i).toNat)
  case atStart => exact ⟨0, by omega, rfl, rfl, HB0.out, (Ext.refl _).alloc _⟩
  case round =>
    obtain ⟨k, hk, rfl, hall, hblk, hext⟩ := hrel
    have HA := Lib.hid hall
    have HB := Lib.hid hblk
    have HX := Lib.hid hext
    obtain ⟨_, _, _, _, _, _, _, _, _, _, k10, _⟩ := HCC.out _ hblk
    clear hall hblk hext
    by_cases hlt : k < pts.length
    · obtain ⟨s, hs⟩ : ∃ s, pts[k]? = some s := ⟨_, List.getElem?_eq_getElem hlt⟩
      obtain ⟨b, off, rfl, _, hcx⟩ := HCL.out k s hs
      have c0 : wr.cell? ⟨b, off + k * 5, none⟩ = some (.int .i64 s.kind) := HX.out.cell' (hcx 0 _ (by omega) rfl)
      have c1 : wr.cell? ⟨b, off + k * 5 + 1, none⟩ = some (.int .i64 s.addr) := HX.out.cell' (hcx 1 _ (by omega) rfl)
      have c2 : wr.cell? ⟨b, off + k * 5 + 2, none⟩ = some (.int .i64 s.at_) := HX.out.cell' (hcx 2 _ (by omega) rfl)
      have c3 : wr.cell? ⟨b, off + k * 5 + 3, none⟩ = some (.int .i64 s.band) := HX.out.cell' (hcx 3 _ (by omega) rfl)
      have c4 : wr.cell? ⟨b, off + k * 5 + 4, none⟩ = some (.int .i64 s.safe) := HX.out.cell' (hcx 4 _ (by omega) rfl)
      have HS := Lib.hid hs
      clear hcx hs
      have HM1 := Lib.hid (fun w => HM.out s w)
      obtain ⟨o, ho⟩ : ∃ o, o = s.may := ⟨_, rfl⟩
      rw [← ho] at HM1
      have HO1 := Lib.hid ho
      clear ho
      cases o with
      | true =>
        go_wp2_with fail
        refine (HM1.out _).mono ?_
        rintro e w1 ⟨rfl, h1⟩
        go_wp2_with fail
        go_roundw
        case rel => exact ⟨k + 1, by omega, by go_num, by rw [all_take_succ pts k s HS.out, HA.out, ← HO1.out]; rfl, h1.heap HB.out, HX.out.trans h1⟩
        case measure => simp [intOf]; omega
      | false =>
        go_wp2_with fail
        refine (HM1.out _).mono ?_
        rintro e w1 ⟨rfl, h1⟩
        go_wp2_with fail
        go_ret
        refine ⟨ret_int ?_, HX.out.trans h1⟩
        rw [HLN.out]
        unfold ptsCode
        rw [all_not pts k s HS.out HO1.out.symm]
        rfl
    · have hkl : Hid (k = pts.length) := Lib.hid (by omega)
      have HAL : Hid (pts.all Pt.may = true) := Lib.hid (by have := HA.out; rwa [hkl.out, List.take_length] at this)
      go_wp2_with fail
      go_loopw [5] (fun i wr => ∃ k : Nat, k ≤ pts.length ∧ i = .int .i64 k ∧ ((∀ i, i < k → dupAt pts i = false) ∧ wr.heap[w.heap.size]? = some (.cells #[.int .u8 (n0 : Int), .int .u8 (n1 : Int), .int .u8 (n2 : Int), .int .i64 gap, .int .i64 wait, .int .i64 tries, .int .i64 strikes, .int .i64 queue, .int .i64 idle, .int .u16 (key : Int), .slice a pts.length cp] 33 (0, 0)) ∧ Ext w wr)) (fun i _ => pts.length - (intOf i).toNat)
      case atStart => exact ⟨0, by omega, rfl, fun i hi => by omega, HB.out, HX.out⟩
      case round =>
        clear k10
        obtain ⟨j, hj, rfl, hdup, hblk, hext⟩ := hrel
        have HD := Lib.hid hdup
        have HB2 := Lib.hid hblk
        have HX2 := Lib.hid hext
        obtain ⟨_, _, _, _, _, _, _, _, _, _, k10, _⟩ := HCC.out _ hblk
        clear hdup hblk hext
        by_cases hjt : j < pts.length
        · obtain ⟨p, hp⟩ : ∃ s, pts[j]? = some s := ⟨_, List.getElem?_eq_getElem hjt⟩
          have HP := Lib.hid hp
          clear hp
          go_wp2_with fail
          go_loopw [6] (fun i wr => ∃ k : Nat, k ≤ j ∧ i = .int .i64 k ∧ ((pts.take k).any (clash p) = false ∧ wr.heap[w.heap.size]? = some (.cells #[.int .u8 (n0 : Int), .int .u8 (n1 : Int), .int .u8 (n2 : Int), .int .i64 gap, .int .i64 wait, .int .i64 tries, .int .i64 strikes, .int .i64 queue, .int .i64 idle, .int .u16 (key : Int), .slice a pts.length cp] 33 (0, 0)) ∧ Ext w wr)) (fun i _ => j - (intOf i).toNat)
          case atStart => exact ⟨0, by omega, rfl, rfl, HB2.out, HX2.out⟩
          case round =>
            clear k10
            obtain ⟨m, hm, rfl, hno, hblk, hext⟩ := hrel
            have HN := Lib.hid hno
            have HB3 := Lib.hid hblk
            have HX3 := Lib.hid hext
            obtain ⟨_, _, _, _, _, _, _, _, _, _, k10, hsz⟩ := HCC.out _ hblk
            clear hno hblk hext
            by_cases hmt : m < j
            · obtain ⟨q, hq⟩ : ∃ s, pts[m]? = some s := ⟨_, List.getElem?_eq_getElem (by omega)⟩
              obtain ⟨b, off, rfl, _, hcx⟩ := HCL.out j p HP.out
              obtain ⟨b', off', hbb, _, hcy⟩ := HCL.out m q hq
              obtain ⟨rfl, rfl⟩ : b' = b ∧ off' = off := by simp at hbb; exact ⟨hbb.1.symm, hbb.2.symm⟩
              have c0 : wr.cell? ⟨b', off' + j * 5, none⟩ = some (.int .i64 p.kind) := HX3.out.cell' (hcx 0 _ (by omega) rfl)
              have c1 : wr.cell? ⟨b', off' + j * 5 + 1, none⟩ = some (.int .i64 p.addr) := HX3.out.cell' (hcx 1 _ (by omega) rfl)
              have c2 : wr.cell? ⟨b', off' + j * 5 + 2, none⟩ = some (.int .i64 p.at_) := HX3.out.cell' (hcx 2 _ (by omega) rfl)
              have c3 : wr.cell? ⟨b', off' + j * 5 + 3, none⟩ = some (.int .i64 p.band) := HX3.out.cell' (hcx 3 _ (by omega) rfl)
              have c4 : wr.cell? ⟨b', off' + j * 5 + 4, none⟩ = some (.int .i64 p.safe) := HX3.out.cell' (hcx 4 _ (by omega) rfl)
              have d0 : wr.cell? ⟨b', off' + m * 5, none⟩ = some (.int .i64 q.kind) := HX3.out.cell' (hcy 0 _ (by omega) rfl)
              have d1 : wr.cell? ⟨b', off' + m * 5 + 1, none⟩ = some (.int .i64 q.addr) := HX3.out.cell' (hcy 1 _ (by omega) rfl)
              have d2 : wr.cell? ⟨b', off' + m * 5 + 2, none⟩ = some (.int .i64 q.at_) := HX3.out.cell' (hcy 2 _ (by omega) rfl)
              have d3 : wr.cell? ⟨b', off' + m * 5 + 3, none⟩ = some (.int .i64 q.band) := HX3.out.cell' (hcy 3 _ (by omega) rfl)
              have d4 : wr.cell? ⟨b', off' + m * 5 + 4, none⟩ = some (.int .i64 q.safe) := HX3.out.cell' (hcy 4 _ (by omega) rfl)
              have HQ := Lib.hid hq
              have hbs : b' < wr.heap.size := block_lt_of_cell c0
              clear hcx hcy hq hbb
              by_cases e1 : p.kind = q.kind
              · by_cases e2 : p.addr = q.addr
                · have HCL2 : Hid (clash p q = true) := Lib.hid (by unfold clash; simp [e1, e2])
                  have E1 : (p.kind == q.kind) = true := by simp [e1]
                  have E2 : (p.addr == q.addr) = true := by simp [e2]
                  have Hx := Lib.hid hmt
                  clear e1 e2
                  go_wp2_with fail
                  go_ret
                  refine ⟨ret_int ?_, (HX3.out.alloc _).alloc _⟩
                  rw [HLN.out]
                  unfold ptsCode
                  rw [HAL.out, dup_yes (dupAt_hit pts j m p q HP.out HQ.out hmt HCL2.out)]
                  rfl
                · by_cases e3 : p.at_ = q.at_
                  · have HCL2 : Hid (clash p q = true) := Lib.hid (by unfold clash; simp [e1, e2, e3])
                    have E1 : (p.kind == q.kind) = true := by simp [e1]
                    have E2 : (p.addr == q.addr) = false := by simp [e2]
                    have E3 : (p.at_ == q.at_) = true := by simp [e3]
                    have Hx := Lib.hid hmt
                    clear e1 e2 e3
                    go_wp2_with fail
                    go_ret
                    refine ⟨ret_int ?_, (HX3.out.alloc _).alloc _⟩
                    rw [HLN.out]
                    unfold ptsCode
                    rw [HAL.out, dup_yes (dupAt_hit pts j m p q HP.out HQ.out hmt HCL2.out)]
                    rfl
                  · have HCL2 : Hid (clash p q = false) := Lib.hid (by unfold clash; simp [e1, e2, e3])
                    have E1 : (p.kind == q.kind) = true := by simp [e1]
                    have E2 : (p.addr == q.addr) = false := by simp [e2]
                    have E3 : (p.at_ == q.at_) = false := by simp [e3]
                    have Hx := Lib.hid hmt
                    clear e1 e2 e3
                    go_wp2_with fail
                    go_roundw
                    case rel => exact ⟨m + 1, by omega, by go_num, by rw [take_any_succ _ pts m q HQ.out, HN.out, HCL2.out]; rfl, (((Ext.refl _).alloc _).alloc _).heap HB3.out, (HX3.out.alloc _).alloc _⟩
                    case measure => simp [intOf]; omega
              · have HCL2 : Hid (clash p q = false) := Lib.hid (by unfold clash; simp [e1])
                have E1 : (p.kind == q.kind) = false := by simp [e1]
                have Hx := Lib.hid hmt
                clear e1
                go_wp2_with fail
                go_roundw
                case rel => exact ⟨m + 1, by omega, by go_num, by rw [take_any_succ _ pts m q HQ.out, HN.out, HCL2.out]; rfl, (((Ext.refl _).alloc _).alloc _).heap HB3.out, (HX3.out.alloc _).alloc _⟩
                case measure => simp [intOf]; omega
            · have hmj : Hid (m = j) := Lib.hid (by omega)
              go_wp2_with fail
              go_roundw
              case rel =>
                refine ⟨j + 1, by omega, by go_num, fun i hi => ?_, HB3.out, HX3.out⟩
                by_cases hij : i = j
                · subst hij
                  exact dupAt_miss pts i p HP.out (by have := HN.out; rwa [hmj.out] at this)
                · exact HD.out i (by omega)
              case measure => simp [intOf]; omega
        · have hjl : Hid (j = pts.length) := Lib.hid (by omega)
          go_wp2_with fail
          go_ret
          refine ⟨ret_int ?_, HX2.out⟩
          rw [HLN.out]
          unfold ptsCode
          rw [HAL.out, dup_no (fun i hi => HD.out i (by rw [hjl.out]; exact hi))]
          rfl
end Go.Proofs.YtjooacmmgbpkfaaDoor
