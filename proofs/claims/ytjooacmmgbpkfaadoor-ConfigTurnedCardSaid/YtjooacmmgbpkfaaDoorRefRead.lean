/- triuneref09.Read: its contract. -/
import Derived.Test.YtjooacmmgbpkfaaDoorReadQ
namespace Go.Proofs.YtjooacmmgbpkfaaDoor
open Go.RowKit

theorem info_rcfg : (Tryd.prog.info? 33).map (·.size) = some zeroCfg.size := by kernel_rfl
set_option maxRecDepth 100000 in
theorem ref_Read_sum (v : Value) (l : List Nat) (w : World) (hl : Sl w v (by8 l)) (hb : Bytes l) (h : l.length < 2 ∨ crcL 65535 l ≠ 0) (h47 : l.length ≤ 140737488355328) :
    Calls Tryd.prog 10 #[v] w fun e w' => e = .returned (.tuple #[.agg zeroCfg, .int .i64 6]) ∧ Ext w w' := by
  have HC := Lib.hid (fun (W : World) (hx : Ext w W) => ref_Cut_no v l W (hl.ext hx) hb h h47)
  clear hl hb h h47
  go_enter Tryd.func10, Tryd.ntmps10
  go_wp2_with fail
  refine (HC.out _ ((Ext.refl _).alloc _)).mono ?_
  rintro e w1 ⟨rfl, hx1⟩
  have hres := hx1.heap (heap_alloc_new w _)
  have HX1 := Lib.hid (((Ext.refl w).alloc _).trans hx1)
  clear hx1
  obtain ⟨r0, r1, r2, r3, r4, r5, r6, r7, r8, r9, r10, rlt, rf⟩ := res_cells hres
  have HRes := Lib.hid hres
  have HSelf : Hid (w1.setRow w.heap.size #[.int .u8 0, .int .u8 0, .int .u8 0, .int .i64 0, .int .i64 0, .int .i64 0, .int .i64 0, .int .i64 0, .int .i64 0, .int .u16 0, .slice none 0 0] = w1) := Lib.hid (setRow_self _ _ _ _ _ hres)
  clear hres
  go_wp2_with (refine wpList_store_row rfl 33 _ _ rfl w.heap.size #[.int .u8 0, .int .u8 0, .int .u8 0, .int .i64 0, .int .i64 0, .int .i64 0, .int .i64 0, .int .i64 0, .int .i64 0, .int .u16 0, .slice none 0 0] rfl rfl _ zeroCfg HRes.out info_rcfg rfl one_zero ?_; rw [HSelf.out])
  exact bodyPost_ret (v := .tuple #[.agg zeroCfg, .int .i64 6]) (by simp [results, Tryd.results10, go_sem, r0, r1, r2, r3, r4, r5, r6, r7, r8, r9, r10, zeroCfg]) rfl ⟨rfl, HX1.out⟩

set_option maxRecDepth 100000 in
set_option maxHeartbeats 1000000 in
theorem ref_Read_form (v : Value) (l : List Nat) (w : World) (hl : Sl w v (by8 l)) (hb : Bytes l) (h2 : 2 ≤ l.length) (h : crcL 65535 l = 0) (h47 : l.length ≤ 3000) (x : List Nat) (hx : x = l.take (l.length - 2)) (hf : formB x = false) :
    Calls Tryd.prog 10 #[v] w fun e w' => e = .returned (.tuple #[.agg zeroCfg, .int .i64 2]) ∧ Ext w w' := by
  have HC := Lib.hid (fun (W : World) (hx : Ext w W) => ref_Cut_yes v l W (hl.ext hx) hb h2 h (by omega))
  rw [← hx] at HC
  have hxl : x.length = l.length - 2 := by rw [hx, List.length_take]; omega
  have hxb : Bytes x := fun c hc => hb c (by rw [hx] at hc; exact List.mem_of_mem_take hc)
  rw [← hxl] at HC
  have hn3 : x.length ≤ 3000 := by omega
  clear hl h hx hxl h2 h47 hb
  go_enter Tryd.func10, Tryd.ntmps10
  go_wp2_with fail
  refine (HC.out _ ((Ext.refl _).alloc _)).mono ?_
  rintro e w1 ⟨v1, rfl, ho, hx1⟩
  have hres := hx1.heap (heap_alloc_new w _)
  have HX1 := Lib.hid (((Ext.refl w).alloc _).trans hx1)
  clear hx1
  obtain ⟨r0, r1, r2, r3, r4, r5, r6, r7, r8, r9, r10, rlt, rf⟩ := res_cells hres
  have HRes := Lib.hid hres
  have HSelf : Hid (w1.setRow w.heap.size #[.int .u8 0, .int .u8 0, .int .u8 0, .int .i64 0, .int .i64 0, .int .i64 0, .int .i64 0, .int .i64 0, .int .i64 0, .int .u16 0, .slice none 0 0] = w1) := Lib.hid (setRow_self _ _ _ _ _ hres)
  have hsl := Sl.own8 ho
  obtain ⟨a, c, rfl, hc1, hc2, _, hcell⟩ := hsl.bytes
  unfold maxLen at hc2
  have HO := Lib.hid ho
  clear ho hres
  by_cases h18 : 18 ≤ x.length
  · obtain ⟨b, off, rfl, _, k17⟩ := hcell 17 (by omega)
    obtain ⟨s4, hcv, hs4⟩ := conv4 w1 _ c x hsl hxb (by omega)
    have hy := hxb.at_ 17
    unfold formB at hf
    obtain ⟨n, hn⟩ : ∃ n, n = x.length := ⟨_, rfl⟩
    obtain ⟨y, hy17⟩ : ∃ y, y = x.getD 17 0 := ⟨_, rfl⟩
    rw [← hn] at h18 hn3 hc1 hf ⊢
    rw [← hy17] at k17 hy hf
    by_cases hm : x.take 4 = [84, 77, 82, 49]
    · have hs := hs4.2 hm
      have hne : n ≠ 18 + 9 * y := by
        intro e
        simp [h18, hm, ← e] at hf
      have hne2 : ((n : Int) != 18 + 9 * (y : Int)) = true := by simp; omega
      clear hs4 hm hn hy17 hne hsl hcell hf hxb
      go_wp2_with (refine wpList_store_row rfl 33 _ _ rfl w.heap.size #[.int .u8 0, .int .u8 0, .int .u8 0, .int .i64 0, .int .i64 0, .int .i64 0, .int .i64 0, .int .i64 0, .int .i64 0, .int .u16 0, .slice none 0 0] rfl rfl _ zeroCfg HRes.out info_rcfg rfl one_zero ?_; rw [HSelf.out])
      exact bodyPost_ret (v := .tuple #[.agg zeroCfg, .int .i64 2]) (by simp [results, Tryd.results10, go_sem, r0, r1, r2, r3, r4, r5, r6, r7, r8, r9, r10, zeroCfg]) rfl ⟨rfl, HX1.out⟩
    · have hs : ¬ s4.toList = [84, 77, 82, 49] := fun e => hm (hs4.1 e)
      clear hs4 hm hn hy17 hsl hcell hf hxb
      go_wp2_with (refine wpList_store_row rfl 33 _ _ rfl w.heap.size #[.int .u8 0, .int .u8 0, .int .u8 0, .int .i64 0, .int .i64 0, .int .i64 0, .int .i64 0, .int .i64 0, .int .i64 0, .int .u16 0, .slice none 0 0] rfl rfl _ zeroCfg HRes.out info_rcfg rfl one_zero ?_; rw [HSelf.out])
      exact bodyPost_ret (v := .tuple #[.agg zeroCfg, .int .i64 2]) (by simp [results, Tryd.results10, go_sem, r0, r1, r2, r3, r4, r5, r6, r7, r8, r9, r10, zeroCfg]) rfl ⟨rfl, HX1.out⟩
  · obtain ⟨n, hn⟩ : ∃ n, n = x.length := ⟨_, rfl⟩
    rw [← hn] at h18 hn3 hc1 ⊢
    clear hn hsl hcell hxb hf
    go_wp2_with (refine wpList_store_row rfl 33 _ _ rfl w.heap.size #[.int .u8 0, .int .u8 0, .int .u8 0, .int .i64 0, .int .i64 0, .int .i64 0, .int .i64 0, .int .i64 0, .int .i64 0, .int .u16 0, .slice none 0 0] rfl rfl _ zeroCfg HRes.out info_rcfg rfl one_zero ?_; rw [HSelf.out])
    exact bodyPost_ret (v := .tuple #[.agg zeroCfg, .int .i64 2]) (by simp [results, Tryd.results10, go_sem, r0, r1, r2, r3, r4, r5, r6, r7, r8, r9, r10, zeroCfg]) rfl ⟨rfl, HX1.out⟩

set_option maxRecDepth 100000 in
set_option maxHeartbeats 2000000 in
theorem ref_Read_main (v : Value) (l : List Nat) (w : World) (hl : Sl w v (by8 l)) (hb : Bytes l) (h2 : 2 ≤ l.length) (h : crcL 65535 l = 0) (h47 : l.length ≤ 3000) (x : List Nat) (hx : x = l.take (l.length - 2)) (hf : formB x = true) :
    Calls Tryd.prog 10 #[v] w (ReadPost w (cfgXY (fun k => x.getD k 0) (fun k => 256 * x.getD k 0 + x.getD (k + 1) 0)).cfg) := by
  have HC := Lib.hid (fun (W : World) (hx : Ext w W) => ref_Cut_yes v l W (hl.ext hx) hb h2 h (by omega))
  rw [← hx] at HC
  have hxl : x.length = l.length - 2 := by rw [hx, List.length_take]; omega
  have hxb : Bytes x := fun c hc => hb c (by rw [hx] at hc; exact List.mem_of_mem_take hc)
  rw [← hxl] at HC
  have hn3 : x.length ≤ 3000 := by omega
  clear hl h hx hxl h2 h47 hb
  obtain ⟨X, hX⟩ : ∃ X : Nat → Nat, X = fun k => x.getD k 0 := ⟨_, rfl⟩
  obtain ⟨Y, hY⟩ : ∃ Y : Nat → Nat, Y = fun k => 256 * x.getD k 0 + x.getD (k + 1) 0 := ⟨_, rfl⟩
  rw [← hX, ← hY]
  have HXb : Hid (∀ k, X k < 256) := Lib.hid (fun k => by rw [hX]; exact hxb.at_ k)
  have HYb : Hid (∀ k, Y k < 65536) := Lib.hid (fun k => by rw [hY]; have h1 := hxb.at_ k; have h2 := hxb.at_ (k + 1); simp only; omega)
  have hf' := hf
  unfold formB at hf'
  simp only [Bool.and_eq_true, decide_eq_true_eq] at hf'
  obtain ⟨h18, hm, hln⟩ := hf'
  have hX17 : X 17 = x.getD 17 0 := by rw [hX]
  rw [← hX17] at hln
  have hx17 := HXb.out 17
  have HXY := Lib.hid (And.intro hX hY)
  clear hf hX17
  go_enter Tryd.func10, Tryd.ntmps10
  go_wp2_with fail
  refine (HC.out _ ((Ext.refl _).alloc _)).mono ?_
  rintro e w1 ⟨v1, rfl, ho, hx1⟩
  have HRes := Lib.hid (hx1.heap (heap_alloc_new w _))
  have HX1 := Lib.hid (((Ext.refl w).alloc _).trans hx1)
  have hlt1 : w.heap.size < w1.heap.size := by have := hx1.size; simp at this; omega
  clear hx1
  have hsl := Sl.own8 ho
  have HSl := Lib.hid hsl
  obtain ⟨a, c, rfl, hc1, hc2, _, hcell⟩ := hsl.bytes
  unfold maxLen at hc2
  clear ho
  obtain ⟨bb, off, rfl, hbl, k17⟩ := hcell 17 (by omega)
  obtain ⟨s4, hcv, hs4⟩ := conv4 w1 _ c x hsl hxb (by omega)
  have hs := hs4.2 hm
  have HCell : Hid (∀ i, i < x.length → w1.cell? ⟨bb, off + i, none⟩ = some (.int .u8 ((X i : Nat) : Int))) := Lib.hid fun i hi => by
    obtain ⟨b', off', e, _, k⟩ := hcell i hi
    simp at e
    obtain ⟨rfl, rfl⟩ := e
    rw [hX]
    exact k
  have HNum : Hid (∀ (k : Nat) (W : World), Ext w1 W → k + 1 < x.length → Calls Tryd.prog 25 #[.slice (some ⟨bb, off, none⟩) x.length c, .int .i64 (k : Int)] W fun e w' => e = .returned (.int .i64 (Y k : Nat)) ∧ (Ext W w' ∧ w'.heap.size = W.heap.size)) := Lib.hid fun k W hx hk => by
    rw [hY]
    exact ref_number _ x k W (HSl.out.ext hx) hxb hk
  have hk17 : w1.cell? ⟨bb, off + 17, none⟩ = some (.int .u8 ((X 17 : Nat) : Int)) := HCell.out 17 (by omega)
  have HLn := Lib.hid hln
  clear hX hY k17
  obtain ⟨n, hn⟩ : ∃ n, n = x.length := ⟨_, rfl⟩
  have HNl := Lib.hid hn
  rw [← hn] at h18 hn3 hc1 hln HNum ⊢
  have hne : ((n : Int) != 18 + 9 * (X 17 : Nat)) = false := by simp; omega
  clear hs4 hm hn hsl hcell hxb hln
  go_wp2_with fail
  clear hcv hs hne hk17
  have HInfo : Hid ((Tryd.prog.info? 33).map (·.size) = some (#[.int .u8 (X 4 : Nat), .int .u8 (X 5 : Nat), .int .u8 (X 6 : Nat), .int .i64 (X 7 : Nat), .int .i64 (Y 8 : Nat), .int .i64 (X 10 : Nat), .int .i64 (X 11 : Nat), .int .i64 (X 12 : Nat), .int .i64 (Y 13 : Nat), .int .u16 (Y 15 : Nat), .slice none 0 0] : Array Value).size) := Lib.hid info_rcfg
  have yb := HYb.out 15
  have hy16 : IntKind.u16.wrap ((Y 15 : Nat) : Int) = (Y 15 : Nat) := by rw [IntWalk.u16_in _ (by omega)]
  refine wp_region_set 118 [39, 40, 41, 42, 43, 44, 45, 46, 47, 48, 49, 50, 51, 52, 53, 54, 55, 56, 57, 58, 59, 60, 61, 62, 63, 64, 65, 66, 67, 68, 69, 70, 71, 72, 6] (relM [(.eq (Value.slice (some ⟨bb, off, none⟩) n c), none), (.eq (Value.pointer (some ⟨bb, off + 4, none⟩)), none), (.eq (Value.int .u8 (X 4 : Nat)), none), (.eq (Value.slice (some ⟨bb, off, none⟩) n c), none), (.eq (Value.pointer (some ⟨bb, off + 5, none⟩)), none), (.eq (Value.int .u8 (X 5 : Nat)), none), (.eq (Value.slice (some ⟨bb, off, none⟩) n c), none), (.eq (Value.pointer (some ⟨bb, off + 6, none⟩)), none), (.eq (Value.int .u8 (X 6 : Nat)), none), (.eq (Value.agg #[.int .u8 (X 4 : Nat), .int .u8 (X 5 : Nat), .int .u8 (X 6 : Nat)]), none), (.eq (Value.slice (some ⟨bb, off, none⟩) n c), none), (.eq (Value.pointer (some ⟨bb, off + 7, none⟩)), none), (.eq (Value.int .u8 (X 7 : Nat)), none), (.eq (Value.int .i64 (X 7 : Nat)), none), (.eq (Value.slice (some ⟨bb, off, none⟩) n c), none), (.eq (Value.int .i64 (Y 8 : Nat)), none), (.eq (Value.slice (some ⟨bb, off, none⟩) n c), none), (.eq (Value.pointer (some ⟨bb, off + 10, none⟩)), none), (.eq (Value.int .u8 (X 10 : Nat)), none), (.eq (Value.int .i64 (X 10 : Nat)), none), (.eq (Value.slice (some ⟨bb, off, none⟩) n c), none), (.eq (Value.pointer (some ⟨bb, off + 11, none⟩)), none), (.eq (Value.int .u8 (X 11 : Nat)), none), (.eq (Value.int .i64 (X 11 : Nat)), none), (.eq (Value.slice (some ⟨bb, off, none⟩) n c), none), (.eq (Value.pointer (some ⟨bb, off + 12, none⟩)), none), (.eq (Value.int .u8 (X 12 : Nat)), none), (.eq (Value.int .i64 (X 12 : Nat)), none), (.eq (Value.slice (some ⟨bb, off, none⟩) n c), none), (.eq (Value.int .i64 (Y 13 : Nat)), none), (.eq (Value.slice (some ⟨bb, off, none⟩) n c), none), (.eq (Value.int .i64 (Y 15 : Nat)), none), (.eq (Value.int .u16 (Y 15 : Nat)), none), (.eq (Value.agg #[.int .u8 (X 4 : Nat), .int .u8 (X 5 : Nat), .int .u8 (X 6 : Nat), .int .i64 (X 7 : Nat), .int .i64 (Y 8 : Nat), .int .i64 (X 10 : Nat), .int .i64 (X 11 : Nat), .int .i64 (X 12 : Nat), .int .i64 (Y 13 : Nat), .int .u16 (Y 15 : Nat), .slice none 0 0]), none), (.eq (Value.pointer (some ⟨w1.heap.size, 0, none⟩)), none), (.any, none)]) (SA w1 #[.int .u8 (X 4 : Nat), .int .u8 (X 5 : Nat), .int .u8 (X 6 : Nat), .int .i64 (X 7 : Nat), .int .i64 (Y 8 : Nat), .int .i64 (X 10 : Nat), .int .i64 (X 11 : Nat), .int .i64 (X 12 : Nat), .int .i64 (Y 13 : Nat), .int .u16 (Y 15 : Nat), .slice none 0 0] 34 35) (by kernel_rfl) (by kernel_rfl) (by kernel_rfl) (by kernel_rfl) rfl ⟨(Ext.refl _).drewN 1, fun _ => rfl, (fun h => by cases h), (fun h => by cases h)⟩ (LivesG.cons ?_ (LivesG.cons ?_ (LivesG.cons ?_ (LivesG.cons ?_ (LivesG.cons ?_ (LivesG.cons ?_ (LivesG.cons ?_ (LivesG.cons ?_ (LivesG.cons ?_ (LivesG.cons ?_ (LivesG.cons ?_ (LivesG.cons ?_ (LivesG.cons ?_ (LivesG.cons ?_ (LivesG.cons ?_ (LivesG.cons ?_ (LivesG.cons ?_ (LivesG.cons ?_ (LivesG.cons ?_ (LivesG.cons ?_ (LivesG.cons ?_ (LivesG.cons ?_ (LivesG.cons ?_ (LivesG.cons ?_ (LivesG.cons ?_ (LivesG.cons ?_ (LivesG.cons ?_ (LivesG.cons ?_ (LivesG.cons ?_ (LivesG.cons ?_ (LivesG.cons ?_ (LivesG.cons ?_ (LivesG.cons ?_ (LivesG.cons ?_ (LivesG.cons ?_ (LivesG.cons ?_ (LivesG.nil _))))))))))))))))))))))))))))))))))))) ?_
  · intro L b W hL hdep hcl hf hu hS hd K hK
    refine step_now rfl ?_
    have f4 : b.tmps[4]?.getD undef = Value.slice (some ⟨bb, off, none⟩) n c := (hf 4 (by kernel_rfl)).trans rfl
    have HS0 := Lib.hid hS
    have HCL := Lib.hid hcl
    have HDP := Lib.hid hdep
    clear hdep
    clear hf hu hd hS hcl
    go_simp
    exact hK _ _ (HS0.out.ext (Ext.refl _) rfl 0 rfl rfl) (relM.now rfl rfl) (fun j v h1 h2 h => h.ext (Ext.refl _) _)
  · intro L b W hL hdep hcl hf hu hS hd K hK
    refine step_now rfl ?_
    have d39 : b.tmps[39]?.getD undef = Value.slice (some ⟨bb, off, none⟩) n c := (hd ⟨0, .data⟩ (by simp) rfl _ _ rfl rfl).get (c := none) rfl (fun _ h => by cases h)
    have HS0 := Lib.hid hS
    have HCL := Lib.hid hcl
    have HDP := Lib.hid hdep
    clear hdep
    clear hf hu hd hS hcl
    have hb9 : (4 : Int) < (n : Int) := by omega
    go_simp
    exact hK _ _ (HS0.out.ext (Ext.refl _) rfl 1 rfl rfl) (relM.now rfl rfl) (fun j v h1 h2 h => h.ext (Ext.refl _) _)
  · intro L b W hL hdep hcl hf hu hS hd K hK
    refine step_now rfl ?_
    have d40 : b.tmps[40]?.getD undef = Value.pointer (some ⟨bb, off + 4, none⟩) := (hd ⟨1, .data⟩ (by simp) rfl _ _ rfl rfl).get (c := none) rfl (fun _ h => by cases h)
    have HS0 := Lib.hid hS
    have HCL := Lib.hid hcl
    have HDP := Lib.hid hdep
    clear hdep
    clear hf hu hd hS hcl
    have kc : W.cell? ⟨bb, off + 4, none⟩ = some (.int .u8 ((X 4 : Nat) : Int)) := HS0.out.1.cell' (HCell.out 4 (by rw [← HNl.out]; omega))
    go_simp
    exact hK _ _ (HS0.out.ext (Ext.refl _) rfl 2 rfl rfl) (relM.now rfl rfl) (fun j v h1 h2 h => h.ext (Ext.refl _) _)
  · intro L b W hL hdep hcl hf hu hS hd K hK
    refine step_now rfl ?_
    have f4 : b.tmps[4]?.getD undef = Value.slice (some ⟨bb, off, none⟩) n c := (hf 4 (by kernel_rfl)).trans rfl
    have HS0 := Lib.hid hS
    have HCL := Lib.hid hcl
    have HDP := Lib.hid hdep
    clear hdep
    clear hf hu hd hS hcl
    go_simp
    exact hK _ _ (HS0.out.ext (Ext.refl _) rfl 3 rfl rfl) (relM.now rfl rfl) (fun j v h1 h2 h => h.ext (Ext.refl _) _)
  · intro L b W hL hdep hcl hf hu hS hd K hK
    refine step_now rfl ?_
    have d42 : b.tmps[42]?.getD undef = Value.slice (some ⟨bb, off, none⟩) n c := (hd ⟨3, .data⟩ (by simp) rfl _ _ rfl rfl).get (c := none) rfl (fun _ h => by cases h)
    have HS0 := Lib.hid hS
    have HCL := Lib.hid hcl
    have HDP := Lib.hid hdep
    clear hdep
    clear hf hu hd hS hcl
    have hb9 : (5 : Int) < (n : Int) := by omega
    go_simp
    exact hK _ _ (HS0.out.ext (Ext.refl _) rfl 4 rfl rfl) (relM.now rfl rfl) (fun j v h1 h2 h => h.ext (Ext.refl _) _)
  · intro L b W hL hdep hcl hf hu hS hd K hK
    refine step_now rfl ?_
    have d43 : b.tmps[43]?.getD undef = Value.pointer (some ⟨bb, off + 5, none⟩) := (hd ⟨4, .data⟩ (by simp) rfl _ _ rfl rfl).get (c := none) rfl (fun _ h => by cases h)
    have HS0 := Lib.hid hS
    have HCL := Lib.hid hcl
    have HDP := Lib.hid hdep
    clear hdep
    clear hf hu hd hS hcl
    have kc : W.cell? ⟨bb, off + 5, none⟩ = some (.int .u8 ((X 5 : Nat) : Int)) := HS0.out.1.cell' (HCell.out 5 (by rw [← HNl.out]; omega))
    go_simp
    exact hK _ _ (HS0.out.ext (Ext.refl _) rfl 5 rfl rfl) (relM.now rfl rfl) (fun j v h1 h2 h => h.ext (Ext.refl _) _)
  · intro L b W hL hdep hcl hf hu hS hd K hK
    refine step_now rfl ?_
    have f4 : b.tmps[4]?.getD undef = Value.slice (some ⟨bb, off, none⟩) n c := (hf 4 (by kernel_rfl)).trans rfl
    have HS0 := Lib.hid hS
    have HCL := Lib.hid hcl
    have HDP := Lib.hid hdep
    clear hdep
    clear hf hu hd hS hcl
    go_simp
    exact hK _ _ (HS0.out.ext (Ext.refl _) rfl 6 rfl rfl) (relM.now rfl rfl) (fun j v h1 h2 h => h.ext (Ext.refl _) _)
  · intro L b W hL hdep hcl hf hu hS hd K hK
    refine step_now rfl ?_
    have d45 : b.tmps[45]?.getD undef = Value.slice (some ⟨bb, off, none⟩) n c := (hd ⟨6, .data⟩ (by simp) rfl _ _ rfl rfl).get (c := none) rfl (fun _ h => by cases h)
    have HS0 := Lib.hid hS
    have HCL := Lib.hid hcl
    have HDP := Lib.hid hdep
    clear hdep
    clear hf hu hd hS hcl
    have hb9 : (6 : Int) < (n : Int) := by omega
    go_simp
    exact hK _ _ (HS0.out.ext (Ext.refl _) rfl 7 rfl rfl) (relM.now rfl rfl) (fun j v h1 h2 h => h.ext (Ext.refl _) _)
  · intro L b W hL hdep hcl hf hu hS hd K hK
    refine step_now rfl ?_
    have d46 : b.tmps[46]?.getD undef = Value.pointer (some ⟨bb, off + 6, none⟩) := (hd ⟨7, .data⟩ (by simp) rfl _ _ rfl rfl).get (c := none) rfl (fun _ h => by cases h)
    have HS0 := Lib.hid hS
    have HCL := Lib.hid hcl
    have HDP := Lib.hid hdep
    clear hdep
    clear hf hu hd hS hcl
    have kc : W.cell? ⟨bb, off + 6, none⟩ = some (.int .u8 ((X 6 : Nat) : Int)) := HS0.out.1.cell' (HCell.out 6 (by rw [← HNl.out]; omega))
    go_simp
    exact hK _ _ (HS0.out.ext (Ext.refl _) rfl 8 rfl rfl) (relM.now rfl rfl) (fun j v h1 h2 h => h.ext (Ext.refl _) _)
  · intro L b W hL hdep hcl hf hu hS hd K hK
    refine step_now rfl ?_
    have d41 : b.tmps[41]?.getD undef = Value.int .u8 (X 4 : Nat) := (hd ⟨2, .data⟩ (by simp) rfl _ _ rfl rfl).get (c := none) rfl (fun _ h => by cases h)
    have d44 : b.tmps[44]?.getD undef = Value.int .u8 (X 5 : Nat) := (hd ⟨5, .data⟩ (by simp) rfl _ _ rfl rfl).get (c := none) rfl (fun _ h => by cases h)
    have d47 : b.tmps[47]?.getD undef = Value.int .u8 (X 6 : Nat) := (hd ⟨8, .data⟩ (by simp) rfl _ _ rfl rfl).get (c := none) rfl (fun _ h => by cases h)
    have HS0 := Lib.hid hS
    have HCL := Lib.hid hcl
    have HDP := Lib.hid hdep
    clear hdep
    clear hf hu hd hS hcl
    go_simp
    exact hK _ _ (HS0.out.ext (Ext.refl _) rfl 9 rfl rfl) (relM.now rfl rfl) (fun j v h1 h2 h => h.ext (Ext.refl _) _)
  · intro L b W hL hdep hcl hf hu hS hd K hK
    refine step_now rfl ?_
    have f4 : b.tmps[4]?.getD undef = Value.slice (some ⟨bb, off, none⟩) n c := (hf 4 (by kernel_rfl)).trans rfl
    have HS0 := Lib.hid hS
    have HCL := Lib.hid hcl
    have HDP := Lib.hid hdep
    clear hdep
    clear hf hu hd hS hcl
    go_simp
    exact hK _ _ (HS0.out.ext (Ext.refl _) rfl 10 rfl rfl) (relM.now rfl rfl) (fun j v h1 h2 h => h.ext (Ext.refl _) _)
  · intro L b W hL hdep hcl hf hu hS hd K hK
    refine step_now rfl ?_
    have d49 : b.tmps[49]?.getD undef = Value.slice (some ⟨bb, off, none⟩) n c := (hd ⟨10, .data⟩ (by simp) rfl _ _ rfl rfl).get (c := none) rfl (fun _ h => by cases h)
    have HS0 := Lib.hid hS
    have HCL := Lib.hid hcl
    have HDP := Lib.hid hdep
    clear hdep
    clear hf hu hd hS hcl
    have hb9 : (7 : Int) < (n : Int) := by omega
    go_simp
    exact hK _ _ (HS0.out.ext (Ext.refl _) rfl 11 rfl rfl) (relM.now rfl rfl) (fun j v h1 h2 h => h.ext (Ext.refl _) _)
  · intro L b W hL hdep hcl hf hu hS hd K hK
    refine step_now rfl ?_
    have d50 : b.tmps[50]?.getD undef = Value.pointer (some ⟨bb, off + 7, none⟩) := (hd ⟨11, .data⟩ (by simp) rfl _ _ rfl rfl).get (c := none) rfl (fun _ h => by cases h)
    have HS0 := Lib.hid hS
    have HCL := Lib.hid hcl
    have HDP := Lib.hid hdep
    clear hdep
    clear hf hu hd hS hcl
    have kc : W.cell? ⟨bb, off + 7, none⟩ = some (.int .u8 ((X 7 : Nat) : Int)) := HS0.out.1.cell' (HCell.out 7 (by rw [← HNl.out]; omega))
    go_simp
    exact hK _ _ (HS0.out.ext (Ext.refl _) rfl 12 rfl rfl) (relM.now rfl rfl) (fun j v h1 h2 h => h.ext (Ext.refl _) _)
  · intro L b W hL hdep hcl hf hu hS hd K hK
    refine step_now rfl ?_
    have d51 : b.tmps[51]?.getD undef = Value.int .u8 (X 7 : Nat) := (hd ⟨12, .data⟩ (by simp) rfl _ _ rfl rfl).get (c := none) rfl (fun _ h => by cases h)
    have HS0 := Lib.hid hS
    have HCL := Lib.hid hcl
    have HDP := Lib.hid hdep
    clear hdep
    clear hf hu hd hS hcl
    have hw9 : IntKind.i64.wrap ((X 7 : Nat) : Int) = (X 7 : Nat) := by rw [IntWalk.i64_in _ (by have := HXb.out 7; omega)]
    go_simp
    exact hK _ _ (HS0.out.ext (Ext.refl _) rfl 13 rfl rfl) (relM.now rfl rfl) (fun j v h1 h2 h => h.ext (Ext.refl _) _)
  · intro L b W hL hdep hcl hf hu hS hd K hK
    refine step_now rfl ?_
    have f4 : b.tmps[4]?.getD undef = Value.slice (some ⟨bb, off, none⟩) n c := (hf 4 (by kernel_rfl)).trans rfl
    have HS0 := Lib.hid hS
    have HCL := Lib.hid hcl
    have HDP := Lib.hid hdep
    clear hdep
    clear hf hu hd hS hcl
    go_simp
    exact hK _ _ (HS0.out.ext (Ext.refl _) rfl 14 rfl rfl) (relM.now rfl rfl) (fun j v h1 h2 h => h.ext (Ext.refl _) _)
  · intro L b W hL hdep hcl hf hu hS hd K hK
    refine step_now rfl ?_
    have d53 : b.tmps[53]?.getD undef = Value.slice (some ⟨bb, off, none⟩) n c := (hd ⟨14, .data⟩ (by simp) rfl _ _ rfl rfl).get (c := none) rfl (fun _ h => by cases h)
    have HS0 := Lib.hid hS
    have HCL := Lib.hid hcl
    have HDP := Lib.hid hdep
    clear hdep
    clear hf hu hd hS hcl
    go_simp
    refine (HNum.out 8 _ HS0.out.1 (by omega)).mono ?_
    rintro e W' ⟨rfl, hx', hz'⟩
    exact hK _ _ (HS0.out.ext hx' hz' 15 rfl rfl) (relM.now rfl rfl) (fun j v h1 h2 h => h.ext hx' _)
  · intro L b W hL hdep hcl hf hu hS hd K hK
    refine step_now rfl ?_
    have f4 : b.tmps[4]?.getD undef = Value.slice (some ⟨bb, off, none⟩) n c := (hf 4 (by kernel_rfl)).trans rfl
    have HS0 := Lib.hid hS
    have HCL := Lib.hid hcl
    have HDP := Lib.hid hdep
    clear hdep
    clear hf hu hd hS hcl
    go_simp
    exact hK _ _ (HS0.out.ext (Ext.refl _) rfl 16 rfl rfl) (relM.now rfl rfl) (fun j v h1 h2 h => h.ext (Ext.refl _) _)
  · intro L b W hL hdep hcl hf hu hS hd K hK
    refine step_now rfl ?_
    have d55 : b.tmps[55]?.getD undef = Value.slice (some ⟨bb, off, none⟩) n c := (hd ⟨16, .data⟩ (by simp) rfl _ _ rfl rfl).get (c := none) rfl (fun _ h => by cases h)
    have HS0 := Lib.hid hS
    have HCL := Lib.hid hcl
    have HDP := Lib.hid hdep
    clear hdep
    clear hf hu hd hS hcl
    have hb9 : (10 : Int) < (n : Int) := by omega
    go_simp
    exact hK _ _ (HS0.out.ext (Ext.refl _) rfl 17 rfl rfl) (relM.now rfl rfl) (fun j v h1 h2 h => h.ext (Ext.refl _) _)
  · intro L b W hL hdep hcl hf hu hS hd K hK
    refine step_now rfl ?_
    have d56 : b.tmps[56]?.getD undef = Value.pointer (some ⟨bb, off + 10, none⟩) := (hd ⟨17, .data⟩ (by simp) rfl _ _ rfl rfl).get (c := none) rfl (fun _ h => by cases h)
    have HS0 := Lib.hid hS
    have HCL := Lib.hid hcl
    have HDP := Lib.hid hdep
    clear hdep
    clear hf hu hd hS hcl
    have kc : W.cell? ⟨bb, off + 10, none⟩ = some (.int .u8 ((X 10 : Nat) : Int)) := HS0.out.1.cell' (HCell.out 10 (by rw [← HNl.out]; omega))
    go_simp
    exact hK _ _ (HS0.out.ext (Ext.refl _) rfl 18 rfl rfl) (relM.now rfl rfl) (fun j v h1 h2 h => h.ext (Ext.refl _) _)
  · intro L b W hL hdep hcl hf hu hS hd K hK
    refine step_now rfl ?_
    have d57 : b.tmps[57]?.getD undef = Value.int .u8 (X 10 : Nat) := (hd ⟨18, .data⟩ (by simp) rfl _ _ rfl rfl).get (c := none) rfl (fun _ h => by cases h)
    have HS0 := Lib.hid hS
    have HCL := Lib.hid hcl
    have HDP := Lib.hid hdep
    clear hdep
    clear hf hu hd hS hcl
    have hw9 : IntKind.i64.wrap ((X 10 : Nat) : Int) = (X 10 : Nat) := by rw [IntWalk.i64_in _ (by have := HXb.out 10; omega)]
    go_simp
    exact hK _ _ (HS0.out.ext (Ext.refl _) rfl 19 rfl rfl) (relM.now rfl rfl) (fun j v h1 h2 h => h.ext (Ext.refl _) _)
  · intro L b W hL hdep hcl hf hu hS hd K hK
    refine step_now rfl ?_
    have f4 : b.tmps[4]?.getD undef = Value.slice (some ⟨bb, off, none⟩) n c := (hf 4 (by kernel_rfl)).trans rfl
    have HS0 := Lib.hid hS
    have HCL := Lib.hid hcl
    have HDP := Lib.hid hdep
    clear hdep
    clear hf hu hd hS hcl
    go_simp
    exact hK _ _ (HS0.out.ext (Ext.refl _) rfl 20 rfl rfl) (relM.now rfl rfl) (fun j v h1 h2 h => h.ext (Ext.refl _) _)
  · intro L b W hL hdep hcl hf hu hS hd K hK
    refine step_now rfl ?_
    have d59 : b.tmps[59]?.getD undef = Value.slice (some ⟨bb, off, none⟩) n c := (hd ⟨20, .data⟩ (by simp) rfl _ _ rfl rfl).get (c := none) rfl (fun _ h => by cases h)
    have HS0 := Lib.hid hS
    have HCL := Lib.hid hcl
    have HDP := Lib.hid hdep
    clear hdep
    clear hf hu hd hS hcl
    have hb9 : (11 : Int) < (n : Int) := by omega
    go_simp
    exact hK _ _ (HS0.out.ext (Ext.refl _) rfl 21 rfl rfl) (relM.now rfl rfl) (fun j v h1 h2 h => h.ext (Ext.refl _) _)
  · intro L b W hL hdep hcl hf hu hS hd K hK
    refine step_now rfl ?_
    have d60 : b.tmps[60]?.getD undef = Value.pointer (some ⟨bb, off + 11, none⟩) := (hd ⟨21, .data⟩ (by simp) rfl _ _ rfl rfl).get (c := none) rfl (fun _ h => by cases h)
    have HS0 := Lib.hid hS
    have HCL := Lib.hid hcl
    have HDP := Lib.hid hdep
    clear hdep
    clear hf hu hd hS hcl
    have kc : W.cell? ⟨bb, off + 11, none⟩ = some (.int .u8 ((X 11 : Nat) : Int)) := HS0.out.1.cell' (HCell.out 11 (by rw [← HNl.out]; omega))
    go_simp
    exact hK _ _ (HS0.out.ext (Ext.refl _) rfl 22 rfl rfl) (relM.now rfl rfl) (fun j v h1 h2 h => h.ext (Ext.refl _) _)
  · intro L b W hL hdep hcl hf hu hS hd K hK
    refine step_now rfl ?_
    have d61 : b.tmps[61]?.getD undef = Value.int .u8 (X 11 : Nat) := (hd ⟨22, .data⟩ (by simp) rfl _ _ rfl rfl).get (c := none) rfl (fun _ h => by cases h)
    have HS0 := Lib.hid hS
    have HCL := Lib.hid hcl
    have HDP := Lib.hid hdep
    clear hdep
    clear hf hu hd hS hcl
    have hw9 : IntKind.i64.wrap ((X 11 : Nat) : Int) = (X 11 : Nat) := by rw [IntWalk.i64_in _ (by have := HXb.out 11; omega)]
    go_simp
    exact hK _ _ (HS0.out.ext (Ext.refl _) rfl 23 rfl rfl) (relM.now rfl rfl) (fun j v h1 h2 h => h.ext (Ext.refl _) _)
  · intro L b W hL hdep hcl hf hu hS hd K hK
    refine step_now rfl ?_
    have f4 : b.tmps[4]?.getD undef = Value.slice (some ⟨bb, off, none⟩) n c := (hf 4 (by kernel_rfl)).trans rfl
    have HS0 := Lib.hid hS
    have HCL := Lib.hid hcl
    have HDP := Lib.hid hdep
    clear hdep
    clear hf hu hd hS hcl
    go_simp
    exact hK _ _ (HS0.out.ext (Ext.refl _) rfl 24 rfl rfl) (relM.now rfl rfl) (fun j v h1 h2 h => h.ext (Ext.refl _) _)
  · intro L b W hL hdep hcl hf hu hS hd K hK
    refine step_now rfl ?_
    have d63 : b.tmps[63]?.getD undef = Value.slice (some ⟨bb, off, none⟩) n c := (hd ⟨24, .data⟩ (by simp) rfl _ _ rfl rfl).get (c := none) rfl (fun _ h => by cases h)
    have HS0 := Lib.hid hS
    have HCL := Lib.hid hcl
    have HDP := Lib.hid hdep
    clear hdep
    clear hf hu hd hS hcl
    have hb9 : (12 : Int) < (n : Int) := by omega
    go_simp
    exact hK _ _ (HS0.out.ext (Ext.refl _) rfl 25 rfl rfl) (relM.now rfl rfl) (fun j v h1 h2 h => h.ext (Ext.refl _) _)
  · intro L b W hL hdep hcl hf hu hS hd K hK
    refine step_now rfl ?_
    have d64 : b.tmps[64]?.getD undef = Value.pointer (some ⟨bb, off + 12, none⟩) := (hd ⟨25, .data⟩ (by simp) rfl _ _ rfl rfl).get (c := none) rfl (fun _ h => by cases h)
    have HS0 := Lib.hid hS
    have HCL := Lib.hid hcl
    have HDP := Lib.hid hdep
    clear hdep
    clear hf hu hd hS hcl
    have kc : W.cell? ⟨bb, off + 12, none⟩ = some (.int .u8 ((X 12 : Nat) : Int)) := HS0.out.1.cell' (HCell.out 12 (by rw [← HNl.out]; omega))
    go_simp
    exact hK _ _ (HS0.out.ext (Ext.refl _) rfl 26 rfl rfl) (relM.now rfl rfl) (fun j v h1 h2 h => h.ext (Ext.refl _) _)
  · intro L b W hL hdep hcl hf hu hS hd K hK
    refine step_now rfl ?_
    have d65 : b.tmps[65]?.getD undef = Value.int .u8 (X 12 : Nat) := (hd ⟨26, .data⟩ (by simp) rfl _ _ rfl rfl).get (c := none) rfl (fun _ h => by cases h)
    have HS0 := Lib.hid hS
    have HCL := Lib.hid hcl
    have HDP := Lib.hid hdep
    clear hdep
    clear hf hu hd hS hcl
    have hw9 : IntKind.i64.wrap ((X 12 : Nat) : Int) = (X 12 : Nat) := by rw [IntWalk.i64_in _ (by have := HXb.out 12; omega)]
    go_simp
    exact hK _ _ (HS0.out.ext (Ext.refl _) rfl 27 rfl rfl) (relM.now rfl rfl) (fun j v h1 h2 h => h.ext (Ext.refl _) _)
  · intro L b W hL hdep hcl hf hu hS hd K hK
    refine step_now rfl ?_
    have f4 : b.tmps[4]?.getD undef = Value.slice (some ⟨bb, off, none⟩) n c := (hf 4 (by kernel_rfl)).trans rfl
    have HS0 := Lib.hid hS
    have HCL := Lib.hid hcl
    have HDP := Lib.hid hdep
    clear hdep
    clear hf hu hd hS hcl
    go_simp
    exact hK _ _ (HS0.out.ext (Ext.refl _) rfl 28 rfl rfl) (relM.now rfl rfl) (fun j v h1 h2 h => h.ext (Ext.refl _) _)
  · intro L b W hL hdep hcl hf hu hS hd K hK
    refine step_now rfl ?_
    have d67 : b.tmps[67]?.getD undef = Value.slice (some ⟨bb, off, none⟩) n c := (hd ⟨28, .data⟩ (by simp) rfl _ _ rfl rfl).get (c := none) rfl (fun _ h => by cases h)
    have HS0 := Lib.hid hS
    have HCL := Lib.hid hcl
    have HDP := Lib.hid hdep
    clear hdep
    clear hf hu hd hS hcl
    go_simp
    refine (HNum.out 13 _ HS0.out.1 (by omega)).mono ?_
    rintro e W' ⟨rfl, hx', hz'⟩
    exact hK _ _ (HS0.out.ext hx' hz' 29 rfl rfl) (relM.now rfl rfl) (fun j v h1 h2 h => h.ext hx' _)
  · intro L b W hL hdep hcl hf hu hS hd K hK
    refine step_now rfl ?_
    have f4 : b.tmps[4]?.getD undef = Value.slice (some ⟨bb, off, none⟩) n c := (hf 4 (by kernel_rfl)).trans rfl
    have HS0 := Lib.hid hS
    have HCL := Lib.hid hcl
    have HDP := Lib.hid hdep
    clear hdep
    clear hf hu hd hS hcl
    go_simp
    exact hK _ _ (HS0.out.ext (Ext.refl _) rfl 30 rfl rfl) (relM.now rfl rfl) (fun j v h1 h2 h => h.ext (Ext.refl _) _)
  · intro L b W hL hdep hcl hf hu hS hd K hK
    refine step_now rfl ?_
    have d69 : b.tmps[69]?.getD undef = Value.slice (some ⟨bb, off, none⟩) n c := (hd ⟨30, .data⟩ (by simp) rfl _ _ rfl rfl).get (c := none) rfl (fun _ h => by cases h)
    have HS0 := Lib.hid hS
    have HCL := Lib.hid hcl
    have HDP := Lib.hid hdep
    clear hdep
    clear hf hu hd hS hcl
    go_simp
    refine (HNum.out 15 _ HS0.out.1 (by omega)).mono ?_
    rintro e W' ⟨rfl, hx', hz'⟩
    exact hK _ _ (HS0.out.ext hx' hz' 31 rfl rfl) (relM.now rfl rfl) (fun j v h1 h2 h => h.ext hx' _)
  · intro L b W hL hdep hcl hf hu hS hd K hK
    refine step_now rfl ?_
    have d70 : b.tmps[70]?.getD undef = Value.int .i64 (Y 15 : Nat) := (hd ⟨31, .data⟩ (by simp) rfl _ _ rfl rfl).get (c := none) rfl (fun _ h => by cases h)
    have HS0 := Lib.hid hS
    have HCL := Lib.hid hcl
    have HDP := Lib.hid hdep
    clear hdep
    clear hf hu hd hS hcl
    go_simp
    exact hK _ _ (HS0.out.ext (Ext.refl _) rfl 32 rfl rfl) (relM.now rfl rfl) (fun j v h1 h2 h => h.ext (Ext.refl _) _)
  · intro L b W hL hdep hcl hf hu hS hd K hK
    refine step_now rfl ?_
    have d48 : b.tmps[48]?.getD undef = Value.agg #[.int .u8 (X 4 : Nat), .int .u8 (X 5 : Nat), .int .u8 (X 6 : Nat)] := (hd ⟨9, .data⟩ (by simp) rfl _ _ rfl rfl).get (c := none) rfl (fun _ h => by cases h)
    have d52 : b.tmps[52]?.getD undef = Value.int .i64 (X 7 : Nat) := (hd ⟨13, .data⟩ (by simp) rfl _ _ rfl rfl).get (c := none) rfl (fun _ h => by cases h)
    have d54 : b.tmps[54]?.getD undef = Value.int .i64 (Y 8 : Nat) := (hd ⟨15, .data⟩ (by simp) rfl _ _ rfl rfl).get (c := none) rfl (fun _ h => by cases h)
    have d58 : b.tmps[58]?.getD undef = Value.int .i64 (X 10 : Nat) := (hd ⟨19, .data⟩ (by simp) rfl _ _ rfl rfl).get (c := none) rfl (fun _ h => by cases h)
    have d62 : b.tmps[62]?.getD undef = Value.int .i64 (X 11 : Nat) := (hd ⟨23, .data⟩ (by simp) rfl _ _ rfl rfl).get (c := none) rfl (fun _ h => by cases h)
    have d66 : b.tmps[66]?.getD undef = Value.int .i64 (X 12 : Nat) := (hd ⟨27, .data⟩ (by simp) rfl _ _ rfl rfl).get (c := none) rfl (fun _ h => by cases h)
    have d68 : b.tmps[68]?.getD undef = Value.int .i64 (Y 13 : Nat) := (hd ⟨29, .data⟩ (by simp) rfl _ _ rfl rfl).get (c := none) rfl (fun _ h => by cases h)
    have d71 : b.tmps[71]?.getD undef = Value.int .u16 (Y 15 : Nat) := (hd ⟨32, .data⟩ (by simp) rfl _ _ rfl rfl).get (c := none) rfl (fun _ h => by cases h)
    have HS0 := Lib.hid hS
    have HCL := Lib.hid hcl
    have HDP := Lib.hid hdep
    clear hdep
    clear hf hu hd hS hcl
    go_simp
    exact hK _ _ (HS0.out.ext (Ext.refl _) rfl 33 rfl rfl) (relM.now rfl rfl) (fun j v h1 h2 h => h.ext (Ext.refl _) _)
  · intro L b W hL hdep hcl hf hu hS hd K hK
    refine step_now rfl ?_
    have HS0 := Lib.hid hS
    have HCL := Lib.hid hcl
    have HDP := Lib.hid hdep
    clear hdep
    clear hf hu hd hS hcl
    have noS : L 35 = false := by cases h : L 35 with | false => rfl | true => (have := (HCL.out 35 _ rfl h ⟨34, .data⟩ (by simp) rfl); rw [this] at hL; cases hL)
    have hz := HS0.out.2.1 hL
    go_simp
    refine hK _ _ ⟨HS0.out.1.alloc _, fun h => by simp at h, fun _ _ => new_at hz _ _, fun h => by simp [noS] at h⟩ (relM.now rfl rfl) (fun j v h1 h2 h => h.ext ((Ext.refl _).alloc _) _)
  · intro L b W hL hdep hcl hf hu hS hd K hK
    refine step_now rfl ?_
    have d6 : b.tmps[6]?.getD undef = Value.pointer (some ⟨w1.heap.size, 0, none⟩) := (hd ⟨34, .data⟩ (by simp) rfl _ _ rfl rfl).get (c := none) rfl (fun _ h => by cases h)
    have d72 : b.tmps[72]?.getD undef = Value.agg #[.int .u8 (X 4 : Nat), .int .u8 (X 5 : Nat), .int .u8 (X 6 : Nat), .int .i64 (X 7 : Nat), .int .i64 (Y 8 : Nat), .int .i64 (X 10 : Nat), .int .i64 (X 11 : Nat), .int .i64 (X 12 : Nat), .int .i64 (Y 13 : Nat), .int .u16 (Y 15 : Nat), .slice none 0 0] := (hd ⟨33, .data⟩ (by simp) rfl _ _ rfl rfl).get (c := none) rfl (fun _ h => by cases h)
    have HS0 := Lib.hid hS
    have HCL := Lib.hid hcl
    have HDP := Lib.hid hdep
    clear hdep
    clear hf hu hd hS hcl
    have yesA : L 34 = true := (HDP.out ⟨34, .data⟩ (by simp) rfl)
    have hg9 := HS0.out.2.2.1 yesA hL
    refine wp_store_row 33 _ _ rfl w1.heap.size #[.int .u8 (X 4 : Nat), .int .u8 (X 5 : Nat), .int .u8 (X 6 : Nat), .int .i64 (X 7 : Nat), .int .i64 (Y 8 : Nat), .int .i64 (X 10 : Nat), .int .i64 (X 11 : Nat), .int .i64 (X 12 : Nat), .int .i64 (Y 13 : Nat), .int .u16 (Y 15 : Nat), .slice none 0 0] (by simpa [Act.eval] using d6) (by simpa [Act.eval] using d72) _ zeroCfg hg9 HInfo.out rfl (by simp [Value.oneCell']) ?_
    refine hK undef _ ⟨HS0.out.1.trans_kept (S := fun j => j = w1.heap.size) ⟨rfl, rfl, rfl, by simp, fun k _ hk => setRow_other _ _ _ _ hk⟩ (fun j hj => Nat.le_of_eq hj.symm), fun h => by simp [yesA] at h, fun _ h => by simp at h, fun _ => setRow_heap _ _ _ _ _ _ hg9⟩ (relM.now rfl trivial) (fun j v h1 h2 h => h.last ?_)
    intro q c hq hc
    match j, hq with
    | 0, hq => cases hq; exact .inl ⟨_, rfl⟩
    | 1, hq => cases hq; exact .inl ⟨_, rfl⟩
    | 2, hq => cases hq; exact .inl ⟨_, rfl⟩
    | 3, hq => cases hq; exact .inl ⟨_, rfl⟩
    | 4, hq => cases hq; exact .inl ⟨_, rfl⟩
    | 5, hq => cases hq; exact .inl ⟨_, rfl⟩
    | 6, hq => cases hq; exact .inl ⟨_, rfl⟩
    | 7, hq => cases hq; exact .inl ⟨_, rfl⟩
    | 8, hq => cases hq; exact .inl ⟨_, rfl⟩
    | 9, hq => cases hq; exact .inl ⟨_, rfl⟩
    | 10, hq => cases hq; exact .inl ⟨_, rfl⟩
    | 11, hq => cases hq; exact .inl ⟨_, rfl⟩
    | 12, hq => cases hq; exact .inl ⟨_, rfl⟩
    | 13, hq => cases hq; exact .inl ⟨_, rfl⟩
    | 14, hq => cases hq; exact .inl ⟨_, rfl⟩
    | 15, hq => cases hq; exact .inl ⟨_, rfl⟩
    | 16, hq => cases hq; exact .inl ⟨_, rfl⟩
    | 17, hq => cases hq; exact .inl ⟨_, rfl⟩
    | 18, hq => cases hq; exact .inl ⟨_, rfl⟩
    | 19, hq => cases hq; exact .inl ⟨_, rfl⟩
    | 20, hq => cases hq; exact .inl ⟨_, rfl⟩
    | 21, hq => cases hq; exact .inl ⟨_, rfl⟩
    | 22, hq => cases hq; exact .inl ⟨_, rfl⟩
    | 23, hq => cases hq; exact .inl ⟨_, rfl⟩
    | 24, hq => cases hq; exact .inl ⟨_, rfl⟩
    | 25, hq => cases hq; exact .inl ⟨_, rfl⟩
    | 26, hq => cases hq; exact .inl ⟨_, rfl⟩
    | 27, hq => cases hq; exact .inl ⟨_, rfl⟩
    | 28, hq => cases hq; exact .inl ⟨_, rfl⟩
    | 29, hq => cases hq; exact .inl ⟨_, rfl⟩
    | 30, hq => cases hq; exact .inl ⟨_, rfl⟩
    | 31, hq => cases hq; exact .inl ⟨_, rfl⟩
    | 32, hq => cases hq; exact .inl ⟨_, rfl⟩
    | 33, hq => cases hq; exact .inl ⟨_, rfl⟩
    | 34, hq => cases hq; exact .inl ⟨_, rfl⟩
    | 35, hq => exact absurd rfl h1
    | j + 36, hq => simp at hq
  · intro L f7 w7 hL7 h4 h5
    have g6 : f7 6 = Value.pointer (some ⟨w1.heap.size, 0, none⟩) := (h5 34 _ _ rfl rfl).get (c := none) rfl (fun _ h => by cases h)
    simp only [List.foldl_cons, List.foldl_nil, List.setIfInBounds_toArray, List.set_cons_succ, List.set_cons_zero, g6]
    have HQ0 : Hid (RQ w w1.heap.size #[.int .u8 (X 4 : Nat), .int .u8 (X 5 : Nat), .int .u8 (X 6 : Nat), .int .i64 (X 7 : Nat), .int .i64 (Y 8 : Nat), .int .i64 (X 10 : Nat), .int .i64 (X 11 : Nat), .int .i64 (X 12 : Nat), .int .i64 (Y 13 : Nat), .int .u16 (Y 15 : Nat), .slice none 0 0] w7) := Lib.hid ⟨HX1.out.trans h4.1, h4.1.heap HRes.out, h4.2.2.2 (hL7 35 (by decide)), hlt1⟩
    have HX7 := Lib.hid h4.1
    clear g6 h4 h5 hL7 yb hy16
    obtain ⟨i0, hi, hz0, hz1, hz2⟩ := info_parts info47
    go_wp2_with fail
    go_loopw [7] (fun i wr => ∃ k : Nat, k ≤ X 17 ∧ i = .int .i64 k ∧ Hid (Ext w1 wr ∧ ∃ vp, RQ w w1.heap.size #[.int .u8 (X 4 : Nat), .int .u8 (X 5 : Nat), .int .u8 (X 6 : Nat), .int .i64 (X 7 : Nat), .int .i64 (Y 8 : Nat), .int .i64 (X 10 : Nat), .int .i64 (X 11 : Nat), .int .i64 (X 12 : Nat), .int .i64 (Y 13 : Nat), .int .u16 (Y 15 : Nat), vp] wr ∧ wr.ownsRow (w1.heap.size + 1) 47 5 vp k (pcells X Y k))) (fun i _ => X 17 - (intOf i).toNat)
    case atStart => exact ⟨0, by omega, rfl, Lib.hid ⟨HX7.out, _, HQ0.out, World.ownsRow_nil _ _ _ _⟩⟩
    case round =>
      obtain ⟨k, hk, rfl, HR⟩ := hrel
      obtain ⟨hxr, vp, hvp⟩ := HR.out
      have HXr := Lib.hid hxr
      have HVp := Lib.hid hvp
      clear hvp HR hxr
      have hk17 : wr.cell? ⟨bb, off + 17, none⟩ = some (.int .u8 ((X 17 : Nat) : Int)) := HXr.out.cell' (HCell.out 17 (by rw [← HNl.out]; omega))
      by_cases hlt : k < X 17
      · have HLen : Hid (18 + 9 * k + 9 ≤ x.length) := Lib.hid (by have := HLn.out; omega)
        have hA9 : (18 : Int) + 9 * (k : Int) = ((18 + 9 * k : Nat) : Int) := by omega
        obtain ⟨A, hA⟩ : ∃ A, A = 18 + 9 * k := ⟨_, rfl⟩
        have HA := Lib.hid hA
        have HA9 : Hid ((18 : Int) + 9 * (k : Int) = (A : Int)) := Lib.hid (by omega)
        have hAn : A + 9 ≤ n := by have h1 := HLen.out; have h2 := HNl.out; omega
        clear hA hA9
        have HPc : Hid (pcells X Y k ++ [.int .i64 (X A : Nat), .int .i64 (Y (A + 1) : Nat), .int .i64 (Y (A + 3) : Nat), .int .i64 (Y (A + 5) : Nat), .int .i64 (Y (A + 7) : Nat)] = pcells X Y (k + 1)) := Lib.hid (by rw [pcells_succ, HA.out]; rfl)
        have HF : Hid (∀ v' : Value, (#[.int .u8 (X 4 : Nat), .int .u8 (X 5 : Nat), .int .u8 (X 6 : Nat), .int .i64 (X 7 : Nat), .int .i64 (Y 8 : Nat), .int .i64 (X 10 : Nat), .int .i64 (X 11 : Nat), .int .i64 (X 12 : Nat), .int .i64 (Y 13 : Nat), .int .u16 (Y 15 : Nat), vp]).setIfInBounds 10 v' = #[.int .u8 (X 4 : Nat), .int .u8 (X 5 : Nat), .int .u8 (X 6 : Nat), .int .i64 (X 7 : Nat), .int .i64 (Y 8 : Nat), .int .i64 (X 10 : Nat), .int .i64 (X 11 : Nat), .int .i64 (X 12 : Nat), .int .i64 (Y 13 : Nat), .int .u16 (Y 15 : Nat), v']) := Lib.hid fun _ => rfl
        have hk40 : (k + 1) * 40 ≤ 140737488355328 := by omega
        go_wp2_with fail
        clear hk17
        rw [HA9.out]
        have a0 : (0 : Int) ≤ (A : Int) := by omega
        have a1 : (A : Int) < (n : Int) := by omega
        have w1_ : IntKind.i64.wrap ((A : Int) + 1) = (A : Int) + 1 := by rw [IntKind.wrap_i64]; omega
        have w3_ : IntKind.i64.wrap ((A : Int) + 3) = (A : Int) + 3 := by rw [IntKind.wrap_i64]; omega
        have w5_ : IntKind.i64.wrap ((A : Int) + 5) = (A : Int) + 5 := by rw [IntKind.wrap_i64]; omega
        have w7_ : IntKind.i64.wrap ((A : Int) + 7) = (A : Int) + 7 := by rw [IntKind.wrap_i64]; omega
        refine wp_region_set 118 [84, 85, 86, 87, 88, 89, 90, 91, 92, 93, 94, 95, 96, 97, 98, 99, 100, 101, 102, 103, 104, 105, 106, 107, 108, 109, 110] (relM [(.eq (Value.pointer (some ⟨w1.heap.size, 10, none⟩)), none), (.eq (vp), none), (.eq (Value.slice (some ⟨bb, off, none⟩) n c), none), (.eq (Value.int .i64 (A : Int)), none), (.eq (Value.pointer (some ⟨bb, off + A, none⟩)), none), (.eq (Value.int .u8 (X A : Nat)), none), (.eq (Value.int .i64 (X A : Nat)), none), (.eq (Value.slice (some ⟨bb, off, none⟩) n c), none), (.eq (Value.int .i64 (A : Int)), none), (.eq (Value.int .i64 ((A : Int) + 1)), none), (.eq (Value.int .i64 (Y (A + 1) : Nat)), none), (.eq (Value.slice (some ⟨bb, off, none⟩) n c), none), (.eq (Value.int .i64 (A : Int)), none), (.eq (Value.int .i64 ((A : Int) + 3)), none), (.eq (Value.int .i64 (Y (A + 3) : Nat)), none), (.eq (Value.slice (some ⟨bb, off, none⟩) n c), none), (.eq (Value.int .i64 (A : Int)), none), (.eq (Value.int .i64 ((A : Int) + 5)), none), (.eq (Value.int .i64 (Y (A + 5) : Nat)), none), (.eq (Value.slice (some ⟨bb, off, none⟩) n c), none), (.eq (Value.int .i64 (A : Int)), none), (.eq (Value.int .i64 ((A : Int) + 7)), none), (.eq (Value.int .i64 (Y (A + 7) : Nat)), none), (.eq (Value.agg #[.int .i64 (X A : Nat), .int .i64 (Y (A + 1) : Nat), .int .i64 (Y (A + 3) : Nat), .int .i64 (Y (A + 5) : Nat), .int .i64 (Y (A + 7) : Nat)]), none), (.rows 47 1 [.int .i64 (X A : Nat), .int .i64 (Y (A + 1) : Nat), .int .i64 (Y (A + 3) : Nat), .int .i64 (Y (A + 5) : Nat), .int .i64 (Y (A + 7) : Nat)], some 25), (.owns (w1.heap.size + 1) 47 5 (k + 1) (pcells X Y (k + 1)), none), (.eq (Value.pointer (some ⟨w1.heap.size, 10, none⟩)), none), (.any, none)]) (fun L W => Ext w1 W ∧ SQ w w1.heap.size (fun vp => #[.int .u8 (X 4 : Nat), .int .u8 (X 5 : Nat), .int .u8 (X 6 : Nat), .int .i64 (X 7 : Nat), .int .i64 (Y 8 : Nat), .int .i64 (X 10 : Nat), .int .i64 (X 11 : Nat), .int .i64 (X 12 : Nat), .int .i64 (Y 13 : Nat), .int .u16 (Y 15 : Nat), vp]) vp k (pcells X Y k) (pcells X Y (k + 1)) 25 27 L W) (by kernel_rfl) (by kernel_rfl) (by kernel_rfl) (by kernel_rfl) rfl ⟨HXr.out.drewN 1, _, HVp.out.1.more ((Ext.refl _).drewN 1), fun _ => rfl, fun _ => own_ext HVp.out.2 ((Ext.refl _).drewN 1), fun h => by cases h⟩ (LivesG.cons ?_ (LivesG.cons ?_ (LivesG.cons ?_ (LivesG.cons ?_ (LivesG.cons ?_ (LivesG.cons ?_ (LivesG.cons ?_ (LivesG.cons ?_ (LivesG.cons ?_ (LivesG.cons ?_ (LivesG.cons ?_ (LivesG.cons ?_ (LivesG.cons ?_ (LivesG.cons ?_ (LivesG.cons ?_ (LivesG.cons ?_ (LivesG.cons ?_ (LivesG.cons ?_ (LivesG.cons ?_ (LivesG.cons ?_ (LivesG.cons ?_ (LivesG.cons ?_ (LivesG.cons ?_ (LivesG.cons ?_ (LivesG.cons ?_ (LivesG.cons ?_ (LivesG.cons ?_ (LivesG.cons ?_ (LivesG.nil _))))))))))))))))))))))))))))) ?_
        · intro L b W hL hdep hcl hf hu hS hd K hK
          refine step_now rfl ?_
          have f6 : b.tmps[6]?.getD undef = Value.pointer (some ⟨w1.heap.size, 0, none⟩) := (hf 6 (by kernel_rfl)).trans rfl
          have HS0 := Lib.hid hS
          have HCL := Lib.hid hcl
          have HDP := Lib.hid hdep
          clear hdep
          clear hf hu hd hS hcl
          go_simp
          exact hK _ _ ⟨HS0.out.1.trans (Ext.refl _), HS0.out.2.ext (Ext.refl _) 0 rfl rfl⟩ (relM.now rfl rfl) (fun j v h1 h2 h => h.ext (Ext.refl _) _)
        · intro L b W hL hdep hcl hf hu hS hd K hK
          refine step_now rfl ?_
          have d84 : b.tmps[84]?.getD undef = Value.pointer (some ⟨w1.heap.size, 10, none⟩) := (hd ⟨0, .data⟩ (by simp) rfl _ _ rfl rfl).get (c := none) rfl (fun _ h => by cases h)
          have HS0 := Lib.hid hS
          have HCL := Lib.hid hcl
          have HDP := Lib.hid hdep
          clear hdep
          clear hf hu hd hS hcl
          have noS : L 27 = false := by cases h : L 27 with | false => rfl | true => (have := (HCL.out 27 _ rfl h ⟨1, .phase⟩ (by simp) rfl); rw [this] at hL; cases hL)
          obtain ⟨cs, hr, h3, h4, h5⟩ := HS0.out.2
          have hcs := h3 noS
          subst hcs
          have kc : W.cell? ⟨w1.heap.size, 10, none⟩ = some vp := blk_cell hr.cfg 10
          clear hr h3 h4 h5
          go_simp
          exact hK _ _ ⟨HS0.out.1.trans (Ext.refl _), HS0.out.2.ext (Ext.refl _) 1 rfl rfl⟩ (relM.now rfl rfl) (fun j v h1 h2 h => h.ext (Ext.refl _) _)
        · intro L b W hL hdep hcl hf hu hS hd K hK
          refine step_now rfl ?_
          have f4 : b.tmps[4]?.getD undef = Value.slice (some ⟨bb, off, none⟩) n c := (hf 4 (by kernel_rfl)).trans rfl
          have HS0 := Lib.hid hS
          have HCL := Lib.hid hcl
          have HDP := Lib.hid hdep
          clear hdep
          clear hf hu hd hS hcl
          go_simp
          exact hK _ _ ⟨HS0.out.1.trans (Ext.refl _), HS0.out.2.ext (Ext.refl _) 2 rfl rfl⟩ (relM.now rfl rfl) (fun j v h1 h2 h => h.ext (Ext.refl _) _)
        · intro L b W hL hdep hcl hf hu hS hd K hK
          refine step_now rfl ?_
          have f8 : b.tmps[8]?.getD undef = Value.int .i64 (A : Int) := (hf 8 (by kernel_rfl)).trans rfl
          have HS0 := Lib.hid hS
          have HCL := Lib.hid hcl
          have HDP := Lib.hid hdep
          clear hdep
          clear hf hu hd hS hcl
          go_simp
          exact hK _ _ ⟨HS0.out.1.trans (Ext.refl _), HS0.out.2.ext (Ext.refl _) 3 rfl rfl⟩ (relM.now rfl rfl) (fun j v h1 h2 h => h.ext (Ext.refl _) _)
        · intro L b W hL hdep hcl hf hu hS hd K hK
          refine step_now rfl ?_
          have d86 : b.tmps[86]?.getD undef = Value.slice (some ⟨bb, off, none⟩) n c := (hd ⟨2, .data⟩ (by simp) rfl _ _ rfl rfl).get (c := none) rfl (fun _ h => by cases h)
          have d87 : b.tmps[87]?.getD undef = Value.int .i64 (A : Int) := (hd ⟨3, .data⟩ (by simp) rfl _ _ rfl rfl).get (c := none) rfl (fun _ h => by cases h)
          have HS0 := Lib.hid hS
          have HCL := Lib.hid hcl
          have HDP := Lib.hid hdep
          clear hdep
          clear hf hu hd hS hcl
          go_simp
          exact hK _ _ ⟨HS0.out.1.trans (Ext.refl _), HS0.out.2.ext (Ext.refl _) 4 rfl rfl⟩ (relM.now rfl rfl) (fun j v h1 h2 h => h.ext (Ext.refl _) _)
        · intro L b W hL hdep hcl hf hu hS hd K hK
          refine step_now rfl ?_
          have d88 : b.tmps[88]?.getD undef = Value.pointer (some ⟨bb, off + A, none⟩) := (hd ⟨4, .data⟩ (by simp) rfl _ _ rfl rfl).get (c := none) rfl (fun _ h => by cases h)
          have HS0 := Lib.hid hS
          have HCL := Lib.hid hcl
          have HDP := Lib.hid hdep
          clear hdep
          clear hf hu hd hS hcl
          have kc : W.cell? ⟨bb, off + A, none⟩ = some (.int .u8 ((X A : Nat) : Int)) := HS0.out.1.cell' (HCell.out A (by rw [← HNl.out]; omega))
          go_simp
          exact hK _ _ ⟨HS0.out.1.trans (Ext.refl _), HS0.out.2.ext (Ext.refl _) 5 rfl rfl⟩ (relM.now rfl rfl) (fun j v h1 h2 h => h.ext (Ext.refl _) _)
        · intro L b W hL hdep hcl hf hu hS hd K hK
          refine step_now rfl ?_
          have d89 : b.tmps[89]?.getD undef = Value.int .u8 (X A : Nat) := (hd ⟨5, .data⟩ (by simp) rfl _ _ rfl rfl).get (c := none) rfl (fun _ h => by cases h)
          have HS0 := Lib.hid hS
          have HCL := Lib.hid hcl
          have HDP := Lib.hid hdep
          clear hdep
          clear hf hu hd hS hcl
          have hw9 : IntKind.i64.wrap ((X A : Nat) : Int) = (X A : Nat) := by rw [IntWalk.i64_in _ (by have := HXb.out A; omega)]
          go_simp
          exact hK _ _ ⟨HS0.out.1.trans (Ext.refl _), HS0.out.2.ext (Ext.refl _) 6 rfl rfl⟩ (relM.now rfl rfl) (fun j v h1 h2 h => h.ext (Ext.refl _) _)
        · intro L b W hL hdep hcl hf hu hS hd K hK
          refine step_now rfl ?_
          have f4 : b.tmps[4]?.getD undef = Value.slice (some ⟨bb, off, none⟩) n c := (hf 4 (by kernel_rfl)).trans rfl
          have HS0 := Lib.hid hS
          have HCL := Lib.hid hcl
          have HDP := Lib.hid hdep
          clear hdep
          clear hf hu hd hS hcl
          go_simp
          exact hK _ _ ⟨HS0.out.1.trans (Ext.refl _), HS0.out.2.ext (Ext.refl _) 7 rfl rfl⟩ (relM.now rfl rfl) (fun j v h1 h2 h => h.ext (Ext.refl _) _)
        · intro L b W hL hdep hcl hf hu hS hd K hK
          refine step_now rfl ?_
          have f8 : b.tmps[8]?.getD undef = Value.int .i64 (A : Int) := (hf 8 (by kernel_rfl)).trans rfl
          have HS0 := Lib.hid hS
          have HCL := Lib.hid hcl
          have HDP := Lib.hid hdep
          clear hdep
          clear hf hu hd hS hcl
          go_simp
          exact hK _ _ ⟨HS0.out.1.trans (Ext.refl _), HS0.out.2.ext (Ext.refl _) 8 rfl rfl⟩ (relM.now rfl rfl) (fun j v h1 h2 h => h.ext (Ext.refl _) _)
        · intro L b W hL hdep hcl hf hu hS hd K hK
          refine step_now rfl ?_
          have d92 : b.tmps[92]?.getD undef = Value.int .i64 (A : Int) := (hd ⟨8, .data⟩ (by simp) rfl _ _ rfl rfl).get (c := none) rfl (fun _ h => by cases h)
          have HS0 := Lib.hid hS
          have HCL := Lib.hid hcl
          have HDP := Lib.hid hdep
          clear hdep
          clear hf hu hd hS hcl
          go_simp
          exact hK _ _ ⟨HS0.out.1.trans (Ext.refl _), HS0.out.2.ext (Ext.refl _) 9 rfl rfl⟩ (relM.now rfl rfl) (fun j v h1 h2 h => h.ext (Ext.refl _) _)
        · intro L b W hL hdep hcl hf hu hS hd K hK
          refine step_now rfl ?_
          have d91 : b.tmps[91]?.getD undef = Value.slice (some ⟨bb, off, none⟩) n c := (hd ⟨7, .data⟩ (by simp) rfl _ _ rfl rfl).get (c := none) rfl (fun _ h => by cases h)
          have d93 : b.tmps[93]?.getD undef = Value.int .i64 ((A : Int) + 1) := (hd ⟨9, .data⟩ (by simp) rfl _ _ rfl rfl).get (c := none) rfl (fun _ h => by cases h)
          have HS0 := Lib.hid hS
          have HCL := Lib.hid hcl
          have HDP := Lib.hid hdep
          clear hdep
          clear hf hu hd hS hcl
          go_simp
          refine (HNum.out (A + 1) _ HS0.out.1 (by omega)).mono ?_
          rintro e W' ⟨rfl, hx', _⟩
          exact hK _ _ ⟨HS0.out.1.trans hx', HS0.out.2.ext hx' 10 rfl rfl⟩ (relM.now rfl rfl) (fun j v h1 h2 h => h.ext hx' _)
        · intro L b W hL hdep hcl hf hu hS hd K hK
          refine step_now rfl ?_
          have f4 : b.tmps[4]?.getD undef = Value.slice (some ⟨bb, off, none⟩) n c := (hf 4 (by kernel_rfl)).trans rfl
          have HS0 := Lib.hid hS
          have HCL := Lib.hid hcl
          have HDP := Lib.hid hdep
          clear hdep
          clear hf hu hd hS hcl
          go_simp
          exact hK _ _ ⟨HS0.out.1.trans (Ext.refl _), HS0.out.2.ext (Ext.refl _) 11 rfl rfl⟩ (relM.now rfl rfl) (fun j v h1 h2 h => h.ext (Ext.refl _) _)
        · intro L b W hL hdep hcl hf hu hS hd K hK
          refine step_now rfl ?_
          have f8 : b.tmps[8]?.getD undef = Value.int .i64 (A : Int) := (hf 8 (by kernel_rfl)).trans rfl
          have HS0 := Lib.hid hS
          have HCL := Lib.hid hcl
          have HDP := Lib.hid hdep
          clear hdep
          clear hf hu hd hS hcl
          go_simp
          exact hK _ _ ⟨HS0.out.1.trans (Ext.refl _), HS0.out.2.ext (Ext.refl _) 12 rfl rfl⟩ (relM.now rfl rfl) (fun j v h1 h2 h => h.ext (Ext.refl _) _)
        · intro L b W hL hdep hcl hf hu hS hd K hK
          refine step_now rfl ?_
          have d96 : b.tmps[96]?.getD undef = Value.int .i64 (A : Int) := (hd ⟨12, .data⟩ (by simp) rfl _ _ rfl rfl).get (c := none) rfl (fun _ h => by cases h)
          have HS0 := Lib.hid hS
          have HCL := Lib.hid hcl
          have HDP := Lib.hid hdep
          clear hdep
          clear hf hu hd hS hcl
          go_simp
          exact hK _ _ ⟨HS0.out.1.trans (Ext.refl _), HS0.out.2.ext (Ext.refl _) 13 rfl rfl⟩ (relM.now rfl rfl) (fun j v h1 h2 h => h.ext (Ext.refl _) _)
        · intro L b W hL hdep hcl hf hu hS hd K hK
          refine step_now rfl ?_
          have d95 : b.tmps[95]?.getD undef = Value.slice (some ⟨bb, off, none⟩) n c := (hd ⟨11, .data⟩ (by simp) rfl _ _ rfl rfl).get (c := none) rfl (fun _ h => by cases h)
          have d97 : b.tmps[97]?.getD undef = Value.int .i64 ((A : Int) + 3) := (hd ⟨13, .data⟩ (by simp) rfl _ _ rfl rfl).get (c := none) rfl (fun _ h => by cases h)
          have HS0 := Lib.hid hS
          have HCL := Lib.hid hcl
          have HDP := Lib.hid hdep
          clear hdep
          clear hf hu hd hS hcl
          go_simp
          refine (HNum.out (A + 3) _ HS0.out.1 (by omega)).mono ?_
          rintro e W' ⟨rfl, hx', _⟩
          exact hK _ _ ⟨HS0.out.1.trans hx', HS0.out.2.ext hx' 14 rfl rfl⟩ (relM.now rfl rfl) (fun j v h1 h2 h => h.ext hx' _)
        · intro L b W hL hdep hcl hf hu hS hd K hK
          refine step_now rfl ?_
          have f4 : b.tmps[4]?.getD undef = Value.slice (some ⟨bb, off, none⟩) n c := (hf 4 (by kernel_rfl)).trans rfl
          have HS0 := Lib.hid hS
          have HCL := Lib.hid hcl
          have HDP := Lib.hid hdep
          clear hdep
          clear hf hu hd hS hcl
          go_simp
          exact hK _ _ ⟨HS0.out.1.trans (Ext.refl _), HS0.out.2.ext (Ext.refl _) 15 rfl rfl⟩ (relM.now rfl rfl) (fun j v h1 h2 h => h.ext (Ext.refl _) _)
        · intro L b W hL hdep hcl hf hu hS hd K hK
          refine step_now rfl ?_
          have f8 : b.tmps[8]?.getD undef = Value.int .i64 (A : Int) := (hf 8 (by kernel_rfl)).trans rfl
          have HS0 := Lib.hid hS
          have HCL := Lib.hid hcl
          have HDP := Lib.hid hdep
          clear hdep
          clear hf hu hd hS hcl
          go_simp
          exact hK _ _ ⟨HS0.out.1.trans (Ext.refl _), HS0.out.2.ext (Ext.refl _) 16 rfl rfl⟩ (relM.now rfl rfl) (fun j v h1 h2 h => h.ext (Ext.refl _) _)
        · intro L b W hL hdep hcl hf hu hS hd K hK
          refine step_now rfl ?_
          have d100 : b.tmps[100]?.getD undef = Value.int .i64 (A : Int) := (hd ⟨16, .data⟩ (by simp) rfl _ _ rfl rfl).get (c := none) rfl (fun _ h => by cases h)
          have HS0 := Lib.hid hS
          have HCL := Lib.hid hcl
          have HDP := Lib.hid hdep
          clear hdep
          clear hf hu hd hS hcl
          go_simp
          exact hK _ _ ⟨HS0.out.1.trans (Ext.refl _), HS0.out.2.ext (Ext.refl _) 17 rfl rfl⟩ (relM.now rfl rfl) (fun j v h1 h2 h => h.ext (Ext.refl _) _)
        · intro L b W hL hdep hcl hf hu hS hd K hK
          refine step_now rfl ?_
          have d99 : b.tmps[99]?.getD undef = Value.slice (some ⟨bb, off, none⟩) n c := (hd ⟨15, .data⟩ (by simp) rfl _ _ rfl rfl).get (c := none) rfl (fun _ h => by cases h)
          have d101 : b.tmps[101]?.getD undef = Value.int .i64 ((A : Int) + 5) := (hd ⟨17, .data⟩ (by simp) rfl _ _ rfl rfl).get (c := none) rfl (fun _ h => by cases h)
          have HS0 := Lib.hid hS
          have HCL := Lib.hid hcl
          have HDP := Lib.hid hdep
          clear hdep
          clear hf hu hd hS hcl
          go_simp
          refine (HNum.out (A + 5) _ HS0.out.1 (by omega)).mono ?_
          rintro e W' ⟨rfl, hx', _⟩
          exact hK _ _ ⟨HS0.out.1.trans hx', HS0.out.2.ext hx' 18 rfl rfl⟩ (relM.now rfl rfl) (fun j v h1 h2 h => h.ext hx' _)
        · intro L b W hL hdep hcl hf hu hS hd K hK
          refine step_now rfl ?_
          have f4 : b.tmps[4]?.getD undef = Value.slice (some ⟨bb, off, none⟩) n c := (hf 4 (by kernel_rfl)).trans rfl
          have HS0 := Lib.hid hS
          have HCL := Lib.hid hcl
          have HDP := Lib.hid hdep
          clear hdep
          clear hf hu hd hS hcl
          go_simp
          exact hK _ _ ⟨HS0.out.1.trans (Ext.refl _), HS0.out.2.ext (Ext.refl _) 19 rfl rfl⟩ (relM.now rfl rfl) (fun j v h1 h2 h => h.ext (Ext.refl _) _)
        · intro L b W hL hdep hcl hf hu hS hd K hK
          refine step_now rfl ?_
          have f8 : b.tmps[8]?.getD undef = Value.int .i64 (A : Int) := (hf 8 (by kernel_rfl)).trans rfl
          have HS0 := Lib.hid hS
          have HCL := Lib.hid hcl
          have HDP := Lib.hid hdep
          clear hdep
          clear hf hu hd hS hcl
          go_simp
          exact hK _ _ ⟨HS0.out.1.trans (Ext.refl _), HS0.out.2.ext (Ext.refl _) 20 rfl rfl⟩ (relM.now rfl rfl) (fun j v h1 h2 h => h.ext (Ext.refl _) _)
        · intro L b W hL hdep hcl hf hu hS hd K hK
          refine step_now rfl ?_
          have d104 : b.tmps[104]?.getD undef = Value.int .i64 (A : Int) := (hd ⟨20, .data⟩ (by simp) rfl _ _ rfl rfl).get (c := none) rfl (fun _ h => by cases h)
          have HS0 := Lib.hid hS
          have HCL := Lib.hid hcl
          have HDP := Lib.hid hdep
          clear hdep
          clear hf hu hd hS hcl
          go_simp
          exact hK _ _ ⟨HS0.out.1.trans (Ext.refl _), HS0.out.2.ext (Ext.refl _) 21 rfl rfl⟩ (relM.now rfl rfl) (fun j v h1 h2 h => h.ext (Ext.refl _) _)
        · intro L b W hL hdep hcl hf hu hS hd K hK
          refine step_now rfl ?_
          have d103 : b.tmps[103]?.getD undef = Value.slice (some ⟨bb, off, none⟩) n c := (hd ⟨19, .data⟩ (by simp) rfl _ _ rfl rfl).get (c := none) rfl (fun _ h => by cases h)
          have d105 : b.tmps[105]?.getD undef = Value.int .i64 ((A : Int) + 7) := (hd ⟨21, .data⟩ (by simp) rfl _ _ rfl rfl).get (c := none) rfl (fun _ h => by cases h)
          have HS0 := Lib.hid hS
          have HCL := Lib.hid hcl
          have HDP := Lib.hid hdep
          clear hdep
          clear hf hu hd hS hcl
          go_simp
          refine (HNum.out (A + 7) _ HS0.out.1 (by omega)).mono ?_
          rintro e W' ⟨rfl, hx', _⟩
          exact hK _ _ ⟨HS0.out.1.trans hx', HS0.out.2.ext hx' 22 rfl rfl⟩ (relM.now rfl rfl) (fun j v h1 h2 h => h.ext hx' _)
        · intro L b W hL hdep hcl hf hu hS hd K hK
          refine step_now rfl ?_
          have d90 : b.tmps[90]?.getD undef = Value.int .i64 (X A : Nat) := (hd ⟨6, .data⟩ (by simp) rfl _ _ rfl rfl).get (c := none) rfl (fun _ h => by cases h)
          have d94 : b.tmps[94]?.getD undef = Value.int .i64 (Y (A + 1) : Nat) := (hd ⟨10, .data⟩ (by simp) rfl _ _ rfl rfl).get (c := none) rfl (fun _ h => by cases h)
          have d98 : b.tmps[98]?.getD undef = Value.int .i64 (Y (A + 3) : Nat) := (hd ⟨14, .data⟩ (by simp) rfl _ _ rfl rfl).get (c := none) rfl (fun _ h => by cases h)
          have d102 : b.tmps[102]?.getD undef = Value.int .i64 (Y (A + 5) : Nat) := (hd ⟨18, .data⟩ (by simp) rfl _ _ rfl rfl).get (c := none) rfl (fun _ h => by cases h)
          have d106 : b.tmps[106]?.getD undef = Value.int .i64 (Y (A + 7) : Nat) := (hd ⟨22, .data⟩ (by simp) rfl _ _ rfl rfl).get (c := none) rfl (fun _ h => by cases h)
          have HS0 := Lib.hid hS
          have HCL := Lib.hid hcl
          have HDP := Lib.hid hdep
          clear hdep
          clear hf hu hd hS hcl
          go_simp
          exact hK _ _ ⟨HS0.out.1.trans (Ext.refl _), HS0.out.2.ext (Ext.refl _) 23 rfl rfl⟩ (relM.now rfl rfl) (fun j v h1 h2 h => h.ext (Ext.refl _) _)
        · intro L b W hL hdep hcl hf hu hS hd K hK
          refine step_now rfl ?_
          have d107 : b.tmps[107]?.getD undef = Value.agg #[.int .i64 (X A : Nat), .int .i64 (Y (A + 1) : Nat), .int .i64 (Y (A + 3) : Nat), .int .i64 (Y (A + 5) : Nat), .int .i64 (Y (A + 7) : Nat)] := (hd ⟨23, .data⟩ (by simp) rfl _ _ rfl rfl).get (c := none) rfl (fun _ h => by cases h)
          have HS0 := Lib.hid hS
          have HCL := Lib.hid hcl
          have HDP := Lib.hid hdep
          clear hdep
          clear hf hu hd hS hcl
          go_simp
          exact hK _ _ ⟨HS0.out.1.alloc _, HS0.out.2.ext ((Ext.refl _).alloc _) 24 rfl rfl⟩ (relM.now rfl ⟨by unfold maxLen; omega, _, rfl, heap_alloc_new _ _⟩) (fun j v h1 h2 h => h.ext ((Ext.refl _).alloc _) _)
        · intro L b W hL hdep hcl hf hu hS hd K hK
          refine step_now rfl ?_
          have d85 : b.tmps[85]?.getD undef = vp := (hd ⟨1, .data⟩ (by simp) rfl _ _ rfl rfl).get (c := none) rfl (fun _ h => by cases h)
          have d108 : MK.holds (.rows 47 1 [.int .i64 (X A : Nat), .int .i64 (Y (A + 1) : Nat), .int .i64 (Y (A + 3) : Nat), .int .i64 (Y (A + 5) : Nat), .int .i64 (Y (A + 7) : Nat)]) (b.tmps[108]?.getD undef) W := (hd ⟨24, .data⟩ (by simp) rfl _ _ rfl rfl).get (c := some 25) rfl (fun _ h => by cases h; exact hL)
          obtain ⟨v108, e108⟩ : ∃ v, b.tmps[108]?.getD undef = v := ⟨_, rfl⟩
          rw [e108] at d108
          have D108 := Lib.hid d108
          clear d108
          have HS0 := Lib.hid hS
          have HCL := Lib.hid hcl
          have HDP := Lib.hid hdep
          clear hdep
          clear hf hu hd hS hcl
          have noS : L 27 = false := by cases h : L 27 with | false => rfl | true => (have := (HCL.out 27 _ rfl h ⟨25, .data⟩ (by simp) rfl); rw [this] at hL; cases hL)
          obtain ⟨cs, hr, h3, h4, h5⟩ := HS0.out.2
          have HR1 := Lib.hid hr
          have H4 := Lib.hid (h4 hL)
          clear hr h3 h4 h5
          refine app_own_sz_op _ _ 24 rfl (w1.heap.size + 1) 47 i0 _ 5 40 Tryd.underlying24 hi hz0 hz1 hz2 rfl (by omega) vp k (pcells X Y k) (by simpa [Act.eval] using d85) H4.out v108 1 [.int .i64 (X A : Nat), .int .i64 (Y (A + 1) : Nat), .int .i64 (Y (A + 3) : Nat), .int .i64 (Y (A + 5) : Nat), .int .i64 (Y (A + 7) : Nat)] (by simpa [Act.eval] using e108) (rows_sz D108.out rfl) (by omega) (by simp [Value.oneCell']) (by unfold maxLen; omega) hk40 (lt_of_block HR1.out.cfg) ?_
          intro v' W' ho hg'
          rw [HPc.out] at ho
          refine hK v' W' ⟨HS0.out.1.grown hg' (fun k hk => Nat.le_of_succ_le (own_block H4.out k hk)), HS0.out.2.grown hg' hL noS rfl⟩ (relM.now rfl ho) (fun j v h1 h2 h => h.last ?_)
          intro q c hq hc
          match j, hq with
          | 0, hq => cases hq; exact .inl ⟨_, rfl⟩
          | 1, hq => cases hq; exact .inl ⟨_, rfl⟩
          | 2, hq => cases hq; exact .inl ⟨_, rfl⟩
          | 3, hq => cases hq; exact .inl ⟨_, rfl⟩
          | 4, hq => cases hq; exact .inl ⟨_, rfl⟩
          | 5, hq => cases hq; exact .inl ⟨_, rfl⟩
          | 6, hq => cases hq; exact .inl ⟨_, rfl⟩
          | 7, hq => cases hq; exact .inl ⟨_, rfl⟩
          | 8, hq => cases hq; exact .inl ⟨_, rfl⟩
          | 9, hq => cases hq; exact .inl ⟨_, rfl⟩
          | 10, hq => cases hq; exact .inl ⟨_, rfl⟩
          | 11, hq => cases hq; exact .inl ⟨_, rfl⟩
          | 12, hq => cases hq; exact .inl ⟨_, rfl⟩
          | 13, hq => cases hq; exact .inl ⟨_, rfl⟩
          | 14, hq => cases hq; exact .inl ⟨_, rfl⟩
          | 15, hq => cases hq; exact .inl ⟨_, rfl⟩
          | 16, hq => cases hq; exact .inl ⟨_, rfl⟩
          | 17, hq => cases hq; exact .inl ⟨_, rfl⟩
          | 18, hq => cases hq; exact .inl ⟨_, rfl⟩
          | 19, hq => cases hq; exact .inl ⟨_, rfl⟩
          | 20, hq => cases hq; exact .inl ⟨_, rfl⟩
          | 21, hq => cases hq; exact .inl ⟨_, rfl⟩
          | 22, hq => cases hq; exact .inl ⟨_, rfl⟩
          | 23, hq => cases hq; exact .inl ⟨_, rfl⟩
          | 24, hq => cases hq; have := hc 25 rfl; simp at this
          | 25, hq => exact absurd rfl h1
          | 26, hq => cases hq; exact .inl ⟨_, rfl⟩
          | 27, hq => cases hq; exact .inr rfl
          | j + 28, hq => simp at hq
        · intro L b W hL hdep hcl hf hu hS hd K hK
          refine step_now rfl ?_
          have f6 : b.tmps[6]?.getD undef = Value.pointer (some ⟨w1.heap.size, 0, none⟩) := (hf 6 (by kernel_rfl)).trans rfl
          have HS0 := Lib.hid hS
          have HCL := Lib.hid hcl
          have HDP := Lib.hid hdep
          clear hdep
          clear hf hu hd hS hcl
          go_simp
          exact hK _ _ ⟨HS0.out.1.trans (Ext.refl _), HS0.out.2.ext (Ext.refl _) 26 rfl rfl⟩ (relM.now rfl rfl) (fun j v h1 h2 h => h.ext (Ext.refl _) _)
        · intro L b W hL hdep hcl hf hu hS hd K hK
          refine step_now rfl ?_
          have d110 : b.tmps[110]?.getD undef = Value.pointer (some ⟨w1.heap.size, 10, none⟩) := (hd ⟨26, .data⟩ (by simp) rfl _ _ rfl rfl).get (c := none) rfl (fun _ h => by cases h)
          have d109 : MK.holds (.owns (w1.heap.size + 1) 47 5 (k + 1) (pcells X Y (k + 1))) (b.tmps[109]?.getD undef) W := (hd ⟨25, .data⟩ (by simp) rfl _ _ rfl rfl).get (c := none) rfl (fun _ h => by cases h)
          obtain ⟨v109, e109⟩ : ∃ v, b.tmps[109]?.getD undef = v := ⟨_, rfl⟩
          rw [e109] at d109
          have D109 := Lib.hid d109
          clear d109
          have HS0 := Lib.hid hS
          have HCL := Lib.hid hcl
          have HDP := Lib.hid hdep
          clear hdep
          clear hf hu hd hS hcl
          have yesA : L 25 = true := (HDP.out ⟨25, .data⟩ (by simp) rfl)
          obtain ⟨cs, hr, h3, h4, h5⟩ := HS0.out.2
          have hcs := h3 hL
          subst hcs
          have sc : W.cell? ⟨w1.heap.size, 10, none⟩ = some vp := blk_cell hr.cfg 10
          have sf : W.frozen? ⟨w1.heap.size, 10, none⟩ = false := blk_free hr.cfg 10
          clear hr h3 h4 h5
          obtain ⟨a95, n95, c95, e95'⟩ : ∃ a n c, v109 = .slice a n c := by rcases D109.out.2 with ⟨h, _⟩ | ⟨_, _, _, h, _⟩; exact ⟨_, _, _, h⟩; exact ⟨_, _, _, h⟩
          subst e95'
          go_simp
          refine hK undef _ ⟨HS0.out.1.trans_kept (kept_set W w1.heap.size 10 _) (fun j hj => Nat.le_of_eq hj.symm), HS0.out.2.stored hL yesA rfl D109.out 10 (HF.out _)⟩ (relM.now rfl trivial) (fun j v h1 h2 h => h.set ?_)
          intro q c hq hc
          match j, hq with
          | 0, hq => cases hq; exact .inl ⟨_, rfl⟩
          | 1, hq => cases hq; exact .inl ⟨_, rfl⟩
          | 2, hq => cases hq; exact .inl ⟨_, rfl⟩
          | 3, hq => cases hq; exact .inl ⟨_, rfl⟩
          | 4, hq => cases hq; exact .inl ⟨_, rfl⟩
          | 5, hq => cases hq; exact .inl ⟨_, rfl⟩
          | 6, hq => cases hq; exact .inl ⟨_, rfl⟩
          | 7, hq => cases hq; exact .inl ⟨_, rfl⟩
          | 8, hq => cases hq; exact .inl ⟨_, rfl⟩
          | 9, hq => cases hq; exact .inl ⟨_, rfl⟩
          | 10, hq => cases hq; exact .inl ⟨_, rfl⟩
          | 11, hq => cases hq; exact .inl ⟨_, rfl⟩
          | 12, hq => cases hq; exact .inl ⟨_, rfl⟩
          | 13, hq => cases hq; exact .inl ⟨_, rfl⟩
          | 14, hq => cases hq; exact .inl ⟨_, rfl⟩
          | 15, hq => cases hq; exact .inl ⟨_, rfl⟩
          | 16, hq => cases hq; exact .inl ⟨_, rfl⟩
          | 17, hq => cases hq; exact .inl ⟨_, rfl⟩
          | 18, hq => cases hq; exact .inl ⟨_, rfl⟩
          | 19, hq => cases hq; exact .inl ⟨_, rfl⟩
          | 20, hq => cases hq; exact .inl ⟨_, rfl⟩
          | 21, hq => cases hq; exact .inl ⟨_, rfl⟩
          | 22, hq => cases hq; exact .inl ⟨_, rfl⟩
          | 23, hq => cases hq; exact .inl ⟨_, rfl⟩
          | 24, hq => cases hq; have := hc 25 rfl; simp [(HDP.out ⟨25, .data⟩ (by simp) rfl)] at this
          | 25, hq => cases hq; exact .inr (.inr ⟨_, _, _, _, _, rfl, Nat.lt_succ_self _⟩)
          | 26, hq => cases hq; exact .inl ⟨_, rfl⟩
          | 27, hq => exact absurd rfl h1
          | j + 28, hq => simp at hq
        · intro L f8 w8 hL8 h4 h5
          simp only [List.foldl_cons, List.foldl_nil, List.setIfInBounds_toArray, List.set_cons_succ, List.set_cons_zero]
          obtain ⟨hx8, cs, hr, _, _, h6⟩ := h4
          obtain ⟨v', rfl, ho⟩ := h6 (hL8 27 (by decide))
          have HRn := Lib.hid hr
          have HOn := Lib.hid ho
          have HX8 := Lib.hid hx8
          clear hr ho h6 h5 hL8 hx8 w1_ w3_ w5_ w7_
          go_wp2_with fail
          go_roundw
          case rel => exact ⟨k + 1, by omega, by go_num, Lib.hid ⟨HX8.out, v', HRn.out, HOn.out⟩⟩
          case measure => simp [intOf]; omega
      · have hkl : k = X 17 := by omega
        subst hkl
        obtain ⟨r, hr⟩ : ∃ r, r = (cfgXY X Y).cfg.code := ⟨_, rfl⟩
        have HSz : Hid (Sz wr 5 vp (cfgXY X Y).cfg.pts.length ((cfgXY X Y).cfg.pts.flatMap Pt.vals)) := Lib.hid (by
          have h9 := Sz.own HVp.out.2
          have hl9 : (cfgXY X Y).cfg.pts.length = X 17 := by simp [cfgXY, CfgN.cfg, ptsXY_length]
          rw [hl9]
          exact h9)
        have HCk : Hid (Calls Tryd.prog 14 #[.agg #[.int .u8 (X 4 : Nat), .int .u8 (X 5 : Nat), .int .u8 (X 6 : Nat), .int .i64 (X 7 : Nat), .int .i64 (Y 8 : Nat), .int .i64 (X 10 : Nat), .int .i64 (X 11 : Nat), .int .i64 (X 12 : Nat), .int .i64 (Y 13 : Nat), .int .u16 (Y 15 : Nat), vp]] wr fun e w' => e = .returned (.int .i64 r) ∧ Ext wr w') := Lib.hid (by
          rw [hr]
          exact ref_Check (cfgXY X Y).cfg vp wr HSz.out ⟨HXb.out 4, HXb.out 5, HXb.out 6⟩)
        have HRr := Lib.hid hr
        clear hr
        have k0 : wr.cell? ⟨w1.heap.size, 0, none⟩ = some (.int .u8 (X 4 : Nat)) := blk_cell HVp.out.1.cfg 0
        have k1 : wr.cell? ⟨w1.heap.size, 1, none⟩ = some (.int .u8 (X 5 : Nat)) := blk_cell HVp.out.1.cfg 1
        have k2 : wr.cell? ⟨w1.heap.size, 2, none⟩ = some (.int .u8 (X 6 : Nat)) := blk_cell HVp.out.1.cfg 2
        have k3 : wr.cell? ⟨w1.heap.size, 3, none⟩ = some (.int .i64 (X 7 : Nat)) := blk_cell HVp.out.1.cfg 3
        have k4 : wr.cell? ⟨w1.heap.size, 4, none⟩ = some (.int .i64 (Y 8 : Nat)) := blk_cell HVp.out.1.cfg 4
        have k5 : wr.cell? ⟨w1.heap.size, 5, none⟩ = some (.int .i64 (X 10 : Nat)) := blk_cell HVp.out.1.cfg 5
        have k6 : wr.cell? ⟨w1.heap.size, 6, none⟩ = some (.int .i64 (X 11 : Nat)) := blk_cell HVp.out.1.cfg 6
        have k7 : wr.cell? ⟨w1.heap.size, 7, none⟩ = some (.int .i64 (X 12 : Nat)) := blk_cell HVp.out.1.cfg 7
        have k8 : wr.cell? ⟨w1.heap.size, 8, none⟩ = some (.int .i64 (Y 13 : Nat)) := blk_cell HVp.out.1.cfg 8
        have k9 : wr.cell? ⟨w1.heap.size, 9, none⟩ = some (.int .u16 (Y 15 : Nat)) := blk_cell HVp.out.1.cfg 9
        have k10 : wr.cell? ⟨w1.heap.size, 10, none⟩ = some (vp) := blk_cell HVp.out.1.cfg 10
        go_wp2_with fail
        refine HCk.out.mono ?_
        rintro e w8 ⟨rfl, hx8⟩
        clear k0 k1 k2 k3 k4 k5 k6 k7 k8 k9 k10
        have HR8 := Lib.hid (HVp.out.1.more hx8)
        have HO8 := Lib.hid (own_ext HVp.out.2 hx8)
        clear hx8 hk17
        have hres := HR8.out.res
        obtain ⟨r0, r1, r2, r3, r4, r5, r6, r7, r8, r9, r10, rlt, rf⟩ := res_cells hres
        have HRs := Lib.hid hres
        have HSelf : Hid (w8.setRow w.heap.size #[.int .u8 0, .int .u8 0, .int .u8 0, .int .i64 0, .int .i64 0, .int .i64 0, .int .i64 0, .int .i64 0, .int .i64 0, .int .u16 0, .slice none 0 0] = w8) := Lib.hid (setRow_self _ _ _ _ _ hres)
        clear hres
        by_cases hr0 : r = 0
        · have HR0z := Lib.hid hr0
          subst hr0
          have k0 : w8.cell? ⟨w1.heap.size, 0, none⟩ = some (.int .u8 (X 4 : Nat)) := blk_cell HR8.out.cfg 0
          have k1 : w8.cell? ⟨w1.heap.size, 1, none⟩ = some (.int .u8 (X 5 : Nat)) := blk_cell HR8.out.cfg 1
          have k2 : w8.cell? ⟨w1.heap.size, 2, none⟩ = some (.int .u8 (X 6 : Nat)) := blk_cell HR8.out.cfg 2
          have k3 : w8.cell? ⟨w1.heap.size, 3, none⟩ = some (.int .i64 (X 7 : Nat)) := blk_cell HR8.out.cfg 3
          have k4 : w8.cell? ⟨w1.heap.size, 4, none⟩ = some (.int .i64 (Y 8 : Nat)) := blk_cell HR8.out.cfg 4
          have k5 : w8.cell? ⟨w1.heap.size, 5, none⟩ = some (.int .i64 (X 10 : Nat)) := blk_cell HR8.out.cfg 5
          have k6 : w8.cell? ⟨w1.heap.size, 6, none⟩ = some (.int .i64 (X 11 : Nat)) := blk_cell HR8.out.cfg 6
          have k7 : w8.cell? ⟨w1.heap.size, 7, none⟩ = some (.int .i64 (X 12 : Nat)) := blk_cell HR8.out.cfg 7
          have k8 : w8.cell? ⟨w1.heap.size, 8, none⟩ = some (.int .i64 (Y 13 : Nat)) := blk_cell HR8.out.cfg 8
          have k9 : w8.cell? ⟨w1.heap.size, 9, none⟩ = some (.int .u16 (Y 15 : Nat)) := blk_cell HR8.out.cfg 9
          have k10 : w8.cell? ⟨w1.heap.size, 10, none⟩ = some (vp) := blk_cell HR8.out.cfg 10
          have HInfo2 : Hid ((Tryd.prog.info? 33).map (·.size) = some (#[.int .u8 (X 4 : Nat), .int .u8 (X 5 : Nat), .int .u8 (X 6 : Nat), .int .i64 (X 7 : Nat), .int .i64 (Y 8 : Nat), .int .i64 (X 10 : Nat), .int .i64 (X 11 : Nat), .int .i64 (X 12 : Nat), .int .i64 (Y 13 : Nat), .int .u16 (Y 15 : Nat), vp] : Array Value).size) := Lib.hid info_rcfg
          have HOne1 : Hid ((#[.int .u8 (X 4 : Nat), .int .u8 (X 5 : Nat), .int .u8 (X 6 : Nat), .int .i64 (X 7 : Nat), .int .i64 (Y 8 : Nat), .int .i64 (X 10 : Nat), .int .i64 (X 11 : Nat), .int .i64 (X 12 : Nat), .int .i64 (Y 13 : Nat), .int .u16 (Y 15 : Nat), vp] : Array Value).all (·.oneCell') = true) := Lib.hid (by
            obtain ⟨a9, n9, c9, e9⟩ : ∃ a n c, vp = .slice a n c := by rcases HO8.out.2 with ⟨h, _⟩ | ⟨_, _, _, h, _⟩; exact ⟨_, _, _, h⟩; exact ⟨_, _, _, h⟩
            rw [e9]
            simp [Value.oneCell'])
          have HKs : Hid (Kept (fun j => j = w.heap.size) w8 (w8.setRow w.heap.size #[.int .u8 (X 4 : Nat), .int .u8 (X 5 : Nat), .int .u8 (X 6 : Nat), .int .i64 (X 7 : Nat), .int .i64 (Y 8 : Nat), .int .i64 (X 10 : Nat), .int .i64 (X 11 : Nat), .int .i64 (X 12 : Nat), .int .i64 (Y 13 : Nat), .int .u16 (Y 15 : Nat), vp]) ∧ (w8.setRow w.heap.size #[.int .u8 (X 4 : Nat), .int .u8 (X 5 : Nat), .int .u8 (X 6 : Nat), .int .i64 (X 7 : Nat), .int .i64 (Y 8 : Nat), .int .i64 (X 10 : Nat), .int .i64 (X 11 : Nat), .int .i64 (X 12 : Nat), .int .i64 (Y 13 : Nat), .int .u16 (Y 15 : Nat), vp]).heap[w.heap.size]? = some (.cells #[.int .u8 (X 4 : Nat), .int .u8 (X 5 : Nat), .int .u8 (X 6 : Nat), .int .i64 (X 7 : Nat), .int .i64 (Y 8 : Nat), .int .i64 (X 10 : Nat), .int .i64 (X 11 : Nat), .int .i64 (X 12 : Nat), .int .i64 (Y 13 : Nat), .int .u16 (Y 15 : Nat), vp] 33 (0, 0))) := Lib.hid ⟨⟨rfl, rfl, rfl, by simp, fun k _ hk => setRow_other _ _ _ _ hk⟩, setRow_heap _ _ _ _ _ _ HRs.out⟩
          have HS9 : Hid (∀ w9, w9 = w8.setRow w.heap.size #[.int .u8 (X 4 : Nat), .int .u8 (X 5 : Nat), .int .u8 (X 6 : Nat), .int .i64 (X 7 : Nat), .int .i64 (Y 8 : Nat), .int .i64 (X 10 : Nat), .int .i64 (X 11 : Nat), .int .i64 (X 12 : Nat), .int .i64 (Y 13 : Nat), .int .u16 (Y 15 : Nat), vp] → Ext w w9 ∧ w9.heap[w.heap.size]? = some (.cells #[.int .u8 (X 4 : Nat), .int .u8 (X 5 : Nat), .int .u8 (X 6 : Nat), .int .i64 (X 7 : Nat), .int .i64 (Y 8 : Nat), .int .i64 (X 10 : Nat), .int .i64 (X 11 : Nat), .int .i64 (X 12 : Nat), .int .i64 (Y 13 : Nat), .int .u16 (Y 15 : Nat), vp] 33 (0, 0)) ∧ Sz w9 5 vp (cfgXY X Y).cfg.pts.length ((cfgXY X Y).cfg.pts.flatMap Pt.vals)) := Lib.hid fun w9 e => by
            subst e
            refine ⟨HR8.out.ext.trans_kept HKs.out.1 (fun j hj => Nat.le_of_eq hj.symm), HKs.out.2, ?_⟩
            have h9 := Sz.own (own_kept HO8.out HKs.out.1 (fun j hj e => by omega))
            have hl9 : (cfgXY X Y).cfg.pts.length = X 17 := by simp [cfgXY, CfgN.cfg, ptsXY_length]
            rw [hl9]
            exact h9
          go_wp2_with (refine wpList_store_row rfl 33 _ _ rfl w.heap.size #[.int .u8 (X 4 : Nat), .int .u8 (X 5 : Nat), .int .u8 (X 6 : Nat), .int .i64 (X 7 : Nat), .int .i64 (Y 8 : Nat), .int .i64 (X 10 : Nat), .int .i64 (X 11 : Nat), .int .i64 (X 12 : Nat), .int .i64 (Y 13 : Nat), .int .u16 (Y 15 : Nat), vp] rfl rfl _ zeroCfg HRs.out HInfo2.out rfl HOne1.out ?_; obtain ⟨w9, h9⟩ : ∃ w9, w9 = w8.setRow w.heap.size #[.int .u8 (X 4 : Nat), .int .u8 (X 5 : Nat), .int .u8 (X 6 : Nat), .int .i64 (X 7 : Nat), .int .i64 (Y 8 : Nat), .int .i64 (X 10 : Nat), .int .i64 (X 11 : Nat), .int .i64 (X 12 : Nat), .int .i64 (Y 13 : Nat), .int .u16 (Y 15 : Nat), vp] := ⟨_, rfl⟩; rw [← h9]; have H9 := Lib.hid (HS9.out w9 h9); clear h9 r0 r1 r2 r3 r4 r5 r6 r7 r8 r9 r10 rlt rf k0 k1 k2 k3 k4 k5 k6 k7 k8 k9 k10)
          have k0 : w9.cell? ⟨w.heap.size, 0, none⟩ = some (.int .u8 (X 4 : Nat)) := blk_cell H9.out.2.1 0
          have k1 : w9.cell? ⟨w.heap.size, 1, none⟩ = some (.int .u8 (X 5 : Nat)) := blk_cell H9.out.2.1 1
          have k2 : w9.cell? ⟨w.heap.size, 2, none⟩ = some (.int .u8 (X 6 : Nat)) := blk_cell H9.out.2.1 2
          have k3 : w9.cell? ⟨w.heap.size, 3, none⟩ = some (.int .i64 (X 7 : Nat)) := blk_cell H9.out.2.1 3
          have k4 : w9.cell? ⟨w.heap.size, 4, none⟩ = some (.int .i64 (Y 8 : Nat)) := blk_cell H9.out.2.1 4
          have k5 : w9.cell? ⟨w.heap.size, 5, none⟩ = some (.int .i64 (X 10 : Nat)) := blk_cell H9.out.2.1 5
          have k6 : w9.cell? ⟨w.heap.size, 6, none⟩ = some (.int .i64 (X 11 : Nat)) := blk_cell H9.out.2.1 6
          have k7 : w9.cell? ⟨w.heap.size, 7, none⟩ = some (.int .i64 (X 12 : Nat)) := blk_cell H9.out.2.1 7
          have k8 : w9.cell? ⟨w.heap.size, 8, none⟩ = some (.int .i64 (Y 13 : Nat)) := blk_cell H9.out.2.1 8
          have k9 : w9.cell? ⟨w.heap.size, 9, none⟩ = some (.int .u16 (Y 15 : Nat)) := blk_cell H9.out.2.1 9
          have k10 : w9.cell? ⟨w.heap.size, 10, none⟩ = some (vp) := blk_cell H9.out.2.1 10
          refine bodyPost_ret (v := .tuple #[.agg #[.int .u8 (X 4 : Nat), .int .u8 (X 5 : Nat), .int .u8 (X 6 : Nat), .int .i64 (X 7 : Nat), .int .i64 (Y 8 : Nat), .int .i64 (X 10 : Nat), .int .i64 (X 11 : Nat), .int .i64 (X 12 : Nat), .int .i64 (Y 13 : Nat), .int .u16 (Y 15 : Nat), vp], .int .i64 0]) (by simp [results, Tryd.results10, go_sem, k0, k1, k2, k3, k4, k5, k6, k7, k8, k9, k10]) rfl ?_
          exact ⟨H9.out.1, .inr ⟨HRr.out.symm, vp, rfl, H9.out.2.2⟩⟩
        · have hrb : (r != 0) = true := by simp [hr0]
          have HR0z := Lib.hid hr0
          clear hr0
          go_wp2_with (refine wpList_store_row rfl 33 _ _ rfl w.heap.size #[.int .u8 0, .int .u8 0, .int .u8 0, .int .i64 0, .int .i64 0, .int .i64 0, .int .i64 0, .int .i64 0, .int .i64 0, .int .u16 0, .slice none 0 0] rfl rfl _ zeroCfg HRs.out info_rcfg rfl one_zero ?_; rw [HSelf.out])
          refine bodyPost_ret (v := .tuple #[.agg zeroCfg, .int .i64 r]) (by simp [results, Tryd.results10, go_sem, r0, r1, r2, r3, r4, r5, r6, r7, r8, r9, r10, zeroCfg]) rfl ?_
          exact ⟨HR8.out.ext, .inl ⟨by rw [← HRr.out]; exact HR0z.out, by rw [HRr.out]⟩⟩
end Go.Proofs.YtjooacmmgbpkfaaDoor
