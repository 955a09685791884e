/- config.Bytes: its contract. -/
import Derived.Test.YtjooacmmgbpkfaaDoorLive
namespace Go.Proofs.YtjooacmmgbpkfaaDoor
open Go.RowKit

set_option maxRecDepth 100000 in
theorem config_Bytes_no (c : Cfg) (v : Value) (w : World) (hv : Sz w 5 v c.pts.length (c.pts.flatMap Pt.vals)) (hg : Laid w) (hu : c.u0 < 256 ∧ c.u1 < 256 ∧ c.u2 < 256) (hne : c.code ≠ 0) :
    Calls Tryd.prog 7 #[c.val v] w fun e w' => e = .returned (.tuple #[.slice none 0 0, .int .i64 c.code]) ∧ Ext w w' := by
  have HC := Lib.hid (fun (W : World) (h : Ext w W) => config_Check c v W (hv.ext h) (hg.ext h) hu)
  clear hv hg hu
  obtain ⟨r, hr⟩ : ∃ r, r = c.code := ⟨_, rfl⟩
  rw [← hr] at HC hne ⊢
  clear hr
  have hr0 : (r != 0) = true := by simp [hne]
  obtain ⟨n0, n1, n2, gap, wait, tries, strikes, queue, idle, key, pts⟩ := c
  unfold Cfg.val Cfg.cells at *
  dsimp only at *
  clear hne
  go_enter Tryd.func7, Tryd.ntmps7
  go_wp2_with fail
  refine (HC.out _ ((Ext.refl _).alloc _)).mono ?_
  rintro e w1 ⟨rfl, hx⟩
  go_wp2_with fail
  go_ret2
  exact ⟨rfl, ((Ext.refl _).alloc _).trans hx⟩

theorem Sl.shape {w : World} {v : Value} {xs : List Value} (h : Sl w v xs) : ∃ a n c, v = .slice a n c := by
  obtain ⟨a, c, rfl, _⟩ := h
  exact ⟨_, _, _, rfl⟩
theorem lit_sl {w : World} {v : Value} {base : Nat} {xs : List Value} (h : RK.holds (.lit base xs) v w) (hl : xs.length ≤ 4) : Sl w v xs := by
  obtain ⟨g, fr, rfl, _, hh⟩ := h
  exact ⟨_, _, rfl, Nat.le_refl _, by unfold maxLen; omega, by simp, .inr ⟨g, 0, rfl, fun i hi => by rw [blk_cell hh]; simp⟩⟩
theorem frame_lit (t : Array Value) (n : Nat) (h : t.size = n) : t = ((List.range n).map fun i => t[i]?.getD undef).toArray := by
  apply Array.ext
  · simp [h]
  · intro i h1 h2
    simp [h1]
theorem sl3 {w : World} {g : Nat} {x y z : Nat} {cs : List Value} {t : TypeId} (h : w.heap[g]? = some (.cells (([Value.int .u8 (x : Int), Value.int .u8 (y : Int), Value.int .u8 (z : Int)] ++ cs).toArray) t (0, 0))) : Sl w (.slice (some ⟨g, 0, none⟩) 3 3) (by8 [x, y, z]) :=
  ⟨_, 3, rfl, Nat.le_refl _, by unfold maxLen; omega, by simp, .inr ⟨g, 0, rfl, fun i hi => by
    rw [blk_cell h]
    match i, hi with
    | 0, _ => rfl
    | 1, _ => rfl
    | 2, _ => rfl⟩⟩
theorem flat_of_map : ∀ (ls : List (Value × List Nat)) (bs : List (List Nat)), ls.map Prod.snd = bs → ls.flatMap Prod.snd = bs.flatten
  | [], _, h => by subst h; rfl
  | p :: l, _, h => by subst h; simp [flat_of_map l _ rfl]

theorem ptb_len (p : PtN) : p.bytes.length = 9 := by simp [PtN.bytes, wordsB]
theorem flatb_len (l : List PtN) : (l.flatMap PtN.bytes).length = 9 * l.length := by
  induction l with
  | nil => rfl
  | cons p l ih => rw [List.flatMap_cons, List.length_append, ih, ptb_len, List.length_cons]; omega
theorem head_len (n : CfgN) : n.head.length = 18 := by simp [CfgN.head, wordsB]
theorem bytes_len (n : CfgN) : n.bytes.length = 18 + 9 * n.pts.length := by rw [CfgN.bytes, List.length_append, head_len, flatb_len]
theorem ptb_bytes {p : PtN} (h : p.small) : Bytes p.bytes := by
  intro c hc
  unfold PtN.bytes at hc
  unfold PtN.small at h
  rcases List.mem_cons.1 hc with rfl | hc
  · omega
  · exact wordsB_bytes (l := [p.addr, p.at_, p.band, p.safe]) (by intro x hx; simp at hx; omega) c hc
theorem bytes_bytes {n : CfgN} (h : n.Small) : Bytes n.bytes := by
  intro c hc
  unfold CfgN.bytes at hc
  rcases List.mem_append.1 hc with hc | hc
  · obtain ⟨h0, h1, h2, h3, h4, h5, h6, h7, h8, h9, h10, _⟩ := h
    unfold CfgN.head at hc
    simp [wordsB] at hc
    omega
  · obtain ⟨p, hp, hc⟩ := List.mem_flatMap.1 hc
    exact ptb_bytes (h.pts p hp) c hc

set_option maxRecDepth 100000 in
set_option maxHeartbeats 2000000 in
theorem config_Bytes_yes (c : CfgN) (v : Value) (w : World) (hv : Sz w 5 v c.cfg.pts.length (c.cfg.pts.flatMap Pt.vals)) (hg : Laid w) (hs : c.Small) (h0 : c.cfg.code = 0) :
    Calls Tryd.prog 7 #[c.cfg.val v] w fun e w' => ∃ v', e = .returned (.tuple #[v', .int .i64 0]) ∧ (w'.ownsRow w.heap.size 5 1 v' (c.bytes.length + 2) (by8 (put c.bytes)) ∧ Ext w w') := by
  obtain ⟨n0, n1, n2, gap, wait, tries, strikes, queue, idle, key, pts⟩ := c
  obtain ⟨a, cp, rfl, hlc, hcm⟩ : ∃ a cp, v = .slice a pts.length cp ∧ pts.length ≤ cp ∧ cp ≤ 2 ^ 63 - 1 := by
    obtain ⟨_, a, cp, e, h1, h2, _⟩ := hv
    have el : (CfgN.cfg ⟨n0, n1, n2, gap, wait, tries, strikes, queue, idle, key, pts⟩).pts.length = pts.length := by simp [CfgN.cfg]
    rw [el] at e h1
    exact ⟨a, cp, e, h1, h2⟩
  have HC : Hid (∀ W : World, Ext w W → Calls Tryd.prog 13 #[.agg #[.int .u8 (n0 : Int), .int .u8 (n1 : Int), .int .u8 (n2 : Int), .int .i64 (gap : Int), .int .i64 (wait : Int), .int .i64 (tries : Int), .int .i64 (strikes : Int), .int .i64 (queue : Int), .int .i64 (idle : Int), .int .u16 (key : Int), .slice a pts.length cp]] W fun e w' => e = .returned (.int .i64 0) ∧ Ext W w') := Lib.hid fun W h => by
    have := config_Check (CfgN.cfg ⟨n0, n1, n2, gap, wait, tries, strikes, queue, idle, key, pts⟩) (.slice a pts.length cp) W (hv.ext h) (hg.ext h) ⟨hs.u0, hs.u1, hs.u2⟩
    rw [h0] at this
    exact this
  have HV : Hid (Sz w 5 (.slice a pts.length cp) pts.length ((pts.map PtN.pt).flatMap Pt.vals)) := Lib.hid (by
    have el : (CfgN.cfg ⟨n0, n1, n2, gap, wait, tries, strikes, queue, idle, key, pts⟩).pts.length = pts.length := by simp [CfgN.cfg]
    rw [el] at hv
    exact hv)
  have HS := Lib.hid hs
  have HB0 : Hid (∀ W : World, (W.alloc (.cells #[.int .u8 (n0 : Int), .int .u8 (n1 : Int), .int .u8 (n2 : Int), .int .i64 (gap : Int), .int .i64 (wait : Int), .int .i64 (tries : Int), .int .i64 (strikes : Int), .int .i64 (queue : Int), .int .i64 (idle : Int), .int .u16 (key : Int), .slice a pts.length cp] 26)).heap[W.heap.size]? = some (.cells #[.int .u8 (n0 : Int), .int .u8 (n1 : Int), .int .u8 (n2 : Int), .int .i64 (gap : Int), .int .i64 (wait : Int), .int .i64 (tries : Int), .int .i64 (strikes : Int), .int .i64 (queue : Int), .int .i64 (idle : Int), .int .u16 (key : Int), .slice a pts.length cp] 26 (0, 0))) := Lib.hid fun W => heap_alloc_new _ _
  clear hg hs h0 hv
  show Calls Tryd.prog 7 #[.agg #[.int .u8 (n0 : Int), .int .u8 (n1 : Int), .int .u8 (n2 : Int), .int .i64 (gap : Int), .int .i64 (wait : Int), .int .i64 (tries : Int), .int .i64 (strikes : Int), .int .i64 (queue : Int), .int .i64 (idle : Int), .int .u16 (key : Int), .slice a pts.length cp]] w _
  go_enter Tryd.func7, Tryd.ntmps7
  go_wp2_with fail
  refine (HC.out _ ((Ext.refl _).alloc _)).mono ?_
  rintro e w1 ⟨rfl, hx⟩
  have HB1 := Lib.hid (hx.heap (HB0.out w))
  have HX1 := Lib.hid (((Ext.refl w).alloc _).trans hx)
  clear hx HB0 HC
  go_wp2_with fail
  have HW1 : Hid (Words [wait]) := Lib.hid (by intro c hc; simp at hc; have := HS.out.wait; simp only at this; omega)
  have HW2 : Hid (Words [idle, key]) := Lib.hid (by intro c hc; simp at hc; have h1 := HS.out.idle; have h2 := HS.out.key; simp only at h1 h2; omega)
  have hg8 : IntKind.u8.wrap (gap : Int) = gap := by rw [IntKind.wrap_u8]; have := HS.out.gap; simp only at this; omega
  have ht8 : IntKind.u8.wrap (tries : Int) = tries := by rw [IntKind.wrap_u8]; have := HS.out.tries; simp only at this; omega
  have hs8 : IntKind.u8.wrap (strikes : Int) = strikes := by rw [IntKind.wrap_u8]; have := HS.out.strikes; simp only at this; omega
  have hq8 : IntKind.u8.wrap (queue : Int) = queue := by rw [IntKind.wrap_u8]; have := HS.out.queue; simp only at this; omega
  have hk64 : IntKind.i64.wrap (key : Int) = key := by rw [IntKind.wrap_i64]; have := HS.out.key; simp only at this; omega
  have hl8 : IntKind.u8.wrap (pts.length : Int) = pts.length := by rw [IntKind.wrap_u8]; have := HS.out.len; simp only at this; omega
  refine wp_region_rel (rel [.lit w1.heap.size (by8 [84, 77, 82, 49]), .sl (by8 [84, 77, 82, 49]), .eq (Value.pointer (some ⟨w.heap.size, 0, none⟩)), .sl (by8 [n0, n1, n2]), .eq (Value.pointer (some ⟨w.heap.size, 3, none⟩)), .eq (Value.int .i64 (gap : Int)), .eq (Value.int .u8 (gap : Int)), .sl (by8 [gap]), .eq (Value.pointer (some ⟨w.heap.size, 4, none⟩)), .eq (Value.int .i64 (wait : Int)), .sl (byI [wait]), .sl (by8 (wordsB [wait])), .eq (Value.pointer (some ⟨w.heap.size, 5, none⟩)), .eq (Value.int .i64 (tries : Int)), .eq (Value.int .u8 (tries : Int)), .eq (Value.pointer (some ⟨w.heap.size, 6, none⟩)), .eq (Value.int .i64 (strikes : Int)), .eq (Value.int .u8 (strikes : Int)), .eq (Value.pointer (some ⟨w.heap.size, 7, none⟩)), .eq (Value.int .i64 (queue : Int)), .eq (Value.int .u8 (queue : Int)), .sl (by8 [tries, strikes, queue]), .eq (Value.pointer (some ⟨w.heap.size, 8, none⟩)), .eq (Value.int .i64 (idle : Int)), .eq (Value.pointer (some ⟨w.heap.size, 9, none⟩)), .eq (Value.int .u16 (key : Int)), .eq (Value.int .i64 (key : Int)), .sl (byI [idle, key]), .sl (by8 (wordsB [idle, key])), .eq (Value.pointer (some ⟨w.heap.size, 10, none⟩)), .eq (Value.slice a pts.length cp), .eq (Value.int .i64 (pts.length : Int)), .eq (Value.int .u8 (pts.length : Int)), .sl (by8 [pts.length]), .ls [[84, 77, 82, 49], [n0, n1, n2], [gap], wordsB [wait], [tries, strikes, queue], wordsB [idle, key], [pts.length]], .own w.heap.size (by8 (CfgN.head ⟨n0, n1, n2, gap, wait, tries, strikes, queue, idle, key, pts⟩)), .own w.heap.size (by8 (CfgN.head ⟨n0, n1, n2, gap, wait, tries, strikes, queue, idle, key, pts⟩))]) (Ext w1) (Grow w1.heap.size) (by kernel_rfl) (by kernel_rfl) (by kernel_rfl) ((Ext.refl w1).drewN 1) (fun _ _ h k => h.trans_below (k.below h.size)) (rel_mono _ (by kernel_rfl) _) (Steps.cons ?_ (Steps.cons ?_ (Steps.cons ?_ (Steps.cons ?_ (Steps.cons ?_ (Steps.cons ?_ (Steps.cons ?_ (Steps.cons ?_ (Steps.cons ?_ (Steps.cons ?_ (Steps.cons ?_ (Steps.cons ?_ (Steps.cons ?_ (Steps.cons ?_ (Steps.cons ?_ (Steps.cons ?_ (Steps.cons ?_ (Steps.cons ?_ (Steps.cons ?_ (Steps.cons ?_ (Steps.cons ?_ (Steps.cons ?_ (Steps.cons ?_ (Steps.cons ?_ (Steps.cons ?_ (Steps.cons ?_ (Steps.cons ?_ (Steps.cons ?_ (Steps.cons ?_ (Steps.cons ?_ (Steps.cons ?_ (Steps.cons ?_ (Steps.cons ?_ (Steps.cons ?_ (Steps.cons ?_ (Steps.cons ?_ (Steps.cons ?_ (Steps.nil _)))))))))))))))))))))))))))))))))))))) ?_
  · intro b W hf hx hd K hK
    have HX := Lib.hid hx
    clear hf hd hx
    go_simp
    exact hK _ _ (Grow.ext ((Ext.refl _).alloc _)) ⟨_, (0, 0), rfl, HX.out.size, heap_alloc_new _ _⟩
  · intro b W hf hx hd K hK
    have d13 := hd ⟨0, .data⟩ (by simp) rfl _ _ rfl rfl
    obtain ⟨v13, e13⟩ : ∃ v, b.tmps[13]?.getD undef = v := ⟨_, rfl⟩
    replace d13 : RK.holds (.lit w1.heap.size (by8 [84, 77, 82, 49])) v13 W := by rw [← e13]; exact d13
    have D13 := Lib.hid d13
    clear d13
    have HX := Lib.hid hx
    clear hf hd hx
    have hs13 := lit_sl D13.out (by rw [by8_length]; simp)
    obtain ⟨g13, fr13, rfl, hb13, hh13⟩ := D13.out
    obtain ⟨W', hr, hgW⟩ := run_convert_mark W 27 5 g13 _ fr13 (by8 [84, 77, 82, 49]).length (by8 [84, 77, 82, 49]).length w1.heap.size Tryd.underlying27 Tryd.underlying5 hh13 hb13 (by simp [by8])
    clear hh13 hs13
    go_simp
    exact hK _ _ hgW (Sl.cellsKept (lit_sl D13.out (by rw [by8_length]; simp)) (fun _ _ => hgW.cell))
  · intro b W hf hx hd K hK
    have f1 : b.tmps[1]?.getD undef = Value.pointer (some ⟨w.heap.size, 0, none⟩) := (hf 1 (by kernel_rfl)).trans rfl
    have HX := Lib.hid hx
    clear hf hd hx
    go_simp
    exact hK _ _ (Grow.ext (Ext.refl _)) rfl
  · intro b W hf hx hd K hK
    have d15 : b.tmps[15]?.getD undef = Value.pointer (some ⟨w.heap.size, 0, none⟩) := hd ⟨2, .data⟩ (by simp) rfl _ _ rfl rfl
    have HX := Lib.hid hx
    clear hf hd hx
    go_simp
    exact hK _ _ (Grow.ext (Ext.refl _)) (sl3 (HX.out.heap HB1.out))
  · intro b W hf hx hd K hK
    have f1 : b.tmps[1]?.getD undef = Value.pointer (some ⟨w.heap.size, 0, none⟩) := (hf 1 (by kernel_rfl)).trans rfl
    have HX := Lib.hid hx
    clear hf hd hx
    go_simp
    exact hK _ _ (Grow.ext (Ext.refl _)) rfl
  · intro b W hf hx hd K hK
    have d17 : b.tmps[17]?.getD undef = Value.pointer (some ⟨w.heap.size, 3, none⟩) := hd ⟨4, .data⟩ (by simp) rfl _ _ rfl rfl
    have HX := Lib.hid hx
    clear hf hd hx
    have kc : W.cell? ⟨w.heap.size, 3, none⟩ = some (Value.int .i64 (gap : Int)) := HX.out.cell' (blk_cell HB1.out 3)
    go_simp
    exact hK _ _ (Grow.ext (Ext.refl _)) rfl
  · intro b W hf hx hd K hK
    have d18 : b.tmps[18]?.getD undef = Value.int .i64 (gap : Int) := hd ⟨5, .data⟩ (by simp) rfl _ _ rfl rfl
    have HX := Lib.hid hx
    clear hf hd hx
    go_simp
    exact hK _ _ (Grow.ext (Ext.refl _)) rfl
  · intro b W hf hx hd K hK
    have d19 : b.tmps[19]?.getD undef = Value.int .u8 (gap : Int) := hd ⟨6, .data⟩ (by simp) rfl _ _ rfl rfl
    have HX := Lib.hid hx
    clear hf hd hx
    go_simp
    exact hK _ _ (Grow.ext ((Ext.refl _).alloc _)) (Sl.lit (cs := (by8 [gap])) (heap_alloc_new _ _) (by unfold maxLen; simp [by8]))
  · intro b W hf hx hd K hK
    have f1 : b.tmps[1]?.getD undef = Value.pointer (some ⟨w.heap.size, 0, none⟩) := (hf 1 (by kernel_rfl)).trans rfl
    have HX := Lib.hid hx
    clear hf hd hx
    go_simp
    exact hK _ _ (Grow.ext (Ext.refl _)) rfl
  · intro b W hf hx hd K hK
    have d21 : b.tmps[21]?.getD undef = Value.pointer (some ⟨w.heap.size, 4, none⟩) := hd ⟨8, .data⟩ (by simp) rfl _ _ rfl rfl
    have HX := Lib.hid hx
    clear hf hd hx
    have kc : W.cell? ⟨w.heap.size, 4, none⟩ = some (Value.int .i64 (wait : Int)) := HX.out.cell' (blk_cell HB1.out 4)
    go_simp
    exact hK _ _ (Grow.ext (Ext.refl _)) rfl
  · intro b W hf hx hd K hK
    have d22 : b.tmps[22]?.getD undef = Value.int .i64 (wait : Int) := hd ⟨9, .data⟩ (by simp) rfl _ _ rfl rfl
    have HX := Lib.hid hx
    clear hf hd hx
    go_simp
    exact hK _ _ (Grow.ext ((Ext.refl _).alloc _)) (Sl.lit (cs := (byI [wait])) (heap_alloc_new _ _) (by unfold maxLen; simp [byI]))
  · intro b W hf hx hd K hK
    have d23 := hd ⟨10, .data⟩ (by simp) rfl _ _ rfl rfl
    obtain ⟨v23, e23⟩ : ∃ v, b.tmps[23]?.getD undef = v := ⟨_, rfl⟩
    replace d23 : Sl W v23 (byI [wait]) := by rw [← e23]; exact d23
    have D23 := Lib.hid d23
    clear d23
    have HX := Lib.hid hx
    clear hf hd hx
    go_simp
    refine (config_words v23 [wait] W D23.out HW1.out (by simp)).mono ?_
    rintro e W' ⟨v', rfl, ho, hx'⟩
    exact hK _ _ (Grow.ext hx') (Sl.own ho)
  · intro b W hf hx hd K hK
    have f1 : b.tmps[1]?.getD undef = Value.pointer (some ⟨w.heap.size, 0, none⟩) := (hf 1 (by kernel_rfl)).trans rfl
    have HX := Lib.hid hx
    clear hf hd hx
    go_simp
    exact hK _ _ (Grow.ext (Ext.refl _)) rfl
  · intro b W hf hx hd K hK
    have d25 : b.tmps[25]?.getD undef = Value.pointer (some ⟨w.heap.size, 5, none⟩) := hd ⟨12, .data⟩ (by simp) rfl _ _ rfl rfl
    have HX := Lib.hid hx
    clear hf hd hx
    have kc : W.cell? ⟨w.heap.size, 5, none⟩ = some (Value.int .i64 (tries : Int)) := HX.out.cell' (blk_cell HB1.out 5)
    go_simp
    exact hK _ _ (Grow.ext (Ext.refl _)) rfl
  · intro b W hf hx hd K hK
    have d26 : b.tmps[26]?.getD undef = Value.int .i64 (tries : Int) := hd ⟨13, .data⟩ (by simp) rfl _ _ rfl rfl
    have HX := Lib.hid hx
    clear hf hd hx
    go_simp
    exact hK _ _ (Grow.ext (Ext.refl _)) rfl
  · intro b W hf hx hd K hK
    have f1 : b.tmps[1]?.getD undef = Value.pointer (some ⟨w.heap.size, 0, none⟩) := (hf 1 (by kernel_rfl)).trans rfl
    have HX := Lib.hid hx
    clear hf hd hx
    go_simp
    exact hK _ _ (Grow.ext (Ext.refl _)) rfl
  · intro b W hf hx hd K hK
    have d28 : b.tmps[28]?.getD undef = Value.pointer (some ⟨w.heap.size, 6, none⟩) := hd ⟨15, .data⟩ (by simp) rfl _ _ rfl rfl
    have HX := Lib.hid hx
    clear hf hd hx
    have kc : W.cell? ⟨w.heap.size, 6, none⟩ = some (Value.int .i64 (strikes : Int)) := HX.out.cell' (blk_cell HB1.out 6)
    go_simp
    exact hK _ _ (Grow.ext (Ext.refl _)) rfl
  · intro b W hf hx hd K hK
    have d29 : b.tmps[29]?.getD undef = Value.int .i64 (strikes : Int) := hd ⟨16, .data⟩ (by simp) rfl _ _ rfl rfl
    have HX := Lib.hid hx
    clear hf hd hx
    go_simp
    exact hK _ _ (Grow.ext (Ext.refl _)) rfl
  · intro b W hf hx hd K hK
    have f1 : b.tmps[1]?.getD undef = Value.pointer (some ⟨w.heap.size, 0, none⟩) := (hf 1 (by kernel_rfl)).trans rfl
    have HX := Lib.hid hx
    clear hf hd hx
    go_simp
    exact hK _ _ (Grow.ext (Ext.refl _)) rfl
  · intro b W hf hx hd K hK
    have d31 : b.tmps[31]?.getD undef = Value.pointer (some ⟨w.heap.size, 7, none⟩) := hd ⟨18, .data⟩ (by simp) rfl _ _ rfl rfl
    have HX := Lib.hid hx
    clear hf hd hx
    have kc : W.cell? ⟨w.heap.size, 7, none⟩ = some (Value.int .i64 (queue : Int)) := HX.out.cell' (blk_cell HB1.out 7)
    go_simp
    exact hK _ _ (Grow.ext (Ext.refl _)) rfl
  · intro b W hf hx hd K hK
    have d32 : b.tmps[32]?.getD undef = Value.int .i64 (queue : Int) := hd ⟨19, .data⟩ (by simp) rfl _ _ rfl rfl
    have HX := Lib.hid hx
    clear hf hd hx
    go_simp
    exact hK _ _ (Grow.ext (Ext.refl _)) rfl
  · intro b W hf hx hd K hK
    have d27 : b.tmps[27]?.getD undef = Value.int .u8 (tries : Int) := hd ⟨14, .data⟩ (by simp) rfl _ _ rfl rfl
    have d30 : b.tmps[30]?.getD undef = Value.int .u8 (strikes : Int) := hd ⟨17, .data⟩ (by simp) rfl _ _ rfl rfl
    have d33 : b.tmps[33]?.getD undef = Value.int .u8 (queue : Int) := hd ⟨20, .data⟩ (by simp) rfl _ _ rfl rfl
    have HX := Lib.hid hx
    clear hf hd hx
    go_simp
    exact hK _ _ (Grow.ext ((Ext.refl _).alloc _)) (Sl.lit (cs := (by8 [tries, strikes, queue])) (heap_alloc_new _ _) (by unfold maxLen; simp [by8]))
  · intro b W hf hx hd K hK
    have f1 : b.tmps[1]?.getD undef = Value.pointer (some ⟨w.heap.size, 0, none⟩) := (hf 1 (by kernel_rfl)).trans rfl
    have HX := Lib.hid hx
    clear hf hd hx
    go_simp
    exact hK _ _ (Grow.ext (Ext.refl _)) rfl
  · intro b W hf hx hd K hK
    have d35 : b.tmps[35]?.getD undef = Value.pointer (some ⟨w.heap.size, 8, none⟩) := hd ⟨22, .data⟩ (by simp) rfl _ _ rfl rfl
    have HX := Lib.hid hx
    clear hf hd hx
    have kc : W.cell? ⟨w.heap.size, 8, none⟩ = some (Value.int .i64 (idle : Int)) := HX.out.cell' (blk_cell HB1.out 8)
    go_simp
    exact hK _ _ (Grow.ext (Ext.refl _)) rfl
  · intro b W hf hx hd K hK
    have f1 : b.tmps[1]?.getD undef = Value.pointer (some ⟨w.heap.size, 0, none⟩) := (hf 1 (by kernel_rfl)).trans rfl
    have HX := Lib.hid hx
    clear hf hd hx
    go_simp
    exact hK _ _ (Grow.ext (Ext.refl _)) rfl
  · intro b W hf hx hd K hK
    have d37 : b.tmps[37]?.getD undef = Value.pointer (some ⟨w.heap.size, 9, none⟩) := hd ⟨24, .data⟩ (by simp) rfl _ _ rfl rfl
    have HX := Lib.hid hx
    clear hf hd hx
    have kc : W.cell? ⟨w.heap.size, 9, none⟩ = some (Value.int .u16 (key : Int)) := HX.out.cell' (blk_cell HB1.out 9)
    go_simp
    exact hK _ _ (Grow.ext (Ext.refl _)) rfl
  · intro b W hf hx hd K hK
    have d38 : b.tmps[38]?.getD undef = Value.int .u16 (key : Int) := hd ⟨25, .data⟩ (by simp) rfl _ _ rfl rfl
    have HX := Lib.hid hx
    clear hf hd hx
    go_simp
    exact hK _ _ (Grow.ext (Ext.refl _)) rfl
  · intro b W hf hx hd K hK
    have d36 : b.tmps[36]?.getD undef = Value.int .i64 (idle : Int) := hd ⟨23, .data⟩ (by simp) rfl _ _ rfl rfl
    have d39 : b.tmps[39]?.getD undef = Value.int .i64 (key : Int) := hd ⟨26, .data⟩ (by simp) rfl _ _ rfl rfl
    have HX := Lib.hid hx
    clear hf hd hx
    go_simp
    exact hK _ _ (Grow.ext ((Ext.refl _).alloc _)) (Sl.lit (cs := (byI [idle, key])) (heap_alloc_new _ _) (by unfold maxLen; simp [byI]))
  · intro b W hf hx hd K hK
    have d40 := hd ⟨27, .data⟩ (by simp) rfl _ _ rfl rfl
    obtain ⟨v40, e40⟩ : ∃ v, b.tmps[40]?.getD undef = v := ⟨_, rfl⟩
    replace d40 : Sl W v40 (byI [idle, key]) := by rw [← e40]; exact d40
    have D40 := Lib.hid d40
    clear d40
    have HX := Lib.hid hx
    clear hf hd hx
    go_simp
    refine (config_words v40 [idle, key] W D40.out HW2.out (by simp)).mono ?_
    rintro e W' ⟨v', rfl, ho, hx'⟩
    exact hK _ _ (Grow.ext hx') (Sl.own ho)
  · intro b W hf hx hd K hK
    have f1 : b.tmps[1]?.getD undef = Value.pointer (some ⟨w.heap.size, 0, none⟩) := (hf 1 (by kernel_rfl)).trans rfl
    have HX := Lib.hid hx
    clear hf hd hx
    go_simp
    exact hK _ _ (Grow.ext (Ext.refl _)) rfl
  · intro b W hf hx hd K hK
    have d42 : b.tmps[42]?.getD undef = Value.pointer (some ⟨w.heap.size, 10, none⟩) := hd ⟨29, .data⟩ (by simp) rfl _ _ rfl rfl
    have HX := Lib.hid hx
    clear hf hd hx
    have kc : W.cell? ⟨w.heap.size, 10, none⟩ = some (Value.slice a pts.length cp) := HX.out.cell' (blk_cell HB1.out 10)
    go_simp
    exact hK _ _ (Grow.ext (Ext.refl _)) rfl
  · intro b W hf hx hd K hK
    have d43 : b.tmps[43]?.getD undef = Value.slice a pts.length cp := hd ⟨30, .data⟩ (by simp) rfl _ _ rfl rfl
    have HX := Lib.hid hx
    clear hf hd hx
    go_simp
    exact hK _ _ (Grow.ext (Ext.refl _)) rfl
  · intro b W hf hx hd K hK
    have d44 : b.tmps[44]?.getD undef = Value.int .i64 (pts.length : Int) := hd ⟨31, .data⟩ (by simp) rfl _ _ rfl rfl
    have HX := Lib.hid hx
    clear hf hd hx
    go_simp
    exact hK _ _ (Grow.ext (Ext.refl _)) rfl
  · intro b W hf hx hd K hK
    have d45 : b.tmps[45]?.getD undef = Value.int .u8 (pts.length : Int) := hd ⟨32, .data⟩ (by simp) rfl _ _ rfl rfl
    have HX := Lib.hid hx
    clear hf hd hx
    go_simp
    exact hK _ _ (Grow.ext ((Ext.refl _).alloc _)) (Sl.lit (cs := (by8 [pts.length])) (heap_alloc_new _ _) (by unfold maxLen; simp [by8]))
  · intro b W hf hx hd K hK
    have d14 := hd ⟨1, .data⟩ (by simp) rfl _ _ rfl rfl
    obtain ⟨v14, e14⟩ : ∃ v, b.tmps[14]?.getD undef = v := ⟨_, rfl⟩
    replace d14 : Sl W v14 (by8 [84, 77, 82, 49]) := by rw [← e14]; exact d14
    have D14 := Lib.hid d14
    clear d14
    have d16 := hd ⟨3, .data⟩ (by simp) rfl _ _ rfl rfl
    obtain ⟨v16, e16⟩ : ∃ v, b.tmps[16]?.getD undef = v := ⟨_, rfl⟩
    replace d16 : Sl W v16 (by8 [n0, n1, n2]) := by rw [← e16]; exact d16
    have D16 := Lib.hid d16
    clear d16
    have d20 := hd ⟨7, .data⟩ (by simp) rfl _ _ rfl rfl
    obtain ⟨v20, e20⟩ : ∃ v, b.tmps[20]?.getD undef = v := ⟨_, rfl⟩
    replace d20 : Sl W v20 (by8 [gap]) := by rw [← e20]; exact d20
    have D20 := Lib.hid d20
    clear d20
    have d24 := hd ⟨11, .data⟩ (by simp) rfl _ _ rfl rfl
    obtain ⟨v24, e24⟩ : ∃ v, b.tmps[24]?.getD undef = v := ⟨_, rfl⟩
    replace d24 : Sl W v24 (by8 (wordsB [wait])) := by rw [← e24]; exact d24
    have D24 := Lib.hid d24
    clear d24
    have d34 := hd ⟨21, .data⟩ (by simp) rfl _ _ rfl rfl
    obtain ⟨v34, e34⟩ : ∃ v, b.tmps[34]?.getD undef = v := ⟨_, rfl⟩
    replace d34 : Sl W v34 (by8 [tries, strikes, queue]) := by rw [← e34]; exact d34
    have D34 := Lib.hid d34
    clear d34
    have d41 := hd ⟨28, .data⟩ (by simp) rfl _ _ rfl rfl
    obtain ⟨v41, e41⟩ : ∃ v, b.tmps[41]?.getD undef = v := ⟨_, rfl⟩
    replace d41 : Sl W v41 (by8 (wordsB [idle, key])) := by rw [← e41]; exact d41
    have D41 := Lib.hid d41
    clear d41
    have d46 := hd ⟨33, .data⟩ (by simp) rfl _ _ rfl rfl
    obtain ⟨v46, e46⟩ : ∃ v, b.tmps[46]?.getD undef = v := ⟨_, rfl⟩
    replace d46 : Sl W v46 (by8 [pts.length]) := by rw [← e46]; exact d46
    have D46 := Lib.hid d46
    clear d46
    have HX := Lib.hid hx
    clear hf hd hx
    obtain ⟨a14, n14, c14, rfl⟩ := D14.out.shape
    obtain ⟨a16, n16, c16, rfl⟩ := D16.out.shape
    obtain ⟨a20, n20, c20, rfl⟩ := D20.out.shape
    obtain ⟨a24, n24, c24, rfl⟩ := D24.out.shape
    obtain ⟨a34, n34, c34, rfl⟩ := D34.out.shape
    obtain ⟨a41, n41, c41, rfl⟩ := D41.out.shape
    obtain ⟨a46, n46, c46, rfl⟩ := D46.out.shape
    go_simp
    refine hK _ _ (Grow.ext ((Ext.refl _).alloc _)) ⟨[(.slice a14 n14 c14, [84, 77, 82, 49]), (.slice a16 n16 c16, [n0, n1, n2]), (.slice a20 n20 c20, [gap]), (.slice a24 n24 c24, wordsB [wait]), (.slice a34 n34 c34, [tries, strikes, queue]), (.slice a41 n41 c41, wordsB [idle, key]), (.slice a46 n46 c46, [pts.length])], Sl.lit (cs := [.slice a14 n14 c14, .slice a16 n16 c16, .slice a20 n20 c20, .slice a24 n24 c24, .slice a34 n34 c34, .slice a41 n41 c41, .slice a46 n46 c46]) (heap_alloc_new _ _) (by unfold maxLen; simp), ?_, rfl⟩
    have hal : Ext W (W.alloc (.cells #[.slice a14 n14 c14, .slice a16 n16 c16, .slice a20 n20 c20, .slice a24 n24 c24, .slice a34 n34 c34, .slice a41 n41 c41, .slice a46 n46 c46] 27)) := (Ext.refl _).alloc _
    intro p hp
    simp only [List.mem_cons, List.not_mem_nil, or_false] at hp
    rcases hp with rfl | rfl | rfl | rfl | rfl | rfl | rfl
    · exact D14.out.ext hal
    · exact D16.out.ext hal
    · exact D20.out.ext hal
    · exact D24.out.ext hal
    · exact D34.out.ext hal
    · exact D41.out.ext hal
    · exact D46.out.ext hal
  · intro b W hf hx hd K hK
    have d47 := hd ⟨34, .data⟩ (by simp) rfl _ _ rfl rfl
    obtain ⟨v47, e47⟩ : ∃ v, b.tmps[47]?.getD undef = v := ⟨_, rfl⟩
    replace d47 : RK.holds (.ls [[84, 77, 82, 49], [n0, n1, n2], [gap], wordsB [wait], [tries, strikes, queue], wordsB [idle, key], [pts.length]]) v47 W := by rw [← e47]; exact d47
    have D47 := Lib.hid d47
    clear d47
    have HX := Lib.hid hx
    clear hf hd hx
    go_simp
    obtain ⟨ls, h1, h2, h3⟩ := D47.out
    have ht : ls.flatMap Prod.snd = (CfgN.head ⟨n0, n1, n2, gap, wait, tries, strikes, queue, idle, key, pts⟩) := flat_of_map ls _ h3
    have hn : total ls = 18 := by unfold total; rw [ht]; rfl
    refine (slices_Concat v47 ls W h1 h2 (by omega) (by omega)).mono ?_
    rintro e W' ⟨v', rfl, ho, hx'⟩
    rw [ht, hn] at ho
    exact hK _ _ (Grow.ext hx') (own_base ho (Nat.le_trans HX1.out.size HX.out.size))
  · intro b W hf hx hd K hK
    have d48 := hd ⟨35, .data⟩ (by simp) rfl _ _ rfl rfl
    obtain ⟨v48, e48⟩ : ∃ v, b.tmps[48]?.getD undef = v := ⟨_, rfl⟩
    replace d48 : W.ownsRow w.heap.size 5 1 v48 (by8 (CfgN.head ⟨n0, n1, n2, gap, wait, tries, strikes, queue, idle, key, pts⟩)).length (by8 (CfgN.head ⟨n0, n1, n2, gap, wait, tries, strikes, queue, idle, key, pts⟩)) := by rw [← e48]; exact d48
    have D48 := Lib.hid d48
    clear d48
    have HX := Lib.hid hx
    clear hf hd hx
    go_simp
    exact hK _ _ (Grow.ext (Ext.refl _)) D48.out
  · intro a' w2 h1 h2 h3 h4 h5
    obtain ⟨tmps, defers⟩ := a'
    dsimp only at h1 h2
    subst h1
    obtain ⟨x0, x1, x2, x3, x4, x5, x6, x7, x8, x9, x10, x11, x12, x13, x14, x15, x16, x17, x18, x19, x20, x21, x22, x23, x24, x25, x26, x27, x28, x29, x30, x31, x32, x33, x34, x35, x36, x37, x38, x39, x40, x41, x42, x43, x44, x45, x46, x47, x48, x49, x50, x51, x52, x53, x54, x55, x56, x57, x58, x59, x60, x61, x62, x63, x64, x65, x66, x67, x68, x69, x70, x71, x72, x73, x74, x75, e⟩ : ∃ x0 x1 x2 x3 x4 x5 x6 x7 x8 x9 x10 x11 x12 x13 x14 x15 x16 x17 x18 x19 x20 x21 x22 x23 x24 x25 x26 x27 x28 x29 x30 x31 x32 x33 x34 x35 x36 x37 x38 x39 x40 x41 x42 x43 x44 x45 x46 x47 x48 x49 x50 x51 x52 x53 x54 x55 x56 x57 x58 x59 x60 x61 x62 x63 x64 x65 x66 x67 x68 x69 x70 x71 x72 x73 x74 x75 : Value, tmps = #[x0, x1, x2, x3, x4, x5, x6, x7, x8, x9, x10, x11, x12, x13, x14, x15, x16, x17, x18, x19, x20, x21, x22, x23, x24, x25, x26, x27, x28, x29, x30, x31, x32, x33, x34, x35, x36, x37, x38, x39, x40, x41, x42, x43, x44, x45, x46, x47, x48, x49, x50, x51, x52, x53, x54, x55, x56, x57, x58, x59, x60, x61, x62, x63, x64, x65, x66, x67, x68, x69, x70, x71, x72, x73, x74, x75] := ⟨_, _, _, _, _, _, _, _, _, _, _, _, _, _, _, _, _, _, _, _, _, _, _, _, _, _, _, _, _, _, _, _, _, _, _, _, _, _, _, _, _, _, _, _, _, _, _, _, _, _, _, _, _, _, _, _, _, _, _, _, _, _, _, _, _, _, _, _, _, _, _, _, _, _, _, _, (frame_lit tmps 76 h2).trans rfl⟩
    subst e
    have e0 : x0 = _ := h3 0 (by kernel_rfl)
    have e1 : x1 = Value.pointer (some ⟨w.heap.size, 0, none⟩) := h3 1 (by kernel_rfl)
    have e2 : x2 = Value.slice none 0 0 := h3 2 (by kernel_rfl)
    have e3 : x3 = Value.int .i64 0 := h3 3 (by kernel_rfl)
    have e5 : w2.ownsRow w.heap.size 5 1 x5 (by8 (CfgN.head ⟨n0, n1, n2, gap, wait, tries, strikes, queue, idle, key, pts⟩)).length (by8 (CfgN.head ⟨n0, n1, n2, gap, wait, tries, strikes, queue, idle, key, pts⟩)) := h5 36 _ _ rfl rfl
    subst e1 e2 e3
    clear e0 h2 h3 h5
    have HO := Lib.hid e5
    have HX2 := Lib.hid (HX1.out.trans h4)
    have HB2 := Lib.hid (h4.heap HB1.out)
    clear e5 h4 HB1
    have k10 : w2.cell? ⟨w.heap.size, 10, none⟩ = some (.slice a pts.length cp) := blk_cell HB2.out 10
    have hcell : Hid (∀ i p, pts[i]? = some p → ∃ b off, a = some ⟨b, off, none⟩ ∧ b < w.heap.size ∧ ∀ j u, j < 5 → (p.pt.vals)[j]? = some u → w.cell? ⟨b, off + i * 5 + j, none⟩ = some u) := Lib.hid (by
      obtain ⟨a1, c1, e1, _, _, _, h⟩ := Sz.at_ (l := pts.map PtN.pt) Pt.vals_length (by omega) (by rw [List.length_map]; exact HV.out)
      intro i p hp
      injection e1 with ea _ _
      subst ea
      exact h i p.pt (by rw [List.getElem?_map, hp]; rfl))
    go_wp2_with fail
    obtain ⟨hdl, hhd⟩ : ∃ hdl, hdl = CfgN.head ⟨n0, n1, n2, gap, wait, tries, strikes, queue, idle, key, pts⟩ := ⟨_, rfl⟩
    rw [← hhd] at HO
    have HH := Lib.hid hhd
    clear hhd hg8 ht8 hs8 hq8 hk64 hl8 HW1 HW2
    go_loopw [5, 52] (fun x i wr => ∃ k : Nat, k ≤ pts.length ∧ i = .int .i64 k ∧ (wr.ownsRow w.heap.size 5 1 x (by8 (hdl ++ (pts.take k).flatMap PtN.bytes)).length (by8 (hdl ++ (pts.take k).flatMap PtN.bytes)) ∧ Ext w wr)) (fun _ i _ => pts.length - (intOf i).toNat)
    case atStart => exact ⟨0, by omega, rfl, by simpa using HO.out, HX2.out⟩
    case round =>
      obtain ⟨k, hk, rfl, hown, hext⟩ := hrel
      have HO := Lib.hid hown
      have HX := Lib.hid hext
      clear hown hext
      by_cases hlt : k < pts.length
      · obtain ⟨s, hs⟩ : ∃ s, pts[k]? = some s := ⟨_, List.getElem?_eq_getElem hlt⟩
        obtain ⟨b, off, rfl, _, hcx⟩ := hcell.out k s hs
        have c0 : wr.cell? ⟨b, off + k * 5, none⟩ = some (.int .i64 (s.kind : Int)) := HX.out.cell' (hcx 0 _ (by omega) rfl)
        have c1 : wr.cell? ⟨b, off + k * 5 + 1, none⟩ = some (.int .i64 (s.addr : Int)) := HX.out.cell' (hcx 1 _ (by omega) rfl)
        have c2 : wr.cell? ⟨b, off + k * 5 + 2, none⟩ = some (.int .i64 (s.at_ : Int)) := HX.out.cell' (hcx 2 _ (by omega) rfl)
        have c3 : wr.cell? ⟨b, off + k * 5 + 3, none⟩ = some (.int .i64 (s.band : Int)) := HX.out.cell' (hcx 3 _ (by omega) rfl)
        have c4 : wr.cell? ⟨b, off + k * 5 + 4, none⟩ = some (.int .i64 (s.safe : Int)) := HX.out.cell' (hcx 4 _ (by omega) rfl)
        have HSm : Hid s.small := Lib.hid (HS.out.pts s (List.mem_of_getElem? hs))
        have HTk : Hid ((pts.take (k + 1)).flatMap PtN.bytes = (pts.take k).flatMap PtN.bytes ++ s.bytes) := Lib.hid (by
          obtain ⟨hk', rfl⟩ := List.getElem?_eq_some_iff.1 hs
          rw [List.take_succ_eq_append_getElem hk', List.flatMap_append]
          simp)
        clear hcx hs
        obtain ⟨i0, hi, hz0, hz1, hz2⟩ := info_parts info8
        have hk8 : IntKind.u8.wrap (s.kind : Int) = s.kind := by rw [IntKind.wrap_u8]; have := HSm.out.1; omega
        have HWd : Hid (Words [s.addr, s.at_, s.band, s.safe]) := Lib.hid (by
          intro c hc
          have h := HSm.out
          unfold PtN.small at h
          simp at hc
          omega)
        have HAll : Hid ((hdl ++ (pts.take k).flatMap PtN.bytes ++ [s.kind]) ++ wordsB [s.addr, s.at_, s.band, s.safe] = hdl ++ (pts.take (k + 1)).flatMap PtN.bytes) := Lib.hid (by
          rw [HTk.out]
          simp [PtN.bytes])
        have HLen : Hid (((by8 (hdl ++ (pts.take k).flatMap PtN.bytes)).length + (by8 [s.kind]).length) * 1 ≤ 140737488355328 ∧ ((by8 ((hdl ++ (pts.take k).flatMap PtN.bytes) ++ [s.kind])).length + (by8 (wordsB [s.addr, s.at_, s.band, s.safe])).length) * 1 ≤ 140737488355328) := Lib.hid (by
          have h1 := flatb_len (pts.take k)
          have h2 := (List.length_take_le k pts)
          have h3 : hdl.length = 18 := by rw [HH.out]; exact head_len _
          have h4 := HS.out.len
          simp only at h4
          rw [by8_length, by8_length, by8_length, by8_length, List.length_append, List.length_append, List.length_append, wordsB_length, h1, h3]
          simp
          omega)
        go_wp2_with fail
        refine wp_region_live (relL [(.eq (u5), none), (.eq (Value.pointer (some ⟨wr.heap.size, 0, none⟩)), none), (.eq (Value.int .i64 (s.kind : Int)), none), (.eq (Value.int .u8 (s.kind : Int)), none), (.sl (wr.heap.size + 1) (by8 [s.kind]), some 5), (.own w.heap.size 5 (by8 ((hdl ++ (pts.take k).flatMap PtN.bytes) ++ [s.kind])), some 16), (.eq (Value.pointer (some ⟨wr.heap.size, 1, none⟩)), none), (.eq (Value.int .i64 (s.addr : Int)), none), (.eq (Value.pointer (some ⟨wr.heap.size, 2, none⟩)), none), (.eq (Value.int .i64 (s.at_ : Int)), none), (.eq (Value.pointer (some ⟨wr.heap.size, 3, none⟩)), none), (.eq (Value.int .i64 (s.band : Int)), none), (.eq (Value.pointer (some ⟨wr.heap.size, 4, none⟩)), none), (.eq (Value.int .i64 (s.safe : Int)), none), (.sl (wr.heap.size + 1) (byI [s.addr, s.at_, s.band, s.safe]), some 15), (.sl (wr.heap.size + 1) (by8 (wordsB [s.addr, s.at_, s.band, s.safe])), some 16), (.own w.heap.size 5 (by8 (hdl ++ (pts.take (k + 1)).flatMap PtN.bytes)), some 17), (.own w.heap.size 5 (by8 (hdl ++ (pts.take (k + 1)).flatMap PtN.bytes)), none)]) (SB w wr.heap.size (.cells #[.int .i64 (s.kind : Int), .int .i64 (s.addr : Int), .int .i64 (s.at_ : Int), .int .i64 (s.band : Int), .int .i64 (s.safe : Int)] 47 (0, 0)) 5 u5 (by8 (hdl ++ (pts.take k).flatMap PtN.bytes)) 5) (by kernel_rfl) (by kernel_rfl) (by kernel_rfl) ⟨(HX.out.alloc _).drewN 1, heap_alloc_new _ _, by simp, fun _ => own_ext HO.out (((Ext.refl _).alloc _).drewN 1)⟩ (Lives.cons ?_ (Lives.cons ?_ (Lives.cons ?_ (Lives.cons ?_ (Lives.cons ?_ (Lives.cons ?_ (Lives.cons ?_ (Lives.cons ?_ (Lives.cons ?_ (Lives.cons ?_ (Lives.cons ?_ (Lives.cons ?_ (Lives.cons ?_ (Lives.cons ?_ (Lives.cons ?_ (Lives.cons ?_ (Lives.cons ?_ (Lives.cons ?_ (Lives.nil _))))))))))))))))))) ?_
        · intro L b W hL hdep hcl hf hu hS hd K hK
          have f5 : b.tmps[5]?.getD undef = u5 := hu 17 _ _ rfl rfl (by cases h : L 17 with | false => rfl | true => (have := hcl 17 _ rfl h ⟨0, .phase⟩ (by simp) rfl; rw [this] at hL; cases hL))
          have HS0 := Lib.hid hS
          have HCL := Lib.hid hcl
          have HDP := Lib.hid hdep
          clear hdep
          clear hf hu hd hS hcl
          go_simp
          exact hK _ _ (HS0.out.ext (Ext.refl _) _) (relL.now rfl rfl) (fun j v h1 h2 h => h.ext (Ext.refl _) _)
        · intro L b W hL hdep hcl hf hu hS hd K hK
          have f7 : b.tmps[7]?.getD undef = Value.pointer (some ⟨wr.heap.size, 0, none⟩) := (hf 7 (by kernel_rfl)).trans rfl
          have HS0 := Lib.hid hS
          have HCL := Lib.hid hcl
          have HDP := Lib.hid hdep
          clear hdep
          clear hf hu hd hS hcl
          go_simp
          exact hK _ _ (HS0.out.ext (Ext.refl _) _) (relL.now rfl rfl) (fun j v h1 h2 h => h.ext (Ext.refl _) _)
        · intro L b W hL hdep hcl hf hu hS hd K hK
          have d57 : b.tmps[57]?.getD undef = Value.pointer (some ⟨wr.heap.size, 0, none⟩) := (hd ⟨1, .data⟩ (by simp) rfl _ _ rfl rfl).get (c := none) rfl (fun _ h => by cases h)
          have HS0 := Lib.hid hS
          have HCL := Lib.hid hcl
          have HDP := Lib.hid hdep
          clear hdep
          clear hf hu hd hS hcl
          have kc : W.cell? ⟨wr.heap.size, 0, none⟩ = some (Value.int .i64 (s.kind : Int)) := blk_cell HS0.out.2.1 0
          go_simp
          exact hK _ _ (HS0.out.ext (Ext.refl _) _) (relL.now rfl rfl) (fun j v h1 h2 h => h.ext (Ext.refl _) _)
        · intro L b W hL hdep hcl hf hu hS hd K hK
          have d58 : b.tmps[58]?.getD undef = Value.int .i64 (s.kind : Int) := (hd ⟨2, .data⟩ (by simp) rfl _ _ rfl rfl).get (c := none) rfl (fun _ h => by cases h)
          have HS0 := Lib.hid hS
          have HCL := Lib.hid hcl
          have HDP := Lib.hid hdep
          clear hdep
          clear hf hu hd hS hcl
          go_simp
          exact hK _ _ (HS0.out.ext (Ext.refl _) _) (relL.now rfl rfl) (fun j v h1 h2 h => h.ext (Ext.refl _) _)
        · intro L b W hL hdep hcl hf hu hS hd K hK
          have d59 : b.tmps[59]?.getD undef = Value.int .u8 (s.kind : Int) := (hd ⟨3, .data⟩ (by simp) rfl _ _ rfl rfl).get (c := none) rfl (fun _ h => by cases h)
          have HS0 := Lib.hid hS
          have HCL := Lib.hid hcl
          have HDP := Lib.hid hdep
          clear hdep
          clear hf hu hd hS hcl
          go_simp
          refine hK _ _ (HS0.out.ext ((Ext.refl _).alloc _) _) (relL.now rfl ⟨Sl.lit (cs := (by8 [s.kind])) (heap_alloc_new _ _) (by unfold maxLen; simp [by8]), fun b hb => ?_⟩) (fun j v h1 h2 h => h.ext ((Ext.refl _).alloc _) _)
          simp [Value.ownBlock] at hb
          have := HS0.out.2.2.1
          omega
        · intro L b W hL hdep hcl hf hu hS hd K hK
          have d56 : b.tmps[56]?.getD undef = u5 := (hd ⟨0, .data⟩ (by simp) rfl _ _ rfl rfl).get (c := none) rfl (fun _ h => by cases h)
          have d60 : LK.holds (.sl (wr.heap.size + 1) (by8 [s.kind])) (b.tmps[60]?.getD undef) W := (hd ⟨4, .data⟩ (by simp) rfl _ _ rfl rfl).get (c := some 5) rfl (fun _ h => by cases h; exact hL)
          obtain ⟨v60, e60⟩ : ∃ v, b.tmps[60]?.getD undef = v := ⟨_, rfl⟩
          rw [e60] at d60
          have D60 := Lib.hid d60
          clear d60
          have HS0 := Lib.hid hS
          have HCL := Lib.hid hcl
          have HDP := Lib.hid hdep
          clear hdep
          clear hf hu hd hS hcl
          have hrb := own_lt (HS0.out.2.2.2 hL)
          refine app_own_op _ _ 27 rfl w.heap.size 5 i0 (.int .u8 0) 1 Tryd.underlying27 hi hz0 hz1 hz2 rfl u5 (by8 (hdl ++ (pts.take k).flatMap PtN.bytes)) (by simpa [Act.eval] using d56) (HS0.out.2.2.2 hL) v60 (by8 [s.kind]) (by simpa [Act.eval] using e60) D60.out.1 (by simp [by8]) (by8_one _) HLen.out.1 (by omega) HS0.out.1.size ?_
          intro v' W' ho hg
          rw [← by8_append] at ho
          refine hK v' W' (HS0.out.grown hg (own_block (HS0.out.2.2.2 hL)) (fun e => by have := own_lt HO.out _ e; omega) 5 (by simp)) (relL.now rfl ho) (fun j v h1 h2 h => h.touch hg (base := wr.heap.size + 1) (fun k hk => Nat.lt_succ_of_lt (own_lt HO.out k hk)) ?_)
          have n16 : L 16 = true → False := fun h => by have := HCL.out 16 _ rfl h ⟨5, .data⟩ (by simp) rfl; rw [this] at hL; cases hL
          have n17 : L 17 = true → False := fun h => n16 (HCL.out 17 _ rfl h ⟨16, .data⟩ (by simp) rfl)
          intro q c hq hc
          match j, hq with
          | 0, hq => cases hq; exact .inl ⟨_, rfl⟩
          | 1, hq => cases hq; exact .inl ⟨_, rfl⟩
          | 2, hq => cases hq; exact .inl ⟨_, rfl⟩
          | 3, hq => cases hq; exact .inl ⟨_, rfl⟩
          | 4, hq => cases hq; exact .inr (.inl ⟨_, rfl⟩)
          | 5, hq => cases hq; exact absurd rfl h1
          | 6, hq => cases hq; exact .inl ⟨_, rfl⟩
          | 7, hq => cases hq; exact .inl ⟨_, rfl⟩
          | 8, hq => cases hq; exact .inl ⟨_, rfl⟩
          | 9, hq => cases hq; exact .inl ⟨_, rfl⟩
          | 10, hq => cases hq; exact .inl ⟨_, rfl⟩
          | 11, hq => cases hq; exact .inl ⟨_, rfl⟩
          | 12, hq => cases hq; exact .inl ⟨_, rfl⟩
          | 13, hq => cases hq; exact .inl ⟨_, rfl⟩
          | 14, hq => cases hq; exact .inr (.inl ⟨_, rfl⟩)
          | 15, hq => cases hq; exact .inr (.inl ⟨_, rfl⟩)
          | 16, hq => cases hq; exact (n16 h2).elim
          | 17, hq => cases hq; exact (n17 h2).elim
          | j + 18, hq => simp at hq
        · intro L b W hL hdep hcl hf hu hS hd K hK
          have f7 : b.tmps[7]?.getD undef = Value.pointer (some ⟨wr.heap.size, 0, none⟩) := (hf 7 (by kernel_rfl)).trans rfl
          have HS0 := Lib.hid hS
          have HCL := Lib.hid hcl
          have HDP := Lib.hid hdep
          clear hdep
          clear hf hu hd hS hcl
          go_simp
          exact hK _ _ (HS0.out.ext (Ext.refl _) _) (relL.now rfl rfl) (fun j v h1 h2 h => h.ext (Ext.refl _) _)
        · intro L b W hL hdep hcl hf hu hS hd K hK
          have d62 : b.tmps[62]?.getD undef = Value.pointer (some ⟨wr.heap.size, 1, none⟩) := (hd ⟨6, .data⟩ (by simp) rfl _ _ rfl rfl).get (c := none) rfl (fun _ h => by cases h)
          have HS0 := Lib.hid hS
          have HCL := Lib.hid hcl
          have HDP := Lib.hid hdep
          clear hdep
          clear hf hu hd hS hcl
          have kc : W.cell? ⟨wr.heap.size, 1, none⟩ = some (Value.int .i64 (s.addr : Int)) := blk_cell HS0.out.2.1 1
          go_simp
          exact hK _ _ (HS0.out.ext (Ext.refl _) _) (relL.now rfl rfl) (fun j v h1 h2 h => h.ext (Ext.refl _) _)
        · intro L b W hL hdep hcl hf hu hS hd K hK
          have f7 : b.tmps[7]?.getD undef = Value.pointer (some ⟨wr.heap.size, 0, none⟩) := (hf 7 (by kernel_rfl)).trans rfl
          have HS0 := Lib.hid hS
          have HCL := Lib.hid hcl
          have HDP := Lib.hid hdep
          clear hdep
          clear hf hu hd hS hcl
          go_simp
          exact hK _ _ (HS0.out.ext (Ext.refl _) _) (relL.now rfl rfl) (fun j v h1 h2 h => h.ext (Ext.refl _) _)
        · intro L b W hL hdep hcl hf hu hS hd K hK
          have d64 : b.tmps[64]?.getD undef = Value.pointer (some ⟨wr.heap.size, 2, none⟩) := (hd ⟨8, .data⟩ (by simp) rfl _ _ rfl rfl).get (c := none) rfl (fun _ h => by cases h)
          have HS0 := Lib.hid hS
          have HCL := Lib.hid hcl
          have HDP := Lib.hid hdep
          clear hdep
          clear hf hu hd hS hcl
          have kc : W.cell? ⟨wr.heap.size, 2, none⟩ = some (Value.int .i64 (s.at_ : Int)) := blk_cell HS0.out.2.1 2
          go_simp
          exact hK _ _ (HS0.out.ext (Ext.refl _) _) (relL.now rfl rfl) (fun j v h1 h2 h => h.ext (Ext.refl _) _)
        · intro L b W hL hdep hcl hf hu hS hd K hK
          have f7 : b.tmps[7]?.getD undef = Value.pointer (some ⟨wr.heap.size, 0, none⟩) := (hf 7 (by kernel_rfl)).trans rfl
          have HS0 := Lib.hid hS
          have HCL := Lib.hid hcl
          have HDP := Lib.hid hdep
          clear hdep
          clear hf hu hd hS hcl
          go_simp
          exact hK _ _ (HS0.out.ext (Ext.refl _) _) (relL.now rfl rfl) (fun j v h1 h2 h => h.ext (Ext.refl _) _)
        · intro L b W hL hdep hcl hf hu hS hd K hK
          have d66 : b.tmps[66]?.getD undef = Value.pointer (some ⟨wr.heap.size, 3, none⟩) := (hd ⟨10, .data⟩ (by simp) rfl _ _ rfl rfl).get (c := none) rfl (fun _ h => by cases h)
          have HS0 := Lib.hid hS
          have HCL := Lib.hid hcl
          have HDP := Lib.hid hdep
          clear hdep
          clear hf hu hd hS hcl
          have kc : W.cell? ⟨wr.heap.size, 3, none⟩ = some (Value.int .i64 (s.band : Int)) := blk_cell HS0.out.2.1 3
          go_simp
          exact hK _ _ (HS0.out.ext (Ext.refl _) _) (relL.now rfl rfl) (fun j v h1 h2 h => h.ext (Ext.refl _) _)
        · intro L b W hL hdep hcl hf hu hS hd K hK
          have f7 : b.tmps[7]?.getD undef = Value.pointer (some ⟨wr.heap.size, 0, none⟩) := (hf 7 (by kernel_rfl)).trans rfl
          have HS0 := Lib.hid hS
          have HCL := Lib.hid hcl
          have HDP := Lib.hid hdep
          clear hdep
          clear hf hu hd hS hcl
          go_simp
          exact hK _ _ (HS0.out.ext (Ext.refl _) _) (relL.now rfl rfl) (fun j v h1 h2 h => h.ext (Ext.refl _) _)
        · intro L b W hL hdep hcl hf hu hS hd K hK
          have d68 : b.tmps[68]?.getD undef = Value.pointer (some ⟨wr.heap.size, 4, none⟩) := (hd ⟨12, .data⟩ (by simp) rfl _ _ rfl rfl).get (c := none) rfl (fun _ h => by cases h)
          have HS0 := Lib.hid hS
          have HCL := Lib.hid hcl
          have HDP := Lib.hid hdep
          clear hdep
          clear hf hu hd hS hcl
          have kc : W.cell? ⟨wr.heap.size, 4, none⟩ = some (Value.int .i64 (s.safe : Int)) := blk_cell HS0.out.2.1 4
          go_simp
          exact hK _ _ (HS0.out.ext (Ext.refl _) _) (relL.now rfl rfl) (fun j v h1 h2 h => h.ext (Ext.refl _) _)
        · intro L b W hL hdep hcl hf hu hS hd K hK
          have d63 : b.tmps[63]?.getD undef = Value.int .i64 (s.addr : Int) := (hd ⟨7, .data⟩ (by simp) rfl _ _ rfl rfl).get (c := none) rfl (fun _ h => by cases h)
          have d65 : b.tmps[65]?.getD undef = Value.int .i64 (s.at_ : Int) := (hd ⟨9, .data⟩ (by simp) rfl _ _ rfl rfl).get (c := none) rfl (fun _ h => by cases h)
          have d67 : b.tmps[67]?.getD undef = Value.int .i64 (s.band : Int) := (hd ⟨11, .data⟩ (by simp) rfl _ _ rfl rfl).get (c := none) rfl (fun _ h => by cases h)
          have d69 : b.tmps[69]?.getD undef = Value.int .i64 (s.safe : Int) := (hd ⟨13, .data⟩ (by simp) rfl _ _ rfl rfl).get (c := none) rfl (fun _ h => by cases h)
          have HS0 := Lib.hid hS
          have HCL := Lib.hid hcl
          have HDP := Lib.hid hdep
          clear hdep
          clear hf hu hd hS hcl
          go_simp
          refine hK _ _ (HS0.out.ext ((Ext.refl _).alloc _) _) (relL.now rfl ⟨Sl.lit (cs := (byI [s.addr, s.at_, s.band, s.safe])) (heap_alloc_new _ _) (by unfold maxLen; simp [byI]), fun b hb => ?_⟩) (fun j v h1 h2 h => h.ext ((Ext.refl _).alloc _) _)
          simp [Value.ownBlock] at hb
          have := HS0.out.2.2.1
          omega
        · intro L b W hL hdep hcl hf hu hS hd K hK
          have d70 : LK.holds (.sl (wr.heap.size + 1) (byI [s.addr, s.at_, s.band, s.safe])) (b.tmps[70]?.getD undef) W := (hd ⟨14, .data⟩ (by simp) rfl _ _ rfl rfl).get (c := some 15) rfl (fun _ h => by cases h; exact hL)
          obtain ⟨v70, e70⟩ : ∃ v, b.tmps[70]?.getD undef = v := ⟨_, rfl⟩
          rw [e70] at d70
          have D70 := Lib.hid d70
          clear d70
          have HS0 := Lib.hid hS
          have HCL := Lib.hid hcl
          have HDP := Lib.hid hdep
          clear hdep
          clear hf hu hd hS hcl
          go_simp
          refine (config_words v70 [s.addr, s.at_, s.band, s.safe] W D70.out.1 HWd.out (by simp)).mono ?_
          rintro e W' ⟨v', rfl, ho, hx'⟩
          exact hK _ _ (HS0.out.ext hx' _) (relL.now rfl ⟨Sl.own ho, fun b hb => Nat.le_trans HS0.out.2.2.1 (own_block ho b hb)⟩) (fun j v h1 h2 h => h.ext hx' _)
        · intro L b W hL hdep hcl hf hu hS hd K hK
          have d61 : LK.holds (.own w.heap.size 5 (by8 ((hdl ++ (pts.take k).flatMap PtN.bytes) ++ [s.kind]))) (b.tmps[61]?.getD undef) W := (hd ⟨5, .data⟩ (by simp) rfl _ _ rfl rfl).get (c := some 16) rfl (fun _ h => by cases h; exact hL)
          obtain ⟨v61, e61⟩ : ∃ v, b.tmps[61]?.getD undef = v := ⟨_, rfl⟩
          rw [e61] at d61
          have D61 := Lib.hid d61
          clear d61
          have d71 : LK.holds (.sl (wr.heap.size + 1) (by8 (wordsB [s.addr, s.at_, s.band, s.safe]))) (b.tmps[71]?.getD undef) W := (hd ⟨15, .data⟩ (by simp) rfl _ _ rfl rfl).get (c := some 16) rfl (fun _ h => by cases h; exact hL)
          obtain ⟨v71, e71⟩ : ∃ v, b.tmps[71]?.getD undef = v := ⟨_, rfl⟩
          rw [e71] at d71
          have D71 := Lib.hid d71
          clear d71
          have HS0 := Lib.hid hS
          have HCL := Lib.hid hcl
          have HDP := Lib.hid hdep
          clear hdep
          clear hf hu hd hS hcl
          refine app_own_op _ _ 27 rfl w.heap.size 5 i0 (.int .u8 0) 1 Tryd.underlying27 hi hz0 hz1 hz2 rfl v61 (by8 ((hdl ++ (pts.take k).flatMap PtN.bytes) ++ [s.kind])) (by simpa [Act.eval] using e61) D61.out v71 (by8 (wordsB [s.addr, s.at_, s.band, s.safe])) (by simpa [Act.eval] using e71) D71.out.1 (by simp [by8, wordsB]) (by8_one _) HLen.out.2 (by omega) HS0.out.1.size ?_
          intro v' W' ho hg
          rw [← by8_append, HAll.out] at ho
          have n5 : L 5 = true := HDP.out ⟨5, .data⟩ (by simp) rfl
          have n15 : L 15 = true := HDP.out ⟨15, .data⟩ (by simp) rfl
          have n17 : L 17 = true → False := fun h => by have := HCL.out 17 _ rfl h ⟨16, .data⟩ (by simp) rfl; rw [this] at hL; cases hL
          refine hK v' W' (HS0.out.grown hg (own_block D61.out) (fun e => by obtain ⟨cur, hcur⟩ := own_row D61.out _ e; have := HS0.out.2.1; rw [hcur] at this; simp at this) 16 (by simp [n5])) (relL.now rfl ho) (fun j v h1 h2 h => h.last ?_)
          intro q c hq hc
          match j, hq with
          | 0, hq => cases hq; exact .inl ⟨_, rfl⟩
          | 1, hq => cases hq; exact .inl ⟨_, rfl⟩
          | 2, hq => cases hq; exact .inl ⟨_, rfl⟩
          | 3, hq => cases hq; exact .inl ⟨_, rfl⟩
          | 4, hq => cases hq; have := hc 5 rfl; simp [n5] at this
          | 5, hq => cases hq; have := hc 16 rfl; simp at this
          | 6, hq => cases hq; exact .inl ⟨_, rfl⟩
          | 7, hq => cases hq; exact .inl ⟨_, rfl⟩
          | 8, hq => cases hq; exact .inl ⟨_, rfl⟩
          | 9, hq => cases hq; exact .inl ⟨_, rfl⟩
          | 10, hq => cases hq; exact .inl ⟨_, rfl⟩
          | 11, hq => cases hq; exact .inl ⟨_, rfl⟩
          | 12, hq => cases hq; exact .inl ⟨_, rfl⟩
          | 13, hq => cases hq; exact .inl ⟨_, rfl⟩
          | 14, hq => cases hq; have := hc 15 rfl; simp [n15] at this
          | 15, hq => cases hq; have := hc 16 rfl; simp at this
          | 16, hq => cases hq; exact absurd rfl h1
          | 17, hq => cases hq; exact (n17 h2).elim
          | j + 18, hq => simp at hq
        · intro L b W hL hdep hcl hf hu hS hd K hK
          have d72 : LK.holds (.own w.heap.size 5 (by8 (hdl ++ (pts.take (k + 1)).flatMap PtN.bytes))) (b.tmps[72]?.getD undef) W := (hd ⟨16, .data⟩ (by simp) rfl _ _ rfl rfl).get (c := some 17) rfl (fun _ h => by cases h; exact hL)
          obtain ⟨v72, e72⟩ : ∃ v, b.tmps[72]?.getD undef = v := ⟨_, rfl⟩
          rw [e72] at d72
          have D72 := Lib.hid d72
          clear d72
          have HS0 := Lib.hid hS
          have HCL := Lib.hid hcl
          have HDP := Lib.hid hdep
          clear hdep
          clear hf hu hd hS hcl
          go_simp
          exact hK _ _ (HS0.out.ext (Ext.refl _) _) (relL.now rfl D72.out) (fun j v h1 h2 h => h.ext (Ext.refl _) _)
        · intro L a' w3 hL h1 h2 h3 h4 h5
          obtain ⟨tmps, defers⟩ := a'
          dsimp only at h1 h2
          subst h1
          obtain ⟨y0, y1, y2, y3, y4, y5, y6, y7, y8, y9, y10, y11, y12, y13, y14, y15, y16, y17, y18, y19, y20, y21, y22, y23, y24, y25, y26, y27, y28, y29, y30, y31, y32, y33, y34, y35, y36, y37, y38, y39, y40, y41, y42, y43, y44, y45, y46, y47, y48, y49, y50, y51, y52, y53, y54, y55, y56, y57, y58, y59, y60, y61, y62, y63, y64, y65, y66, y67, y68, y69, y70, y71, y72, y73, y74, y75, e⟩ : ∃ y0 y1 y2 y3 y4 y5 y6 y7 y8 y9 y10 y11 y12 y13 y14 y15 y16 y17 y18 y19 y20 y21 y22 y23 y24 y25 y26 y27 y28 y29 y30 y31 y32 y33 y34 y35 y36 y37 y38 y39 y40 y41 y42 y43 y44 y45 y46 y47 y48 y49 y50 y51 y52 y53 y54 y55 y56 y57 y58 y59 y60 y61 y62 y63 y64 y65 y66 y67 y68 y69 y70 y71 y72 y73 y74 y75 : Value, tmps = #[y0, y1, y2, y3, y4, y5, y6, y7, y8, y9, y10, y11, y12, y13, y14, y15, y16, y17, y18, y19, y20, y21, y22, y23, y24, y25, y26, y27, y28, y29, y30, y31, y32, y33, y34, y35, y36, y37, y38, y39, y40, y41, y42, y43, y44, y45, y46, y47, y48, y49, y50, y51, y52, y53, y54, y55, y56, y57, y58, y59, y60, y61, y62, y63, y64, y65, y66, y67, y68, y69, y70, y71, y72, y73, y74, y75] := ⟨_, _, _, _, _, _, _, _, _, _, _, _, _, _, _, _, _, _, _, _, _, _, _, _, _, _, _, _, _, _, _, _, _, _, _, _, _, _, _, _, _, _, _, _, _, _, _, _, _, _, _, _, _, _, _, _, _, _, _, _, _, _, _, _, _, _, _, _, _, _, _, _, _, _, _, _, (frame_lit tmps 76 h2).trans rfl⟩
          subst e
          have g0 : y0 = x0 := h3 0 (by kernel_rfl)
          have g1 : y1 = Value.pointer (some ⟨w.heap.size, 0, none⟩) := h3 1 (by kernel_rfl)
          have g2 : y2 = Value.slice none 0 0 := h3 2 (by kernel_rfl)
          have g3 : y3 = Value.int .i64 0 := h3 3 (by kernel_rfl)
          have g4 : y4 = x4 := h3 4 (by kernel_rfl)
          have g6 : y6 = x6 := h3 6 (by kernel_rfl)
          have g8 : y8 = x8 := h3 8 (by kernel_rfl)
          have g9 : y9 = x9 := h3 9 (by kernel_rfl)
          have g10 : y10 = x10 := h3 10 (by kernel_rfl)
          have g11 : y11 = x11 := h3 11 (by kernel_rfl)
          have g12 : y12 = x12 := h3 12 (by kernel_rfl)
          have g13 : y13 = x13 := h3 13 (by kernel_rfl)
          have g14 : y14 = x14 := h3 14 (by kernel_rfl)
          have g15 : y15 = x15 := h3 15 (by kernel_rfl)
          have g16 : y16 = x16 := h3 16 (by kernel_rfl)
          have g17 : y17 = x17 := h3 17 (by kernel_rfl)
          have g18 : y18 = x18 := h3 18 (by kernel_rfl)
          have g19 : y19 = x19 := h3 19 (by kernel_rfl)
          have g20 : y20 = x20 := h3 20 (by kernel_rfl)
          have g21 : y21 = x21 := h3 21 (by kernel_rfl)
          have g22 : y22 = x22 := h3 22 (by kernel_rfl)
          have g23 : y23 = x23 := h3 23 (by kernel_rfl)
          have g24 : y24 = x24 := h3 24 (by kernel_rfl)
          have g25 : y25 = x25 := h3 25 (by kernel_rfl)
          have g26 : y26 = x26 := h3 26 (by kernel_rfl)
          have g27 : y27 = x27 := h3 27 (by kernel_rfl)
          have g28 : y28 = x28 := h3 28 (by kernel_rfl)
          have g29 : y29 = x29 := h3 29 (by kernel_rfl)
          have g30 : y30 = x30 := h3 30 (by kernel_rfl)
          have g31 : y31 = x31 := h3 31 (by kernel_rfl)
          have g32 : y32 = x32 := h3 32 (by kernel_rfl)
          have g33 : y33 = x33 := h3 33 (by kernel_rfl)
          have g34 : y34 = x34 := h3 34 (by kernel_rfl)
          have g35 : y35 = x35 := h3 35 (by kernel_rfl)
          have g36 : y36 = x36 := h3 36 (by kernel_rfl)
          have g37 : y37 = x37 := h3 37 (by kernel_rfl)
          have g38 : y38 = x38 := h3 38 (by kernel_rfl)
          have g39 : y39 = x39 := h3 39 (by kernel_rfl)
          have g40 : y40 = x40 := h3 40 (by kernel_rfl)
          have g41 : y41 = x41 := h3 41 (by kernel_rfl)
          have g42 : y42 = x42 := h3 42 (by kernel_rfl)
          have g43 : y43 = x43 := h3 43 (by kernel_rfl)
          have g44 : y44 = x44 := h3 44 (by kernel_rfl)
          have g45 : y45 = x45 := h3 45 (by kernel_rfl)
          have g46 : y46 = x46 := h3 46 (by kernel_rfl)
          have g47 : y47 = x47 := h3 47 (by kernel_rfl)
          have g48 : y48 = x48 := h3 48 (by kernel_rfl)
          have g49 : y49 = Value.pointer (some ⟨w.heap.size, 10, none⟩) := h3 49 (by kernel_rfl)
          have g50 : y50 = Value.slice (some ⟨b, off, none⟩) pts.length cp := h3 50 (by kernel_rfl)
          have g51 : y51 = Value.int .i64 (pts.length : Int) := h3 51 (by kernel_rfl)
          have g52 : y52 = Value.int .i64 (k : Int) := h3 52 (by kernel_rfl)
          have g74 : y74 = x74 := h3 74 (by kernel_rfl)
          have g75 : y75 = x75 := h3 75 (by kernel_rfl)
          have g5 : w3.ownsRow w.heap.size 5 1 y5 (by8 (hdl ++ (pts.take (k + 1)).flatMap PtN.bytes)).length (by8 (hdl ++ (pts.take (k + 1)).flatMap PtN.bytes)) := (h5 17 _ _ rfl rfl).get (c := none) rfl (fun _ h => by cases h)
          subst g0 g1 g2 g3 g4 g6 g8 g9 g10 g11 g12 g13 g14 g15 g16 g17 g18 g19 g20 g21 g22 g23 g24 g25 g26 g27 g28 g29 g30 g31 g32 g33 g34 g35 g36 g37 g38 g39 g40 g41 g42 g43 g44 g45 g46 g47 g48 g49 g50 g51 g52 g74 g75
          have HG := Lib.hid g5
          have HX3 := Lib.hid h4.1
          clear g5 h4 h3 h5 hL h2
          go_wp2_with fail
          go_roundw
          case rel => exact ⟨k + 1, by omega, by go_num, HG.out, HX3.out⟩
          case measure => simp [intOf]; omega
      · have hkl : Hid (k = pts.length) := Lib.hid (by omega)
        have HAll : Hid (CfgN.bytes ⟨n0, n1, n2, gap, wait, tries, strikes, queue, idle, key, pts⟩ = hdl ++ pts.flatMap PtN.bytes) := Lib.hid (by rw [CfgN.bytes, HH.out])
        have HB := Lib.hid (bytes_bytes HS.out)
        have HLn : Hid ((CfgN.bytes ⟨n0, n1, n2, gap, wait, tries, strikes, queue, idle, key, pts⟩).length + 2 ≤ 140737488355328) := Lib.hid (by
          have h4 := HS.out.len
          simp only at h4
          rw [bytes_len]
          simp only
          omega)
        have hob := HO.out
        rw [hkl.out, List.take_length] at hob
        obtain ⟨bs, hbs⟩ : ∃ bs, bs = CfgN.bytes ⟨n0, n1, n2, gap, wait, tries, strikes, queue, idle, key, pts⟩ := ⟨_, rfl⟩
        rw [← hbs] at HAll HB HLn
        rw [← HAll.out] at hob
        have HSl := Lib.hid (Sl.own hob)
        have HBs := Lib.hid hbs
        have HPut := Lib.hid (crc_Put u5 bs wr HSl.out HB.out HLn.out)
        clear hob hbs
        go_wp2_with fail
        refine HPut.out.mono ?_
        rintro e w' ⟨v', rfl, h1, h2⟩
        go_wp2_with fail
        go_ret2
        rw [← HBs.out]
        exact ⟨_, rfl, own_base h1 HX.out.size, HX.out.trans h2⟩
end Go.Proofs.YtjooacmmgbpkfaaDoor
