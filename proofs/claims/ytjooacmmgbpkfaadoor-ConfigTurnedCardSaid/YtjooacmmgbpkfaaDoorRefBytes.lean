/- Contracts of triuneref09.two and triuneref09.Bytes. -/
import Derived.Test.YtjooacmmgbpkfaaDoorRef01
import Derived.Test.YtjooacmmgbpkfaaDoorCfgBytes
import Derived.Test.YtjooacmmgbpkfaaDoorLive2
import Derived.Lib.SlBytesConst
namespace Go.Proofs.YtjooacmmgbpkfaaDoor
open Go.RowKit

theorem ref_two (n : Nat) (w : World) (hn : n < 65536) :
    Calls Tryd.prog 19 #[.int .i64 (n : Int)] w fun e w' => ∃ v, e = .returned v ∧ (Sl w' v (by8 (wordsB [n])) ∧ Ext w w') := by
  have HL : Hid (∀ (W : World) (g : Nat), W.heap[g]? = some (.cells #[.int .u8 ((n / 256 : Nat) : Int), .int .u8 ((n % 256 : Nat) : Int)] 5 (0, 0)) → Sl W (.slice (some ⟨g, 0, none⟩) 2 2) (by8 [n / 256, n % 256])) :=
    Lib.hid fun W g h => Sl.lit (cs := by8 [n / 256, n % 256]) h (by unfold maxLen; simp [by8])
  go_enter Tryd.func19, Tryd.ntmps19
  go_wp2_with fail
  go_ret
  exact ⟨_, rfl, HL.out _ _ (heap_alloc_new _ _), (Ext.refl _).alloc _⟩

/-- An appending law at a step of a region that draws its order. -/
theorem step_app_own {P : Program} {ops : Array Oper} {w : World} {o : Oper} {a : Act} {K : Act → World → Prop} {Q : Exit → Act → World → Prop} {E : Prop} (hgd : o.guard = none) (s x : Operand) (t : TypeId) (ho : o.op = .call { callee := .builtin .append, args := #[s, x], argTypes := #[t, t] })
    (base : Nat) (e : TypeId) (i : TypeInfo) (z : Value) (bytes : Nat) (ht : P.underlying t = some (.slice e)) (hi : P.info? e = some i) (hz : i.zero = some z)
    (hsize : i.size = 1) (hby : i.bytes = bytes) (hzs : z.cells.size = 1)
    (v : Value) (xs : List Value) (hs : a.eval s = v) (hown : w.ownsRow base e 1 v xs.length xs)
    (u : Value) (news : List Value) (hx : a.eval x = u) (hu : Sl w u news) (h0 : news ≠ []) (h1 : ∀ u ∈ news, u.oneCell' = true)
    (hbytes : (xs.length + news.length) * bytes ≤ 140737488355328) (hb1 : 1 ≤ bytes) (hbase : base ≤ w.heap.size)
    (h : ∀ v' w', w'.ownsRow base e 1 v' (xs ++ news).length (xs ++ news) → w.grownBy w' v.ownBlock → K (a.put o.dst v') w') :
    if Region.wanted o (yielded ops a.tmps) = true then Oper.wp P o a w K Q else E := by
  have hw : Region.wanted o (yielded ops a.tmps) = true := by simp [Region.wanted, hgd]
  rw [if_pos hw]
  exact app_own_op s x t ho base e i z bytes ht hi hz hsize hby hzs v xs hs hown u news hx hu h0 h1 hbytes hb1 hbase h

set_option maxRecDepth 100000 in
theorem ref_Bytes_no (c : Cfg) (v : Value) (w : World) (hv : Sz w 5 v c.pts.length (c.pts.flatMap Pt.vals)) (hu : c.u0 < 256 ∧ c.u1 < 256 ∧ c.u2 < 256) (hne : c.code ≠ 0) :
    Calls Tryd.prog 8 #[c.val v] w fun e w' => e = .returned (.tuple #[.slice none 0 0, .int .i64 c.code]) ∧ Ext w w' := by
  have HC := Lib.hid (fun (W : World) (h : Ext w W) => ref_Check c v W (hv.ext h) hu)
  clear hv hu
  obtain ⟨r, hr⟩ : ∃ r, r = c.code := ⟨_, rfl⟩
  rw [← hr] at HC hne ⊢
  clear hr
  have hr0 : (r != 0) = true := by simp [hne]
  obtain ⟨n0, n1, n2, gap, wait, tries, strikes, queue, idle, key, pts⟩ := c
  unfold Cfg.val Cfg.cells at *
  dsimp only at *
  clear hne
  go_enter Tryd.func8, Tryd.ntmps8
  go_wp2_with fail
  refine (HC.out _ ((Ext.refl _).alloc _)).mono ?_
  rintro e w1 ⟨rfl, hx⟩
  go_wp2_with fail
  go_ret2
  exact ⟨rfl, ((Ext.refl _).alloc _).trans hx⟩

set_option maxRecDepth 100000 in
set_option maxHeartbeats 2000000 in
theorem ref_Bytes_yes (c : CfgN) (v : Value) (w : World) (hv : Sz w 5 v c.cfg.pts.length (c.cfg.pts.flatMap Pt.vals)) (hs : c.Small) (h0 : c.cfg.code = 0) :
    Calls Tryd.prog 8 #[c.cfg.val v] w fun e w' => ∃ v', e = .returned (.tuple #[v', .int .i64 0]) ∧ (w'.ownsRow w.heap.size 5 1 v' (put c.bytes).length (by8 (put c.bytes)) ∧ Ext w w') := by
  obtain ⟨n0, n1, n2, gap, wait, tries, strikes, queue, idle, key, pts⟩ := c
  obtain ⟨i0, hi, hz0, hz1, hz2⟩ := info_parts info8
  obtain ⟨a, cp, rfl, hlc, hcm⟩ : ∃ a cp, v = .slice a pts.length cp ∧ pts.length ≤ cp ∧ cp ≤ 2 ^ 63 - 1 := by
    obtain ⟨_, a, cp, e, h1, h2, _⟩ := hv
    have el : (CfgN.cfg ⟨n0, n1, n2, gap, wait, tries, strikes, queue, idle, key, pts⟩).pts.length = pts.length := by simp [CfgN.cfg]
    rw [el] at e h1
    exact ⟨a, cp, e, h1, h2⟩
  have HC : Hid (∀ W : World, Ext w W → Calls Tryd.prog 14 #[.agg #[.int .u8 (n0 : Int), .int .u8 (n1 : Int), .int .u8 (n2 : Int), .int .i64 (gap : Int), .int .i64 (wait : Int), .int .i64 (tries : Int), .int .i64 (strikes : Int), .int .i64 (queue : Int), .int .i64 (idle : Int), .int .u16 (key : Int), .slice a pts.length cp]] W fun e w' => e = .returned (.int .i64 0) ∧ Ext W w') := Lib.hid fun W h => by
    have := ref_Check (CfgN.cfg ⟨n0, n1, n2, gap, wait, tries, strikes, queue, idle, key, pts⟩) (.slice a pts.length cp) W (hv.ext h) ⟨hs.u0, hs.u1, hs.u2⟩
    rw [h0] at this
    exact this
  have HV : Hid (Sz w 5 (.slice a pts.length cp) pts.length ((pts.map PtN.pt).flatMap Pt.vals)) := Lib.hid (by
    have el : (CfgN.cfg ⟨n0, n1, n2, gap, wait, tries, strikes, queue, idle, key, pts⟩).pts.length = pts.length := by simp [CfgN.cfg]
    rw [el] at hv
    exact hv)
  have HS := Lib.hid hs
  have HB0 : Hid (∀ W : World, (W.alloc (.cells #[.int .u8 (n0 : Int), .int .u8 (n1 : Int), .int .u8 (n2 : Int), .int .i64 (gap : Int), .int .i64 (wait : Int), .int .i64 (tries : Int), .int .i64 (strikes : Int), .int .i64 (queue : Int), .int .i64 (idle : Int), .int .u16 (key : Int), .slice a pts.length cp] 33)).heap[W.heap.size]? = some (.cells #[.int .u8 (n0 : Int), .int .u8 (n1 : Int), .int .u8 (n2 : Int), .int .i64 (gap : Int), .int .i64 (wait : Int), .int .i64 (tries : Int), .int .i64 (strikes : Int), .int .i64 (queue : Int), .int .i64 (idle : Int), .int .u16 (key : Int), .slice a pts.length cp] 33 (0, 0))) := Lib.hid fun W => heap_alloc_new _ _
  have HCC : Hid (∀ W : World, W.heap[w.heap.size]? = some (.cells #[.int .u8 (n0 : Int), .int .u8 (n1 : Int), .int .u8 (n2 : Int), .int .i64 (gap : Int), .int .i64 (wait : Int), .int .i64 (tries : Int), .int .i64 (strikes : Int), .int .i64 (queue : Int), .int .i64 (idle : Int), .int .u16 (key : Int), .slice a pts.length cp] 33 (0, 0)) →
      W.cell? ⟨w.heap.size, 0, none⟩ = some (.int .u8 (n0 : Int)) ∧ W.cell? ⟨w.heap.size, 1, none⟩ = some (.int .u8 (n1 : Int)) ∧ W.cell? ⟨w.heap.size, 2, none⟩ = some (.int .u8 (n2 : Int)) ∧
    W.cell? ⟨w.heap.size, 3, none⟩ = some (.int .i64 (gap : Int)) ∧ W.cell? ⟨w.heap.size, 4, none⟩ = some (.int .i64 (wait : Int)) ∧ W.cell? ⟨w.heap.size, 5, none⟩ = some (.int .i64 (tries : Int)) ∧ W.cell? ⟨w.heap.size, 6, none⟩ = some (.int .i64 (strikes : Int)) ∧
    W.cell? ⟨w.heap.size, 7, none⟩ = some (.int .i64 (queue : Int)) ∧ W.cell? ⟨w.heap.size, 8, none⟩ = some (.int .i64 (idle : Int)) ∧ W.cell? ⟨w.heap.size, 9, none⟩ = some (.int .u16 (key : Int)) ∧ W.cell? ⟨w.heap.size, 10, none⟩ = some (.slice a pts.length cp) ∧ w.heap.size < W.heap.size) :=
    Lib.hid fun W h => ⟨blk_cell h 0, blk_cell h 1, blk_cell h 2, blk_cell h 3, blk_cell h 4, blk_cell h 5, blk_cell h 6, blk_cell h 7, blk_cell h 8, blk_cell h 9, blk_cell h 10, lt_of_block h⟩
  have HTwo := Lib.hid ref_two
  clear hs h0 hv
  have kc := fun (w : World) (C : Array Value) (n c : Nat) => Lib.run_convert_bytes_const (P := Tryd.prog) w 27 5 C n c Tryd.underlying27 Tryd.underlying5
  show Calls Tryd.prog 8 #[.agg #[.int .u8 (n0 : Int), .int .u8 (n1 : Int), .int .u8 (n2 : Int), .int .i64 (gap : Int), .int .i64 (wait : Int), .int .i64 (tries : Int), .int .i64 (strikes : Int), .int .i64 (queue : Int), .int .i64 (idle : Int), .int .u16 (key : Int), .slice a pts.length cp]] w _
  go_enter Tryd.func8, Tryd.ntmps8
  go_wp2_with fail
  refine (HC.out _ ((Ext.refl _).alloc _)).mono ?_
  rintro e w1 ⟨rfl, hx⟩
  have HB1 := Lib.hid (hx.heap (HB0.out w))
  have HX1 := Lib.hid (((Ext.refl w).alloc _).trans hx)
  clear hx HB0 HC
  obtain ⟨k0, k1, k2, k3, k4, k5, k6, k7, k8, k9, k10, ksz⟩ := HCC.out _ HB1.out
  have hgap : gap < 256 := by have := HS.out.gap; simp only at this; omega
  have htr : tries < 256 := by have := HS.out.tries; simp only at this; omega
  have hst : strikes < 256 := by have := HS.out.strikes; simp only at this; omega
  have hqu : queue < 256 := by have := HS.out.queue; simp only at this; omega
  have hwt : wait < 65536 := by have := HS.out.wait; simp only at this; omega
  have hid : idle < 65536 := HS.out.idle
  have hky : key < 65536 := HS.out.key
  have hg8 : (gap : Int) % 256 = gap := by omega
  have ht8 : (tries : Int) % 256 = tries := by omega
  have hs8 : (strikes : Int) % 256 = strikes := by omega
  have hq8 : (queue : Int) % 256 = queue := by omega
  have HL4 : Hid (∀ W : World, Sl (W.alloc (.cells #[.int .u8 84, .int .u8 77, .int .u8 82, .int .u8 49] 5 (4, 5))) (.slice (some ⟨W.heap.size, 0, none⟩) 4 4) (by8 [84, 77, 82, 49])) := Lib.hid fun W =>
    ⟨_, 4, rfl, Nat.le_refl _, by unfold maxLen; omega, by simp, .inr ⟨W.heap.size, 0, rfl, fun i hi => by
      have hn : (W.alloc (.cells #[.int .u8 84, .int .u8 77, .int .u8 82, .int .u8 49] 5 (4, 5))).heap[W.heap.size]? = some (.cells #[.int .u8 84, .int .u8 77, .int .u8 82, .int .u8 49] 5 (4, 5)) := by
        show (W.heap.push _)[W.heap.size]? = _
        simp
      rw [blk_cell hn]
      match i, hi with
      | 0, _ => rfl
      | 1, _ => rfl
      | 2, _ => rfl
      | 3, _ => rfl⟩⟩
  have HLx : Hid (∀ (W : World) (g : Nat), W.heap[g]? = some (.cells #[.int .u8 (n0 : Int), .int .u8 (n1 : Int), .int .u8 (n2 : Int), .int .u8 (gap : Int)] 5 (0, 0)) → Sl W (.slice (some ⟨g, 0, none⟩) 4 4) (by8 [n0, n1, n2, gap])) := Lib.hid fun W g h => Sl.lit (cs := by8 [n0, n1, n2, gap]) h (by unfold maxLen; simp [by8])
  have HLy : Hid (∀ (W : World) (g : Nat), W.heap[g]? = some (.cells #[.int .u8 (tries : Int), .int .u8 (strikes : Int), .int .u8 (queue : Int)] 5 (0, 0)) → Sl W (.slice (some ⟨g, 0, none⟩) 3 3) (by8 [tries, strikes, queue])) := Lib.hid fun W g h => Sl.lit (cs := by8 [tries, strikes, queue]) h (by unfold maxLen; simp [by8])
  go_wp2_with (at_builtin; refine app_grows rfl _ _ 27 rfl 5 i0 (.int .u8 0) 1 Tryd.underlying27 hi hz0 hz1 hz2 rfl (some ⟨w1.heap.size, 0, none⟩) 4 4 (by8 [84, 77, 82, 49]) rfl ((HL4.out _).ext ((Ext.refl _).alloc _)) _ (by8 [n0, n1, n2, gap]) (by simp [by8]) rfl (HLx.out _ _ (new_at (by simp) _ _)) (by simp [by8]) (by8_one _) (by simp [by8]) (by omega) ?_; intro v2 w2 hown hext; have HO2 : Hid (w2.ownsRow w.heap.size 5 1 v2 (by8 [84, 77, 82, 49, n0, n1, n2, gap]).length (by8 [84, 77, 82, 49, n0, n1, n2, gap])) := Lib.hid (own_base hown (base' := w.heap.size) (by simp; omega)); have HX2 := Lib.hid (((HX1.out.alloc _).alloc _).trans hext); have HB2 := Lib.hid (hext.heap ((((Ext.refl w1).alloc _).alloc _).heap HB1.out)); clear hown hext k0 k1 k2 k3 k4 k5 k6 k7 k8 k9 k10 ksz; obtain ⟨k0, k1, k2, k3, k4, k5, k6, k7, k8, k9, k10, ksz⟩ := HCC.out _ HB2.out)
  refine (HTwo.out wait _ hwt).mono ?_
  rintro e w3 ⟨v3, rfl, hsl, hext⟩
  have HS3 := Lib.hid hsl
  have HO3 := Lib.hid (own_ext HO2.out hext)
  have HX3 := Lib.hid (HX2.out.trans hext)
  have HB3 := Lib.hid (hext.heap HB2.out)
  have HZ3 : Hid (w.heap.size ≤ w3.heap.size) := Lib.hid HX3.out.size
  clear hsl hext k0 k1 k2 k3 k4 k5 k6 k7 k8 k9 k10 ksz
  have HCk := Lib.hid kc
  clear kc
  obtain ⟨k0, k1, k2, k3, k4, k5, k6, k7, k8, k9, k10, ksz⟩ := HCC.out _ HB3.out
  go_wp2_with (first | (at_builtin; refine app_own rfl _ _ 27 rfl w.heap.size 5 i0 (.int .u8 0) 1 Tryd.underlying27 hi hz0 hz1 hz2 rfl v4 (by8 ([84, 77, 82, 49, n0, n1, n2, gap] ++ wordsB [wait])) rfl (own_ext HO4.out ((Ext.refl _).alloc _)) _ (by8 [tries, strikes, queue]) rfl (HLy.out _ _ (new_at (by simp) _ _)) (by8_one _) (by simp [by8, wordsB]) (by omega) (by have := HX4.out.size; simp; omega) ?_; intro v6 w6 hown hg; have HO6 : Hid (w6.ownsRow w.heap.size 5 1 v6 (by8 ([84, 77, 82, 49, n0, n1, n2, gap] ++ wordsB [wait] ++ [tries, strikes, queue])).length (by8 ([84, 77, 82, 49, n0, n1, n2, gap] ++ wordsB [wait] ++ [tries, strikes, queue]))) := Lib.hid (by rw [← by8_append] at hown; exact hown); have HX6 := Lib.hid ((HX4.out.alloc _).grown hg (own_block HO4.out)); have HB6 := Lib.hid (box_kept (own_ext HO4.out ((Ext.refl _).alloc _)) hg (((Ext.refl _).alloc _).heap HB4.out) (by decide)); clear hown hg k0 k1 k2 k3 k4 k5 k6 k7 k8 k9 k10 ksz; obtain ⟨k0, k1, k2, k3, k4, k5, k6, k7, k8, k9, k10, ksz⟩ := HCC.out _ HB6.out) | (at_builtin; refine app_own rfl _ _ 27 rfl w.heap.size 5 i0 (.int .u8 0) 1 Tryd.underlying27 hi hz0 hz1 hz2 rfl v2 (by8 [84, 77, 82, 49, n0, n1, n2, gap]) rfl HO3.out v3 (by8 (wordsB [wait])) rfl HS3.out (by8_one _) (by simp [by8, wordsB]) (by omega) HZ3.out ?_; intro v4 w4 hown hg; have HO4 : Hid (w4.ownsRow w.heap.size 5 1 v4 (by8 ([84, 77, 82, 49, n0, n1, n2, gap] ++ wordsB [wait])).length (by8 ([84, 77, 82, 49, n0, n1, n2, gap] ++ wordsB [wait]))) := Lib.hid hown; have HX4 := Lib.hid (HX3.out.grown hg (own_block HO3.out)); have HB4 := Lib.hid (box_kept HO3.out hg HB3.out (by decide)); clear hown hg k0 k1 k2 k3 k4 k5 k6 k7 k8 k9 k10 ksz; obtain ⟨k0, k1, k2, k3, k4, k5, k6, k7, k8, k9, k10, ksz⟩ := HCC.out _ HB4.out))
  clear k0 k1 k2 k3 k4 k5 k6 k7 k8 k9 k10 ksz
  clear hg8 ht8 hs8 hq8
  have hk64 : IntKind.i64.wrap (key : Int) = key := by rw [IntKind.wrap_i64]; omega
  have hl8 : IntKind.u8.wrap (pts.length : Int) = pts.length := by rw [IntKind.wrap_u8]; have := HS.out.len; simp only at this; omega
  obtain ⟨hdl, hhd⟩ : ∃ hdl, hdl = CfgN.head ⟨n0, n1, n2, gap, wait, tries, strikes, queue, idle, key, pts⟩ := ⟨_, rfl⟩
  have HH := Lib.hid hhd
  have HLen50 : Hid (((by8 ([84, 77, 82, 49, n0, n1, n2, gap] ++ wordsB [wait] ++ [tries, strikes, queue])).length + (by8 (wordsB [idle])).length) * 1 ≤ 140737488355328) := Lib.hid (by simp [by8, wordsB])
  have HLen55 : Hid (((by8 (([84, 77, 82, 49, n0, n1, n2, gap] ++ wordsB [wait] ++ [tries, strikes, queue]) ++ wordsB [idle])).length + (by8 (wordsB [key])).length) * 1 ≤ 140737488355328) := Lib.hid (by simp [by8, wordsB])
  have HLen61 : Hid (((by8 ((([84, 77, 82, 49, n0, n1, n2, gap] ++ wordsB [wait] ++ [tries, strikes, queue]) ++ wordsB [idle]) ++ wordsB [key])).length + (by8 [pts.length]).length) * 1 ≤ 140737488355328) := Lib.hid (by simp [by8, wordsB])
  have HBig50 : Hid (4 < (by8 ([84, 77, 82, 49, n0, n1, n2, gap] ++ wordsB [wait] ++ [tries, strikes, queue])).length) := Lib.hid (by simp [by8, wordsB])
  have HBig55 : Hid (4 < (by8 (([84, 77, 82, 49, n0, n1, n2, gap] ++ wordsB [wait] ++ [tries, strikes, queue]) ++ wordsB [idle])).length) := Lib.hid (by simp [by8, wordsB])
  have HApp50 : Hid (by8 ([84, 77, 82, 49, n0, n1, n2, gap] ++ wordsB [wait] ++ [tries, strikes, queue]) ++ by8 (wordsB [idle]) = by8 (([84, 77, 82, 49, n0, n1, n2, gap] ++ wordsB [wait] ++ [tries, strikes, queue]) ++ wordsB [idle])) := Lib.hid (by8_append _ _).symm
  have HApp55 : Hid (by8 (([84, 77, 82, 49, n0, n1, n2, gap] ++ wordsB [wait] ++ [tries, strikes, queue]) ++ wordsB [idle]) ++ by8 (wordsB [key]) = by8 ((([84, 77, 82, 49, n0, n1, n2, gap] ++ wordsB [wait] ++ [tries, strikes, queue]) ++ wordsB [idle]) ++ wordsB [key])) := Lib.hid (by8_append _ _).symm
  have HApp61 : Hid (by8 ((([84, 77, 82, 49, n0, n1, n2, gap] ++ wordsB [wait] ++ [tries, strikes, queue]) ++ wordsB [idle]) ++ wordsB [key]) ++ by8 [pts.length] = by8 hdl) := Lib.hid (by rw [← by8_append, hhd]; simp [CfgN.head, wordsB])
  clear hhd
  go_wp2_with fail
  refine wp_region_live_f 99 (relM [(.eq (v6), none), (.eq (Value.pointer (some ⟨w.heap.size, 8, none⟩)), none), (.eq (Value.int .i64 (idle : Int)), none), (.sl (by8 (wordsB [idle])), some 4), (.own w.heap.size 5 (by8 (([84, 77, 82, 49, n0, n1, n2, gap] ++ wordsB [wait] ++ [tries, strikes, queue]) ++ wordsB [idle])), some 9), (.eq (Value.pointer (some ⟨w.heap.size, 9, none⟩)), none), (.eq (Value.int .u16 (key : Int)), none), (.eq (Value.int .i64 (key : Int)), none), (.sl (by8 (wordsB [key])), some 9), (.own w.heap.size 5 (by8 ((([84, 77, 82, 49, n0, n1, n2, gap] ++ wordsB [wait] ++ [tries, strikes, queue]) ++ wordsB [idle]) ++ wordsB [key])), some 15), (.eq (Value.pointer (some ⟨w.heap.size, 10, none⟩)), none), (.eq (Value.slice a pts.length cp), none), (.eq (Value.int .i64 (pts.length : Int)), none), (.eq (Value.int .u8 (pts.length : Int)), none), (.lit 5 (by8 [pts.length]), some 15), (.own w.heap.size 5 (by8 hdl), some 16), (.own w.heap.size 5 (by8 hdl), none)]) (SBs w [(w.heap.size, #[.int .u8 (n0 : Int), .int .u8 (n1 : Int), .int .u8 (n2 : Int), .int .i64 (gap : Int), .int .i64 (wait : Int), .int .i64 (tries : Int), .int .i64 (strikes : Int), .int .i64 (queue : Int), .int .i64 (idle : Int), .int .u16 (key : Int), .slice a pts.length cp], 33)] 5 v6 (by8 ([84, 77, 82, 49, n0, n1, n2, gap] ++ wordsB [wait] ++ [tries, strikes, queue])) 4) (by kernel_rfl) (by kernel_rfl) (by kernel_rfl) rfl (SBs.start HX6.out (box_cons HB6.out box_nil) HO6.out) (Lives.cons ?_ (Lives.cons ?_ (Lives.cons ?_ (Lives.cons ?_ (Lives.cons ?_ (Lives.cons ?_ (Lives.cons ?_ (Lives.cons ?_ (Lives.cons ?_ (Lives.cons ?_ (Lives.cons ?_ (Lives.cons ?_ (Lives.cons ?_ (Lives.cons ?_ (Lives.cons ?_ (Lives.cons ?_ (Lives.cons ?_ (Lives.nil _)))))))))))))))))) ?_
  · intro L b W hL hdep hcl hf hu hS hd K hK
    have f5 : b.tmps[5]?.getD undef = v6 := hu 16 _ _ rfl rfl (by cases h : L 16 with | false => rfl | true => (have := hcl 16 _ rfl h ⟨0, .phase⟩ (by simp) rfl; rw [this] at hL; cases hL))
    have HS0 := Lib.hid hS
    have HCL := Lib.hid hcl
    have HDP := Lib.hid hdep
    clear hdep
    clear hf hu hd hS hcl
    go_simp
    exact hK _ _ (HS0.out.ext (Ext.refl _) _) (relM.now rfl rfl) (fun j v h1 h2 h => h.ext (Ext.refl _) _)
  · intro L b W hL hdep hcl hf hu hS hd K hK
    have f1 : b.tmps[1]?.getD undef = Value.pointer (some ⟨w.heap.size, 0, none⟩) := (hf 1 (by kernel_rfl)).trans rfl
    have HS0 := Lib.hid hS
    have HCL := Lib.hid hcl
    have HDP := Lib.hid hdep
    clear hdep
    clear hf hu hd hS hcl
    go_simp
    exact hK _ _ (HS0.out.ext (Ext.refl _) _) (relM.now rfl rfl) (fun j v h1 h2 h => h.ext (Ext.refl _) _)
  · intro L b W hL hdep hcl hf hu hS hd K hK
    have d47 : b.tmps[47]?.getD undef = Value.pointer (some ⟨w.heap.size, 8, none⟩) := (hd ⟨1, .data⟩ (by simp) rfl _ _ rfl rfl).get (c := none) rfl (fun _ h => by cases h)
    have HS0 := Lib.hid hS
    have HCL := Lib.hid hcl
    have HDP := Lib.hid hdep
    clear hdep
    clear hf hu hd hS hcl
    have kc : W.cell? ⟨w.heap.size, 8, none⟩ = some (.int .i64 (idle : Int)) := blk_cell HS0.out.box0 8
    go_simp
    exact hK _ _ (HS0.out.ext (Ext.refl _) _) (relM.now rfl rfl) (fun j v h1 h2 h => h.ext (Ext.refl _) _)
  · intro L b W hL hdep hcl hf hu hS hd K hK
    have d48 : b.tmps[48]?.getD undef = Value.int .i64 (idle : Int) := (hd ⟨2, .data⟩ (by simp) rfl _ _ rfl rfl).get (c := none) rfl (fun _ h => by cases h)
    have HS0 := Lib.hid hS
    have HCL := Lib.hid hcl
    have HDP := Lib.hid hdep
    clear hdep
    clear hf hu hd hS hcl
    go_simp
    refine (HTwo.out idle _ hid).mono ?_
    rintro e W' ⟨v', rfl, ho, hx'⟩
    exact hK _ _ (HS0.out.ext hx' _) (relM.now rfl ho) (fun j v h1 h2 h => h.ext hx' _)
  · intro L b W hL hdep hcl hf hu hS hd K hK
    have d46 : b.tmps[46]?.getD undef = v6 := (hd ⟨0, .data⟩ (by simp) rfl _ _ rfl rfl).get (c := none) rfl (fun _ h => by cases h)
    have d49 : MK.holds (.sl (by8 (wordsB [idle]))) (b.tmps[49]?.getD undef) W := (hd ⟨3, .data⟩ (by simp) rfl _ _ rfl rfl).get (c := some 4) rfl (fun _ h => by cases h; exact hL)
    obtain ⟨v49, e49⟩ : ∃ v, b.tmps[49]?.getD undef = v := ⟨_, rfl⟩
    rw [e49] at d49
    have D49 := Lib.hid d49
    clear d49
    have HS0 := Lib.hid hS
    have HCL := Lib.hid hcl
    have HDP := Lib.hid hdep
    clear hdep
    clear hf hu hd hS hcl
    have HOw := Lib.hid (HS0.out.2.2 hL)
    have no8 : L 8 = true → False := fun h => by have := (HCL.out 8 _ rfl h ⟨4, .chain⟩ (by simp) rfl); rw [this] at hL; cases hL
    have no9 : L 9 = true → False := fun h => by have := (HCL.out 9 _ rfl h ⟨4, .data⟩ (by simp) rfl); rw [this] at hL; cases hL
    have no15 : L 15 = true → False := fun h => by have := (HCL.out 9 _ rfl (HCL.out 15 _ rfl h ⟨9, .data⟩ (by simp) rfl) ⟨4, .data⟩ (by simp) rfl); rw [this] at hL; cases hL
    have no16 : L 16 = true → False := fun h => by have := (HCL.out 16 _ rfl h ⟨4, .phase⟩ (by simp) rfl); rw [this] at hL; cases hL
    refine app_own_op _ _ 27 rfl w.heap.size 5 i0 (.int .u8 0) 1 Tryd.underlying27 hi hz0 hz1 hz2 rfl v6 (by8 ([84, 77, 82, 49, n0, n1, n2, gap] ++ wordsB [wait] ++ [tries, strikes, queue])) (by simpa [Act.eval] using d46) HOw.out v49 (by8 (wordsB [idle])) (by simpa [Act.eval] using e49) D49.out (by simp [by8, wordsB]) (by8_one _) HLen50.out (by omega) HS0.out.1.size ?_
    intro v' W' ho hg
    rw [HApp50.out] at ho
    have h1 : also L 4 4 = true := by simp
    refine hK v' W' (HS0.out.grown HOw.out hg rfl 4 h1) (relM.now rfl ho) (fun j v h1 h2 h => h.row HOw.out hg ?_)
    intro q c hq hc
    match j, hq with
    | 0, hq => cases hq; exact .inl ⟨_, rfl⟩
    | 1, hq => cases hq; exact .inl ⟨_, rfl⟩
    | 2, hq => cases hq; exact .inl ⟨_, rfl⟩
    | 3, hq => cases hq; have := hc 4 rfl; simp at this
    | 4, hq => exact absurd rfl h1
    | 5, hq => cases hq; exact .inl ⟨_, rfl⟩
    | 6, hq => cases hq; exact .inl ⟨_, rfl⟩
    | 7, hq => cases hq; exact .inl ⟨_, rfl⟩
    | 8, hq => exact (no8 h2).elim
    | 9, hq => exact (no9 h2).elim
    | 10, hq => cases hq; exact .inl ⟨_, rfl⟩
    | 11, hq => cases hq; exact .inl ⟨_, rfl⟩
    | 12, hq => cases hq; exact .inl ⟨_, rfl⟩
    | 13, hq => cases hq; exact .inl ⟨_, rfl⟩
    | 14, hq => cases hq; exact .inr (.inl ⟨_, _, rfl, Nat.lt_of_le_of_lt (by simp [by8]) HBig50.out⟩)
    | 15, hq => exact (no15 h2).elim
    | 16, hq => exact (no16 h2).elim
    | j + 17, hq => simp at hq
  · intro L b W hL hdep hcl hf hu hS hd K hK
    have f1 : b.tmps[1]?.getD undef = Value.pointer (some ⟨w.heap.size, 0, none⟩) := (hf 1 (by kernel_rfl)).trans rfl
    have HS0 := Lib.hid hS
    have HCL := Lib.hid hcl
    have HDP := Lib.hid hdep
    clear hdep
    clear hf hu hd hS hcl
    go_simp
    exact hK _ _ (HS0.out.ext (Ext.refl _) _) (relM.now rfl rfl) (fun j v h1 h2 h => h.ext (Ext.refl _) _)
  · intro L b W hL hdep hcl hf hu hS hd K hK
    have d51 : b.tmps[51]?.getD undef = Value.pointer (some ⟨w.heap.size, 9, none⟩) := (hd ⟨5, .data⟩ (by simp) rfl _ _ rfl rfl).get (c := none) rfl (fun _ h => by cases h)
    have HS0 := Lib.hid hS
    have HCL := Lib.hid hcl
    have HDP := Lib.hid hdep
    clear hdep
    clear hf hu hd hS hcl
    have kc : W.cell? ⟨w.heap.size, 9, none⟩ = some (.int .u16 (key : Int)) := blk_cell HS0.out.box0 9
    go_simp
    exact hK _ _ (HS0.out.ext (Ext.refl _) _) (relM.now rfl rfl) (fun j v h1 h2 h => h.ext (Ext.refl _) _)
  · intro L b W hL hdep hcl hf hu hS hd K hK
    have d52 : b.tmps[52]?.getD undef = Value.int .u16 (key : Int) := (hd ⟨6, .data⟩ (by simp) rfl _ _ rfl rfl).get (c := none) rfl (fun _ h => by cases h)
    have HS0 := Lib.hid hS
    have HCL := Lib.hid hcl
    have HDP := Lib.hid hdep
    clear hdep
    clear hf hu hd hS hcl
    go_simp
    exact hK _ _ (HS0.out.ext (Ext.refl _) _) (relM.now rfl rfl) (fun j v h1 h2 h => h.ext (Ext.refl _) _)
  · intro L b W hL hdep hcl hf hu hS hd K hK
    have d53 : b.tmps[53]?.getD undef = Value.int .i64 (key : Int) := (hd ⟨7, .data⟩ (by simp) rfl _ _ rfl rfl).get (c := none) rfl (fun _ h => by cases h)
    have HS0 := Lib.hid hS
    have HCL := Lib.hid hcl
    have HDP := Lib.hid hdep
    clear hdep
    clear hf hu hd hS hcl
    go_simp
    refine (HTwo.out key _ hky).mono ?_
    rintro e W' ⟨v', rfl, ho, hx'⟩
    exact hK _ _ (HS0.out.ext hx' _) (relM.now rfl ho) (fun j v h1 h2 h => h.ext hx' _)
  · intro L b W hL hdep hcl hf hu hS hd K hK
    have d50 : MK.holds (.own w.heap.size 5 (by8 (([84, 77, 82, 49, n0, n1, n2, gap] ++ wordsB [wait] ++ [tries, strikes, queue]) ++ wordsB [idle]))) (b.tmps[50]?.getD undef) W := (hd ⟨4, .data⟩ (by simp) rfl _ _ rfl rfl).get (c := some 9) rfl (fun _ h => by cases h; exact hL)
    obtain ⟨v50, e50⟩ : ∃ v, b.tmps[50]?.getD undef = v := ⟨_, rfl⟩
    rw [e50] at d50
    have D50 := Lib.hid d50
    clear d50
    have d54 : MK.holds (.sl (by8 (wordsB [key]))) (b.tmps[54]?.getD undef) W := (hd ⟨8, .data⟩ (by simp) rfl _ _ rfl rfl).get (c := some 9) rfl (fun _ h => by cases h; exact hL)
    obtain ⟨v54, e54⟩ : ∃ v, b.tmps[54]?.getD undef = v := ⟨_, rfl⟩
    rw [e54] at d54
    have D54 := Lib.hid d54
    clear d54
    have HS0 := Lib.hid hS
    have HCL := Lib.hid hcl
    have HDP := Lib.hid hdep
    clear hdep
    clear hf hu hd hS hcl
    have HOw := Lib.hid D50.out
    have no15 : L 15 = true → False := fun h => by have := (HCL.out 15 _ rfl h ⟨9, .data⟩ (by simp) rfl); rw [this] at hL; cases hL
    have no16 : L 16 = true → False := fun h => by have := (HCL.out 16 _ rfl h ⟨9, .phase⟩ (by simp) rfl); rw [this] at hL; cases hL
    refine app_own_op _ _ 27 rfl w.heap.size 5 i0 (.int .u8 0) 1 Tryd.underlying27 hi hz0 hz1 hz2 rfl v50 (by8 (([84, 77, 82, 49, n0, n1, n2, gap] ++ wordsB [wait] ++ [tries, strikes, queue]) ++ wordsB [idle])) (by simpa [Act.eval] using e50) HOw.out v54 (by8 (wordsB [key])) (by simpa [Act.eval] using e54) D54.out (by simp [by8, wordsB]) (by8_one _) HLen55.out (by omega) HS0.out.1.size ?_
    intro v' W' ho hg
    rw [HApp55.out] at ho
    have h1 : also L 9 4 = true := by simp [(HDP.out ⟨4, .data⟩ (by simp) rfl)]
    refine hK v' W' (HS0.out.grown HOw.out hg rfl 9 h1) (relM.now rfl ho) (fun j v h1 h2 h => h.row HOw.out hg ?_)
    intro q c hq hc
    match j, hq with
    | 0, hq => cases hq; exact .inl ⟨_, rfl⟩
    | 1, hq => cases hq; exact .inl ⟨_, rfl⟩
    | 2, hq => cases hq; exact .inl ⟨_, rfl⟩
    | 3, hq => cases hq; have := hc 4 rfl; simp [(HDP.out ⟨4, .data⟩ (by simp) rfl)] at this
    | 4, hq => cases hq; have := hc 9 rfl; simp at this
    | 5, hq => cases hq; exact .inl ⟨_, rfl⟩
    | 6, hq => cases hq; exact .inl ⟨_, rfl⟩
    | 7, hq => cases hq; exact .inl ⟨_, rfl⟩
    | 8, hq => cases hq; have := hc 9 rfl; simp at this
    | 9, hq => exact absurd rfl h1
    | 10, hq => cases hq; exact .inl ⟨_, rfl⟩
    | 11, hq => cases hq; exact .inl ⟨_, rfl⟩
    | 12, hq => cases hq; exact .inl ⟨_, rfl⟩
    | 13, hq => cases hq; exact .inl ⟨_, rfl⟩
    | 14, hq => cases hq; exact .inr (.inl ⟨_, _, rfl, Nat.lt_of_le_of_lt (by simp [by8]) HBig55.out⟩)
    | 15, hq => exact (no15 h2).elim
    | 16, hq => exact (no16 h2).elim
    | j + 17, hq => simp at hq
  · intro L b W hL hdep hcl hf hu hS hd K hK
    have f1 : b.tmps[1]?.getD undef = Value.pointer (some ⟨w.heap.size, 0, none⟩) := (hf 1 (by kernel_rfl)).trans rfl
    have HS0 := Lib.hid hS
    have HCL := Lib.hid hcl
    have HDP := Lib.hid hdep
    clear hdep
    clear hf hu hd hS hcl
    go_simp
    exact hK _ _ (HS0.out.ext (Ext.refl _) _) (relM.now rfl rfl) (fun j v h1 h2 h => h.ext (Ext.refl _) _)
  · intro L b W hL hdep hcl hf hu hS hd K hK
    have d56 : b.tmps[56]?.getD undef = Value.pointer (some ⟨w.heap.size, 10, none⟩) := (hd ⟨10, .data⟩ (by simp) rfl _ _ rfl rfl).get (c := none) rfl (fun _ h => by cases h)
    have HS0 := Lib.hid hS
    have HCL := Lib.hid hcl
    have HDP := Lib.hid hdep
    clear hdep
    clear hf hu hd hS hcl
    have kc : W.cell? ⟨w.heap.size, 10, none⟩ = some (.slice a pts.length cp) := blk_cell HS0.out.box0 10
    go_simp
    exact hK _ _ (HS0.out.ext (Ext.refl _) _) (relM.now rfl rfl) (fun j v h1 h2 h => h.ext (Ext.refl _) _)
  · intro L b W hL hdep hcl hf hu hS hd K hK
    have d57 : b.tmps[57]?.getD undef = Value.slice a pts.length cp := (hd ⟨11, .data⟩ (by simp) rfl _ _ rfl rfl).get (c := none) rfl (fun _ h => by cases h)
    have HS0 := Lib.hid hS
    have HCL := Lib.hid hcl
    have HDP := Lib.hid hdep
    clear hdep
    clear hf hu hd hS hcl
    go_simp
    exact hK _ _ (HS0.out.ext (Ext.refl _) _) (relM.now rfl rfl) (fun j v h1 h2 h => h.ext (Ext.refl _) _)
  · intro L b W hL hdep hcl hf hu hS hd K hK
    have d58 : b.tmps[58]?.getD undef = Value.int .i64 (pts.length : Int) := (hd ⟨12, .data⟩ (by simp) rfl _ _ rfl rfl).get (c := none) rfl (fun _ h => by cases h)
    have HS0 := Lib.hid hS
    have HCL := Lib.hid hcl
    have HDP := Lib.hid hdep
    clear hdep
    clear hf hu hd hS hcl
    go_simp
    exact hK _ _ (HS0.out.ext (Ext.refl _) _) (relM.now rfl rfl) (fun j v h1 h2 h => h.ext (Ext.refl _) _)
  · intro L b W hL hdep hcl hf hu hS hd K hK
    have d59 : b.tmps[59]?.getD undef = Value.int .u8 (pts.length : Int) := (hd ⟨13, .data⟩ (by simp) rfl _ _ rfl rfl).get (c := none) rfl (fun _ h => by cases h)
    have HS0 := Lib.hid hS
    have HCL := Lib.hid hcl
    have HDP := Lib.hid hdep
    clear hdep
    clear hf hu hd hS hcl
    go_simp
    refine hK _ _ (HS0.out.ext ((Ext.refl _).alloc _) _) (relM.now rfl ⟨by unfold maxLen; simp [by8], _, rfl, heap_alloc_new _ _⟩) (fun j v h1 h2 h => h.ext ((Ext.refl _).alloc _) _)
  · intro L b W hL hdep hcl hf hu hS hd K hK
    have d55 : MK.holds (.own w.heap.size 5 (by8 ((([84, 77, 82, 49, n0, n1, n2, gap] ++ wordsB [wait] ++ [tries, strikes, queue]) ++ wordsB [idle]) ++ wordsB [key]))) (b.tmps[55]?.getD undef) W := (hd ⟨9, .data⟩ (by simp) rfl _ _ rfl rfl).get (c := some 15) rfl (fun _ h => by cases h; exact hL)
    obtain ⟨v55, e55⟩ : ∃ v, b.tmps[55]?.getD undef = v := ⟨_, rfl⟩
    rw [e55] at d55
    have D55 := Lib.hid d55
    clear d55
    have d60 : MK.holds (.lit 5 (by8 [pts.length])) (b.tmps[60]?.getD undef) W := (hd ⟨14, .data⟩ (by simp) rfl _ _ rfl rfl).get (c := some 15) rfl (fun _ h => by cases h; exact hL)
    obtain ⟨v60, e60⟩ : ∃ v, b.tmps[60]?.getD undef = v := ⟨_, rfl⟩
    rw [e60] at d60
    have D60 := Lib.hid d60
    clear d60
    have HS0 := Lib.hid hS
    have HCL := Lib.hid hcl
    have HDP := Lib.hid hdep
    clear hdep
    clear hf hu hd hS hcl
    have HOw := Lib.hid D55.out
    have no16 : L 16 = true → False := fun h => by have := (HCL.out 16 _ rfl h ⟨15, .data⟩ (by simp) rfl); rw [this] at hL; cases hL
    refine app_own_op _ _ 27 rfl w.heap.size 5 i0 (.int .u8 0) 1 Tryd.underlying27 hi hz0 hz1 hz2 rfl v55 (by8 ((([84, 77, 82, 49, n0, n1, n2, gap] ++ wordsB [wait] ++ [tries, strikes, queue]) ++ wordsB [idle]) ++ wordsB [key])) (by simpa [Act.eval] using e55) HOw.out v60 (by8 [pts.length]) (by simpa [Act.eval] using e60) (lit_sl2 D60.out) (by simp [by8]) (by8_one _) HLen61.out (by omega) HS0.out.1.size ?_
    intro v' W' ho hg
    rw [HApp61.out] at ho
    have h1 : also L 15 4 = true := by simp [(HCL.out 9 _ rfl (HDP.out ⟨9, .data⟩ (by simp) rfl) ⟨4, .data⟩ (by simp) rfl)]
    refine hK v' W' (HS0.out.grown HOw.out hg rfl 15 h1) (relM.now rfl ho) (fun j v h1 h2 h => h.row HOw.out hg ?_)
    intro q c hq hc
    match j, hq with
    | 0, hq => cases hq; exact .inl ⟨_, rfl⟩
    | 1, hq => cases hq; exact .inl ⟨_, rfl⟩
    | 2, hq => cases hq; exact .inl ⟨_, rfl⟩
    | 3, hq => cases hq; have := hc 4 rfl; simp [(HCL.out 9 _ rfl (HDP.out ⟨9, .data⟩ (by simp) rfl) ⟨4, .data⟩ (by simp) rfl)] at this
    | 4, hq => cases hq; have := hc 9 rfl; simp [(HDP.out ⟨9, .data⟩ (by simp) rfl)] at this
    | 5, hq => cases hq; exact .inl ⟨_, rfl⟩
    | 6, hq => cases hq; exact .inl ⟨_, rfl⟩
    | 7, hq => cases hq; exact .inl ⟨_, rfl⟩
    | 8, hq => cases hq; have := hc 9 rfl; simp [(HDP.out ⟨9, .data⟩ (by simp) rfl)] at this
    | 9, hq => cases hq; have := hc 15 rfl; simp at this
    | 10, hq => cases hq; exact .inl ⟨_, rfl⟩
    | 11, hq => cases hq; exact .inl ⟨_, rfl⟩
    | 12, hq => cases hq; exact .inl ⟨_, rfl⟩
    | 13, hq => cases hq; exact .inl ⟨_, rfl⟩
    | 14, hq => cases hq; have := hc 15 rfl; simp at this
    | 15, hq => exact absurd rfl h1
    | 16, hq => exact (no16 h2).elim
    | j + 17, hq => simp at hq
  · intro L b W hL hdep hcl hf hu hS hd K hK
    have d61 : MK.holds (.own w.heap.size 5 (by8 hdl)) (b.tmps[61]?.getD undef) W := (hd ⟨15, .data⟩ (by simp) rfl _ _ rfl rfl).get (c := some 16) rfl (fun _ h => by cases h; exact hL)
    obtain ⟨v61, e61⟩ : ∃ v, b.tmps[61]?.getD undef = v := ⟨_, rfl⟩
    rw [e61] at d61
    have D61 := Lib.hid d61
    clear d61
    have HS0 := Lib.hid hS
    have HCL := Lib.hid hcl
    have HDP := Lib.hid hdep
    clear hdep
    clear hf hu hd hS hcl
    go_simp
    exact hK _ _ (HS0.out.ext (Ext.refl _) _) (relM.now rfl D61.out) (fun j v h1 h2 h => h.ext (Ext.refl _) _)
  · intro L f7 w7 hL h3 h4 h5
    have e : ((List.range 99).map f7).toArray = #[f7 0, f7 1, f7 2, f7 3, f7 4, f7 5, f7 6, f7 7, f7 8, f7 9, f7 10, f7 11, f7 12, f7 13, f7 14, f7 15, f7 16, f7 17, f7 18, f7 19, f7 20, f7 21, f7 22, f7 23, f7 24, f7 25, f7 26, f7 27, f7 28, f7 29, f7 30, f7 31, f7 32, f7 33, f7 34, f7 35, f7 36, f7 37, f7 38, f7 39, f7 40, f7 41, f7 42, f7 43, f7 44, f7 45, f7 46, f7 47, f7 48, f7 49, f7 50, f7 51, f7 52, f7 53, f7 54, f7 55, f7 56, f7 57, f7 58, f7 59, f7 60, f7 61, f7 62, f7 63, f7 64, f7 65, f7 66, f7 67, f7 68, f7 69, f7 70, f7 71, f7 72, f7 73, f7 74, f7 75, f7 76, f7 77, f7 78, f7 79, f7 80, f7 81, f7 82, f7 83, f7 84, f7 85, f7 86, f7 87, f7 88, f7 89, f7 90, f7 91, f7 92, f7 93, f7 94, f7 95, f7 96, f7 97, f7 98] := rfl
    have g1 : f7 1 = Value.pointer (some ⟨w.heap.size, 0, none⟩) := h3 1 (by kernel_rfl)
    have g2 : f7 2 = Value.slice none 0 0 := h3 2 (by kernel_rfl)
    have g3 : f7 3 = Value.int .i64 0 := h3 3 (by kernel_rfl)
    simp only [g1, g2, g3] at e
    rw [e]
    clear e g1 g2 g3
    have e5 : w7.ownsRow w.heap.size 5 1 (f7 5) (by8 hdl).length (by8 hdl) := (h5 16 _ _ rfl rfl).get (c := none) rfl (fun _ h => by cases h)
    have HO7 := Lib.hid e5
    have HX7 := Lib.hid h4.1
    have HB7 := Lib.hid h4.box0
    clear e5 h4 h3 h5 hL hk64 hl8
    have hcell : Hid (∀ i p, pts[i]? = some p → ∃ b off, a = some ⟨b, off, none⟩ ∧ b < w.heap.size ∧ ∀ j u, j < 5 → (p.pt.vals)[j]? = some u → w.cell? ⟨b, off + i * 5 + j, none⟩ = some u) := Lib.hid (by
      obtain ⟨a1, c1, e1, _, _, _, h⟩ := Sz.at_ (l := pts.map PtN.pt) Pt.vals_length (by omega) (by rw [List.length_map]; exact HV.out)
      intro i p hp
      injection e1 with ea _ _
      subst ea
      exact h i p.pt (by rw [List.getElem?_map, hp]; rfl))
    go_wp2_with fail
    go_loopw [5, 6] (fun x i wr => ∃ k : Nat, k ≤ pts.length ∧ i = .int .i64 k ∧ Hid (wr.ownsRow w.heap.size 5 1 x (by8 (hdl ++ (pts.take k).flatMap PtN.bytes)).length (by8 (hdl ++ (pts.take k).flatMap PtN.bytes)) ∧ Ext w wr ∧ wr.heap[w.heap.size]? = some (.cells #[.int .u8 (n0 : Int), .int .u8 (n1 : Int), .int .u8 (n2 : Int), .int .i64 (gap : Int), .int .i64 (wait : Int), .int .i64 (tries : Int), .int .i64 (strikes : Int), .int .i64 (queue : Int), .int .i64 (idle : Int), .int .u16 (key : Int), .slice a pts.length cp] 33 (0, 0)))) (fun _ i _ => pts.length - (intOf i).toNat)
    case atStart => exact ⟨0, by omega, rfl, Lib.hid ⟨by simpa using HO7.out, HX7.out, HB7.out⟩⟩
    case round =>
      obtain ⟨k, hk, rfl, HR⟩ := hrel
      obtain ⟨k0, k1, k2, k3, k4, k5, k6, k7, k8, k9, k10, ksz⟩ := HCC.out _ HR.out.2.2
      clear k0 k1 k2 k3 k4 k5 k6 k7 k8 k9
      by_cases hlt : k < pts.length
      · obtain ⟨s, hs⟩ : ∃ s, pts[k]? = some s := ⟨_, List.getElem?_eq_getElem hlt⟩
        obtain ⟨b, off, rfl, _, hcx⟩ := hcell.out k s hs
        have c0 : wr.cell? ⟨b, off + k * 5, none⟩ = some (.int .i64 (s.kind : Int)) := HR.out.2.1.cell' (hcx 0 _ (by omega) rfl)
        have c1 : wr.cell? ⟨b, off + k * 5 + 1, none⟩ = some (.int .i64 (s.addr : Int)) := HR.out.2.1.cell' (hcx 1 _ (by omega) rfl)
        have c2 : wr.cell? ⟨b, off + k * 5 + 2, none⟩ = some (.int .i64 (s.at_ : Int)) := HR.out.2.1.cell' (hcx 2 _ (by omega) rfl)
        have c3 : wr.cell? ⟨b, off + k * 5 + 3, none⟩ = some (.int .i64 (s.band : Int)) := HR.out.2.1.cell' (hcx 3 _ (by omega) rfl)
        have c4 : wr.cell? ⟨b, off + k * 5 + 4, none⟩ = some (.int .i64 (s.safe : Int)) := HR.out.2.1.cell' (hcx 4 _ (by omega) rfl)
        have HSm : Hid s.small := Lib.hid (HS.out.pts s (List.mem_of_getElem? hs))
        have HTk : Hid ((pts.take (k + 1)).flatMap PtN.bytes = (pts.take k).flatMap PtN.bytes ++ s.bytes) := Lib.hid (by
          obtain ⟨hk', rfl⟩ := List.getElem?_eq_some_iff.1 hs
          rw [List.take_succ_eq_append_getElem hk', List.flatMap_append]
          simp)
        clear hcx hs
        have ha0 : s.addr < 65536 := HSm.out.2.1
        have ha1 : s.at_ < 65536 := by have := HSm.out.2.2.1; omega
        have ha2 : s.band < 65536 := HSm.out.2.2.2.1
        have ha3 : s.safe < 65536 := HSm.out.2.2.2.2
        have hk8 : IntKind.u8.wrap (s.kind : Int) = s.kind := by rw [IntKind.wrap_u8]; have := HSm.out.1; omega
        have HPl : Hid ((hdl ++ (pts.take k).flatMap PtN.bytes).length ≤ 1000) := Lib.hid (by
          have h1 := flatb_len (pts.take k)
          have h2 := (List.length_take_le k pts)
          have h3 : hdl.length = 18 := by rw [HH.out]; exact head_len _
          have h4 := HS.out.len
          simp only at h4
          rw [List.length_append, h1, h3]
          omega)
        have HLen79 : Hid (((by8 (hdl ++ (pts.take k).flatMap PtN.bytes)).length + (by8 [s.kind]).length) * 1 ≤ 140737488355328) := Lib.hid (by have := HPl.out; simp only [by8_length, List.length_append, List.length_cons, List.length_nil] at this ⊢; omega)
        have HLen83 : Hid (((by8 ((hdl ++ (pts.take k).flatMap PtN.bytes) ++ [s.kind])).length + (by8 (wordsB [s.addr])).length) * 1 ≤ 140737488355328) := Lib.hid (by have := HPl.out; simp only [by8_length, List.length_append, List.length_cons, List.length_nil, wordsB_length] at this ⊢; omega)
        have HLen87 : Hid (((by8 (((hdl ++ (pts.take k).flatMap PtN.bytes) ++ [s.kind]) ++ wordsB [s.addr])).length + (by8 (wordsB [s.at_])).length) * 1 ≤ 140737488355328) := Lib.hid (by have := HPl.out; simp only [by8_length, List.length_append, List.length_cons, List.length_nil, wordsB_length] at this ⊢; omega)
        have HLen92 : Hid (((by8 ((((hdl ++ (pts.take k).flatMap PtN.bytes) ++ [s.kind]) ++ wordsB [s.addr]) ++ wordsB [s.at_])).length + (by8 (wordsB [s.band])).length) * 1 ≤ 140737488355328) := Lib.hid (by have := HPl.out; simp only [by8_length, List.length_append, List.length_cons, List.length_nil, wordsB_length] at this ⊢; omega)
        have HLen96 : Hid (((by8 (((((hdl ++ (pts.take k).flatMap PtN.bytes) ++ [s.kind]) ++ wordsB [s.addr]) ++ wordsB [s.at_]) ++ wordsB [s.band])).length + (by8 (wordsB [s.safe])).length) * 1 ≤ 140737488355328) := Lib.hid (by have := HPl.out; simp only [by8_length, List.length_append, List.length_cons, List.length_nil, wordsB_length] at this ⊢; omega)
        have HApp79 : Hid (by8 (hdl ++ (pts.take k).flatMap PtN.bytes) ++ by8 [s.kind] = by8 ((hdl ++ (pts.take k).flatMap PtN.bytes) ++ [s.kind])) := Lib.hid (by8_append _ _).symm
        have HApp83 : Hid (by8 ((hdl ++ (pts.take k).flatMap PtN.bytes) ++ [s.kind]) ++ by8 (wordsB [s.addr]) = by8 (((hdl ++ (pts.take k).flatMap PtN.bytes) ++ [s.kind]) ++ wordsB [s.addr])) := Lib.hid (by8_append _ _).symm
        have HApp87 : Hid (by8 (((hdl ++ (pts.take k).flatMap PtN.bytes) ++ [s.kind]) ++ wordsB [s.addr]) ++ by8 (wordsB [s.at_]) = by8 ((((hdl ++ (pts.take k).flatMap PtN.bytes) ++ [s.kind]) ++ wordsB [s.addr]) ++ wordsB [s.at_])) := Lib.hid (by8_append _ _).symm
        have HApp92 : Hid (by8 ((((hdl ++ (pts.take k).flatMap PtN.bytes) ++ [s.kind]) ++ wordsB [s.addr]) ++ wordsB [s.at_]) ++ by8 (wordsB [s.band]) = by8 (((((hdl ++ (pts.take k).flatMap PtN.bytes) ++ [s.kind]) ++ wordsB [s.addr]) ++ wordsB [s.at_]) ++ wordsB [s.band])) := Lib.hid (by8_append _ _).symm
        have HApp96 : Hid (by8 (((((hdl ++ (pts.take k).flatMap PtN.bytes) ++ [s.kind]) ++ wordsB [s.addr]) ++ wordsB [s.at_]) ++ wordsB [s.band]) ++ by8 (wordsB [s.safe]) = by8 (hdl ++ (pts.take (k + 1)).flatMap PtN.bytes)) := Lib.hid (by rw [← by8_append, HTk.out]; simp [PtN.bytes, wordsB])
        go_wp2_with fail
        clear c0 c1 c2 c3 c4 k10 ksz
        refine wp_region_live_f 99 (relM [(.eq (u5), none), (.eq (Value.pointer (some ⟨wr.heap.size, 0, none⟩)), none), (.eq (Value.int .i64 (s.kind : Int)), none), (.eq (Value.int .u8 (s.kind : Int)), none), (.lit 5 (by8 [s.kind]), some 5), (.own w.heap.size 5 (by8 ((hdl ++ (pts.take k).flatMap PtN.bytes) ++ [s.kind])), some 9), (.eq (Value.pointer (some ⟨wr.heap.size, 1, none⟩)), none), (.eq (Value.int .i64 (s.addr : Int)), none), (.sl (by8 (wordsB [s.addr])), some 9), (.own w.heap.size 5 (by8 (((hdl ++ (pts.take k).flatMap PtN.bytes) ++ [s.kind]) ++ wordsB [s.addr])), some 13), (.eq (Value.pointer (some ⟨wr.heap.size, 2, none⟩)), none), (.eq (Value.int .i64 (s.at_ : Int)), none), (.sl (by8 (wordsB [s.at_])), some 13), (.own w.heap.size 5 (by8 ((((hdl ++ (pts.take k).flatMap PtN.bytes) ++ [s.kind]) ++ wordsB [s.addr]) ++ wordsB [s.at_])), some 14), (.own w.heap.size 5 (by8 ((((hdl ++ (pts.take k).flatMap PtN.bytes) ++ [s.kind]) ++ wordsB [s.addr]) ++ wordsB [s.at_])), none)]) (SBs w [(wr.heap.size, #[.int .i64 (s.kind : Int), .int .i64 (s.addr : Int), .int .i64 (s.at_ : Int), .int .i64 (s.band : Int), .int .i64 (s.safe : Int)], 47), (w.heap.size, #[.int .u8 (n0 : Int), .int .u8 (n1 : Int), .int .u8 (n2 : Int), .int .i64 (gap : Int), .int .i64 (wait : Int), .int .i64 (tries : Int), .int .i64 (strikes : Int), .int .i64 (queue : Int), .int .i64 (idle : Int), .int .u16 (key : Int), .slice (some ⟨b, off, none⟩) pts.length cp], 33)] 5 u5 (by8 (hdl ++ (pts.take k).flatMap PtN.bytes)) 5) (by kernel_rfl) (by kernel_rfl) (by kernel_rfl) rfl (SBs.start (HR.out.2.1.alloc _) (box_cons (heap_alloc_new _ _) (box_cons (((Ext.refl _).alloc _).heap HR.out.2.2) box_nil)) (own_ext HR.out.1 ((Ext.refl _).alloc _))) (Lives.cons ?_ (Lives.cons ?_ (Lives.cons ?_ (Lives.cons ?_ (Lives.cons ?_ (Lives.cons ?_ (Lives.cons ?_ (Lives.cons ?_ (Lives.cons ?_ (Lives.cons ?_ (Lives.cons ?_ (Lives.cons ?_ (Lives.cons ?_ (Lives.cons ?_ (Lives.cons ?_ (Lives.nil _)))))))))))))))) ?_
        · intro L b W hL hdep hcl hf hu hS hd K hK
          have f5 : b.tmps[5]?.getD undef = u5 := hu 14 _ _ rfl rfl (by cases h : L 14 with | false => rfl | true => (have := hcl 14 _ rfl h ⟨0, .phase⟩ (by simp) rfl; rw [this] at hL; cases hL))
          have HS0 := Lib.hid hS
          have HCL := Lib.hid hcl
          have HDP := Lib.hid hdep
          clear hdep
          clear hf hu hd hS hcl
          go_simp
          exact hK _ _ (HS0.out.ext (Ext.refl _) _) (relM.now rfl rfl) (fun j v h1 h2 h => h.ext (Ext.refl _) _)
        · intro L b W hL hdep hcl hf hu hS hd K hK
          have f7 : b.tmps[7]?.getD undef = Value.pointer (some ⟨wr.heap.size, 0, none⟩) := (hf 7 (by kernel_rfl)).trans rfl
          have HS0 := Lib.hid hS
          have HCL := Lib.hid hcl
          have HDP := Lib.hid hdep
          clear hdep
          clear hf hu hd hS hcl
          go_simp
          exact hK _ _ (HS0.out.ext (Ext.refl _) _) (relM.now rfl rfl) (fun j v h1 h2 h => h.ext (Ext.refl _) _)
        · intro L b W hL hdep hcl hf hu hS hd K hK
          have d75 : b.tmps[75]?.getD undef = Value.pointer (some ⟨wr.heap.size, 0, none⟩) := (hd ⟨1, .data⟩ (by simp) rfl _ _ rfl rfl).get (c := none) rfl (fun _ h => by cases h)
          have HS0 := Lib.hid hS
          have HCL := Lib.hid hcl
          have HDP := Lib.hid hdep
          clear hdep
          clear hf hu hd hS hcl
          have kc : W.cell? ⟨wr.heap.size, 0, none⟩ = some (.int .i64 (s.kind : Int)) := blk_cell HS0.out.box0 0
          go_simp
          exact hK _ _ (HS0.out.ext (Ext.refl _) _) (relM.now rfl rfl) (fun j v h1 h2 h => h.ext (Ext.refl _) _)
        · intro L b W hL hdep hcl hf hu hS hd K hK
          have d76 : b.tmps[76]?.getD undef = Value.int .i64 (s.kind : Int) := (hd ⟨2, .data⟩ (by simp) rfl _ _ rfl rfl).get (c := none) rfl (fun _ h => by cases h)
          have HS0 := Lib.hid hS
          have HCL := Lib.hid hcl
          have HDP := Lib.hid hdep
          clear hdep
          clear hf hu hd hS hcl
          go_simp
          exact hK _ _ (HS0.out.ext (Ext.refl _) _) (relM.now rfl rfl) (fun j v h1 h2 h => h.ext (Ext.refl _) _)
        · intro L b W hL hdep hcl hf hu hS hd K hK
          have d77 : b.tmps[77]?.getD undef = Value.int .u8 (s.kind : Int) := (hd ⟨3, .data⟩ (by simp) rfl _ _ rfl rfl).get (c := none) rfl (fun _ h => by cases h)
          have HS0 := Lib.hid hS
          have HCL := Lib.hid hcl
          have HDP := Lib.hid hdep
          clear hdep
          clear hf hu hd hS hcl
          go_simp
          refine hK _ _ (HS0.out.ext ((Ext.refl _).alloc _) _) (relM.now rfl ⟨by unfold maxLen; simp [by8], _, rfl, heap_alloc_new _ _⟩) (fun j v h1 h2 h => h.ext ((Ext.refl _).alloc _) _)
        · intro L b W hL hdep hcl hf hu hS hd K hK
          have d74 : b.tmps[74]?.getD undef = u5 := (hd ⟨0, .data⟩ (by simp) rfl _ _ rfl rfl).get (c := none) rfl (fun _ h => by cases h)
          have d78 : MK.holds (.lit 5 (by8 [s.kind])) (b.tmps[78]?.getD undef) W := (hd ⟨4, .data⟩ (by simp) rfl _ _ rfl rfl).get (c := some 5) rfl (fun _ h => by cases h; exact hL)
          obtain ⟨v78, e78⟩ : ∃ v, b.tmps[78]?.getD undef = v := ⟨_, rfl⟩
          rw [e78] at d78
          have D78 := Lib.hid d78
          clear d78
          have HS0 := Lib.hid hS
          have HCL := Lib.hid hcl
          have HDP := Lib.hid hdep
          clear hdep
          clear hf hu hd hS hcl
          have HOw := Lib.hid (HS0.out.2.2 hL)
          have no8 : L 8 = true → False := fun h => by have := (HCL.out 8 _ rfl h ⟨5, .chain⟩ (by simp) rfl); rw [this] at hL; cases hL
          have no9 : L 9 = true → False := fun h => by have := (HCL.out 9 _ rfl h ⟨5, .data⟩ (by simp) rfl); rw [this] at hL; cases hL
          have no12 : L 12 = true → False := fun h => by have := (HCL.out 9 _ rfl (HCL.out 12 _ rfl h ⟨9, .chain⟩ (by simp) rfl) ⟨5, .data⟩ (by simp) rfl); rw [this] at hL; cases hL
          have no13 : L 13 = true → False := fun h => by have := (HCL.out 9 _ rfl (HCL.out 13 _ rfl h ⟨9, .data⟩ (by simp) rfl) ⟨5, .data⟩ (by simp) rfl); rw [this] at hL; cases hL
          have no14 : L 14 = true → False := fun h => by have := (HCL.out 14 _ rfl h ⟨5, .phase⟩ (by simp) rfl); rw [this] at hL; cases hL
          refine app_own_op _ _ 27 rfl w.heap.size 5 i0 (.int .u8 0) 1 Tryd.underlying27 hi hz0 hz1 hz2 rfl u5 (by8 (hdl ++ (pts.take k).flatMap PtN.bytes)) (by simpa [Act.eval] using d74) HOw.out v78 (by8 [s.kind]) (by simpa [Act.eval] using e78) (lit_sl2 D78.out) (by simp [by8]) (by8_one _) HLen79.out (by omega) HS0.out.1.size ?_
          intro v' W' ho hg
          rw [HApp79.out] at ho
          have h1 : also L 5 5 = true := by simp
          refine hK v' W' (HS0.out.grown HOw.out hg rfl 5 h1) (relM.now rfl ho) (fun j v h1 h2 h => h.row HOw.out hg ?_)
          intro q c hq hc
          match j, hq with
          | 0, hq => cases hq; exact .inl ⟨_, rfl⟩
          | 1, hq => cases hq; exact .inl ⟨_, rfl⟩
          | 2, hq => cases hq; exact .inl ⟨_, rfl⟩
          | 3, hq => cases hq; exact .inl ⟨_, rfl⟩
          | 4, hq => cases hq; have := hc 5 rfl; simp at this
          | 5, hq => exact absurd rfl h1
          | 6, hq => cases hq; exact .inl ⟨_, rfl⟩
          | 7, hq => cases hq; exact .inl ⟨_, rfl⟩
          | 8, hq => exact (no8 h2).elim
          | 9, hq => exact (no9 h2).elim
          | 10, hq => cases hq; exact .inl ⟨_, rfl⟩
          | 11, hq => cases hq; exact .inl ⟨_, rfl⟩
          | 12, hq => exact (no12 h2).elim
          | 13, hq => exact (no13 h2).elim
          | 14, hq => exact (no14 h2).elim
          | j + 15, hq => simp at hq
        · intro L b W hL hdep hcl hf hu hS hd K hK
          have f7 : b.tmps[7]?.getD undef = Value.pointer (some ⟨wr.heap.size, 0, none⟩) := (hf 7 (by kernel_rfl)).trans rfl
          have HS0 := Lib.hid hS
          have HCL := Lib.hid hcl
          have HDP := Lib.hid hdep
          clear hdep
          clear hf hu hd hS hcl
          go_simp
          exact hK _ _ (HS0.out.ext (Ext.refl _) _) (relM.now rfl rfl) (fun j v h1 h2 h => h.ext (Ext.refl _) _)
        · intro L b W hL hdep hcl hf hu hS hd K hK
          have d80 : b.tmps[80]?.getD undef = Value.pointer (some ⟨wr.heap.size, 1, none⟩) := (hd ⟨6, .data⟩ (by simp) rfl _ _ rfl rfl).get (c := none) rfl (fun _ h => by cases h)
          have HS0 := Lib.hid hS
          have HCL := Lib.hid hcl
          have HDP := Lib.hid hdep
          clear hdep
          clear hf hu hd hS hcl
          have kc : W.cell? ⟨wr.heap.size, 1, none⟩ = some (.int .i64 (s.addr : Int)) := blk_cell HS0.out.box0 1
          go_simp
          exact hK _ _ (HS0.out.ext (Ext.refl _) _) (relM.now rfl rfl) (fun j v h1 h2 h => h.ext (Ext.refl _) _)
        · intro L b W hL hdep hcl hf hu hS hd K hK
          have d81 : b.tmps[81]?.getD undef = Value.int .i64 (s.addr : Int) := (hd ⟨7, .data⟩ (by simp) rfl _ _ rfl rfl).get (c := none) rfl (fun _ h => by cases h)
          have HS0 := Lib.hid hS
          have HCL := Lib.hid hcl
          have HDP := Lib.hid hdep
          clear hdep
          clear hf hu hd hS hcl
          go_simp
          refine (HTwo.out s.addr _ ha0).mono ?_
          rintro e W' ⟨v', rfl, ho, hx'⟩
          exact hK _ _ (HS0.out.ext hx' _) (relM.now rfl ho) (fun j v h1 h2 h => h.ext hx' _)
        · intro L b W hL hdep hcl hf hu hS hd K hK
          have d79 : MK.holds (.own w.heap.size 5 (by8 ((hdl ++ (pts.take k).flatMap PtN.bytes) ++ [s.kind]))) (b.tmps[79]?.getD undef) W := (hd ⟨5, .data⟩ (by simp) rfl _ _ rfl rfl).get (c := some 9) rfl (fun _ h => by cases h; exact hL)
          obtain ⟨v79, e79⟩ : ∃ v, b.tmps[79]?.getD undef = v := ⟨_, rfl⟩
          rw [e79] at d79
          have D79 := Lib.hid d79
          clear d79
          have d82 : MK.holds (.sl (by8 (wordsB [s.addr]))) (b.tmps[82]?.getD undef) W := (hd ⟨8, .data⟩ (by simp) rfl _ _ rfl rfl).get (c := some 9) rfl (fun _ h => by cases h; exact hL)
          obtain ⟨v82, e82⟩ : ∃ v, b.tmps[82]?.getD undef = v := ⟨_, rfl⟩
          rw [e82] at d82
          have D82 := Lib.hid d82
          clear d82
          have HS0 := Lib.hid hS
          have HCL := Lib.hid hcl
          have HDP := Lib.hid hdep
          clear hdep
          clear hf hu hd hS hcl
          have HOw := Lib.hid D79.out
          have no12 : L 12 = true → False := fun h => by have := (HCL.out 12 _ rfl h ⟨9, .chain⟩ (by simp) rfl); rw [this] at hL; cases hL
          have no13 : L 13 = true → False := fun h => by have := (HCL.out 13 _ rfl h ⟨9, .data⟩ (by simp) rfl); rw [this] at hL; cases hL
          have no14 : L 14 = true → False := fun h => by have := (HCL.out 14 _ rfl h ⟨9, .phase⟩ (by simp) rfl); rw [this] at hL; cases hL
          refine app_own_op _ _ 27 rfl w.heap.size 5 i0 (.int .u8 0) 1 Tryd.underlying27 hi hz0 hz1 hz2 rfl v79 (by8 ((hdl ++ (pts.take k).flatMap PtN.bytes) ++ [s.kind])) (by simpa [Act.eval] using e79) HOw.out v82 (by8 (wordsB [s.addr])) (by simpa [Act.eval] using e82) D82.out (by simp [by8, wordsB]) (by8_one _) HLen83.out (by omega) HS0.out.1.size ?_
          intro v' W' ho hg
          rw [HApp83.out] at ho
          have h1 : also L 9 5 = true := by simp [(HDP.out ⟨5, .data⟩ (by simp) rfl)]
          refine hK v' W' (HS0.out.grown HOw.out hg rfl 9 h1) (relM.now rfl ho) (fun j v h1 h2 h => h.row HOw.out hg ?_)
          intro q c hq hc
          match j, hq with
          | 0, hq => cases hq; exact .inl ⟨_, rfl⟩
          | 1, hq => cases hq; exact .inl ⟨_, rfl⟩
          | 2, hq => cases hq; exact .inl ⟨_, rfl⟩
          | 3, hq => cases hq; exact .inl ⟨_, rfl⟩
          | 4, hq => cases hq; have := hc 5 rfl; simp [(HDP.out ⟨5, .data⟩ (by simp) rfl)] at this
          | 5, hq => cases hq; have := hc 9 rfl; simp at this
          | 6, hq => cases hq; exact .inl ⟨_, rfl⟩
          | 7, hq => cases hq; exact .inl ⟨_, rfl⟩
          | 8, hq => cases hq; have := hc 9 rfl; simp at this
          | 9, hq => exact absurd rfl h1
          | 10, hq => cases hq; exact .inl ⟨_, rfl⟩
          | 11, hq => cases hq; exact .inl ⟨_, rfl⟩
          | 12, hq => exact (no12 h2).elim
          | 13, hq => exact (no13 h2).elim
          | 14, hq => exact (no14 h2).elim
          | j + 15, hq => simp at hq
        · intro L b W hL hdep hcl hf hu hS hd K hK
          have f7 : b.tmps[7]?.getD undef = Value.pointer (some ⟨wr.heap.size, 0, none⟩) := (hf 7 (by kernel_rfl)).trans rfl
          have HS0 := Lib.hid hS
          have HCL := Lib.hid hcl
          have HDP := Lib.hid hdep
          clear hdep
          clear hf hu hd hS hcl
          go_simp
          exact hK _ _ (HS0.out.ext (Ext.refl _) _) (relM.now rfl rfl) (fun j v h1 h2 h => h.ext (Ext.refl _) _)
        · intro L b W hL hdep hcl hf hu hS hd K hK
          have d84 : b.tmps[84]?.getD undef = Value.pointer (some ⟨wr.heap.size, 2, none⟩) := (hd ⟨10, .data⟩ (by simp) rfl _ _ rfl rfl).get (c := none) rfl (fun _ h => by cases h)
          have HS0 := Lib.hid hS
          have HCL := Lib.hid hcl
          have HDP := Lib.hid hdep
          clear hdep
          clear hf hu hd hS hcl
          have kc : W.cell? ⟨wr.heap.size, 2, none⟩ = some (.int .i64 (s.at_ : Int)) := blk_cell HS0.out.box0 2
          go_simp
          exact hK _ _ (HS0.out.ext (Ext.refl _) _) (relM.now rfl rfl) (fun j v h1 h2 h => h.ext (Ext.refl _) _)
        · intro L b W hL hdep hcl hf hu hS hd K hK
          have d85 : b.tmps[85]?.getD undef = Value.int .i64 (s.at_ : Int) := (hd ⟨11, .data⟩ (by simp) rfl _ _ rfl rfl).get (c := none) rfl (fun _ h => by cases h)
          have HS0 := Lib.hid hS
          have HCL := Lib.hid hcl
          have HDP := Lib.hid hdep
          clear hdep
          clear hf hu hd hS hcl
          go_simp
          refine (HTwo.out s.at_ _ ha1).mono ?_
          rintro e W' ⟨v', rfl, ho, hx'⟩
          exact hK _ _ (HS0.out.ext hx' _) (relM.now rfl ho) (fun j v h1 h2 h => h.ext hx' _)
        · intro L b W hL hdep hcl hf hu hS hd K hK
          have d83 : MK.holds (.own w.heap.size 5 (by8 (((hdl ++ (pts.take k).flatMap PtN.bytes) ++ [s.kind]) ++ wordsB [s.addr]))) (b.tmps[83]?.getD undef) W := (hd ⟨9, .data⟩ (by simp) rfl _ _ rfl rfl).get (c := some 13) rfl (fun _ h => by cases h; exact hL)
          obtain ⟨v83, e83⟩ : ∃ v, b.tmps[83]?.getD undef = v := ⟨_, rfl⟩
          rw [e83] at d83
          have D83 := Lib.hid d83
          clear d83
          have d86 : MK.holds (.sl (by8 (wordsB [s.at_]))) (b.tmps[86]?.getD undef) W := (hd ⟨12, .data⟩ (by simp) rfl _ _ rfl rfl).get (c := some 13) rfl (fun _ h => by cases h; exact hL)
          obtain ⟨v86, e86⟩ : ∃ v, b.tmps[86]?.getD undef = v := ⟨_, rfl⟩
          rw [e86] at d86
          have D86 := Lib.hid d86
          clear d86
          have HS0 := Lib.hid hS
          have HCL := Lib.hid hcl
          have HDP := Lib.hid hdep
          clear hdep
          clear hf hu hd hS hcl
          have HOw := Lib.hid D83.out
          have no14 : L 14 = true → False := fun h => by have := (HCL.out 14 _ rfl h ⟨13, .data⟩ (by simp) rfl); rw [this] at hL; cases hL
          refine app_own_op _ _ 27 rfl w.heap.size 5 i0 (.int .u8 0) 1 Tryd.underlying27 hi hz0 hz1 hz2 rfl v83 (by8 (((hdl ++ (pts.take k).flatMap PtN.bytes) ++ [s.kind]) ++ wordsB [s.addr])) (by simpa [Act.eval] using e83) HOw.out v86 (by8 (wordsB [s.at_])) (by simpa [Act.eval] using e86) D86.out (by simp [by8, wordsB]) (by8_one _) HLen87.out (by omega) HS0.out.1.size ?_
          intro v' W' ho hg
          rw [HApp87.out] at ho
          have h1 : also L 13 5 = true := by simp [(HCL.out 9 _ rfl (HDP.out ⟨9, .data⟩ (by simp) rfl) ⟨5, .data⟩ (by simp) rfl)]
          refine hK v' W' (HS0.out.grown HOw.out hg rfl 13 h1) (relM.now rfl ho) (fun j v h1 h2 h => h.row HOw.out hg ?_)
          intro q c hq hc
          match j, hq with
          | 0, hq => cases hq; exact .inl ⟨_, rfl⟩
          | 1, hq => cases hq; exact .inl ⟨_, rfl⟩
          | 2, hq => cases hq; exact .inl ⟨_, rfl⟩
          | 3, hq => cases hq; exact .inl ⟨_, rfl⟩
          | 4, hq => cases hq; have := hc 5 rfl; simp [(HCL.out 9 _ rfl (HDP.out ⟨9, .data⟩ (by simp) rfl) ⟨5, .data⟩ (by simp) rfl)] at this
          | 5, hq => cases hq; have := hc 9 rfl; simp [(HDP.out ⟨9, .data⟩ (by simp) rfl)] at this
          | 6, hq => cases hq; exact .inl ⟨_, rfl⟩
          | 7, hq => cases hq; exact .inl ⟨_, rfl⟩
          | 8, hq => cases hq; have := hc 9 rfl; simp [(HDP.out ⟨9, .data⟩ (by simp) rfl)] at this
          | 9, hq => cases hq; have := hc 13 rfl; simp at this
          | 10, hq => cases hq; exact .inl ⟨_, rfl⟩
          | 11, hq => cases hq; exact .inl ⟨_, rfl⟩
          | 12, hq => cases hq; have := hc 13 rfl; simp at this
          | 13, hq => exact absurd rfl h1
          | 14, hq => exact (no14 h2).elim
          | j + 15, hq => simp at hq
        · intro L b W hL hdep hcl hf hu hS hd K hK
          have d87 : MK.holds (.own w.heap.size 5 (by8 ((((hdl ++ (pts.take k).flatMap PtN.bytes) ++ [s.kind]) ++ wordsB [s.addr]) ++ wordsB [s.at_]))) (b.tmps[87]?.getD undef) W := (hd ⟨13, .data⟩ (by simp) rfl _ _ rfl rfl).get (c := some 14) rfl (fun _ h => by cases h; exact hL)
          obtain ⟨v87, e87⟩ : ∃ v, b.tmps[87]?.getD undef = v := ⟨_, rfl⟩
          rw [e87] at d87
          have D87 := Lib.hid d87
          clear d87
          have HS0 := Lib.hid hS
          have HCL := Lib.hid hcl
          have HDP := Lib.hid hdep
          clear hdep
          clear hf hu hd hS hcl
          go_simp
          exact hK _ _ (HS0.out.ext (Ext.refl _) _) (relM.now rfl D87.out) (fun j v h1 h2 h => h.ext (Ext.refl _) _)
        · intro L fy w12 hL h3 h4 h5
          have e : ((List.range 99).map fy).toArray = #[fy 0, fy 1, fy 2, fy 3, fy 4, fy 5, fy 6, fy 7, fy 8, fy 9, fy 10, fy 11, fy 12, fy 13, fy 14, fy 15, fy 16, fy 17, fy 18, fy 19, fy 20, fy 21, fy 22, fy 23, fy 24, fy 25, fy 26, fy 27, fy 28, fy 29, fy 30, fy 31, fy 32, fy 33, fy 34, fy 35, fy 36, fy 37, fy 38, fy 39, fy 40, fy 41, fy 42, fy 43, fy 44, fy 45, fy 46, fy 47, fy 48, fy 49, fy 50, fy 51, fy 52, fy 53, fy 54, fy 55, fy 56, fy 57, fy 58, fy 59, fy 60, fy 61, fy 62, fy 63, fy 64, fy 65, fy 66, fy 67, fy 68, fy 69, fy 70, fy 71, fy 72, fy 73, fy 74, fy 75, fy 76, fy 77, fy 78, fy 79, fy 80, fy 81, fy 82, fy 83, fy 84, fy 85, fy 86, fy 87, fy 88, fy 89, fy 90, fy 91, fy 92, fy 93, fy 94, fy 95, fy 96, fy 97, fy 98] := rfl
          have g0 : fy 0 = f7 0 := h3 0 (by kernel_rfl)
          have g1 : fy 1 = Value.pointer (some ⟨w.heap.size, 0, none⟩) := h3 1 (by kernel_rfl)
          have g2 : fy 2 = Value.slice none 0 0 := h3 2 (by kernel_rfl)
          have g3 : fy 3 = Value.int .i64 0 := h3 3 (by kernel_rfl)
          have g4 : fy 4 = f7 4 := h3 4 (by kernel_rfl)
          have g6 : fy 6 = Value.int .i64 (k : Int) := h3 6 (by kernel_rfl)
          have g7 : fy 7 = Value.pointer (some ⟨wr.heap.size, 0, none⟩) := h3 7 (by kernel_rfl)
          have g8 : fy 8 = f7 8 := h3 8 (by kernel_rfl)
          have g9 : fy 9 = f7 9 := h3 9 (by kernel_rfl)
          have g10 : fy 10 = f7 10 := h3 10 (by kernel_rfl)
          have g11 : fy 11 = f7 11 := h3 11 (by kernel_rfl)
          have g12 : fy 12 = f7 12 := h3 12 (by kernel_rfl)
          have g13 : fy 13 = f7 13 := h3 13 (by kernel_rfl)
          have g14 : fy 14 = f7 14 := h3 14 (by kernel_rfl)
          have g15 : fy 15 = f7 15 := h3 15 (by kernel_rfl)
          have g16 : fy 16 = f7 16 := h3 16 (by kernel_rfl)
          have g17 : fy 17 = f7 17 := h3 17 (by kernel_rfl)
          have g18 : fy 18 = f7 18 := h3 18 (by kernel_rfl)
          have g19 : fy 19 = f7 19 := h3 19 (by kernel_rfl)
          have g20 : fy 20 = f7 20 := h3 20 (by kernel_rfl)
          have g21 : fy 21 = f7 21 := h3 21 (by kernel_rfl)
          have g22 : fy 22 = f7 22 := h3 22 (by kernel_rfl)
          have g23 : fy 23 = f7 23 := h3 23 (by kernel_rfl)
          have g24 : fy 24 = f7 24 := h3 24 (by kernel_rfl)
          have g25 : fy 25 = f7 25 := h3 25 (by kernel_rfl)
          have g26 : fy 26 = f7 26 := h3 26 (by kernel_rfl)
          have g27 : fy 27 = f7 27 := h3 27 (by kernel_rfl)
          have g28 : fy 28 = f7 28 := h3 28 (by kernel_rfl)
          have g29 : fy 29 = f7 29 := h3 29 (by kernel_rfl)
          have g30 : fy 30 = f7 30 := h3 30 (by kernel_rfl)
          have g31 : fy 31 = f7 31 := h3 31 (by kernel_rfl)
          have g32 : fy 32 = f7 32 := h3 32 (by kernel_rfl)
          have g33 : fy 33 = f7 33 := h3 33 (by kernel_rfl)
          have g34 : fy 34 = f7 34 := h3 34 (by kernel_rfl)
          have g35 : fy 35 = f7 35 := h3 35 (by kernel_rfl)
          have g36 : fy 36 = f7 36 := h3 36 (by kernel_rfl)
          have g37 : fy 37 = f7 37 := h3 37 (by kernel_rfl)
          have g38 : fy 38 = f7 38 := h3 38 (by kernel_rfl)
          have g39 : fy 39 = f7 39 := h3 39 (by kernel_rfl)
          have g40 : fy 40 = f7 40 := h3 40 (by kernel_rfl)
          have g41 : fy 41 = f7 41 := h3 41 (by kernel_rfl)
          have g42 : fy 42 = f7 42 := h3 42 (by kernel_rfl)
          have g43 : fy 43 = f7 43 := h3 43 (by kernel_rfl)
          have g44 : fy 44 = f7 44 := h3 44 (by kernel_rfl)
          have g45 : fy 45 = f7 45 := h3 45 (by kernel_rfl)
          have g46 : fy 46 = f7 46 := h3 46 (by kernel_rfl)
          have g47 : fy 47 = f7 47 := h3 47 (by kernel_rfl)
          have g48 : fy 48 = f7 48 := h3 48 (by kernel_rfl)
          have g49 : fy 49 = f7 49 := h3 49 (by kernel_rfl)
          have g50 : fy 50 = f7 50 := h3 50 (by kernel_rfl)
          have g51 : fy 51 = f7 51 := h3 51 (by kernel_rfl)
          have g52 : fy 52 = f7 52 := h3 52 (by kernel_rfl)
          have g53 : fy 53 = f7 53 := h3 53 (by kernel_rfl)
          have g54 : fy 54 = f7 54 := h3 54 (by kernel_rfl)
          have g55 : fy 55 = f7 55 := h3 55 (by kernel_rfl)
          have g56 : fy 56 = f7 56 := h3 56 (by kernel_rfl)
          have g57 : fy 57 = f7 57 := h3 57 (by kernel_rfl)
          have g58 : fy 58 = f7 58 := h3 58 (by kernel_rfl)
          have g59 : fy 59 = f7 59 := h3 59 (by kernel_rfl)
          have g60 : fy 60 = f7 60 := h3 60 (by kernel_rfl)
          have g61 : fy 61 = f7 61 := h3 61 (by kernel_rfl)
          have g97 : fy 97 = f7 97 := h3 97 (by kernel_rfl)
          have g98 : fy 98 = f7 98 := h3 98 (by kernel_rfl)
          simp only [g0, g1, g2, g3, g4, g6, g7, g8, g9, g10, g11, g12, g13, g14, g15, g16, g17, g18, g19, g20, g21, g22, g23, g24, g25, g26, g27, g28, g29, g30, g31, g32, g33, g34, g35, g36, g37, g38, g39, g40, g41, g42, g43, g44, g45, g46, g47, g48, g49, g50, g51, g52, g53, g54, g55, g56, g57, g58, g59, g60, g61, g97, g98] at e
          rw [e]
          clear e g0 g1 g2 g3 g4 g6 g7 g8 g9 g10 g11 g12 g13 g14 g15 g16 g17 g18 g19 g20 g21 g22 g23 g24 g25 g26 g27 g28 g29 g30 g31 g32 g33 g34 g35 g36 g37 g38 g39 g40 g41 g42 g43 g44 g45 g46 g47 g48 g49 g50 g51 g52 g53 g54 g55 g56 g57 g58 g59 g60 g61 g97 g98
          have g5 : w12.ownsRow w.heap.size 5 1 (fy 5) (by8 ((((hdl ++ (pts.take k).flatMap PtN.bytes) ++ [s.kind]) ++ wordsB [s.addr]) ++ wordsB [s.at_])).length (by8 ((((hdl ++ (pts.take k).flatMap PtN.bytes) ++ [s.kind]) ++ wordsB [s.addr]) ++ wordsB [s.at_])) := (h5 14 _ _ rfl rfl).get (c := none) rfl (fun _ h => by cases h)
          have HG := Lib.hid g5
          have HX12 := Lib.hid h4.1
          have HBp := Lib.hid h4.box0
          have HBc := Lib.hid h4.box1
          clear g5 h4 h3 h5 hL hk8
          go_wp2_with fail
          refine wp_region_live_f 99 (relM [(.eq ((fy 5)), none), (.eq (Value.pointer (some ⟨wr.heap.size, 3, none⟩)), none), (.eq (Value.int .i64 (s.band : Int)), none), (.sl (by8 (wordsB [s.band])), some 4), (.own w.heap.size 5 (by8 (((((hdl ++ (pts.take k).flatMap PtN.bytes) ++ [s.kind]) ++ wordsB [s.addr]) ++ wordsB [s.at_]) ++ wordsB [s.band])), some 8), (.eq (Value.pointer (some ⟨wr.heap.size, 4, none⟩)), none), (.eq (Value.int .i64 (s.safe : Int)), none), (.sl (by8 (wordsB [s.safe])), some 8), (.own w.heap.size 5 (by8 (hdl ++ (pts.take (k + 1)).flatMap PtN.bytes)), some 9), (.own w.heap.size 5 (by8 (hdl ++ (pts.take (k + 1)).flatMap PtN.bytes)), none)]) (SBs w [(wr.heap.size, #[.int .i64 (s.kind : Int), .int .i64 (s.addr : Int), .int .i64 (s.at_ : Int), .int .i64 (s.band : Int), .int .i64 (s.safe : Int)], 47), (w.heap.size, #[.int .u8 (n0 : Int), .int .u8 (n1 : Int), .int .u8 (n2 : Int), .int .i64 (gap : Int), .int .i64 (wait : Int), .int .i64 (tries : Int), .int .i64 (strikes : Int), .int .i64 (queue : Int), .int .i64 (idle : Int), .int .u16 (key : Int), .slice (some ⟨b, off, none⟩) pts.length cp], 33)] 5 (fy 5) (by8 ((((hdl ++ (pts.take k).flatMap PtN.bytes) ++ [s.kind]) ++ wordsB [s.addr]) ++ wordsB [s.at_])) 4) (by kernel_rfl) (by kernel_rfl) (by kernel_rfl) rfl (SBs.start HX12.out (box_cons HBp.out (box_cons HBc.out box_nil)) HG.out) (Lives.cons ?_ (Lives.cons ?_ (Lives.cons ?_ (Lives.cons ?_ (Lives.cons ?_ (Lives.cons ?_ (Lives.cons ?_ (Lives.cons ?_ (Lives.cons ?_ (Lives.cons ?_ (Lives.nil _))))))))))) ?_
          · intro L b W hL hdep hcl hf hu hS hd K hK
            have f5 : b.tmps[5]?.getD undef = (fy 5) := hu 9 _ _ rfl rfl (by cases h : L 9 with | false => rfl | true => (have := hcl 9 _ rfl h ⟨0, .phase⟩ (by simp) rfl; rw [this] at hL; cases hL))
            have HS0 := Lib.hid hS
            have HCL := Lib.hid hcl
            have HDP := Lib.hid hdep
            clear hdep
            clear hf hu hd hS hcl
            go_simp
            exact hK _ _ (HS0.out.ext (Ext.refl _) _) (relM.now rfl rfl) (fun j v h1 h2 h => h.ext (Ext.refl _) _)
          · intro L b W hL hdep hcl hf hu hS hd K hK
            have f7 : b.tmps[7]?.getD undef = Value.pointer (some ⟨wr.heap.size, 0, none⟩) := (hf 7 (by kernel_rfl)).trans rfl
            have HS0 := Lib.hid hS
            have HCL := Lib.hid hcl
            have HDP := Lib.hid hdep
            clear hdep
            clear hf hu hd hS hcl
            go_simp
            exact hK _ _ (HS0.out.ext (Ext.refl _) _) (relM.now rfl rfl) (fun j v h1 h2 h => h.ext (Ext.refl _) _)
          · intro L b W hL hdep hcl hf hu hS hd K hK
            have d89 : b.tmps[89]?.getD undef = Value.pointer (some ⟨wr.heap.size, 3, none⟩) := (hd ⟨1, .data⟩ (by simp) rfl _ _ rfl rfl).get (c := none) rfl (fun _ h => by cases h)
            have HS0 := Lib.hid hS
            have HCL := Lib.hid hcl
            have HDP := Lib.hid hdep
            clear hdep
            clear hf hu hd hS hcl
            have kc : W.cell? ⟨wr.heap.size, 3, none⟩ = some (.int .i64 (s.band : Int)) := blk_cell HS0.out.box0 3
            go_simp
            exact hK _ _ (HS0.out.ext (Ext.refl _) _) (relM.now rfl rfl) (fun j v h1 h2 h => h.ext (Ext.refl _) _)
          · intro L b W hL hdep hcl hf hu hS hd K hK
            have d90 : b.tmps[90]?.getD undef = Value.int .i64 (s.band : Int) := (hd ⟨2, .data⟩ (by simp) rfl _ _ rfl rfl).get (c := none) rfl (fun _ h => by cases h)
            have HS0 := Lib.hid hS
            have HCL := Lib.hid hcl
            have HDP := Lib.hid hdep
            clear hdep
            clear hf hu hd hS hcl
            go_simp
            refine (HTwo.out s.band _ ha2).mono ?_
            rintro e W' ⟨v', rfl, ho, hx'⟩
            exact hK _ _ (HS0.out.ext hx' _) (relM.now rfl ho) (fun j v h1 h2 h => h.ext hx' _)
          · intro L b W hL hdep hcl hf hu hS hd K hK
            have d88 : b.tmps[88]?.getD undef = (fy 5) := (hd ⟨0, .data⟩ (by simp) rfl _ _ rfl rfl).get (c := none) rfl (fun _ h => by cases h)
            have d91 : MK.holds (.sl (by8 (wordsB [s.band]))) (b.tmps[91]?.getD undef) W := (hd ⟨3, .data⟩ (by simp) rfl _ _ rfl rfl).get (c := some 4) rfl (fun _ h => by cases h; exact hL)
            obtain ⟨v91, e91⟩ : ∃ v, b.tmps[91]?.getD undef = v := ⟨_, rfl⟩
            rw [e91] at d91
            have D91 := Lib.hid d91
            clear d91
            have HS0 := Lib.hid hS
            have HCL := Lib.hid hcl
            have HDP := Lib.hid hdep
            clear hdep
            clear hf hu hd hS hcl
            have HOw := Lib.hid (HS0.out.2.2 hL)
            have no7 : L 7 = true → False := fun h => by have := (HCL.out 7 _ rfl h ⟨4, .chain⟩ (by simp) rfl); rw [this] at hL; cases hL
            have no8 : L 8 = true → False := fun h => by have := (HCL.out 8 _ rfl h ⟨4, .data⟩ (by simp) rfl); rw [this] at hL; cases hL
            have no9 : L 9 = true → False := fun h => by have := (HCL.out 9 _ rfl h ⟨4, .phase⟩ (by simp) rfl); rw [this] at hL; cases hL
            refine app_own_op _ _ 27 rfl w.heap.size 5 i0 (.int .u8 0) 1 Tryd.underlying27 hi hz0 hz1 hz2 rfl (fy 5) (by8 ((((hdl ++ (pts.take k).flatMap PtN.bytes) ++ [s.kind]) ++ wordsB [s.addr]) ++ wordsB [s.at_])) (by simpa [Act.eval] using d88) HOw.out v91 (by8 (wordsB [s.band])) (by simpa [Act.eval] using e91) D91.out (by simp [by8, wordsB]) (by8_one _) HLen92.out (by omega) HS0.out.1.size ?_
            intro v' W' ho hg
            rw [HApp92.out] at ho
            have h1 : also L 4 4 = true := by simp
            refine hK v' W' (HS0.out.grown HOw.out hg rfl 4 h1) (relM.now rfl ho) (fun j v h1 h2 h => h.row HOw.out hg ?_)
            intro q c hq hc
            match j, hq with
            | 0, hq => cases hq; exact .inl ⟨_, rfl⟩
            | 1, hq => cases hq; exact .inl ⟨_, rfl⟩
            | 2, hq => cases hq; exact .inl ⟨_, rfl⟩
            | 3, hq => cases hq; have := hc 4 rfl; simp at this
            | 4, hq => exact absurd rfl h1
            | 5, hq => cases hq; exact .inl ⟨_, rfl⟩
            | 6, hq => cases hq; exact .inl ⟨_, rfl⟩
            | 7, hq => exact (no7 h2).elim
            | 8, hq => exact (no8 h2).elim
            | 9, hq => exact (no9 h2).elim
            | j + 10, hq => simp at hq
          · intro L b W hL hdep hcl hf hu hS hd K hK
            have f7 : b.tmps[7]?.getD undef = Value.pointer (some ⟨wr.heap.size, 0, none⟩) := (hf 7 (by kernel_rfl)).trans rfl
            have HS0 := Lib.hid hS
            have HCL := Lib.hid hcl
            have HDP := Lib.hid hdep
            clear hdep
            clear hf hu hd hS hcl
            go_simp
            exact hK _ _ (HS0.out.ext (Ext.refl _) _) (relM.now rfl rfl) (fun j v h1 h2 h => h.ext (Ext.refl _) _)
          · intro L b W hL hdep hcl hf hu hS hd K hK
            have d93 : b.tmps[93]?.getD undef = Value.pointer (some ⟨wr.heap.size, 4, none⟩) := (hd ⟨5, .data⟩ (by simp) rfl _ _ rfl rfl).get (c := none) rfl (fun _ h => by cases h)
            have HS0 := Lib.hid hS
            have HCL := Lib.hid hcl
            have HDP := Lib.hid hdep
            clear hdep
            clear hf hu hd hS hcl
            have kc : W.cell? ⟨wr.heap.size, 4, none⟩ = some (.int .i64 (s.safe : Int)) := blk_cell HS0.out.box0 4
            go_simp
            exact hK _ _ (HS0.out.ext (Ext.refl _) _) (relM.now rfl rfl) (fun j v h1 h2 h => h.ext (Ext.refl _) _)
          · intro L b W hL hdep hcl hf hu hS hd K hK
            have d94 : b.tmps[94]?.getD undef = Value.int .i64 (s.safe : Int) := (hd ⟨6, .data⟩ (by simp) rfl _ _ rfl rfl).get (c := none) rfl (fun _ h => by cases h)
            have HS0 := Lib.hid hS
            have HCL := Lib.hid hcl
            have HDP := Lib.hid hdep
            clear hdep
            clear hf hu hd hS hcl
            go_simp
            refine (HTwo.out s.safe _ ha3).mono ?_
            rintro e W' ⟨v', rfl, ho, hx'⟩
            exact hK _ _ (HS0.out.ext hx' _) (relM.now rfl ho) (fun j v h1 h2 h => h.ext hx' _)
          · intro L b W hL hdep hcl hf hu hS hd K hK
            have d92 : MK.holds (.own w.heap.size 5 (by8 (((((hdl ++ (pts.take k).flatMap PtN.bytes) ++ [s.kind]) ++ wordsB [s.addr]) ++ wordsB [s.at_]) ++ wordsB [s.band]))) (b.tmps[92]?.getD undef) W := (hd ⟨4, .data⟩ (by simp) rfl _ _ rfl rfl).get (c := some 8) rfl (fun _ h => by cases h; exact hL)
            obtain ⟨v92, e92⟩ : ∃ v, b.tmps[92]?.getD undef = v := ⟨_, rfl⟩
            rw [e92] at d92
            have D92 := Lib.hid d92
            clear d92
            have d95 : MK.holds (.sl (by8 (wordsB [s.safe]))) (b.tmps[95]?.getD undef) W := (hd ⟨7, .data⟩ (by simp) rfl _ _ rfl rfl).get (c := some 8) rfl (fun _ h => by cases h; exact hL)
            obtain ⟨v95, e95⟩ : ∃ v, b.tmps[95]?.getD undef = v := ⟨_, rfl⟩
            rw [e95] at d95
            have D95 := Lib.hid d95
            clear d95
            have HS0 := Lib.hid hS
            have HCL := Lib.hid hcl
            have HDP := Lib.hid hdep
            clear hdep
            clear hf hu hd hS hcl
            have HOw := Lib.hid D92.out
            have no9 : L 9 = true → False := fun h => by have := (HCL.out 9 _ rfl h ⟨8, .data⟩ (by simp) rfl); rw [this] at hL; cases hL
            refine app_own_op _ _ 27 rfl w.heap.size 5 i0 (.int .u8 0) 1 Tryd.underlying27 hi hz0 hz1 hz2 rfl v92 (by8 (((((hdl ++ (pts.take k).flatMap PtN.bytes) ++ [s.kind]) ++ wordsB [s.addr]) ++ wordsB [s.at_]) ++ wordsB [s.band])) (by simpa [Act.eval] using e92) HOw.out v95 (by8 (wordsB [s.safe])) (by simpa [Act.eval] using e95) D95.out (by simp [by8, wordsB]) (by8_one _) HLen96.out (by omega) HS0.out.1.size ?_
            intro v' W' ho hg
            rw [HApp96.out] at ho
            have h1 : also L 8 4 = true := by simp [(HDP.out ⟨4, .data⟩ (by simp) rfl)]
            refine hK v' W' (HS0.out.grown HOw.out hg rfl 8 h1) (relM.now rfl ho) (fun j v h1 h2 h => h.row HOw.out hg ?_)
            intro q c hq hc
            match j, hq with
            | 0, hq => cases hq; exact .inl ⟨_, rfl⟩
            | 1, hq => cases hq; exact .inl ⟨_, rfl⟩
            | 2, hq => cases hq; exact .inl ⟨_, rfl⟩
            | 3, hq => cases hq; have := hc 4 rfl; simp [(HDP.out ⟨4, .data⟩ (by simp) rfl)] at this
            | 4, hq => cases hq; have := hc 8 rfl; simp at this
            | 5, hq => cases hq; exact .inl ⟨_, rfl⟩
            | 6, hq => cases hq; exact .inl ⟨_, rfl⟩
            | 7, hq => cases hq; have := hc 8 rfl; simp at this
            | 8, hq => exact absurd rfl h1
            | 9, hq => exact (no9 h2).elim
            | j + 10, hq => simp at hq
          · intro L b W hL hdep hcl hf hu hS hd K hK
            have d96 : MK.holds (.own w.heap.size 5 (by8 (hdl ++ (pts.take (k + 1)).flatMap PtN.bytes))) (b.tmps[96]?.getD undef) W := (hd ⟨8, .data⟩ (by simp) rfl _ _ rfl rfl).get (c := some 9) rfl (fun _ h => by cases h; exact hL)
            obtain ⟨v96, e96⟩ : ∃ v, b.tmps[96]?.getD undef = v := ⟨_, rfl⟩
            rw [e96] at d96
            have D96 := Lib.hid d96
            clear d96
            have HS0 := Lib.hid hS
            have HCL := Lib.hid hcl
            have HDP := Lib.hid hdep
            clear hdep
            clear hf hu hd hS hcl
            go_simp
            exact hK _ _ (HS0.out.ext (Ext.refl _) _) (relM.now rfl D96.out) (fun j v h1 h2 h => h.ext (Ext.refl _) _)
          · intro L fz w13 hL h3 h4 h5
            have e : ((List.range 99).map fz).toArray = #[fz 0, fz 1, fz 2, fz 3, fz 4, fz 5, fz 6, fz 7, fz 8, fz 9, fz 10, fz 11, fz 12, fz 13, fz 14, fz 15, fz 16, fz 17, fz 18, fz 19, fz 20, fz 21, fz 22, fz 23, fz 24, fz 25, fz 26, fz 27, fz 28, fz 29, fz 30, fz 31, fz 32, fz 33, fz 34, fz 35, fz 36, fz 37, fz 38, fz 39, fz 40, fz 41, fz 42, fz 43, fz 44, fz 45, fz 46, fz 47, fz 48, fz 49, fz 50, fz 51, fz 52, fz 53, fz 54, fz 55, fz 56, fz 57, fz 58, fz 59, fz 60, fz 61, fz 62, fz 63, fz 64, fz 65, fz 66, fz 67, fz 68, fz 69, fz 70, fz 71, fz 72, fz 73, fz 74, fz 75, fz 76, fz 77, fz 78, fz 79, fz 80, fz 81, fz 82, fz 83, fz 84, fz 85, fz 86, fz 87, fz 88, fz 89, fz 90, fz 91, fz 92, fz 93, fz 94, fz 95, fz 96, fz 97, fz 98] := rfl
            have g0 : fz 0 = f7 0 := h3 0 (by kernel_rfl)
            have g1 : fz 1 = Value.pointer (some ⟨w.heap.size, 0, none⟩) := h3 1 (by kernel_rfl)
            have g2 : fz 2 = Value.slice none 0 0 := h3 2 (by kernel_rfl)
            have g3 : fz 3 = Value.int .i64 0 := h3 3 (by kernel_rfl)
            have g4 : fz 4 = f7 4 := h3 4 (by kernel_rfl)
            have g6 : fz 6 = Value.int .i64 (k : Int) := h3 6 (by kernel_rfl)
            have g7 : fz 7 = Value.pointer (some ⟨wr.heap.size, 0, none⟩) := h3 7 (by kernel_rfl)
            have g8 : fz 8 = f7 8 := h3 8 (by kernel_rfl)
            have g9 : fz 9 = f7 9 := h3 9 (by kernel_rfl)
            have g10 : fz 10 = f7 10 := h3 10 (by kernel_rfl)
            have g11 : fz 11 = f7 11 := h3 11 (by kernel_rfl)
            have g12 : fz 12 = f7 12 := h3 12 (by kernel_rfl)
            have g13 : fz 13 = f7 13 := h3 13 (by kernel_rfl)
            have g14 : fz 14 = f7 14 := h3 14 (by kernel_rfl)
            have g15 : fz 15 = f7 15 := h3 15 (by kernel_rfl)
            have g16 : fz 16 = f7 16 := h3 16 (by kernel_rfl)
            have g17 : fz 17 = f7 17 := h3 17 (by kernel_rfl)
            have g18 : fz 18 = f7 18 := h3 18 (by kernel_rfl)
            have g19 : fz 19 = f7 19 := h3 19 (by kernel_rfl)
            have g20 : fz 20 = f7 20 := h3 20 (by kernel_rfl)
            have g21 : fz 21 = f7 21 := h3 21 (by kernel_rfl)
            have g22 : fz 22 = f7 22 := h3 22 (by kernel_rfl)
            have g23 : fz 23 = f7 23 := h3 23 (by kernel_rfl)
            have g24 : fz 24 = f7 24 := h3 24 (by kernel_rfl)
            have g25 : fz 25 = f7 25 := h3 25 (by kernel_rfl)
            have g26 : fz 26 = f7 26 := h3 26 (by kernel_rfl)
            have g27 : fz 27 = f7 27 := h3 27 (by kernel_rfl)
            have g28 : fz 28 = f7 28 := h3 28 (by kernel_rfl)
            have g29 : fz 29 = f7 29 := h3 29 (by kernel_rfl)
            have g30 : fz 30 = f7 30 := h3 30 (by kernel_rfl)
            have g31 : fz 31 = f7 31 := h3 31 (by kernel_rfl)
            have g32 : fz 32 = f7 32 := h3 32 (by kernel_rfl)
            have g33 : fz 33 = f7 33 := h3 33 (by kernel_rfl)
            have g34 : fz 34 = f7 34 := h3 34 (by kernel_rfl)
            have g35 : fz 35 = f7 35 := h3 35 (by kernel_rfl)
            have g36 : fz 36 = f7 36 := h3 36 (by kernel_rfl)
            have g37 : fz 37 = f7 37 := h3 37 (by kernel_rfl)
            have g38 : fz 38 = f7 38 := h3 38 (by kernel_rfl)
            have g39 : fz 39 = f7 39 := h3 39 (by kernel_rfl)
            have g40 : fz 40 = f7 40 := h3 40 (by kernel_rfl)
            have g41 : fz 41 = f7 41 := h3 41 (by kernel_rfl)
            have g42 : fz 42 = f7 42 := h3 42 (by kernel_rfl)
            have g43 : fz 43 = f7 43 := h3 43 (by kernel_rfl)
            have g44 : fz 44 = f7 44 := h3 44 (by kernel_rfl)
            have g45 : fz 45 = f7 45 := h3 45 (by kernel_rfl)
            have g46 : fz 46 = f7 46 := h3 46 (by kernel_rfl)
            have g47 : fz 47 = f7 47 := h3 47 (by kernel_rfl)
            have g48 : fz 48 = f7 48 := h3 48 (by kernel_rfl)
            have g49 : fz 49 = f7 49 := h3 49 (by kernel_rfl)
            have g50 : fz 50 = f7 50 := h3 50 (by kernel_rfl)
            have g51 : fz 51 = f7 51 := h3 51 (by kernel_rfl)
            have g52 : fz 52 = f7 52 := h3 52 (by kernel_rfl)
            have g53 : fz 53 = f7 53 := h3 53 (by kernel_rfl)
            have g54 : fz 54 = f7 54 := h3 54 (by kernel_rfl)
            have g55 : fz 55 = f7 55 := h3 55 (by kernel_rfl)
            have g56 : fz 56 = f7 56 := h3 56 (by kernel_rfl)
            have g57 : fz 57 = f7 57 := h3 57 (by kernel_rfl)
            have g58 : fz 58 = f7 58 := h3 58 (by kernel_rfl)
            have g59 : fz 59 = f7 59 := h3 59 (by kernel_rfl)
            have g60 : fz 60 = f7 60 := h3 60 (by kernel_rfl)
            have g61 : fz 61 = f7 61 := h3 61 (by kernel_rfl)
            have g97 : fz 97 = f7 97 := h3 97 (by kernel_rfl)
            have g98 : fz 98 = f7 98 := h3 98 (by kernel_rfl)
            simp only [g0, g1, g2, g3, g4, g6, g7, g8, g9, g10, g11, g12, g13, g14, g15, g16, g17, g18, g19, g20, g21, g22, g23, g24, g25, g26, g27, g28, g29, g30, g31, g32, g33, g34, g35, g36, g37, g38, g39, g40, g41, g42, g43, g44, g45, g46, g47, g48, g49, g50, g51, g52, g53, g54, g55, g56, g57, g58, g59, g60, g61, g97, g98] at e
            rw [e]
            clear e g0 g1 g2 g3 g4 g6 g7 g8 g9 g10 g11 g12 g13 g14 g15 g16 g17 g18 g19 g20 g21 g22 g23 g24 g25 g26 g27 g28 g29 g30 g31 g32 g33 g34 g35 g36 g37 g38 g39 g40 g41 g42 g43 g44 g45 g46 g47 g48 g49 g50 g51 g52 g53 g54 g55 g56 g57 g58 g59 g60 g61 g97 g98
            have g5 : w13.ownsRow w.heap.size 5 1 (fz 5) (by8 (hdl ++ (pts.take (k + 1)).flatMap PtN.bytes)).length (by8 (hdl ++ (pts.take (k + 1)).flatMap PtN.bytes)) := (h5 9 _ _ rfl rfl).get (c := none) rfl (fun _ h => by cases h)
            have HG2 := Lib.hid g5
            have HX13 := Lib.hid h4.1
            have HBc2 := Lib.hid h4.box1
            clear g5 h4 h3 h5 hL
            go_wp2_with fail
            go_roundw
            case rel => exact ⟨k + 1, by omega, by go_num, Lib.hid ⟨HG2.out, HX13.out, HBc2.out⟩⟩
            case measure => simp [intOf]; omega
      · have hkl : Hid (k = pts.length) := Lib.hid (by omega)
        have HAll : Hid (CfgN.bytes ⟨n0, n1, n2, gap, wait, tries, strikes, queue, idle, key, pts⟩ = hdl ++ pts.flatMap PtN.bytes) := Lib.hid (by rw [CfgN.bytes, HH.out])
        have HB := Lib.hid (bytes_bytes HS.out)
        have HLn : Hid ((CfgN.bytes ⟨n0, n1, n2, gap, wait, tries, strikes, queue, idle, key, pts⟩).length + 2 ≤ 140737488355328) := Lib.hid (by
          have h4 := HS.out.len
          simp only at h4
          rw [bytes_len]
          simp only
          omega)
        have hob := HR.out.1
        rw [hkl.out, List.take_length] at hob
        obtain ⟨bs, hbs⟩ : ∃ bs, bs = CfgN.bytes ⟨n0, n1, n2, gap, wait, tries, strikes, queue, idle, key, pts⟩ := ⟨_, rfl⟩
        rw [← hbs] at HAll HB HLn
        rw [← HAll.out] at hob
        have HSl := Lib.hid (Sl.own hob)
        have HBs := Lib.hid hbs
        have HPut := Lib.hid (ref_Put u5 bs wr HSl.out HB.out HLn.out)
        clear hob hbs
        go_wp2_with fail
        refine HPut.out.mono ?_
        rintro e w' ⟨v', rfl, h1, h2⟩
        go_wp2_with fail
        go_ret2
        rw [← HBs.out]
        exact ⟨_, rfl, own_base h1 HR.out.2.1.size, HR.out.2.1.trans h2⟩
end Go.Proofs.YtjooacmmgbpkfaaDoor
