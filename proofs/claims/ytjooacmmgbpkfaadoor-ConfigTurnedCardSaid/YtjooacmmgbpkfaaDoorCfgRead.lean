/- config.Read: its contract where there is no sum, or another form. -/
import Derived.Test.YtjooacmmgbpkfaaDoorReadS
import Derived.Test.YtjooacmmgbpkfaaDoorCfgN
import Derived.Test.YtjooacmmgbpkfaaDoorRef01
namespace Go.Proofs.YtjooacmmgbpkfaaDoor
open Go.RowKit

/-- The form of an image. -/
def formB (x : List Nat) : Bool := decide (18 ≤ x.length) && (decide (x.take 4 = [84, 77, 82, 49]) && decide (x.length = 18 + 9 * x.getD 17 0))
theorem str_magic {l : List Nat} (hb : Bytes l) : (strOfNums (l.map fun n : Nat => (n : Int))).toList = [84, 77, 82, 49] ↔ l = [84, 77, 82, 49] := by
  rw [ByteArray.toList_eq, strOfNums_data, List.map_map]
  constructor
  · intro h
    have h2 : ∀ (l m : List Nat), Bytes l → Bytes m → l.map ((fun n : Int => UInt8.ofNat n.toNat) ∘ fun n : Nat => (n : Int)) = m.map ((fun n : Int => UInt8.ofNat n.toNat) ∘ fun n : Nat => (n : Int)) → l = m := by
      intro l
      induction l with
      | nil => intro m _ _ h; cases m with | nil => rfl | cons x m => simp at h
      | cons a l ih =>
        intro m h1 h2 h
        cases m with
        | nil => simp at h
        | cons b m =>
          simp only [List.map_cons, List.cons.injEq, Function.comp_apply, Int.toNat_natCast] at h
          have ha := h1 a (by simp)
          have hb := h2 b (by simp)
          have e := congrArg UInt8.toNat h.1
          simp at e
          rw [ih m (fun c hc => h1 c (by simp [hc])) (fun c hc => h2 c (by simp [hc])) h.2]
          congr 1
          omega
    exact h2 l [84, 77, 82, 49] hb (by intro c hc; simp at hc; omega) h
  · rintro rfl
    rfl
theorem info_cfg : (Tryd.prog.info? 26).map (·.size) = some zeroCfg.size := by kernel_rfl
theorem one_zero : zeroCfg.all (·.oneCell') = true := by kernel_rfl
/-- The result's cells at first. -/
theorem res_cells {w : World} {g : Nat} {t : TypeId} (h : w.heap[g]? = some (.cells zeroCfg t (0, 0))) :
    w.cell? ⟨g, 0, none⟩ = some (.int .u8 0) ∧ w.cell? ⟨g, 1, none⟩ = some (.int .u8 0) ∧ w.cell? ⟨g, 2, none⟩ = some (.int .u8 0) ∧
    w.cell? ⟨g, 3, none⟩ = some (.int .i64 0) ∧ w.cell? ⟨g, 4, none⟩ = some (.int .i64 0) ∧ w.cell? ⟨g, 5, none⟩ = some (.int .i64 0) ∧ w.cell? ⟨g, 6, none⟩ = some (.int .i64 0) ∧
    w.cell? ⟨g, 7, none⟩ = some (.int .i64 0) ∧ w.cell? ⟨g, 8, none⟩ = some (.int .i64 0) ∧ w.cell? ⟨g, 9, none⟩ = some (.int .u16 0) ∧ w.cell? ⟨g, 10, none⟩ = some (.slice none 0 0) ∧ g < w.heap.size ∧ (∀ j, w.frozen? ⟨g, j, none⟩ = false) :=
  ⟨blk_cell h 0, blk_cell h 1, blk_cell h 2, blk_cell h 3, blk_cell h 4, blk_cell h 5, blk_cell h 6, blk_cell h 7, blk_cell h 8, blk_cell h 9, blk_cell h 10, lt_of_block h, blk_free h⟩

set_option maxRecDepth 100000 in
theorem config_Read_sum (v : Value) (l : List Nat) (w : World) (hl : Sl w v (by8 l)) (hb : Bytes l) (h : l.length < 2 ∨ crcL 65535 l ≠ 0) :
    Calls Tryd.prog 9 #[v] w fun e w' => e = .returned (.tuple #[.agg zeroCfg, .int .i64 6]) ∧ Ext w w' := by
  have HC := Lib.hid (fun (W : World) (hx : Ext w W) => crc_Cut_no v l W (hl.ext hx) hb h)
  clear hl hb h
  go_enter Tryd.func9, Tryd.ntmps9
  go_wp2_with fail
  refine (HC.out _ ((Ext.refl _).alloc _)).mono ?_
  rintro e w1 ⟨rfl, rfl⟩
  go_wp2_with fail
  go_returns
  exact ⟨rfl, (Ext.refl _).alloc _⟩

/-- Whether the first bytes are the mark, at the operation. -/
theorem conv4 (W : World) (a : Option Addr) (c : Nat) (x : List Nat) (hl : Sl W (.slice a x.length c) (by8 x)) (hb : Bytes x) (h4 : 4 ≤ x.length) :
    ∃ s4 : ByteArray, (convert 27 9 (.slice a 4 c)).run Tryd.prog W = .ok (.string s4) W ∧ (s4.toList = [84, 77, 82, 49] ↔ x.take 4 = [84, 77, 82, 49]) := by
  obtain ⟨a', c', e, hc1, hc2, _, hcell⟩ := hl.bytes
  injection e with e1 e2 e3
  subst e1 e3
  obtain ⟨b, off, rfl, _, k0⟩ := hcell 0 (by omega)
  refine ⟨_, run_convert_bytes_arg (P := Tryd.prog) W 27 5 Tryd.underlying27 Tryd.underlying5 b off 4 c ((x.take 4).map fun n : Nat => (n : Int)) (by simp; omega) (fun i hi => ?_) 9 Tryd.underlying9, str_magic (fun c hc => hb c (List.mem_of_mem_take hc))⟩
  obtain ⟨b', off', e, _, k⟩ := hcell i (by omega)
  simp at e
  obtain ⟨rfl, rfl⟩ := e
  rw [k]
  have h9 : i < x.length := by omega
  simp [hi, h9]

set_option maxRecDepth 100000 in
set_option maxHeartbeats 1000000 in
theorem config_Read_form (v : Value) (l : List Nat) (w : World) (hl : Sl w v (by8 l)) (hb : Bytes l) (h2 : 2 ≤ l.length) (h : crcL 65535 l = 0) (h47 : l.length ≤ 3000) (x : List Nat) (hx : x = l.take (l.length - 2)) (hf : formB x = false) :
    Calls Tryd.prog 9 #[v] w fun e w' => e = .returned (.tuple #[.agg zeroCfg, .int .i64 2]) ∧ Ext w w' := by
  have HC := Lib.hid (fun (W : World) (hx : Ext w W) => crc_Cut_yes v l W (hl.ext hx) hb h2 h (by omega))
  rw [← hx] at HC
  have hxl : x.length = l.length - 2 := by rw [hx, List.length_take]; omega
  have hxb : Bytes x := fun c hc => hb c (by rw [hx] at hc; exact List.mem_of_mem_take hc)
  rw [← hxl] at HC
  have hn3 : x.length ≤ 3000 := by omega
  clear hl h hx hxl h2 h47 hb
  go_enter Tryd.func9, Tryd.ntmps9
  go_wp2_with fail
  refine (HC.out _ ((Ext.refl _).alloc _)).mono ?_
  rintro e w1 ⟨v1, rfl, ho, hx1⟩
  have hres := hx1.heap (heap_alloc_new w _)
  have HX1 := Lib.hid (((Ext.refl w).alloc _).trans hx1)
  clear hx1
  obtain ⟨r0, r1, r2, r3, r4, r5, r6, r7, r8, r9, r10, rlt, rf⟩ := res_cells hres
  have HRes := Lib.hid hres
  have HSelf : Hid (w1.setRow w.heap.size #[.int .u8 0, .int .u8 0, .int .u8 0, .int .i64 0, .int .i64 0, .int .i64 0, .int .i64 0, .int .i64 0, .int .i64 0, .int .u16 0, .slice none 0 0] = w1) := Lib.hid (setRow_self _ _ _ _ _ hres)
  have hsl := Sl.own8 ho
  obtain ⟨a, c, rfl, hc1, hc2, _, hcell⟩ := hsl.bytes
  unfold maxLen at hc2
  have HO := Lib.hid ho
  clear ho hres
  by_cases h18 : 18 ≤ x.length
  · obtain ⟨b, off, rfl, _, k17⟩ := hcell 17 (by omega)
    obtain ⟨s4, hcv, hs4⟩ := conv4 w1 _ c x hsl hxb (by omega)
    have hy := hxb.at_ 17
    unfold formB at hf
    obtain ⟨n, hn⟩ : ∃ n, n = x.length := ⟨_, rfl⟩
    obtain ⟨y, hy17⟩ : ∃ y, y = x.getD 17 0 := ⟨_, rfl⟩
    rw [← hn] at h18 hn3 hc1 hf ⊢
    rw [← hy17] at k17 hy hf
    by_cases hm : x.take 4 = [84, 77, 82, 49]
    · have hs := hs4.2 hm
      have hne : n ≠ 18 + 9 * y := by
        intro e
        simp [h18, hm, ← e] at hf
      have hne2 : ((n : Int) != 18 + 9 * (y : Int)) = true := by simp; omega
      clear hs4 hm hn hy17 hne hsl hcell hf hxb
      go_wp2_with (refine wpList_store_row rfl 26 _ _ rfl w.heap.size #[.int .u8 0, .int .u8 0, .int .u8 0, .int .i64 0, .int .i64 0, .int .i64 0, .int .i64 0, .int .i64 0, .int .i64 0, .int .u16 0, .slice none 0 0] rfl rfl _ zeroCfg HRes.out info_cfg rfl one_zero ?_; rw [HSelf.out])
      exact bodyPost_ret (v := .tuple #[.agg zeroCfg, .int .i64 2]) (by simp [results, Tryd.results9, go_sem, r0, r1, r2, r3, r4, r5, r6, r7, r8, r9, r10, zeroCfg]) rfl ⟨rfl, HX1.out⟩
    · have hs : ¬ s4.toList = [84, 77, 82, 49] := fun e => hm (hs4.1 e)
      clear hs4 hm hn hy17 hsl hcell hf hxb
      go_wp2_with (refine wpList_store_row rfl 26 _ _ rfl w.heap.size #[.int .u8 0, .int .u8 0, .int .u8 0, .int .i64 0, .int .i64 0, .int .i64 0, .int .i64 0, .int .i64 0, .int .i64 0, .int .u16 0, .slice none 0 0] rfl rfl _ zeroCfg HRes.out info_cfg rfl one_zero ?_; rw [HSelf.out])
      exact bodyPost_ret (v := .tuple #[.agg zeroCfg, .int .i64 2]) (by simp [results, Tryd.results9, go_sem, r0, r1, r2, r3, r4, r5, r6, r7, r8, r9, r10, zeroCfg]) rfl ⟨rfl, HX1.out⟩
  · obtain ⟨n, hn⟩ : ∃ n, n = x.length := ⟨_, rfl⟩
    rw [← hn] at h18 hn3 hc1 ⊢
    clear hn hsl hcell hxb hf
    go_wp2_with (refine wpList_store_row rfl 26 _ _ rfl w.heap.size #[.int .u8 0, .int .u8 0, .int .u8 0, .int .i64 0, .int .i64 0, .int .i64 0, .int .i64 0, .int .i64 0, .int .i64 0, .int .u16 0, .slice none 0 0] rfl rfl _ zeroCfg HRes.out info_cfg rfl one_zero ?_; rw [HSelf.out])
    exact bodyPost_ret (v := .tuple #[.agg zeroCfg, .int .i64 2]) (by simp [results, Tryd.results9, go_sem, r0, r1, r2, r3, r4, r5, r6, r7, r8, r9, r10, zeroCfg]) rfl ⟨rfl, HX1.out⟩
end Go.Proofs.YtjooacmmgbpkfaaDoor
