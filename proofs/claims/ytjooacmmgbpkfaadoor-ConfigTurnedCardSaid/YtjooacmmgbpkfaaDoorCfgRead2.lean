/- config.Read: an image that has the form. -/
import Derived.Test.YtjooacmmgbpkfaaDoorReadR
namespace Go.Proofs.YtjooacmmgbpkfaaDoor
open Go.RowKit

/-- What config.Read answers of a configuration that bytes are of. -/
def ReadPost (w : World) (c : Cfg) (e : Ending) (w' : World) : Prop :=
  Ext w w' ∧ ((c.code ≠ 0 ∧ e = .returned (.tuple #[.agg zeroCfg, .int .i64 c.code])) ∨ (c.code = 0 ∧ ∃ v', e = .returned (.tuple #[c.val v', .int .i64 0]) ∧ Sz w' 5 v' c.pts.length (c.pts.flatMap Pt.vals)))
theorem info47 : (Tryd.prog.info? 47).map (fun i => (i.zero, i.size, i.bytes)) = some (some (.agg #[.int .i64 0, .int .i64 0, .int .i64 0, .int .i64 0, .int .i64 0]), 5, 40) := by kernel_rfl
theorem kept_set (W : World) (g j : Nat) (v : Value) : Kept (fun i => i = g) W (W.setCell ⟨g, j, none⟩ v) := by
  refine Kept.setCell (Kept.refl _ W) ?_ v
  exact fun _ => rfl
theorem own_set {W : World} {base : Nat} {e : TypeId} {sz n : Nat} {v : Value} {xs : List Value} (h : W.ownsRow base e sz v n xs) (g j : Nat) (u : Value) (hb : g < base) : (W.setCell ⟨g, j, none⟩ u).ownsRow base e sz v n xs :=
  own_kept h (kept_set W g j u) (fun i hi e => by omega)
/-- The last operation of the region: the points are stored. -/
theorem SR.stored {w : World} {g gc : Nat} {x : List Nat} {a : Nat} {cl : List (Nat × Nat)} {f : Value → Array Value} {vp : Value} {k : Nat} {xs ys : List Value} {ap st : Nat} {L : Nat → Bool} {W : World} {v' : Value}
    (h : SR w g gc x a cl f vp k xs ys ap st L W) (hst : L st = false) (hap : L ap = true) (hcl : cl.all (fun p => p.1 != st) = true) (hne : (ap == st) = false) (ho : W.ownsRow (gc + 1) 47 5 v' (k + 1) ys) (j : Nat) (hf : (f vp).setIfInBounds j v' = f v') :
    SR w g gc x a cl f vp k xs ys ap st (also L st) (W.setCell ⟨gc, j, none⟩ v') := by
  obtain ⟨cs, hr, h3, _, _⟩ := h
  have e := h3 hst
  subst e
  refine ⟨f v', ?_, fun hL => ?_, fun hL => ?_, fun _ => ⟨v', rfl, own_set ho gc j v' (by omega)⟩⟩
  · rw [posL_also hcl, ← hf]
    exact hr.set j v'
  · simp at hL
  · simp [hne, hap] at hL
/-- A row is appended to. -/
theorem SR.grown {w : World} {g gc : Nat} {x : List Nat} {a : Nat} {cl : List (Nat × Nat)} {f : Value → Array Value} {vp : Value} {k : Nat} {xs ys : List Value} {ap st : Nat} {L : Nat → Bool} {W W' : World}
    (h : SR w g gc x a cl f vp k xs ys ap st L W) (hg : W.grownBy W' vp.ownBlock) (hap : L ap = false) (hst : L st = false) (hcl : cl.all (fun p => p.1 != ap) = true) (hne : (st == ap) = false) :
    SR w g gc x a cl f vp k xs ys ap st (also L ap) W' := by
  obtain ⟨cs, hr, h3, h4, _⟩ := h
  have hk := kept_grown hg (h4 hap) (Nat.lt_succ_self gc)
  refine ⟨cs, by rw [posL_also hcl]; exact hr.grow hk, fun _ => h3 hst, fun hL => ?_, fun hL => ?_⟩
  · simp at hL
  · simp [hne, hst] at hL

set_option maxRecDepth 100000 in
set_option maxHeartbeats 2000000 in
theorem config_Read_main (v : Value) (l : List Nat) (w : World) (hl : Sl w v (by8 l)) (hb : Bytes l) (h2 : 2 ≤ l.length) (h : crcL 65535 l = 0) (h47 : l.length ≤ 3000) (hg : Laid w) (x : List Nat) (hx : x = l.take (l.length - 2)) (hf : formB x = true) :
    Calls Tryd.prog 9 #[v] w (ReadPost w (cfgXY (fun k => x.getD k 0) (fun k => 256 * x.getD k 0 + x.getD (k + 1) 0)).cfg) := by
  have HC := Lib.hid (fun (W : World) (hx : Ext w W) => crc_Cut_yes v l W (hl.ext hx) hb h2 h (by omega))
  rw [← hx] at HC
  have hxl : x.length = l.length - 2 := by rw [hx, List.length_take]; omega
  have hxb : Bytes x := fun c hc => hb c (by rw [hx] at hc; exact List.mem_of_mem_take hc)
  rw [← hxl] at HC
  have hn3 : x.length ≤ 3000 := by omega
  have HG := Lib.hid hg
  clear hl h hx hxl h2 h47 hb hg
  obtain ⟨X, hX⟩ : ∃ X : Nat → Nat, X = fun k => x.getD k 0 := ⟨_, rfl⟩
  obtain ⟨Y, hY⟩ : ∃ Y : Nat → Nat, Y = fun k => 256 * x.getD k 0 + x.getD (k + 1) 0 := ⟨_, rfl⟩
  rw [← hX, ← hY]
  have HXb : Hid (∀ k, X k < 256) := Lib.hid (fun k => by rw [hX]; exact hxb.at_ k)
  have HYb : Hid (∀ k, Y k < 65536) := Lib.hid (fun k => by rw [hY]; have h1 := hxb.at_ k; have h2 := hxb.at_ (k + 1); simp only; omega)
  have HOne : Hid (∀ (g gc k : Nat) (cs : Array Value) (W : World), RS w g gc x k cs W → k < x.length → Calls Tryd.prog 22 #[.pointer (some ⟨g, 0, none⟩)] W fun e w' => e = .returned (.int .i64 (X k : Nat)) ∧ (RS w g gc x (k + 1) cs w' ∧ Kept (fun j => j = g) W w')) := Lib.hid fun g gc k cs W hr hk => by
    refine (reader_one g x k W hr.rd hk hxb).mono ?_
    rintro e w' ⟨rfl, h1, h2⟩
    exact ⟨by rw [hX], hr.took h1 h2, h2⟩
  have HTwo : Hid (∀ (g gc k : Nat) (cs : Array Value) (W : World), RS w g gc x k cs W → k + 1 < x.length → Calls Tryd.prog 23 #[.pointer (some ⟨g, 0, none⟩)] W fun e w' => e = .returned (.int .i64 (Y k : Nat)) ∧ (RS w g gc x (k + 2) cs w' ∧ Kept (fun j => j = g) W w')) := Lib.hid fun g gc k cs W hr hk => by
    refine (reader_two g x k W hr.rd hk hxb).mono ?_
    rintro e w' ⟨rfl, h1, h2⟩
    exact ⟨by rw [hY], hr.took h1 h2, h2⟩
  have hf' := hf
  unfold formB at hf'
  simp only [Bool.and_eq_true, decide_eq_true_eq] at hf'
  obtain ⟨h18, hm, hln⟩ := hf'
  have hX17 : X 17 = x.getD 17 0 := by rw [hX]
  rw [← hX17] at hln
  have hx17 := HXb.out 17
  have HX17 := Lib.hid hX17
  clear hX hY hf hX17
  go_enter Tryd.func9, Tryd.ntmps9
  go_wp2_with fail
  refine (HC.out _ ((Ext.refl _).alloc _)).mono ?_
  rintro e w1 ⟨v1, rfl, ho, hx1⟩
  have HRes := Lib.hid (hx1.heap (heap_alloc_new w _))
  have HX1 := Lib.hid (((Ext.refl w).alloc _).trans hx1)
  have hlt1 : w.heap.size < w1.heap.size := by have := hx1.size; simp at this; omega
  clear hx1
  have hsl := Sl.own8 ho
  obtain ⟨a, c, rfl, hc1, hc2, _, hcell⟩ := hsl.bytes
  unfold maxLen at hc2
  clear ho
  obtain ⟨b, off, rfl, hbl, k17⟩ := hcell 17 (by omega)
  rw [← HX17.out] at k17
  obtain ⟨s4, hcv, hs4⟩ := conv4 w1 _ c x hsl hxb (by omega)
  have hs := hs4.2 hm
  have HCell : Hid (∀ i, i < x.length → w1.cell? ⟨b, off + i, none⟩ = some (.int .u8 ((x.getD i 0 : Nat) : Int))) := Lib.hid fun i hi => by
    obtain ⟨b', off', e, _, k⟩ := hcell i hi
    simp at e
    obtain ⟨rfl, rfl⟩ := e
    exact k
  have HLn := Lib.hid hln
  obtain ⟨n, hn⟩ : ∃ n, n = x.length := ⟨_, rfl⟩
  have HNl := Lib.hid hn
  rw [← hn] at h18 hn3 hc1 hln ⊢
  have hne : ((n : Int) != 18 + 9 * (X 17 : Nat)) = false := by simp; omega
  clear hs4 hm hn hsl hcell hxb hln
  have HR0 : Hid (RS w w1.heap.size (w1.heap.size + 1) x 4 #[.int .u8 0, .int .u8 0, .int .u8 0, .int .i64 0, .int .i64 0, .int .i64 0, .int .i64 0, .int .i64 0, .int .i64 0, .int .u16 0, .slice none 0 0] ((w1.alloc (.cells #[.slice (some ⟨b, off + 4, none⟩) (n - 4) (c - 4)] 56)).alloc (.cells #[.int .u8 0, .int .u8 0, .int .u8 0, .int .i64 0, .int .i64 0, .int .i64 0, .int .i64 0, .int .i64 0, .int .i64 0, .int .u16 0, .slice none 0 0] 26))) := Lib.hid
    ⟨(HX1.out.alloc _).alloc _, (((Ext.refl w1).alloc _).alloc _).heap HRes.out,
     ⟨_, Ext.heap ((Ext.refl _).alloc _) (heap_alloc_new _ _), fun _ => ⟨b, off, n - 4, c - 4, by rw [← HNl.out]; omega, rfl, by omega, by unfold maxLen; omega, hbl, fun i hi => (((Ext.refl w1).alloc _).alloc _).cell' (HCell.out i hi)⟩⟩,
     new_at (by simp) _ _, hlt1, by omega⟩
  go_wp2_with fail
  clear k17 hcv hs hne
  refine wp_loop_rounds 4 ?_
  rw [rounds_succ]
  go_wp2_with fail
  refine (HOne.out _ _ 4 _ _ HR0.out (by rw [← HNl.out]; omega)).mono ?_
  rintro e w2 ⟨rfl, hrs, _⟩
  have xb := HXb.out 4
  have sc : w2.cell? ⟨w1.heap.size + 1, 0, none⟩ = some (.int .u8 0) := blk_cell hrs.cfg 0
  have sf : w2.frozen? ⟨w1.heap.size + 1, 0, none⟩ = false := blk_free hrs.cfg 0
  have hx8 : ((X 4 : Nat) : Int) % 256 = (X 4 : Nat) := by omega
  have HR3 : Hid (RS w w1.heap.size (w1.heap.size + 1) x 5 #[.int .u8 (X 4 : Nat), .int .u8 0, .int .u8 0, .int .i64 0, .int .i64 0, .int .i64 0, .int .i64 0, .int .i64 0, .int .i64 0, .int .u16 0, .slice none 0 0] (w2.setCell ⟨w1.heap.size + 1, 0, none⟩ (.int .u8 (X 4 : Nat)))) := Lib.hid (hrs.set 0 _)
  clear hrs
  go_wp2_with fail
  clear sc sf hx8 xb
  rw [rounds_succ]
  go_wp2_with fail
  refine (HOne.out _ _ 5 _ _ HR3.out (by rw [← HNl.out]; omega)).mono ?_
  rintro e w3 ⟨rfl, hrs, _⟩
  have xb := HXb.out 5
  have sc : w3.cell? ⟨w1.heap.size + 1, 1, none⟩ = some (.int .u8 0) := blk_cell hrs.cfg 1
  have sf : w3.frozen? ⟨w1.heap.size + 1, 1, none⟩ = false := blk_free hrs.cfg 1
  have hx8 : ((X 5 : Nat) : Int) % 256 = (X 5 : Nat) := by omega
  have HR4 : Hid (RS w w1.heap.size (w1.heap.size + 1) x 6 #[.int .u8 (X 4 : Nat), .int .u8 (X 5 : Nat), .int .u8 0, .int .i64 0, .int .i64 0, .int .i64 0, .int .i64 0, .int .i64 0, .int .i64 0, .int .u16 0, .slice none 0 0] (w3.setCell ⟨w1.heap.size + 1, 1, none⟩ (.int .u8 (X 5 : Nat)))) := Lib.hid (hrs.set 1 _)
  clear hrs
  go_wp2_with fail
  clear sc sf hx8 xb
  rw [rounds_succ]
  go_wp2_with fail
  refine (HOne.out _ _ 6 _ _ HR4.out (by rw [← HNl.out]; omega)).mono ?_
  rintro e w4 ⟨rfl, hrs, _⟩
  have xb := HXb.out 6
  have sc : w4.cell? ⟨w1.heap.size + 1, 2, none⟩ = some (.int .u8 0) := blk_cell hrs.cfg 2
  have sf : w4.frozen? ⟨w1.heap.size + 1, 2, none⟩ = false := blk_free hrs.cfg 2
  have hx8 : ((X 6 : Nat) : Int) % 256 = (X 6 : Nat) := by omega
  have HR5 : Hid (RS w w1.heap.size (w1.heap.size + 1) x 7 #[.int .u8 (X 4 : Nat), .int .u8 (X 5 : Nat), .int .u8 (X 6 : Nat), .int .i64 0, .int .i64 0, .int .i64 0, .int .i64 0, .int .i64 0, .int .i64 0, .int .u16 0, .slice none 0 0] (w4.setCell ⟨w1.heap.size + 1, 2, none⟩ (.int .u8 (X 6 : Nat)))) := Lib.hid (hrs.set 2 _)
  clear hrs
  go_wp2_with fail
  clear sc sf hx8 xb
  rw [rounds_succ]
  go_wp2_with fail
  refine (HOne.out _ _ 7 _ _ HR5.out (by rw [← HNl.out]; omega)).mono ?_
  rintro e w5 ⟨rfl, hrs, _⟩
  have HR6 := Lib.hid hrs
  clear hrs
  go_wp2_with fail
  refine (HTwo.out _ _ 8 _ _ HR6.out (by rw [← HNl.out]; omega)).mono ?_
  rintro e w6 ⟨rfl, hrs, _⟩
  have HR7 := Lib.hid hrs
  clear hrs
  have sc3 : w6.cell? ⟨w1.heap.size + 1, 3, none⟩ = some (.int .i64 0) := blk_cell HR7.out.cfg 3
  have sf3 : w6.frozen? ⟨w1.heap.size + 1, 3, none⟩ = false := blk_free HR7.out.cfg 3
  have sc4 : w6.cell? ⟨w1.heap.size + 1, 4, none⟩ = some (.int .i64 0) := blk_cell HR7.out.cfg 4
  have sf4 : w6.frozen? ⟨w1.heap.size + 1, 4, none⟩ = false := blk_free HR7.out.cfg 4
  have HS0 : Hid (RS w w1.heap.size (w1.heap.size + 1) x 10 #[.int .u8 (X 4 : Nat), .int .u8 (X 5 : Nat), .int .u8 (X 6 : Nat), .int .i64 (X 7 : Nat), .int .i64 (Y 8 : Nat), .int .i64 0, .int .i64 0, .int .i64 0, .int .i64 0, .int .u16 0, .slice none 0 0] ((w6.setCell ⟨w1.heap.size + 1, 3, none⟩ (.int .i64 (X 7 : Nat))).setCell ⟨w1.heap.size + 1, 4, none⟩ (.int .i64 (Y 8 : Nat)))) := Lib.hid ((HR7.out.set 3 _).set 4 _)
  go_wp2_with fail
  clear sc3 sf3 sc4 sf4
  refine (HOne.out _ _ 10 _ _ HS0.out (by rw [← HNl.out]; omega)).mono ?_
  rintro e w7 ⟨rfl, hrs, _⟩
  have HR8 := Lib.hid hrs
  clear hrs
  go_wp2_with fail
  refine (HOne.out _ _ 11 _ _ HR8.out (by rw [← HNl.out]; omega)).mono ?_
  rintro e w8 ⟨rfl, hrs, _⟩
  have HR9 := Lib.hid hrs
  clear hrs
  go_wp2_with fail
  refine (HOne.out _ _ 12 _ _ HR9.out (by rw [← HNl.out]; omega)).mono ?_
  rintro e w9 ⟨rfl, hrs, _⟩
  have HR10 := Lib.hid hrs
  clear hrs
  have sc5 : w9.cell? ⟨w1.heap.size + 1, 5, none⟩ = some (.int .i64 0) := blk_cell HR10.out.cfg 5
  have sf5 : w9.frozen? ⟨w1.heap.size + 1, 5, none⟩ = false := blk_free HR10.out.cfg 5
  have sc6 : w9.cell? ⟨w1.heap.size + 1, 6, none⟩ = some (.int .i64 0) := blk_cell HR10.out.cfg 6
  have sf6 : w9.frozen? ⟨w1.heap.size + 1, 6, none⟩ = false := blk_free HR10.out.cfg 6
  have sc7 : w9.cell? ⟨w1.heap.size + 1, 7, none⟩ = some (.int .i64 0) := blk_cell HR10.out.cfg 7
  have sf7 : w9.frozen? ⟨w1.heap.size + 1, 7, none⟩ = false := blk_free HR10.out.cfg 7
  have HS1 : Hid (RS w w1.heap.size (w1.heap.size + 1) x 13 #[.int .u8 (X 4 : Nat), .int .u8 (X 5 : Nat), .int .u8 (X 6 : Nat), .int .i64 (X 7 : Nat), .int .i64 (Y 8 : Nat), .int .i64 (X 10 : Nat), .int .i64 (X 11 : Nat), .int .i64 (X 12 : Nat), .int .i64 0, .int .u16 0, .slice none 0 0] (((w9.setCell ⟨w1.heap.size + 1, 5, none⟩ (.int .i64 (X 10 : Nat))).setCell ⟨w1.heap.size + 1, 6, none⟩ (.int .i64 (X 11 : Nat))).setCell ⟨w1.heap.size + 1, 7, none⟩ (.int .i64 (X 12 : Nat)))) := Lib.hid (((HR10.out.set 5 _).set 6 _).set 7 _)
  go_wp2_with fail
  clear sc5 sf5 sc6 sf6 sc7 sf7
  refine (HTwo.out _ _ 13 _ _ HS1.out (by rw [← HNl.out]; omega)).mono ?_
  rintro e w10 ⟨rfl, hrs, _⟩
  have HR11 := Lib.hid hrs
  clear hrs
  go_wp2_with fail
  refine (HTwo.out _ _ 15 _ _ HR11.out (by rw [← HNl.out]; omega)).mono ?_
  rintro e w11 ⟨rfl, hrs, _⟩
  have HR12 := Lib.hid hrs
  clear hrs
  have sc8 : w11.cell? ⟨w1.heap.size + 1, 8, none⟩ = some (.int .i64 0) := blk_cell HR12.out.cfg 8
  have sf8 : w11.frozen? ⟨w1.heap.size + 1, 8, none⟩ = false := blk_free HR12.out.cfg 8
  have sc9 : w11.cell? ⟨w1.heap.size + 1, 9, none⟩ = some (.int .u16 0) := blk_cell HR12.out.cfg 9
  have sf9 : w11.frozen? ⟨w1.heap.size + 1, 9, none⟩ = false := blk_free HR12.out.cfg 9
  have yb := HYb.out 15
  have hy16 : ((Y 15 : Nat) : Int) % 65536 = (Y 15 : Nat) := by omega
  have HS2 : Hid (RS w w1.heap.size (w1.heap.size + 1) x 17 #[.int .u8 (X 4 : Nat), .int .u8 (X 5 : Nat), .int .u8 (X 6 : Nat), .int .i64 (X 7 : Nat), .int .i64 (Y 8 : Nat), .int .i64 (X 10 : Nat), .int .i64 (X 11 : Nat), .int .i64 (X 12 : Nat), .int .i64 (Y 13 : Nat), .int .u16 (Y 15 : Nat), .slice none 0 0] ((w11.setCell ⟨w1.heap.size + 1, 8, none⟩ (.int .i64 (Y 13 : Nat))).setCell ⟨w1.heap.size + 1, 9, none⟩ (.int .u16 (Y 15 : Nat)))) := Lib.hid ((HR12.out.set 8 _).set 9 _)
  go_wp2_with fail
  clear sc8 sf8 sc9 sf9 yb hy16
  refine (HOne.out _ _ 17 _ _ HS2.out (by rw [← HNl.out]; omega)).mono ?_
  rintro e w12 ⟨rfl, hrs, _⟩
  have HRc := Lib.hid hrs
  clear hrs
  have hx17b : ((X 17 : Nat) : Int) < 256 := by omega
  go_wp2_with fail
  obtain ⟨i0, hi, hz0, hz1, hz2⟩ := info_parts info47
  go_loopw [79] (fun i wr => ∃ k : Nat, k ≤ X 17 ∧ i = .int .i64 k ∧ Hid (∃ vp, RS w w1.heap.size (w1.heap.size + 1) x (18 + 9 * k) #[.int .u8 (X 4 : Nat), .int .u8 (X 5 : Nat), .int .u8 (X 6 : Nat), .int .i64 (X 7 : Nat), .int .i64 (Y 8 : Nat), .int .i64 (X 10 : Nat), .int .i64 (X 11 : Nat), .int .i64 (X 12 : Nat), .int .i64 (Y 13 : Nat), .int .u16 (Y 15 : Nat), vp] wr ∧ wr.ownsRow (w1.heap.size + 1 + 1) 47 5 vp k (pcells X Y k))) (fun i _ => X 17 - (intOf i).toNat)
  case atStart => exact ⟨0, by omega, rfl, Lib.hid ⟨_, HRc.out, World.ownsRow_nil _ _ _ _⟩⟩
  case round =>
    obtain ⟨k, hk, rfl, HR⟩ := hrel
    obtain ⟨vp, hvp⟩ := HR.out
    have HVp := Lib.hid hvp
    clear hvp HR
    by_cases hlt : k < X 17
    · have HLen : Hid (18 + 9 * k + 9 ≤ x.length) := Lib.hid (by have := HLn.out; omega)
      obtain ⟨A, hA⟩ : ∃ A, A = 18 + 9 * k := ⟨_, rfl⟩
      have HA := Lib.hid hA
      have hxa := HXb.out A
      clear hA
      have HPc : Hid (pcells X Y k ++ [.int .i64 (X A : Nat), .int .i64 (Y (A + 1) : Nat), .int .i64 (Y (A + 3) : Nat), .int .i64 (Y (A + 5) : Nat), .int .i64 (Y (A + 7) : Nat)] = pcells X Y (k + 1)) := Lib.hid (by rw [pcells_succ, HA.out]; rfl)
      have HF : Hid (∀ v' : Value, (#[.int .u8 (X 4 : Nat), .int .u8 (X 5 : Nat), .int .u8 (X 6 : Nat), .int .i64 (X 7 : Nat), .int .i64 (Y 8 : Nat), .int .i64 (X 10 : Nat), .int .i64 (X 11 : Nat), .int .i64 (X 12 : Nat), .int .i64 (Y 13 : Nat), .int .u16 (Y 15 : Nat), vp]).setIfInBounds 10 v' = #[.int .u8 (X 4 : Nat), .int .u8 (X 5 : Nat), .int .u8 (X 6 : Nat), .int .i64 (X 7 : Nat), .int .i64 (Y 8 : Nat), .int .i64 (X 10 : Nat), .int .i64 (X 11 : Nat), .int .i64 (X 12 : Nat), .int .i64 (Y 13 : Nat), .int .u16 (Y 15 : Nat), v']) := Lib.hid fun _ => rfl
      have hk40 : (k + 1) * 40 ≤ 140737488355328 := by omega
      go_wp2_with fail
      refine wp_region_set 105 [81, 82, 83, 84, 85, 86, 87, 88, 89, 90, 91, 92, 93, 94, 95, 96] (relM [(.eq (Value.pointer (some ⟨w1.heap.size + 1, 10, none⟩)), none), (.eq (vp), none), (.eq (Value.pointer (some ⟨w1.heap.size, 0, none⟩)), none), (.eq (Value.int .i64 (X A : Nat)), none), (.eq (Value.pointer (some ⟨w1.heap.size, 0, none⟩)), none), (.eq (Value.int .i64 (Y (A + 1) : Nat)), none), (.eq (Value.pointer (some ⟨w1.heap.size, 0, none⟩)), none), (.eq (Value.int .i64 (Y (A + 3) : Nat)), none), (.eq (Value.pointer (some ⟨w1.heap.size, 0, none⟩)), none), (.eq (Value.int .i64 (Y (A + 5) : Nat)), none), (.eq (Value.pointer (some ⟨w1.heap.size, 0, none⟩)), none), (.eq (Value.int .i64 (Y (A + 7) : Nat)), none), (.eq (Value.agg #[.int .i64 (X A : Nat), .int .i64 (Y (A + 1) : Nat), .int .i64 (Y (A + 3) : Nat), .int .i64 (Y (A + 5) : Nat), .int .i64 (Y (A + 7) : Nat)]), none), (.rows 47 1 [.int .i64 (X A : Nat), .int .i64 (Y (A + 1) : Nat), .int .i64 (Y (A + 3) : Nat), .int .i64 (Y (A + 5) : Nat), .int .i64 (Y (A + 7) : Nat)], some 14), (.owns (w1.heap.size + 1 + 1) 47 5 (k + 1) (pcells X Y (k + 1)), none), (.eq (Value.pointer (some ⟨w1.heap.size + 1, 10, none⟩)), none), (.any, none)]) (SR w w1.heap.size (w1.heap.size + 1) x A [(3, 1), (5, 2), (7, 2), (9, 2), (11, 2)] (fun vp => #[.int .u8 (X 4 : Nat), .int .u8 (X 5 : Nat), .int .u8 (X 6 : Nat), .int .i64 (X 7 : Nat), .int .i64 (Y 8 : Nat), .int .i64 (X 10 : Nat), .int .i64 (X 11 : Nat), .int .i64 (X 12 : Nat), .int .i64 (Y 13 : Nat), .int .u16 (Y 15 : Nat), vp]) vp k (pcells X Y k) (pcells X Y (k + 1)) 14 16) (by kernel_rfl) (by kernel_rfl) (by kernel_rfl) (by kernel_rfl) rfl ⟨_, (by rw [HA.out]; exact HVp.out.1.more ((Ext.refl _).drewN 1)), fun _ => rfl, fun _ => own_ext HVp.out.2 ((Ext.refl _).drewN 1), fun h => by cases h⟩ (LivesG.cons ?_ (LivesG.cons ?_ (LivesG.cons ?_ (LivesG.cons ?_ (LivesG.cons ?_ (LivesG.cons ?_ (LivesG.cons ?_ (LivesG.cons ?_ (LivesG.cons ?_ (LivesG.cons ?_ (LivesG.cons ?_ (LivesG.cons ?_ (LivesG.cons ?_ (LivesG.cons ?_ (LivesG.cons ?_ (LivesG.cons ?_ (LivesG.cons ?_ (LivesG.nil _)))))))))))))))))) ?_
      · intro L b W hL hdep hcl hf hu hS hd K hK
        refine step_now rfl ?_
        have f7 : b.tmps[7]?.getD undef = Value.pointer (some ⟨w1.heap.size + 1, 0, none⟩) := (hf 7 (by kernel_rfl)).trans rfl
        have HS0 := Lib.hid hS
        have HCL := Lib.hid hcl
        have HDP := Lib.hid hdep
        clear hdep
        clear hf hu hd hS hcl
        go_simp
        exact hK _ _ (HS0.out.ext (Ext.refl _) 0 (by decide) rfl rfl) (relM.now rfl rfl) (fun j v h1 h2 h => h.ext (Ext.refl _) _)
      · intro L b W hL hdep hcl hf hu hS hd K hK
        refine step_now rfl ?_
        have d81 : b.tmps[81]?.getD undef = Value.pointer (some ⟨w1.heap.size + 1, 10, none⟩) := (hd ⟨0, .data⟩ (by simp) rfl _ _ rfl rfl).get (c := none) rfl (fun _ h => by cases h)
        have HS0 := Lib.hid hS
        have HCL := Lib.hid hcl
        have HDP := Lib.hid hdep
        clear hdep
        clear hf hu hd hS hcl
        have no16 : L 16 = false := by cases h : L 16 with | false => rfl | true => (have := (HCL.out 16 _ rfl h ⟨1, .phase⟩ (by simp) rfl); rw [this] at hL; cases hL)
        obtain ⟨cs, hr, h3, h4, h5⟩ := HS0.out
        have hcs := h3 no16
        subst hcs
        have kc : W.cell? ⟨w1.heap.size + 1, 10, none⟩ = some vp := blk_cell hr.cfg 10
        have HSr := Lib.hid (And.intro hr h4)
        clear hr h3 h4 h5
        go_simp
        exact hK _ _ (HS0.out.ext (Ext.refl _) 1 (by decide) rfl rfl) (relM.now rfl rfl) (fun j v h1 h2 h => h.ext (Ext.refl _) _)
      · intro L b W hL hdep hcl hf hu hS hd K hK
        refine step_now rfl ?_
        have f6 : b.tmps[6]?.getD undef = Value.pointer (some ⟨w1.heap.size, 0, none⟩) := (hf 6 (by kernel_rfl)).trans rfl
        have HS0 := Lib.hid hS
        have HCL := Lib.hid hcl
        have HDP := Lib.hid hdep
        clear hdep
        clear hf hu hd hS hcl
        go_simp
        exact hK _ _ (HS0.out.ext (Ext.refl _) 2 (by decide) rfl rfl) (relM.now rfl rfl) (fun j v h1 h2 h => h.ext (Ext.refl _) _)
      · intro L b W hL hdep hcl hf hu hS hd K hK
        refine step_now rfl ?_
        have d83 : b.tmps[83]?.getD undef = Value.pointer (some ⟨w1.heap.size, 0, none⟩) := (hd ⟨2, .data⟩ (by simp) rfl _ _ rfl rfl).get (c := none) rfl (fun _ h => by cases h)
        have HS0 := Lib.hid hS
        have HCL := Lib.hid hcl
        have HDP := Lib.hid hdep
        clear hdep
        clear hf hu hd hS hcl
        have no16 : L 16 = false := by cases h : L 16 with | false => rfl | true => (have := (HCL.out 16 _ rfl h ⟨3, .phase⟩ (by simp) rfl); rw [this] at hL; cases hL)
        have no14 : L 14 = false := by cases h : L 14 with | false => rfl | true => (have := (HCL.out 12 _ rfl (HCL.out 13 _ rfl (HCL.out 14 _ rfl h ⟨13, .data⟩ (by simp) rfl) ⟨12, .data⟩ (by simp) rfl) ⟨3, .data⟩ (by simp) rfl); rw [this] at hL; cases hL)
        have no13 : L 13 = false := by cases h : L 13 with | false => rfl | true => (have := (HCL.out 12 _ rfl (HCL.out 13 _ rfl h ⟨12, .data⟩ (by simp) rfl) ⟨3, .data⟩ (by simp) rfl); rw [this] at hL; cases hL)
        have no5 : L 5 = false := by cases h : L 5 with | false => rfl | true => (have := (HCL.out 5 _ rfl h ⟨3, .chain⟩ (by simp) rfl); rw [this] at hL; cases hL)
        have no7 : L 7 = false := by cases h : L 7 with | false => rfl | true => (have := (HCL.out 5 _ rfl (HCL.out 7 _ rfl h ⟨5, .chain⟩ (by simp) rfl) ⟨3, .chain⟩ (by simp) rfl); rw [this] at hL; cases hL)
        have no9 : L 9 = false := by cases h : L 9 with | false => rfl | true => (have := (HCL.out 5 _ rfl (HCL.out 7 _ rfl (HCL.out 9 _ rfl h ⟨7, .chain⟩ (by simp) rfl) ⟨5, .chain⟩ (by simp) rfl) ⟨3, .chain⟩ (by simp) rfl); rw [this] at hL; cases hL)
        have no11 : L 11 = false := by cases h : L 11 with | false => rfl | true => (have := (HCL.out 5 _ rfl (HCL.out 7 _ rfl (HCL.out 9 _ rfl (HCL.out 11 _ rfl h ⟨9, .chain⟩ (by simp) rfl) ⟨7, .chain⟩ (by simp) rfl) ⟨5, .chain⟩ (by simp) rfl) ⟨3, .chain⟩ (by simp) rfl); rw [this] at hL; cases hL)
        have hp : posL [(3, 1), (5, 2), (7, 2), (9, 2), (11, 2)] L = 0 := by simp [posL, hL, no5, no7, no9, no11]
        have hq : posL [(3, 1), (5, 2), (7, 2), (9, 2), (11, 2)] (also L 3) = 1 := by simp [posL, no5, no7, no9, no11]
        obtain ⟨cs, hr, h3, h4, h5⟩ := HS0.out
        rw [hp] at hr
        have HR1 := Lib.hid hr
        have H3 := Lib.hid h3
        have H4 := Lib.hid h4
        clear hr h3 h4 h5
        have HP := Lib.hid hq
        clear hp hq
        go_simp
        refine (HOne.out _ _ (A + 0) _ _ HR1.out (by have h1 := HLen.out; have h2 := HA.out; omega)).mono ?_
        rintro e W' ⟨rfl, hrs, hkp⟩
        refine hK _ W' (SR.took H3.out H4.out 3 (by rw [HP.out]; exact hrs) hkp rfl rfl no16) (relM.now rfl rfl) (fun j v h1 h2 h => h.last ?_)
        skip
        intro q c hq hc
        match j, hq with
        | 0, hq => cases hq; exact .inl ⟨_, rfl⟩
        | 1, hq => cases hq; exact .inl ⟨_, rfl⟩
        | 2, hq => cases hq; exact .inl ⟨_, rfl⟩
        | 3, hq => exact absurd rfl h1
        | 4, hq => cases hq; exact .inl ⟨_, rfl⟩
        | 5, hq => cases hq; exact .inl ⟨_, rfl⟩
        | 6, hq => cases hq; exact .inl ⟨_, rfl⟩
        | 7, hq => cases hq; exact .inl ⟨_, rfl⟩
        | 8, hq => cases hq; exact .inl ⟨_, rfl⟩
        | 9, hq => cases hq; exact .inl ⟨_, rfl⟩
        | 10, hq => cases hq; exact .inl ⟨_, rfl⟩
        | 11, hq => cases hq; exact .inl ⟨_, rfl⟩
        | 12, hq => cases hq; exact .inl ⟨_, rfl⟩
        | 13, hq => rw [no13] at h2; cases h2
        | 14, hq => rw [no14] at h2; cases h2
        | 15, hq => cases hq; exact .inl ⟨_, rfl⟩
        | 16, hq => cases hq; exact .inr rfl
        | j + 17, hq => simp at hq
      · intro L b W hL hdep hcl hf hu hS hd K hK
        refine step_now rfl ?_
        have f6 : b.tmps[6]?.getD undef = Value.pointer (some ⟨w1.heap.size, 0, none⟩) := (hf 6 (by kernel_rfl)).trans rfl
        have HS0 := Lib.hid hS
        have HCL := Lib.hid hcl
        have HDP := Lib.hid hdep
        clear hdep
        clear hf hu hd hS hcl
        go_simp
        exact hK _ _ (HS0.out.ext (Ext.refl _) 4 (by decide) rfl rfl) (relM.now rfl rfl) (fun j v h1 h2 h => h.ext (Ext.refl _) _)
      · intro L b W hL hdep hcl hf hu hS hd K hK
        refine step_now rfl ?_
        have d85 : b.tmps[85]?.getD undef = Value.pointer (some ⟨w1.heap.size, 0, none⟩) := (hd ⟨4, .data⟩ (by simp) rfl _ _ rfl rfl).get (c := none) rfl (fun _ h => by cases h)
        have HS0 := Lib.hid hS
        have HCL := Lib.hid hcl
        have HDP := Lib.hid hdep
        clear hdep
        clear hf hu hd hS hcl
        have no16 : L 16 = false := by cases h : L 16 with | false => rfl | true => (have := (HCL.out 16 _ rfl h ⟨5, .phase⟩ (by simp) rfl); rw [this] at hL; cases hL)
        have no14 : L 14 = false := by cases h : L 14 with | false => rfl | true => (have := (HCL.out 12 _ rfl (HCL.out 13 _ rfl (HCL.out 14 _ rfl h ⟨13, .data⟩ (by simp) rfl) ⟨12, .data⟩ (by simp) rfl) ⟨5, .data⟩ (by simp) rfl); rw [this] at hL; cases hL)
        have no13 : L 13 = false := by cases h : L 13 with | false => rfl | true => (have := (HCL.out 12 _ rfl (HCL.out 13 _ rfl h ⟨12, .data⟩ (by simp) rfl) ⟨5, .data⟩ (by simp) rfl); rw [this] at hL; cases hL)
        have yes3 : L 3 = true := (HDP.out ⟨3, .chain⟩ (by simp) rfl)
        have no7 : L 7 = false := by cases h : L 7 with | false => rfl | true => (have := (HCL.out 7 _ rfl h ⟨5, .chain⟩ (by simp) rfl); rw [this] at hL; cases hL)
        have no9 : L 9 = false := by cases h : L 9 with | false => rfl | true => (have := (HCL.out 7 _ rfl (HCL.out 9 _ rfl h ⟨7, .chain⟩ (by simp) rfl) ⟨5, .chain⟩ (by simp) rfl); rw [this] at hL; cases hL)
        have no11 : L 11 = false := by cases h : L 11 with | false => rfl | true => (have := (HCL.out 7 _ rfl (HCL.out 9 _ rfl (HCL.out 11 _ rfl h ⟨9, .chain⟩ (by simp) rfl) ⟨7, .chain⟩ (by simp) rfl) ⟨5, .chain⟩ (by simp) rfl); rw [this] at hL; cases hL)
        have hp : posL [(3, 1), (5, 2), (7, 2), (9, 2), (11, 2)] L = 1 := by simp [posL, hL, no7, no9, no11, yes3]
        have hq : posL [(3, 1), (5, 2), (7, 2), (9, 2), (11, 2)] (also L 5) = 3 := by simp [posL, no7, no9, no11, yes3]
        obtain ⟨cs, hr, h3, h4, h5⟩ := HS0.out
        rw [hp] at hr
        have HR1 := Lib.hid hr
        have H3 := Lib.hid h3
        have H4 := Lib.hid h4
        clear hr h3 h4 h5
        have HP := Lib.hid hq
        clear hp hq
        go_simp
        refine (HTwo.out _ _ (A + 1) _ _ HR1.out (by have h1 := HLen.out; have h2 := HA.out; omega)).mono ?_
        rintro e W' ⟨rfl, hrs, hkp⟩
        refine hK _ W' (SR.took H3.out H4.out 5 (by rw [HP.out]; exact hrs) hkp rfl rfl no16) (relM.now rfl rfl) (fun j v h1 h2 h => h.last ?_)
        skip
        intro q c hq hc
        match j, hq with
        | 0, hq => cases hq; exact .inl ⟨_, rfl⟩
        | 1, hq => cases hq; exact .inl ⟨_, rfl⟩
        | 2, hq => cases hq; exact .inl ⟨_, rfl⟩
        | 3, hq => cases hq; exact .inl ⟨_, rfl⟩
        | 4, hq => cases hq; exact .inl ⟨_, rfl⟩
        | 5, hq => exact absurd rfl h1
        | 6, hq => cases hq; exact .inl ⟨_, rfl⟩
        | 7, hq => cases hq; exact .inl ⟨_, rfl⟩
        | 8, hq => cases hq; exact .inl ⟨_, rfl⟩
        | 9, hq => cases hq; exact .inl ⟨_, rfl⟩
        | 10, hq => cases hq; exact .inl ⟨_, rfl⟩
        | 11, hq => cases hq; exact .inl ⟨_, rfl⟩
        | 12, hq => cases hq; exact .inl ⟨_, rfl⟩
        | 13, hq => rw [no13] at h2; cases h2
        | 14, hq => rw [no14] at h2; cases h2
        | 15, hq => cases hq; exact .inl ⟨_, rfl⟩
        | 16, hq => cases hq; exact .inr rfl
        | j + 17, hq => simp at hq
      · intro L b W hL hdep hcl hf hu hS hd K hK
        refine step_now rfl ?_
        have f6 : b.tmps[6]?.getD undef = Value.pointer (some ⟨w1.heap.size, 0, none⟩) := (hf 6 (by kernel_rfl)).trans rfl
        have HS0 := Lib.hid hS
        have HCL := Lib.hid hcl
        have HDP := Lib.hid hdep
        clear hdep
        clear hf hu hd hS hcl
        go_simp
        exact hK _ _ (HS0.out.ext (Ext.refl _) 6 (by decide) rfl rfl) (relM.now rfl rfl) (fun j v h1 h2 h => h.ext (Ext.refl _) _)
      · intro L b W hL hdep hcl hf hu hS hd K hK
        refine step_now rfl ?_
        have d87 : b.tmps[87]?.getD undef = Value.pointer (some ⟨w1.heap.size, 0, none⟩) := (hd ⟨6, .data⟩ (by simp) rfl _ _ rfl rfl).get (c := none) rfl (fun _ h => by cases h)
        have HS0 := Lib.hid hS
        have HCL := Lib.hid hcl
        have HDP := Lib.hid hdep
        clear hdep
        clear hf hu hd hS hcl
        have no16 : L 16 = false := by cases h : L 16 with | false => rfl | true => (have := (HCL.out 16 _ rfl h ⟨7, .phase⟩ (by simp) rfl); rw [this] at hL; cases hL)
        have no14 : L 14 = false := by cases h : L 14 with | false => rfl | true => (have := (HCL.out 12 _ rfl (HCL.out 13 _ rfl (HCL.out 14 _ rfl h ⟨13, .data⟩ (by simp) rfl) ⟨12, .data⟩ (by simp) rfl) ⟨7, .data⟩ (by simp) rfl); rw [this] at hL; cases hL)
        have no13 : L 13 = false := by cases h : L 13 with | false => rfl | true => (have := (HCL.out 12 _ rfl (HCL.out 13 _ rfl h ⟨12, .data⟩ (by simp) rfl) ⟨7, .data⟩ (by simp) rfl); rw [this] at hL; cases hL)
        have yes3 : L 3 = true := (HCL.out 5 _ rfl (HDP.out ⟨5, .chain⟩ (by simp) rfl) ⟨3, .chain⟩ (by simp) rfl)
        have yes5 : L 5 = true := (HDP.out ⟨5, .chain⟩ (by simp) rfl)
        have no9 : L 9 = false := by cases h : L 9 with | false => rfl | true => (have := (HCL.out 9 _ rfl h ⟨7, .chain⟩ (by simp) rfl); rw [this] at hL; cases hL)
        have no11 : L 11 = false := by cases h : L 11 with | false => rfl | true => (have := (HCL.out 9 _ rfl (HCL.out 11 _ rfl h ⟨9, .chain⟩ (by simp) rfl) ⟨7, .chain⟩ (by simp) rfl); rw [this] at hL; cases hL)
        have hp : posL [(3, 1), (5, 2), (7, 2), (9, 2), (11, 2)] L = 3 := by simp [posL, hL, no9, no11, yes3, yes5]
        have hq : posL [(3, 1), (5, 2), (7, 2), (9, 2), (11, 2)] (also L 7) = 5 := by simp [posL, no9, no11, yes3, yes5]
        obtain ⟨cs, hr, h3, h4, h5⟩ := HS0.out
        rw [hp] at hr
        have HR1 := Lib.hid hr
        have H3 := Lib.hid h3
        have H4 := Lib.hid h4
        clear hr h3 h4 h5
        have HP := Lib.hid hq
        clear hp hq
        go_simp
        refine (HTwo.out _ _ (A + 3) _ _ HR1.out (by have h1 := HLen.out; have h2 := HA.out; omega)).mono ?_
        rintro e W' ⟨rfl, hrs, hkp⟩
        refine hK _ W' (SR.took H3.out H4.out 7 (by rw [HP.out]; exact hrs) hkp rfl rfl no16) (relM.now rfl rfl) (fun j v h1 h2 h => h.last ?_)
        skip
        intro q c hq hc
        match j, hq with
        | 0, hq => cases hq; exact .inl ⟨_, rfl⟩
        | 1, hq => cases hq; exact .inl ⟨_, rfl⟩
        | 2, hq => cases hq; exact .inl ⟨_, rfl⟩
        | 3, hq => cases hq; exact .inl ⟨_, rfl⟩
        | 4, hq => cases hq; exact .inl ⟨_, rfl⟩
        | 5, hq => cases hq; exact .inl ⟨_, rfl⟩
        | 6, hq => cases hq; exact .inl ⟨_, rfl⟩
        | 7, hq => exact absurd rfl h1
        | 8, hq => cases hq; exact .inl ⟨_, rfl⟩
        | 9, hq => cases hq; exact .inl ⟨_, rfl⟩
        | 10, hq => cases hq; exact .inl ⟨_, rfl⟩
        | 11, hq => cases hq; exact .inl ⟨_, rfl⟩
        | 12, hq => cases hq; exact .inl ⟨_, rfl⟩
        | 13, hq => rw [no13] at h2; cases h2
        | 14, hq => rw [no14] at h2; cases h2
        | 15, hq => cases hq; exact .inl ⟨_, rfl⟩
        | 16, hq => cases hq; exact .inr rfl
        | j + 17, hq => simp at hq
      · intro L b W hL hdep hcl hf hu hS hd K hK
        refine step_now rfl ?_
        have f6 : b.tmps[6]?.getD undef = Value.pointer (some ⟨w1.heap.size, 0, none⟩) := (hf 6 (by kernel_rfl)).trans rfl
        have HS0 := Lib.hid hS
        have HCL := Lib.hid hcl
        have HDP := Lib.hid hdep
        clear hdep
        clear hf hu hd hS hcl
        go_simp
        exact hK _ _ (HS0.out.ext (Ext.refl _) 8 (by decide) rfl rfl) (relM.now rfl rfl) (fun j v h1 h2 h => h.ext (Ext.refl _) _)
      · intro L b W hL hdep hcl hf hu hS hd K hK
        refine step_now rfl ?_
        have d89 : b.tmps[89]?.getD undef = Value.pointer (some ⟨w1.heap.size, 0, none⟩) := (hd ⟨8, .data⟩ (by simp) rfl _ _ rfl rfl).get (c := none) rfl (fun _ h => by cases h)
        have HS0 := Lib.hid hS
        have HCL := Lib.hid hcl
        have HDP := Lib.hid hdep
        clear hdep
        clear hf hu hd hS hcl
        have no16 : L 16 = false := by cases h : L 16 with | false => rfl | true => (have := (HCL.out 16 _ rfl h ⟨9, .phase⟩ (by simp) rfl); rw [this] at hL; cases hL)
        have no14 : L 14 = false := by cases h : L 14 with | false => rfl | true => (have := (HCL.out 11 _ rfl (HCL.out 14 _ rfl h ⟨11, .chain⟩ (by simp) rfl) ⟨9, .chain⟩ (by simp) rfl); rw [this] at hL; cases hL)
        have no13 : L 13 = false := by cases h : L 13 with | false => rfl | true => (have := (HCL.out 12 _ rfl (HCL.out 13 _ rfl h ⟨12, .data⟩ (by simp) rfl) ⟨9, .data⟩ (by simp) rfl); rw [this] at hL; cases hL)
        have yes3 : L 3 = true := (HCL.out 5 _ rfl (HCL.out 7 _ rfl (HDP.out ⟨7, .chain⟩ (by simp) rfl) ⟨5, .chain⟩ (by simp) rfl) ⟨3, .chain⟩ (by simp) rfl)
        have yes5 : L 5 = true := (HCL.out 7 _ rfl (HDP.out ⟨7, .chain⟩ (by simp) rfl) ⟨5, .chain⟩ (by simp) rfl)
        have yes7 : L 7 = true := (HDP.out ⟨7, .chain⟩ (by simp) rfl)
        have no11 : L 11 = false := by cases h : L 11 with | false => rfl | true => (have := (HCL.out 11 _ rfl h ⟨9, .chain⟩ (by simp) rfl); rw [this] at hL; cases hL)
        have hp : posL [(3, 1), (5, 2), (7, 2), (9, 2), (11, 2)] L = 5 := by simp [posL, hL, no11, yes3, yes5, yes7]
        have hq : posL [(3, 1), (5, 2), (7, 2), (9, 2), (11, 2)] (also L 9) = 7 := by simp [posL, no11, yes3, yes5, yes7]
        obtain ⟨cs, hr, h3, h4, h5⟩ := HS0.out
        rw [hp] at hr
        have HR1 := Lib.hid hr
        have H3 := Lib.hid h3
        have H4 := Lib.hid h4
        clear hr h3 h4 h5
        have HP := Lib.hid hq
        clear hp hq
        go_simp
        refine (HTwo.out _ _ (A + 5) _ _ HR1.out (by have h1 := HLen.out; have h2 := HA.out; omega)).mono ?_
        rintro e W' ⟨rfl, hrs, hkp⟩
        refine hK _ W' (SR.took H3.out H4.out 9 (by rw [HP.out]; exact hrs) hkp rfl rfl no16) (relM.now rfl rfl) (fun j v h1 h2 h => h.last ?_)
        skip
        intro q c hq hc
        match j, hq with
        | 0, hq => cases hq; exact .inl ⟨_, rfl⟩
        | 1, hq => cases hq; exact .inl ⟨_, rfl⟩
        | 2, hq => cases hq; exact .inl ⟨_, rfl⟩
        | 3, hq => cases hq; exact .inl ⟨_, rfl⟩
        | 4, hq => cases hq; exact .inl ⟨_, rfl⟩
        | 5, hq => cases hq; exact .inl ⟨_, rfl⟩
        | 6, hq => cases hq; exact .inl ⟨_, rfl⟩
        | 7, hq => cases hq; exact .inl ⟨_, rfl⟩
        | 8, hq => cases hq; exact .inl ⟨_, rfl⟩
        | 9, hq => exact absurd rfl h1
        | 10, hq => cases hq; exact .inl ⟨_, rfl⟩
        | 11, hq => cases hq; exact .inl ⟨_, rfl⟩
        | 12, hq => cases hq; exact .inl ⟨_, rfl⟩
        | 13, hq => rw [no13] at h2; cases h2
        | 14, hq => rw [no14] at h2; cases h2
        | 15, hq => cases hq; exact .inl ⟨_, rfl⟩
        | 16, hq => cases hq; exact .inr rfl
        | j + 17, hq => simp at hq
      · intro L b W hL hdep hcl hf hu hS hd K hK
        refine step_now rfl ?_
        have f6 : b.tmps[6]?.getD undef = Value.pointer (some ⟨w1.heap.size, 0, none⟩) := (hf 6 (by kernel_rfl)).trans rfl
        have HS0 := Lib.hid hS
        have HCL := Lib.hid hcl
        have HDP := Lib.hid hdep
        clear hdep
        clear hf hu hd hS hcl
        go_simp
        exact hK _ _ (HS0.out.ext (Ext.refl _) 10 (by decide) rfl rfl) (relM.now rfl rfl) (fun j v h1 h2 h => h.ext (Ext.refl _) _)
      · intro L b W hL hdep hcl hf hu hS hd K hK
        refine step_now rfl ?_
        have d91 : b.tmps[91]?.getD undef = Value.pointer (some ⟨w1.heap.size, 0, none⟩) := (hd ⟨10, .data⟩ (by simp) rfl _ _ rfl rfl).get (c := none) rfl (fun _ h => by cases h)
        have HS0 := Lib.hid hS
        have HCL := Lib.hid hcl
        have HDP := Lib.hid hdep
        clear hdep
        clear hf hu hd hS hcl
        have no16 : L 16 = false := by cases h : L 16 with | false => rfl | true => (have := (HCL.out 16 _ rfl h ⟨11, .phase⟩ (by simp) rfl); rw [this] at hL; cases hL)
        have no14 : L 14 = false := by cases h : L 14 with | false => rfl | true => (have := (HCL.out 14 _ rfl h ⟨11, .chain⟩ (by simp) rfl); rw [this] at hL; cases hL)
        have no13 : L 13 = false := by cases h : L 13 with | false => rfl | true => (have := (HCL.out 12 _ rfl (HCL.out 13 _ rfl h ⟨12, .data⟩ (by simp) rfl) ⟨11, .data⟩ (by simp) rfl); rw [this] at hL; cases hL)
        have yes3 : L 3 = true := (HCL.out 5 _ rfl (HCL.out 7 _ rfl (HCL.out 9 _ rfl (HDP.out ⟨9, .chain⟩ (by simp) rfl) ⟨7, .chain⟩ (by simp) rfl) ⟨5, .chain⟩ (by simp) rfl) ⟨3, .chain⟩ (by simp) rfl)
        have yes5 : L 5 = true := (HCL.out 7 _ rfl (HCL.out 9 _ rfl (HDP.out ⟨9, .chain⟩ (by simp) rfl) ⟨7, .chain⟩ (by simp) rfl) ⟨5, .chain⟩ (by simp) rfl)
        have yes7 : L 7 = true := (HCL.out 9 _ rfl (HDP.out ⟨9, .chain⟩ (by simp) rfl) ⟨7, .chain⟩ (by simp) rfl)
        have yes9 : L 9 = true := (HDP.out ⟨9, .chain⟩ (by simp) rfl)
        have hp : posL [(3, 1), (5, 2), (7, 2), (9, 2), (11, 2)] L = 7 := by simp [posL, hL, yes3, yes5, yes7, yes9]
        have hq : posL [(3, 1), (5, 2), (7, 2), (9, 2), (11, 2)] (also L 11) = 9 := by simp [posL, yes3, yes5, yes7, yes9]
        obtain ⟨cs, hr, h3, h4, h5⟩ := HS0.out
        rw [hp] at hr
        have HR1 := Lib.hid hr
        have H3 := Lib.hid h3
        have H4 := Lib.hid h4
        clear hr h3 h4 h5
        have HP := Lib.hid hq
        clear hp hq
        go_simp
        refine (HTwo.out _ _ (A + 7) _ _ HR1.out (by have h1 := HLen.out; have h2 := HA.out; omega)).mono ?_
        rintro e W' ⟨rfl, hrs, hkp⟩
        refine hK _ W' (SR.took H3.out H4.out 11 (by rw [HP.out]; exact hrs) hkp rfl rfl no16) (relM.now rfl rfl) (fun j v h1 h2 h => h.last ?_)
        skip
        intro q c hq hc
        match j, hq with
        | 0, hq => cases hq; exact .inl ⟨_, rfl⟩
        | 1, hq => cases hq; exact .inl ⟨_, rfl⟩
        | 2, hq => cases hq; exact .inl ⟨_, rfl⟩
        | 3, hq => cases hq; exact .inl ⟨_, rfl⟩
        | 4, hq => cases hq; exact .inl ⟨_, rfl⟩
        | 5, hq => cases hq; exact .inl ⟨_, rfl⟩
        | 6, hq => cases hq; exact .inl ⟨_, rfl⟩
        | 7, hq => cases hq; exact .inl ⟨_, rfl⟩
        | 8, hq => cases hq; exact .inl ⟨_, rfl⟩
        | 9, hq => cases hq; exact .inl ⟨_, rfl⟩
        | 10, hq => cases hq; exact .inl ⟨_, rfl⟩
        | 11, hq => exact absurd rfl h1
        | 12, hq => cases hq; exact .inl ⟨_, rfl⟩
        | 13, hq => rw [no13] at h2; cases h2
        | 14, hq => rw [no14] at h2; cases h2
        | 15, hq => cases hq; exact .inl ⟨_, rfl⟩
        | 16, hq => cases hq; exact .inr rfl
        | j + 17, hq => simp at hq
      · intro L b W hL hdep hcl hf hu hS hd K hK
        refine step_now rfl ?_
        have d84 : b.tmps[84]?.getD undef = Value.int .i64 (X A : Nat) := (hd ⟨3, .data⟩ (by simp) rfl _ _ rfl rfl).get (c := none) rfl (fun _ h => by cases h)
        have d86 : b.tmps[86]?.getD undef = Value.int .i64 (Y (A + 1) : Nat) := (hd ⟨5, .data⟩ (by simp) rfl _ _ rfl rfl).get (c := none) rfl (fun _ h => by cases h)
        have d88 : b.tmps[88]?.getD undef = Value.int .i64 (Y (A + 3) : Nat) := (hd ⟨7, .data⟩ (by simp) rfl _ _ rfl rfl).get (c := none) rfl (fun _ h => by cases h)
        have d90 : b.tmps[90]?.getD undef = Value.int .i64 (Y (A + 5) : Nat) := (hd ⟨9, .data⟩ (by simp) rfl _ _ rfl rfl).get (c := none) rfl (fun _ h => by cases h)
        have d92 : b.tmps[92]?.getD undef = Value.int .i64 (Y (A + 7) : Nat) := (hd ⟨11, .data⟩ (by simp) rfl _ _ rfl rfl).get (c := none) rfl (fun _ h => by cases h)
        have HS0 := Lib.hid hS
        have HCL := Lib.hid hcl
        have HDP := Lib.hid hdep
        clear hdep
        clear hf hu hd hS hcl
        go_simp
        exact hK _ _ (HS0.out.ext (Ext.refl _) 12 (by decide) rfl rfl) (relM.now rfl rfl) (fun j v h1 h2 h => h.ext (Ext.refl _) _)
      · intro L b W hL hdep hcl hf hu hS hd K hK
        refine step_now rfl ?_
        have d93 : b.tmps[93]?.getD undef = Value.agg #[.int .i64 (X A : Nat), .int .i64 (Y (A + 1) : Nat), .int .i64 (Y (A + 3) : Nat), .int .i64 (Y (A + 5) : Nat), .int .i64 (Y (A + 7) : Nat)] := (hd ⟨12, .data⟩ (by simp) rfl _ _ rfl rfl).get (c := none) rfl (fun _ h => by cases h)
        have HS0 := Lib.hid hS
        have HCL := Lib.hid hcl
        have HDP := Lib.hid hdep
        clear hdep
        clear hf hu hd hS hcl
        go_simp
        exact hK _ _ (HS0.out.ext ((Ext.refl _).alloc _) 13 (by decide) rfl rfl) (relM.now rfl ⟨by unfold maxLen; omega, _, rfl, heap_alloc_new _ _⟩) (fun j v h1 h2 h => h.ext ((Ext.refl _).alloc _) _)
      · intro L b W hL hdep hcl hf hu hS hd K hK
        refine step_now rfl ?_
        have d82 : b.tmps[82]?.getD undef = vp := (hd ⟨1, .data⟩ (by simp) rfl _ _ rfl rfl).get (c := none) rfl (fun _ h => by cases h)
        have d94 : MK.holds (.rows 47 1 [.int .i64 (X A : Nat), .int .i64 (Y (A + 1) : Nat), .int .i64 (Y (A + 3) : Nat), .int .i64 (Y (A + 5) : Nat), .int .i64 (Y (A + 7) : Nat)]) (b.tmps[94]?.getD undef) W := (hd ⟨13, .data⟩ (by simp) rfl _ _ rfl rfl).get (c := some 14) rfl (fun _ h => by cases h; exact hL)
        obtain ⟨v94, e94⟩ : ∃ v, b.tmps[94]?.getD undef = v := ⟨_, rfl⟩
        rw [e94] at d94
        have D94 := Lib.hid d94
        clear d94
        have HS0 := Lib.hid hS
        have HCL := Lib.hid hcl
        have HDP := Lib.hid hdep
        clear hdep
        clear hf hu hd hS hcl
        have no16 : L 16 = false := by cases h : L 16 with | false => rfl | true => (have := (HCL.out 16 _ rfl h ⟨14, .data⟩ (by simp) rfl); rw [this] at hL; cases hL)
        obtain ⟨cs, hr, h3, h4, h5⟩ := HS0.out
        have HR1 := Lib.hid hr
        have H4 := Lib.hid (h4 hL)
        clear hr h3 h4 h5
        refine app_own_sz_op _ _ 24 rfl (w1.heap.size + 1 + 1) 47 i0 _ 5 40 Tryd.underlying24 hi hz0 hz1 hz2 rfl (by omega) vp k (pcells X Y k) (by simpa [Act.eval] using d82) H4.out v94 1 [.int .i64 (X A : Nat), .int .i64 (Y (A + 1) : Nat), .int .i64 (Y (A + 3) : Nat), .int .i64 (Y (A + 5) : Nat), .int .i64 (Y (A + 7) : Nat)] (by simpa [Act.eval] using e94) (rows_sz D94.out rfl) (by omega) (by simp [Value.oneCell']) (by unfold maxLen; omega) hk40 (lt_of_block HR1.out.cfg) ?_
        intro v' W' ho hg'
        rw [HPc.out] at ho
        refine hK v' W' (HS0.out.grown hg' hL no16 rfl rfl) (relM.now rfl ho) (fun j v h1 h2 h => h.last ?_)
        intro q c hq hc
        match j, hq with
        | 0, hq => cases hq; exact .inl ⟨_, rfl⟩
        | 1, hq => cases hq; exact .inl ⟨_, rfl⟩
        | 2, hq => cases hq; exact .inl ⟨_, rfl⟩
        | 3, hq => cases hq; exact .inl ⟨_, rfl⟩
        | 4, hq => cases hq; exact .inl ⟨_, rfl⟩
        | 5, hq => cases hq; exact .inl ⟨_, rfl⟩
        | 6, hq => cases hq; exact .inl ⟨_, rfl⟩
        | 7, hq => cases hq; exact .inl ⟨_, rfl⟩
        | 8, hq => cases hq; exact .inl ⟨_, rfl⟩
        | 9, hq => cases hq; exact .inl ⟨_, rfl⟩
        | 10, hq => cases hq; exact .inl ⟨_, rfl⟩
        | 11, hq => cases hq; exact .inl ⟨_, rfl⟩
        | 12, hq => cases hq; exact .inl ⟨_, rfl⟩
        | 13, hq => cases hq; have := hc 14 rfl; simp at this
        | 14, hq => exact absurd rfl h1
        | 15, hq => cases hq; exact .inl ⟨_, rfl⟩
        | 16, hq => cases hq; exact .inr rfl
        | j + 17, hq => simp at hq
      · intro L b W hL hdep hcl hf hu hS hd K hK
        refine step_now rfl ?_
        have f7 : b.tmps[7]?.getD undef = Value.pointer (some ⟨w1.heap.size + 1, 0, none⟩) := (hf 7 (by kernel_rfl)).trans rfl
        have HS0 := Lib.hid hS
        have HCL := Lib.hid hcl
        have HDP := Lib.hid hdep
        clear hdep
        clear hf hu hd hS hcl
        go_simp
        exact hK _ _ (HS0.out.ext (Ext.refl _) 15 (by decide) rfl rfl) (relM.now rfl rfl) (fun j v h1 h2 h => h.ext (Ext.refl _) _)
      · intro L b W hL hdep hcl hf hu hS hd K hK
        refine step_now rfl ?_
        have d96 : b.tmps[96]?.getD undef = Value.pointer (some ⟨w1.heap.size + 1, 10, none⟩) := (hd ⟨15, .data⟩ (by simp) rfl _ _ rfl rfl).get (c := none) rfl (fun _ h => by cases h)
        have d95 : MK.holds (.owns (w1.heap.size + 1 + 1) 47 5 (k + 1) (pcells X Y (k + 1))) (b.tmps[95]?.getD undef) W := (hd ⟨14, .data⟩ (by simp) rfl _ _ rfl rfl).get (c := none) rfl (fun _ h => by cases h)
        obtain ⟨v95, e95⟩ : ∃ v, b.tmps[95]?.getD undef = v := ⟨_, rfl⟩
        rw [e95] at d95
        have D95 := Lib.hid d95
        clear d95
        have HS0 := Lib.hid hS
        have HCL := Lib.hid hcl
        have HDP := Lib.hid hdep
        clear hdep
        clear hf hu hd hS hcl
        have yes14 : L 14 = true := (HDP.out ⟨14, .data⟩ (by simp) rfl)
        obtain ⟨cs, hr, h3, h4, h5⟩ := HS0.out
        have hcs := h3 hL
        subst hcs
        have sc : W.cell? ⟨w1.heap.size + 1, 10, none⟩ = some vp := blk_cell hr.cfg 10
        have sf : W.frozen? ⟨w1.heap.size + 1, 10, none⟩ = false := blk_free hr.cfg 10
        clear hr h3 h4 h5
        obtain ⟨a95, n95, c95, e95'⟩ : ∃ a n c, v95 = .slice a n c := by rcases D95.out.2 with ⟨h, _⟩ | ⟨_, _, _, h, _⟩; exact ⟨_, _, _, h⟩; exact ⟨_, _, _, h⟩
        subst e95'
        go_simp
        refine hK undef _ (HS0.out.stored hL yes14 rfl rfl D95.out 10 (HF.out _)) (relM.now rfl trivial) (fun j v h1 h2 h => h.set ?_)
        intro q c hq hc
        match j, hq with
        | 0, hq => cases hq; exact .inl ⟨_, rfl⟩
        | 1, hq => cases hq; exact .inl ⟨_, rfl⟩
        | 2, hq => cases hq; exact .inl ⟨_, rfl⟩
        | 3, hq => cases hq; exact .inl ⟨_, rfl⟩
        | 4, hq => cases hq; exact .inl ⟨_, rfl⟩
        | 5, hq => cases hq; exact .inl ⟨_, rfl⟩
        | 6, hq => cases hq; exact .inl ⟨_, rfl⟩
        | 7, hq => cases hq; exact .inl ⟨_, rfl⟩
        | 8, hq => cases hq; exact .inl ⟨_, rfl⟩
        | 9, hq => cases hq; exact .inl ⟨_, rfl⟩
        | 10, hq => cases hq; exact .inl ⟨_, rfl⟩
        | 11, hq => cases hq; exact .inl ⟨_, rfl⟩
        | 12, hq => cases hq; exact .inl ⟨_, rfl⟩
        | 13, hq => cases hq; have := hc 14 rfl; simp [(HDP.out ⟨14, .data⟩ (by simp) rfl)] at this
        | 14, hq => cases hq; exact .inr (.inr ⟨_, _, _, _, _, rfl, Nat.lt_succ_self _⟩)
        | 15, hq => cases hq; exact .inl ⟨_, rfl⟩
        | 16, hq => exact absurd rfl h1
        | j + 17, hq => simp at hq
      · intro L f7 w7 hL7 h4 h5
        simp only [List.foldl_cons, List.foldl_nil, List.setIfInBounds_toArray, List.set_cons_succ, List.set_cons_zero]
        obtain ⟨cs, hr, _, _, h6⟩ := h4
        obtain ⟨v', rfl, ho⟩ := h6 (hL7 16 (by decide))
        have hq : posL [(3, 1), (5, 2), (7, 2), (9, 2), (11, 2)] L = 9 := by simp [posL, hL7 3 (by decide), hL7 5 (by decide), hL7 7 (by decide), hL7 9 (by decide), hL7 11 (by decide)]
        rw [hq, HA.out] at hr
        have HRn := Lib.hid hr
        have HOn := Lib.hid ho
        clear hr ho hq h5 hL7
        go_wp2_with fail
        go_roundw
        case rel => exact ⟨k + 1, by omega, by go_num, Lib.hid ⟨v', by have h9 := HRn.out; rwa [show 18 + 9 * k + 9 = 18 + 9 * (k + 1) from by omega] at h9, HOn.out⟩⟩
        case measure => simp [intOf]; omega
    · have hkl : k = X 17 := by omega
      subst hkl
      obtain ⟨r, hr⟩ : ∃ r, r = (cfgXY X Y).cfg.code := ⟨_, rfl⟩
      have HSz : Hid (Sz wr 5 vp (cfgXY X Y).cfg.pts.length ((cfgXY X Y).cfg.pts.flatMap Pt.vals)) := Lib.hid (by
        have h9 := Sz.own HVp.out.2
        have hl9 : (cfgXY X Y).cfg.pts.length = X 17 := by simp [cfgXY, CfgN.cfg, ptsXY_length]
        rw [hl9]
        exact h9)
      have HCk : Hid (Calls Tryd.prog 13 #[.agg #[.int .u8 (X 4 : Nat), .int .u8 (X 5 : Nat), .int .u8 (X 6 : Nat), .int .i64 (X 7 : Nat), .int .i64 (Y 8 : Nat), .int .i64 (X 10 : Nat), .int .i64 (X 11 : Nat), .int .i64 (X 12 : Nat), .int .i64 (Y 13 : Nat), .int .u16 (Y 15 : Nat), vp]] wr fun e w' => e = .returned (.int .i64 r) ∧ Ext wr w') := Lib.hid (by
        rw [hr]
        exact config_Check (cfgXY X Y).cfg vp wr HSz.out (HG.out.ext HVp.out.1.ext) ⟨HXb.out 4, HXb.out 5, HXb.out 6⟩)
      have HRr := Lib.hid hr
      clear hr
      have k0 : wr.cell? ⟨w1.heap.size + 1, 0, none⟩ = some (.int .u8 (X 4 : Nat)) := blk_cell HVp.out.1.cfg 0
      have k1 : wr.cell? ⟨w1.heap.size + 1, 1, none⟩ = some (.int .u8 (X 5 : Nat)) := blk_cell HVp.out.1.cfg 1
      have k2 : wr.cell? ⟨w1.heap.size + 1, 2, none⟩ = some (.int .u8 (X 6 : Nat)) := blk_cell HVp.out.1.cfg 2
      have k3 : wr.cell? ⟨w1.heap.size + 1, 3, none⟩ = some (.int .i64 (X 7 : Nat)) := blk_cell HVp.out.1.cfg 3
      have k4 : wr.cell? ⟨w1.heap.size + 1, 4, none⟩ = some (.int .i64 (Y 8 : Nat)) := blk_cell HVp.out.1.cfg 4
      have k5 : wr.cell? ⟨w1.heap.size + 1, 5, none⟩ = some (.int .i64 (X 10 : Nat)) := blk_cell HVp.out.1.cfg 5
      have k6 : wr.cell? ⟨w1.heap.size + 1, 6, none⟩ = some (.int .i64 (X 11 : Nat)) := blk_cell HVp.out.1.cfg 6
      have k7 : wr.cell? ⟨w1.heap.size + 1, 7, none⟩ = some (.int .i64 (X 12 : Nat)) := blk_cell HVp.out.1.cfg 7
      have k8 : wr.cell? ⟨w1.heap.size + 1, 8, none⟩ = some (.int .i64 (Y 13 : Nat)) := blk_cell HVp.out.1.cfg 8
      have k9 : wr.cell? ⟨w1.heap.size + 1, 9, none⟩ = some (.int .u16 (Y 15 : Nat)) := blk_cell HVp.out.1.cfg 9
      have k10 : wr.cell? ⟨w1.heap.size + 1, 10, none⟩ = some (vp) := blk_cell HVp.out.1.cfg 10
      go_wp2_with fail
      refine HCk.out.mono ?_
      rintro e w8 ⟨rfl, hx8⟩
      clear k0 k1 k2 k3 k4 k5 k6 k7 k8 k9 k10
      have HR8 := Lib.hid (HVp.out.1.more hx8)
      have HO8 := Lib.hid (own_ext HVp.out.2 hx8)
      clear hx8
      have hres := HR8.out.res
      obtain ⟨r0, r1, r2, r3, r4, r5, r6, r7, r8, r9, r10, rlt, rf⟩ := res_cells hres
      have HRs := Lib.hid hres
      have HSelf : Hid (w8.setRow w.heap.size #[.int .u8 0, .int .u8 0, .int .u8 0, .int .i64 0, .int .i64 0, .int .i64 0, .int .i64 0, .int .i64 0, .int .i64 0, .int .u16 0, .slice none 0 0] = w8) := Lib.hid (setRow_self _ _ _ _ _ hres)
      clear hres
      by_cases hr0 : r = 0
      · have HR0z := Lib.hid hr0
        subst hr0
        have k0 : w8.cell? ⟨w1.heap.size + 1, 0, none⟩ = some (.int .u8 (X 4 : Nat)) := blk_cell HR8.out.cfg 0
        have k1 : w8.cell? ⟨w1.heap.size + 1, 1, none⟩ = some (.int .u8 (X 5 : Nat)) := blk_cell HR8.out.cfg 1
        have k2 : w8.cell? ⟨w1.heap.size + 1, 2, none⟩ = some (.int .u8 (X 6 : Nat)) := blk_cell HR8.out.cfg 2
        have k3 : w8.cell? ⟨w1.heap.size + 1, 3, none⟩ = some (.int .i64 (X 7 : Nat)) := blk_cell HR8.out.cfg 3
        have k4 : w8.cell? ⟨w1.heap.size + 1, 4, none⟩ = some (.int .i64 (Y 8 : Nat)) := blk_cell HR8.out.cfg 4
        have k5 : w8.cell? ⟨w1.heap.size + 1, 5, none⟩ = some (.int .i64 (X 10 : Nat)) := blk_cell HR8.out.cfg 5
        have k6 : w8.cell? ⟨w1.heap.size + 1, 6, none⟩ = some (.int .i64 (X 11 : Nat)) := blk_cell HR8.out.cfg 6
        have k7 : w8.cell? ⟨w1.heap.size + 1, 7, none⟩ = some (.int .i64 (X 12 : Nat)) := blk_cell HR8.out.cfg 7
        have k8 : w8.cell? ⟨w1.heap.size + 1, 8, none⟩ = some (.int .i64 (Y 13 : Nat)) := blk_cell HR8.out.cfg 8
        have k9 : w8.cell? ⟨w1.heap.size + 1, 9, none⟩ = some (.int .u16 (Y 15 : Nat)) := blk_cell HR8.out.cfg 9
        have k10 : w8.cell? ⟨w1.heap.size + 1, 10, none⟩ = some (vp) := blk_cell HR8.out.cfg 10
        have HInfo : Hid ((Tryd.prog.info? 26).map (·.size) = some (#[.int .u8 (X 4 : Nat), .int .u8 (X 5 : Nat), .int .u8 (X 6 : Nat), .int .i64 (X 7 : Nat), .int .i64 (Y 8 : Nat), .int .i64 (X 10 : Nat), .int .i64 (X 11 : Nat), .int .i64 (X 12 : Nat), .int .i64 (Y 13 : Nat), .int .u16 (Y 15 : Nat), vp] : Array Value).size) := Lib.hid info_cfg
        have HOne1 : Hid ((#[.int .u8 (X 4 : Nat), .int .u8 (X 5 : Nat), .int .u8 (X 6 : Nat), .int .i64 (X 7 : Nat), .int .i64 (Y 8 : Nat), .int .i64 (X 10 : Nat), .int .i64 (X 11 : Nat), .int .i64 (X 12 : Nat), .int .i64 (Y 13 : Nat), .int .u16 (Y 15 : Nat), vp] : Array Value).all (·.oneCell') = true) := Lib.hid (by
          obtain ⟨a9, n9, c9, e9⟩ : ∃ a n c, vp = .slice a n c := by rcases HO8.out.2 with ⟨h, _⟩ | ⟨_, _, _, h, _⟩; exact ⟨_, _, _, h⟩; exact ⟨_, _, _, h⟩
          rw [e9]
          simp [Value.oneCell'])
        have HKs : Hid (Kept (fun j => j = w.heap.size) w8 (w8.setRow w.heap.size #[.int .u8 (X 4 : Nat), .int .u8 (X 5 : Nat), .int .u8 (X 6 : Nat), .int .i64 (X 7 : Nat), .int .i64 (Y 8 : Nat), .int .i64 (X 10 : Nat), .int .i64 (X 11 : Nat), .int .i64 (X 12 : Nat), .int .i64 (Y 13 : Nat), .int .u16 (Y 15 : Nat), vp]) ∧ (w8.setRow w.heap.size #[.int .u8 (X 4 : Nat), .int .u8 (X 5 : Nat), .int .u8 (X 6 : Nat), .int .i64 (X 7 : Nat), .int .i64 (Y 8 : Nat), .int .i64 (X 10 : Nat), .int .i64 (X 11 : Nat), .int .i64 (X 12 : Nat), .int .i64 (Y 13 : Nat), .int .u16 (Y 15 : Nat), vp]).heap[w.heap.size]? = some (.cells #[.int .u8 (X 4 : Nat), .int .u8 (X 5 : Nat), .int .u8 (X 6 : Nat), .int .i64 (X 7 : Nat), .int .i64 (Y 8 : Nat), .int .i64 (X 10 : Nat), .int .i64 (X 11 : Nat), .int .i64 (X 12 : Nat), .int .i64 (Y 13 : Nat), .int .u16 (Y 15 : Nat), vp] 26 (0, 0))) := Lib.hid ⟨⟨rfl, rfl, rfl, by simp, fun k _ hk => setRow_other _ _ _ _ hk⟩, setRow_heap _ _ _ _ _ _ HRs.out⟩
        have HS9 : Hid (∀ w9, w9 = w8.setRow w.heap.size #[.int .u8 (X 4 : Nat), .int .u8 (X 5 : Nat), .int .u8 (X 6 : Nat), .int .i64 (X 7 : Nat), .int .i64 (Y 8 : Nat), .int .i64 (X 10 : Nat), .int .i64 (X 11 : Nat), .int .i64 (X 12 : Nat), .int .i64 (Y 13 : Nat), .int .u16 (Y 15 : Nat), vp] → Ext w w9 ∧ w9.heap[w.heap.size]? = some (.cells #[.int .u8 (X 4 : Nat), .int .u8 (X 5 : Nat), .int .u8 (X 6 : Nat), .int .i64 (X 7 : Nat), .int .i64 (Y 8 : Nat), .int .i64 (X 10 : Nat), .int .i64 (X 11 : Nat), .int .i64 (X 12 : Nat), .int .i64 (Y 13 : Nat), .int .u16 (Y 15 : Nat), vp] 26 (0, 0)) ∧ Sz w9 5 vp (cfgXY X Y).cfg.pts.length ((cfgXY X Y).cfg.pts.flatMap Pt.vals)) := Lib.hid fun w9 e => by
          subst e
          refine ⟨HR8.out.ext.trans_kept HKs.out.1 (fun j hj => Nat.le_of_eq hj.symm), HKs.out.2, ?_⟩
          have h9 := Sz.own (own_kept HO8.out HKs.out.1 (fun j hj e => by omega))
          have hl9 : (cfgXY X Y).cfg.pts.length = X 17 := by simp [cfgXY, CfgN.cfg, ptsXY_length]
          rw [hl9]
          exact h9
        go_wp2_with (refine wpList_store_row rfl 26 _ _ rfl w.heap.size #[.int .u8 (X 4 : Nat), .int .u8 (X 5 : Nat), .int .u8 (X 6 : Nat), .int .i64 (X 7 : Nat), .int .i64 (Y 8 : Nat), .int .i64 (X 10 : Nat), .int .i64 (X 11 : Nat), .int .i64 (X 12 : Nat), .int .i64 (Y 13 : Nat), .int .u16 (Y 15 : Nat), vp] rfl rfl _ zeroCfg HRs.out HInfo.out rfl HOne1.out ?_; obtain ⟨w9, h9⟩ : ∃ w9, w9 = w8.setRow w.heap.size #[.int .u8 (X 4 : Nat), .int .u8 (X 5 : Nat), .int .u8 (X 6 : Nat), .int .i64 (X 7 : Nat), .int .i64 (Y 8 : Nat), .int .i64 (X 10 : Nat), .int .i64 (X 11 : Nat), .int .i64 (X 12 : Nat), .int .i64 (Y 13 : Nat), .int .u16 (Y 15 : Nat), vp] := ⟨_, rfl⟩; rw [← h9]; have H9 := Lib.hid (HS9.out w9 h9); clear h9 r0 r1 r2 r3 r4 r5 r6 r7 r8 r9 r10 rlt rf k0 k1 k2 k3 k4 k5 k6 k7 k8 k9 k10)
        have k0 : w9.cell? ⟨w.heap.size, 0, none⟩ = some (.int .u8 (X 4 : Nat)) := blk_cell H9.out.2.1 0
        have k1 : w9.cell? ⟨w.heap.size, 1, none⟩ = some (.int .u8 (X 5 : Nat)) := blk_cell H9.out.2.1 1
        have k2 : w9.cell? ⟨w.heap.size, 2, none⟩ = some (.int .u8 (X 6 : Nat)) := blk_cell H9.out.2.1 2
        have k3 : w9.cell? ⟨w.heap.size, 3, none⟩ = some (.int .i64 (X 7 : Nat)) := blk_cell H9.out.2.1 3
        have k4 : w9.cell? ⟨w.heap.size, 4, none⟩ = some (.int .i64 (Y 8 : Nat)) := blk_cell H9.out.2.1 4
        have k5 : w9.cell? ⟨w.heap.size, 5, none⟩ = some (.int .i64 (X 10 : Nat)) := blk_cell H9.out.2.1 5
        have k6 : w9.cell? ⟨w.heap.size, 6, none⟩ = some (.int .i64 (X 11 : Nat)) := blk_cell H9.out.2.1 6
        have k7 : w9.cell? ⟨w.heap.size, 7, none⟩ = some (.int .i64 (X 12 : Nat)) := blk_cell H9.out.2.1 7
        have k8 : w9.cell? ⟨w.heap.size, 8, none⟩ = some (.int .i64 (Y 13 : Nat)) := blk_cell H9.out.2.1 8
        have k9 : w9.cell? ⟨w.heap.size, 9, none⟩ = some (.int .u16 (Y 15 : Nat)) := blk_cell H9.out.2.1 9
        have k10 : w9.cell? ⟨w.heap.size, 10, none⟩ = some (vp) := blk_cell H9.out.2.1 10
        refine bodyPost_ret (v := .tuple #[.agg #[.int .u8 (X 4 : Nat), .int .u8 (X 5 : Nat), .int .u8 (X 6 : Nat), .int .i64 (X 7 : Nat), .int .i64 (Y 8 : Nat), .int .i64 (X 10 : Nat), .int .i64 (X 11 : Nat), .int .i64 (X 12 : Nat), .int .i64 (Y 13 : Nat), .int .u16 (Y 15 : Nat), vp], .int .i64 0]) (by simp [results, Tryd.results9, go_sem, k0, k1, k2, k3, k4, k5, k6, k7, k8, k9, k10]) rfl ?_
        exact ⟨H9.out.1, .inr ⟨HRr.out.symm, vp, rfl, H9.out.2.2⟩⟩
      · have hrb : (r != 0) = true := by simp [hr0]
        have HR0z := Lib.hid hr0
        clear hr0
        go_wp2_with (refine wpList_store_row rfl 26 _ _ rfl w.heap.size #[.int .u8 0, .int .u8 0, .int .u8 0, .int .i64 0, .int .i64 0, .int .i64 0, .int .i64 0, .int .i64 0, .int .i64 0, .int .u16 0, .slice none 0 0] rfl rfl _ zeroCfg HRs.out info_cfg rfl one_zero ?_; rw [HSelf.out])
        refine bodyPost_ret (v := .tuple #[.agg zeroCfg, .int .i64 r]) (by simp [results, Tryd.results9, go_sem, r0, r1, r2, r3, r4, r5, r6, r7, r8, r9, r10, zeroCfg]) rfl ?_
        exact ⟨HR8.out.ext, .inl ⟨by rw [← HRr.out]; exact HR0z.out, by rw [HRr.out]⟩⟩
end Go.Proofs.YtjooacmmgbpkfaaDoor
