/- config's and triuneref09's Bytes and Read: one contract each, whatever comes in. -/
import Derived.Test.YtjooacmmgbpkfaaDoorImage
import Derived.Test.YtjooacmmgbpkfaaDoorRefBytes
import Derived.Test.YtjooacmmgbpkfaaDoorRefRead
import Derived.Test.YtjooacmmgbpkfaaDoorSames
namespace Go.Proofs.YtjooacmmgbpkfaaDoor
open Go.RowKit

def CfgIn (w : World) (c : Cfg) (v : Value) : Prop := Sz w 5 v c.pts.length (c.pts.flatMap Pt.vals) ∧ (c.u0 < 256 ∧ c.u1 < 256 ∧ c.u2 < 256) ∧ c.key < 65536
theorem CfgIn.ext {w w' : World} {c : Cfg} {v : Value} (h : CfgIn w c v) (k : Ext w w') : CfgIn w' c v := ⟨h.1.ext k, h.2⟩

def BytesPost (w : World) (c : Cfg) (e : Ending) (w' : World) : Prop := ∃ v', e = .returned (.tuple #[v', .int .i64 c.code]) ∧ w'.ownsRow w.heap.size 5 1 v' (image c).length (by8 (image c)) ∧ Ext w w'
theorem config_Bytes_all (c : Cfg) (v : Value) (w : World) (hc : CfgIn w c v) (hg : Laid w) : Calls Tryd.prog 7 #[c.val v] w (BytesPost w c) := by
  obtain ⟨hv, hu, hk⟩ := hc
  by_cases h0 : c.code = 0
  · obtain ⟨n, rfl, hs⟩ := code_zero h0 hk hu
    refine (config_Bytes_yes n v w hv hg hs h0).mono ?_
    rintro e w' ⟨v', rfl, ho, hx⟩
    refine ⟨v', by rw [h0], ?_, hx⟩
    rw [image_yes h0, put_length]
    exact ho
  · refine (config_Bytes_no c v w hv hg hu h0).mono ?_
    rintro e w' ⟨rfl, hx⟩
    refine ⟨_, rfl, ?_, hx⟩
    rw [image_no h0]
    exact World.ownsRow_nil _ _ _ _
theorem ref_Bytes_all (c : Cfg) (v : Value) (w : World) (hc : CfgIn w c v) : Calls Tryd.prog 8 #[c.val v] w (BytesPost w c) := by
  obtain ⟨hv, hu, hk⟩ := hc
  by_cases h0 : c.code = 0
  · obtain ⟨n, rfl, hs⟩ := code_zero h0 hk hu
    refine (ref_Bytes_yes n v w hv hs h0).mono ?_
    rintro e w' ⟨v', rfl, ho, hx⟩
    refine ⟨v', by rw [h0], ?_, hx⟩
    rw [image_yes h0]
    exact ho
  · refine (ref_Bytes_no c v w hv hu h0).mono ?_
    rintro e w' ⟨rfl, hx⟩
    refine ⟨_, rfl, ?_, hx⟩
    rw [image_no h0]
    exact World.ownsRow_nil _ _ _ _

def ReadAll (w : World) (l : List Nat) (e : Ending) (w' : World) : Prop := ∃ v', e = .returned (.tuple #[(readCfg l).val v', .int .i64 (readCode l)]) ∧ CfgIn w' (readCfg l) v' ∧ Ext w w'
theorem zero_in (w : World) : CfgIn w zeroC (.slice none 0 0) := ⟨Sz.nil w 5, by simp [zeroC], by simp [zeroC]⟩
theorem zero_val : zeroC.val (.slice none 0 0) = .agg zeroCfg := rfl
theorem readCfg_no {l : List Nat} (h : readCode l ≠ 0) : readCfg l = zeroC := by unfold readCfg; rw [if_neg h]
theorem sumB_false {l : List Nat} (h : sumB l = false) : l.length < 2 ∨ crcL 65535 l ≠ 0 := by
  unfold sumB at h
  by_cases h1 : l.length < 2
  · exact .inl h1
  · refine .inr fun h2 => ?_
    simp [h2, show 2 ≤ l.length from by omega] at h
theorem readPost_all {w w' : World} {l : List Nat} {e : Ending} (hb : Bytes l) (h1 : sumB l = true) (h2 : formB (front l) = true) (h : ReadPost w (cfgOf (front l)).cfg e w') : ReadAll w l e w' := by
  have hc : readCode l = (cfgOf (front l)).cfg.code := by unfold readCode; rw [if_pos h1, if_pos h2]
  obtain ⟨hx, ⟨h0, rfl⟩ | ⟨h0, v', rfl, hs⟩⟩ := h
  · have hne : readCode l ≠ 0 := by rw [hc]; exact h0
    refine ⟨.slice none 0 0, ?_, ?_, hx⟩
    · rw [readCfg_no hne, zero_val, hc]
    · rw [readCfg_no hne]; exact zero_in w'
  · have he : readCode l = 0 := by rw [hc]; exact h0
    have hd : readCfg l = (cfgOf (front l)).cfg := by unfold readCfg; rw [if_pos he]
    refine ⟨v', by rw [hd, he], ?_, hx⟩
    rw [hd]
    exact ⟨hs, cfgOf_bounds hb.front⟩
theorem config_Read_all (v : Value) (l : List Nat) (w : World) (hl : Sl w v (by8 l)) (hb : Bytes l) (h47 : l.length ≤ 3000) (hg : Laid w) : Calls Tryd.prog 9 #[v] w (ReadAll w l) := by
  cases h1 : sumB l with
  | false =>
    refine (config_Read_sum v l w hl hb (sumB_false h1)).mono ?_
    rintro e w' ⟨rfl, hx⟩
    have hc : readCode l = 6 := by unfold readCode; rw [h1]; rfl
    refine ⟨.slice none 0 0, ?_, ?_, hx⟩
    · rw [readCfg_no (by rw [hc]; decide), zero_val, hc]
    · rw [readCfg_no (by rw [hc]; decide)]; exact zero_in w'
  | true =>
    have h1' := h1
    unfold sumB at h1'
    simp only [Bool.and_eq_true, decide_eq_true_eq] at h1'
    cases h2 : formB (front l) with
    | false =>
      refine (config_Read_form v l w hl hb h1'.1 h1'.2 h47 (front l) rfl h2).mono ?_
      rintro e w' ⟨rfl, hx⟩
      have hc : readCode l = 2 := by unfold readCode; rw [h1, h2]; rfl
      refine ⟨.slice none 0 0, ?_, ?_, hx⟩
      · rw [readCfg_no (by rw [hc]; decide), zero_val, hc]
      · rw [readCfg_no (by rw [hc]; decide)]; exact zero_in w'
    | true =>
      refine (config_Read_main v l w hl hb h1'.1 h1'.2 h47 hg (front l) rfl h2).mono ?_
      intro e w' h
      exact readPost_all hb h1 h2 h
theorem ref_Read_all (v : Value) (l : List Nat) (w : World) (hl : Sl w v (by8 l)) (hb : Bytes l) (h47 : l.length ≤ 3000) : Calls Tryd.prog 10 #[v] w (ReadAll w l) := by
  cases h1 : sumB l with
  | false =>
    refine (ref_Read_sum v l w hl hb (sumB_false h1) (by omega)).mono ?_
    rintro e w' ⟨rfl, hx⟩
    have hc : readCode l = 6 := by unfold readCode; rw [h1]; rfl
    refine ⟨.slice none 0 0, ?_, ?_, hx⟩
    · rw [readCfg_no (by rw [hc]; decide), zero_val, hc]
    · rw [readCfg_no (by rw [hc]; decide)]; exact zero_in w'
  | true =>
    have h1' := h1
    unfold sumB at h1'
    simp only [Bool.and_eq_true, decide_eq_true_eq] at h1'
    cases h2 : formB (front l) with
    | false =>
      refine (ref_Read_form v l w hl hb h1'.1 h1'.2 h47 (front l) rfl h2).mono ?_
      rintro e w' ⟨rfl, hx⟩
      have hc : readCode l = 2 := by unfold readCode; rw [h1, h2]; rfl
      refine ⟨.slice none 0 0, ?_, ?_, hx⟩
      · rw [readCfg_no (by rw [hc]; decide), zero_val, hc]
      · rw [readCfg_no (by rw [hc]; decide)]; exact zero_in w'
    | true =>
      refine (ref_Read_main v l w hl hb h1'.1 h1'.2 h47 (front l) rfl h2).mono ?_
      intro e w' h
      exact readPost_all hb h1 h2 h

/-! ### The configuration of 'awake' -/
def cfg0 : Cfg := ⟨1, 2, 3, 1, 5, 2, 3, 4, 100, 7, [⟨2, 1, 2, 0, 1⟩]⟩
theorem cfg0_code : cfg0.code = 0 := by decide +kernel
theorem zero_code : zeroC.code = 4 := by decide +kernel
theorem cfg0_len : (image cfg0).length = 29 := by decide +kernel
theorem cfg0_read : readCode (image cfg0) = 0 ∧ readCfg (image cfg0) = cfg0 := by
  obtain ⟨n, e, hs⟩ := code_zero cfg0_code (by decide) (by decide)
  have h := cfg0_code
  rw [e] at h ⊢
  exact read_image h hs
theorem short_read : readCode [1, 2, 3] = 6 := by decide +kernel
end Go.Proofs.YtjooacmmgbpkfaaDoor
