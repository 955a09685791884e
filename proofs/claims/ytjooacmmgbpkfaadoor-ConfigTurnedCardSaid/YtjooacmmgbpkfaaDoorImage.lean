/- Images: a configuration's bytes, that of bytes, and that they give each other back. Plain. -/
import Derived.Test.YtjooacmmgbpkfaaDoorReadQ
import Derived.Test.YtjooacmmgbpkfaaDoorCfgBytes
namespace Go.Proofs.YtjooacmmgbpkfaaDoor
open Go.RowKit

def Cfg.toN (c : Cfg) : CfgN := ⟨c.u0, c.u1, c.u2, c.gap.toNat, c.wait.toNat, c.tries.toNat, c.strikes.toNat, c.queue.toNat, c.idle.toNat, c.key, c.pts.map fun p => ⟨p.kind.toNat, p.addr.toNat, p.at_.toNat, p.band.toNat, p.safe.toNat⟩⟩
theorem toN_cfg (n : CfgN) : n.cfg.toN = n := by
  obtain ⟨n0, n1, n2, gap, wait, tries, strikes, queue, idle, key, pts⟩ := n
  simp only [Cfg.toN, CfgN.cfg, Int.toNat_natCast, List.map_map, CfgN.mk.injEq, true_and]
  conv => rhs; rw [← List.map_id pts]
  refine List.map_congr_left fun p _ => ?_
  cases p
  simp [PtN.pt]
/-- A configuration's bytes; none if it may not be. -/
def image (c : Cfg) : List Nat := if c.code = 0 then put c.toN.bytes else []
theorem image_yes {n : CfgN} (h : n.cfg.code = 0) : image n.cfg = put n.bytes := by
  unfold image
  rw [if_pos h, toN_cfg]
theorem image_no {c : Cfg} (h : c.code ≠ 0) : image c = [] := by
  unfold image
  rw [if_neg h]
def front (l : List Nat) : List Nat := l.take (l.length - 2)
def cfgOf (x : List Nat) : CfgN := cfgXY (fun k => x.getD k 0) (fun k => 256 * x.getD k 0 + x.getD (k + 1) 0)
def sumB (l : List Nat) : Bool := decide (2 ≤ l.length) && decide (crcL 65535 l = 0)
def zeroC : Cfg := ⟨0, 0, 0, 0, 0, 0, 0, 0, 0, 0, []⟩
/-- What is read of bytes: which error; which configuration. -/
def readCode (l : List Nat) : Int := if sumB l = true then if formB (front l) = true then (cfgOf (front l)).cfg.code else 2 else 6
def readCfg (l : List Nat) : Cfg := if readCode l = 0 then (cfgOf (front l)).cfg else zeroC

theorem flat_getN {α : Type} (f : α → List Nat) (sz : Nat) (hf : ∀ x, (f x).length = sz) : ∀ (l : List α) (i j : Nat), j < sz → (l.flatMap f)[i * sz + j]? = (l[i]?).bind fun x => (f x)[j]?
  | [], i, j, _ => by simp
  | x :: l, 0, j, hj => by
    rw [List.flatMap_cons, List.getElem?_append_left (by rw [hf]; omega)]
    simp
  | x :: l, i + 1, j, hj => by
    rw [List.flatMap_cons, List.getElem?_append_right (by rw [hf, Nat.succ_mul]; omega), hf, show (i + 1) * sz + j - sz = i * sz + j from by rw [Nat.succ_mul]; omega, flat_getN f sz hf l i j hj]
    simp
theorem bytes_head (n : CfgN) (i : Nat) (h : i < 18) : n.bytes.getD i 0 = n.head.getD i 0 := by
  have hl := head_len n
  unfold CfgN.bytes
  rw [List.getD_eq_getElem?_getD, List.getD_eq_getElem?_getD, List.getElem?_append_left (by omega)]
theorem bytes_pt (n : CfgN) (q r : Nat) (p : PtN) (hq : n.pts[q]? = some p) (hr : r < 9) : n.bytes.getD (18 + 9 * q + r) 0 = p.bytes.getD r 0 := by
  have hl := head_len n
  unfold CfgN.bytes
  rw [List.getD_eq_getElem?_getD, List.getD_eq_getElem?_getD, List.getElem?_append_right (by omega), hl, show 18 + 9 * q + r - 18 = q * 9 + r from by omega, flat_getN PtN.bytes 9 ptb_len _ _ _ hr, hq]
  rfl
theorem two_back (n : Nat) : 256 * (n / 256) + n % 256 = n := by omega
theorem pt_back (n : CfgN) (q : Nat) (p : PtN) (hq : n.pts[q]? = some p) : ptXY (fun k => n.bytes.getD k 0) (fun k => 256 * n.bytes.getD k 0 + n.bytes.getD (k + 1) 0) (18 + 9 * q) = p := by
  have h : ∀ r, r < 9 → n.bytes.getD (18 + 9 * q + r) 0 = p.bytes.getD r 0 := fun r hr => bytes_pt n q r p hq hr
  unfold ptXY
  have h0 := h 0 (by omega)
  rw [Nat.add_zero] at h0
  simp only [h0, Nat.add_assoc, Nat.reduceAdd]
  simp only [← Nat.add_assoc]
  rw [h 1 (by omega), h 2 (by omega), h 3 (by omega), h 4 (by omega), h 5 (by omega), h 6 (by omega), h 7 (by omega), h 8 (by omega)]
  obtain ⟨k, a, t, b, s⟩ := p
  simp [PtN.bytes, wordsB]
  omega
/-- A configuration comes back from its bytes. -/
theorem cfg_back (n : CfgN) (hs : n.Small) : cfgOf n.bytes = n ∧ formB n.bytes = true := by
  have h : ∀ i, i < 18 → n.bytes.getD i 0 = n.head.getD i 0 := bytes_head n
  have h17 : n.bytes.getD 17 0 = n.pts.length := by rw [h 17 (by omega)]; rfl
  constructor
  · unfold cfgOf cfgXY
    have hp : ptsXY (fun k => n.bytes.getD k 0) (fun k => 256 * n.bytes.getD k 0 + n.bytes.getD (k + 1) 0) n.pts.length = n.pts := by
      refine List.ext_getElem? fun i => ?_
      unfold ptsXY
      rw [List.getElem?_map]
      by_cases hi : i < n.pts.length
      · rw [List.getElem?_range hi, List.getElem?_eq_getElem hi]
        exact congrArg some (pt_back n i _ (List.getElem?_eq_getElem hi))
      · rw [List.getElem?_eq_none (by simp; omega), List.getElem?_eq_none (by omega)]
        rfl
    simp only [h17, hp]
    rw [h 4 (by omega), h 5 (by omega), h 6 (by omega), h 7 (by omega), h 8 (by omega), h 9 (by omega), h 10 (by omega), h 11 (by omega), h 12 (by omega), h 13 (by omega), h 14 (by omega), h 15 (by omega), h 16 (by omega)]
    obtain ⟨n0, n1, n2, gap, wait, tries, strikes, queue, idle, key, pts⟩ := n
    simp [CfgN.head, wordsB]
    omega
  · unfold formB
    have hl := bytes_len n
    rw [h17]
    have ht : n.bytes.take 4 = [84, 77, 82, 49] := by
      unfold CfgN.bytes CfgN.head
      rfl
    simp [ht, hl]
theorem front_put (l : List Nat) : front (put l) = l := by
  unfold front put
  simp
theorem read_image {n : CfgN} (h0 : n.cfg.code = 0) (hs : n.Small) : readCode (image n.cfg) = 0 ∧ readCfg (image n.cfg) = n.cfg := by
  have h1 : readCode (image n.cfg) = 0 := by
    rw [image_yes h0]
    unfold readCode
    rw [front_put, if_pos (by simp [sumB, put_zero, put_length]), if_pos (cfg_back n hs).2, (cfg_back n hs).1, h0]
  refine ⟨h1, ?_⟩
  unfold readCfg
  rw [if_pos h1, image_yes h0, front_put, (cfg_back n hs).1]

theorem getD_bytes {x : List Nat} (hb : Bytes x) (k : Nat) : (256 * x.getD k 0 + x.getD (k + 1) 0) / 256 = x.getD k 0 ∧ (256 * x.getD k 0 + x.getD (k + 1) 0) % 256 = x.getD (k + 1) 0 := by
  have := hb.at_ (k + 1)
  omega
/-- Bytes of the form come back from their configuration. -/
theorem bytes_back {x : List Nat} (hb : Bytes x) (hf : formB x = true) : (cfgOf x).bytes = x := by
  unfold formB at hf
  simp only [Bool.and_eq_true, decide_eq_true_eq] at hf
  obtain ⟨h18, hm, hln⟩ := hf
  have hlen : (cfgOf x).bytes.length = x.length := by
    rw [bytes_len, hln]
    unfold cfgOf cfgXY
    simp only [ptsXY_length]
  refine getD_ext hlen fun i hi => ?_
  rw [hlen] at hi
  have g := getD_bytes hb
  have hmg : ∀ j, j < 4 → x.getD j 0 = [84, 77, 82, 49].getD j 0 := fun j hj => by
    rw [← hm, List.getD_eq_getElem?_getD, List.getD_eq_getElem?_getD, List.getElem?_take, if_pos hj]
  by_cases h : i < 18
  · rw [bytes_head _ i h]
    unfold cfgOf cfgXY CfgN.head
    have e1 := g 8; have e2 := g 13; have e3 := g 15
    have m0 := hmg 0 (by omega); have m1 := hmg 1 (by omega); have m2 := hmg 2 (by omega); have m3 := hmg 3 (by omega)
    have hi18 : i = 0 ∨ i = 1 ∨ i = 2 ∨ i = 3 ∨ i = 4 ∨ i = 5 ∨ i = 6 ∨ i = 7 ∨ i = 8 ∨ i = 9 ∨ i = 10 ∨ i = 11 ∨ i = 12 ∨ i = 13 ∨ i = 14 ∨ i = 15 ∨ i = 16 ∨ i = 17 := by omega
    simp only [wordsB, List.flatMap_cons, List.flatMap_nil, e1.1, e1.2, e2.1, e2.2, e3.1, e3.2, ptsXY_length]
    rcases hi18 with rfl | rfl | rfl | rfl | rfl | rfl | rfl | rfl | rfl | rfl | rfl | rfl | rfl | rfl | rfl | rfl | rfl | rfl
    · rw [m0]; rfl
    · rw [m1]; rfl
    · rw [m2]; rfl
    · rw [m3]; rfl
    all_goals rfl
  · obtain ⟨q, r, hr, rfl⟩ : ∃ q r, r < 9 ∧ i = 18 + 9 * q + r := ⟨(i - 18) / 9, (i - 18) % 9, by omega, by omega⟩
    have hq : q < x.getD 17 0 := by omega
    have hp : (cfgOf x).pts[q]? = some (ptXY (fun k => x.getD k 0) (fun k => 256 * x.getD k 0 + x.getD (k + 1) 0) (18 + 9 * q)) := by
      unfold cfgOf cfgXY ptsXY
      simp only
      rw [List.getElem?_map, List.getElem?_range hq]
      rfl
    rw [bytes_pt _ q r _ hp hr]
    generalize 18 + 9 * q = a
    unfold PtN.bytes ptXY
    have e1 := g (a + 1); have e2 := g (a + 3); have e3 := g (a + 5); have e4 := g (a + 7)
    simp only [wordsB, List.flatMap_cons, List.flatMap_nil, e1.1, e1.2, e2.1, e2.2, e3.1, e3.2, e4.1, e4.2]
    have hr9 : r = 0 ∨ r = 1 ∨ r = 2 ∨ r = 3 ∨ r = 4 ∨ r = 5 ∨ r = 6 ∨ r = 7 ∨ r = 8 := by omega
    rcases hr9 with rfl | rfl | rfl | rfl | rfl | rfl | rfl | rfl | rfl
    all_goals rfl
theorem cfgOf_bounds {x : List Nat} (hb : Bytes x) : ((cfgOf x).u0 < 256 ∧ (cfgOf x).u1 < 256 ∧ (cfgOf x).u2 < 256) ∧ (cfgOf x).key < 65536 := by
  unfold cfgOf cfgXY
  have h1 := hb.at_ 15; have h2 := hb.at_ (15 + 1)
  exact ⟨⟨hb.at_ 4, hb.at_ 5, hb.at_ 6⟩, by simp only; omega⟩
theorem Bytes.front {l : List Nat} (h : Bytes l) : Bytes (front l) := fun c hc => h c (List.mem_of_mem_take hc)
theorem readCode_zero {l : List Nat} (h : readCode l = 0) : sumB l = true ∧ formB (front l) = true ∧ (cfgOf (front l)).cfg.code = 0 := by
  unfold readCode at h
  split at h
  · rename_i h1
    split at h
    · rename_i h2
      exact ⟨h1, h2, h⟩
    · simp at h
  · simp at h
/-- What is read has just these bytes. -/
theorem image_read {l : List Nat} (hb : Bytes l) (h : readCode l = 0) : image (readCfg l) = l ∧ (readCfg l).code = 0 := by
  obtain ⟨h1, h2, h3⟩ := readCode_zero h
  have e : readCfg l = (cfgOf (front l)).cfg := by unfold readCfg; rw [if_pos h]
  rw [e]
  refine ⟨?_, h3⟩
  unfold sumB at h1
  simp only [Bool.and_eq_true, decide_eq_true_eq] at h1
  rw [image_yes h3, bytes_back hb.front h2]
  exact (put_iff hb h1.1).2 h1.2
theorem readCfg_bounds {l : List Nat} (hb : Bytes l) : ((readCfg l).u0 < 256 ∧ (readCfg l).u1 < 256 ∧ (readCfg l).u2 < 256) ∧ (readCfg l).key < 65536 := by
  unfold readCfg
  split
  · exact cfgOf_bounds hb.front
  · simp [zeroC]
theorem image_bytes {c : Cfg} (hu : c.u0 < 256 ∧ c.u1 < 256 ∧ c.u2 < 256) (hk : c.key < 65536) : Bytes (image c) ∧ (image c).length ≤ 3000 ∧ (c.code = 0 → (image c).length = 20 + 9 * c.pts.length) := by
  by_cases h : c.code = 0
  · obtain ⟨n, rfl, hs⟩ := code_zero h hk hu
    rw [image_yes h]
    have h1 := bytes_len n
    have h2 := hs.len
    refine ⟨put_bytes (bytes_bytes hs), by rw [put_length]; omega, fun _ => ?_⟩
    rw [put_length, h1]
    simp [CfgN.cfg]
    omega
  · rw [image_no h]
    exact ⟨(fun c hc => by cases hc), by simp, fun h' => absurd h' h⟩
end Go.Proofs.YtjooacmmgbpkfaaDoor
