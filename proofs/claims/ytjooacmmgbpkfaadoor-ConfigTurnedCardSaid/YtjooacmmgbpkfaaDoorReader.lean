/- Contracts of config.reader's methods: each takes bytes that are there. -/
import Derived.Test.YtjooacmmgbpkfaaDoorWordB
namespace Go.Proofs.YtjooacmmgbpkfaaDoor
open Go.RowKit

/-- A reader of bytes x that has taken k of them. -/
def Rd (W : World) (g : Nat) (x : List Nat) (k : Nat) : Prop :=
  ∃ v, W.heap[g]? = some (.cells #[v] 56 (0, 0)) ∧ (k < x.length → ∃ b off n c, n + k = x.length ∧ v = .slice (some ⟨b, off + k, none⟩) n c ∧ n ≤ c ∧ c ≤ maxLen ∧ b < g ∧ ∀ i, i < x.length → W.cell? ⟨b, off + i, none⟩ = some (.int .u8 ((x.getD i 0 : Nat) : Int)))
theorem Rd.kept {S : Nat → Prop} {W W' : World} {g : Nat} {x : List Nat} {k : Nat} (h : Rd W g x k) (hk : Kept S W W') (hg : ∀ j, S j → g < j) : Rd W' g x k := by
  obtain ⟨v, h1, h2⟩ := h
  refine ⟨v, hk.heap h1 (fun h => Nat.lt_irrefl _ (hg g h)), fun hlt => ?_⟩
  obtain ⟨b, off, n, c, e1, e2, e3, e4, e5, e6⟩ := h2 hlt
  exact ⟨b, off, n, c, e1, e2, e3, e4, e5, fun i hi => hk.cell (e6 i hi) (fun h => Nat.lt_asymm e5 (hg b h))⟩
theorem Rd.ext {W W' : World} {g : Nat} {x : List Nat} {k : Nat} (h : Rd W g x k) (hx : Ext W W') : Rd W' g x k := by
  obtain ⟨v, h1, h2⟩ := h
  refine ⟨v, hx.heap h1, fun hlt => ?_⟩
  obtain ⟨b, off, n, c, e1, e2, e3, e4, e5, e6⟩ := h2 hlt
  exact ⟨b, off, n, c, e1, e2, e3, e4, e5, fun i hi => hx.cell' (e6 i hi)⟩

theorem reader_one (g : Nat) (x : List Nat) (k : Nat) (w : World) (hr : Rd w g x k) (hk : k < x.length) (hb : Bytes x) :
    Calls Tryd.prog 22 #[.pointer (some ⟨g, 0, none⟩)] w fun e w' => e = .returned (.int .i64 ((x.getD k 0 : Nat) : Int)) ∧ (Rd w' g x (k + 1) ∧ Kept (fun j => j = g) w w') := by
  obtain ⟨v, hg, h2⟩ := hr
  obtain ⟨b, off, n, c, e1, rfl, e3, e4, e5, e6⟩ := h2 hk
  have hx := e6 k hk
  have hxb := hb.at_ k
  obtain ⟨y, hy⟩ : ∃ y, y = x.getD k 0 := ⟨_, rfl⟩
  rw [← hy] at hx hxb ⊢
  have hc := blk_cell hg 0
  have hf := blk_free hg 0
  simp at hc
  unfold maxLen at e4
  have hn : 0 < n := by omega
  have hgs := lt_of_block hg
  have HG := Lib.hid hg
  have HE := Lib.hid e6
  have HK := Lib.hid hk
  have HN := Lib.hid e1
  have HY := Lib.hid hy
  clear h2 hg e6 hk hy hb e1
  have hkept : ∀ u : Value, Kept (fun j => j = g) w (w.setCell ⟨g, 0, none⟩ u) := by
    intro u
    refine Kept.setCell (Kept.refl _ w) ?_ u
    exact fun _ => rfl
  have HKp := Lib.hid hkept
  clear hkept
  by_cases hc1 : c = 1
  · have HC1 := Lib.hid hc1
    subst hc1
    go_enter Tryd.func22, Tryd.ntmps22
    go_wp2_with fail
    go_ret
    refine ⟨rfl, ⟨_, heap_setCell_same _ g 0 _ _ _ HG.out, fun h => ?_⟩, HKp.out _⟩
    have := HN.out
    omega
  · have hc2 : 1 < c := by omega
    go_enter Tryd.func22, Tryd.ntmps22
    go_wp2_with fail
    go_ret
    refine ⟨rfl, ⟨_, heap_setCell_same _ g 0 _ _ _ HG.out, fun h => ⟨b, off, n - 1, c - 1, by have := HN.out; omega, rfl, by omega, by unfold maxLen; omega, e5, fun i hi => ?_⟩⟩, HKp.out _⟩
    exact (HKp.out _).cell (HE.out i hi) (fun e => Nat.ne_of_lt e5 e)

theorem i64_or_nat (a b : Nat) (ha : a < 2 ^ 62) (hb : b < 2 ^ 62) : bits .or .i64 (a : Int) (b : Int) = ((a ||| b : Nat) : Int) := by
  have hx : a ||| b < 2 ^ 62 := Nat.or_lt_two_pow ha hb
  show IntKind.i64.wrap ((BitVec.ofInt 64 (a : Int) ||| BitVec.ofInt 64 (b : Int)).toNat : Int) = _
  rw [BitVec.toNat_or, BitVec.ofInt_natCast, BitVec.ofInt_natCast, BitVec.toNat_ofNat, BitVec.toNat_ofNat, Nat.mod_eq_of_lt (by omega), Nat.mod_eq_of_lt (by omega), IntKind.wrap_i64]
  omega
theorem or_bytes (a b : Nat) (hb : b < 256) : a * 256 ||| b = 256 * a + b := by
  have := Nat.two_pow_add_eq_or_of_lt (i := 8) (b := b) hb a
  rw [Nat.mul_comm a 256]
  exact this.symm
theorem reader_two (g : Nat) (x : List Nat) (k : Nat) (w : World) (hr : Rd w g x k) (hk : k + 1 < x.length) (hb : Bytes x) :
    Calls Tryd.prog 23 #[.pointer (some ⟨g, 0, none⟩)] w fun e w' => e = .returned (.int .i64 ((256 * x.getD k 0 + x.getD (k + 1) 0 : Nat) : Int)) ∧ (Rd w' g x (k + 2) ∧ Kept (fun j => j = g) w w') := by
  have H1 := Lib.hid (fun W (h : Rd W g x k) => reader_one g x k W h (by omega) hb)
  have H2 := Lib.hid (fun W (h : Rd W g x (k + 1)) => reader_one g x (k + 1) W h hk hb)
  have HR := Lib.hid hr
  have ha := hb.at_ k
  have hb2 := hb.at_ (k + 1)
  obtain ⟨p, hp⟩ : ∃ p, p = x.getD k 0 := ⟨_, rfl⟩
  obtain ⟨q, hq⟩ : ∃ q, q = x.getD (k + 1) 0 := ⟨_, rfl⟩
  rw [← hp] at ha H1 ⊢
  rw [← hq] at hb2 H2 ⊢
  have HO := Lib.hid (or_bytes p q hb2)
  clear hr hk hb hp hq
  go_enter Tryd.func23, Tryd.ntmps23
  go_wp2_with fail
  refine (H1.out _ HR.out).mono ?_
  rintro e w1 ⟨rfl, hr1, hk1⟩
  have HR1 := Lib.hid hr1
  have HK1 := Lib.hid hk1
  clear hr1 hk1
  go_wp2_with fail
  refine (H2.out _ HR1.out).mono ?_
  rintro e w2 ⟨rfl, hr2, hk2⟩
  have HR2 := Lib.hid hr2
  have HK2 := Lib.hid (HK1.out.trans hk2 (fun _ _ h => h))
  clear hr2 hk2
  go_wp2_with fail
  go_ret
  exact ⟨ret_int ((i64_or_nat (p * 256) q (by omega) (by omega)).trans (congrArg _ HO.out)), HR2.out, HK2.out⟩
end Go.Proofs.YtjooacmmgbpkfaaDoor
