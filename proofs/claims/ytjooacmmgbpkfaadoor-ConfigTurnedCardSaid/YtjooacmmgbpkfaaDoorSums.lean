/- Sums of bytes (the published CRC-16/MODBUS), in plain numbers: linear, one to one, 0 behind its own two bytes, and never 0 where up to 16 bits are turned. No conditions but bounds. -/
import Derived.Laws.BitsAllLaws
namespace Go.Proofs.YtjooacmmgbpkfaaDoor

/-- One bit's step. -/
def crc1 (n : Nat) : Nat := n / 2 ^^^ (if n % 2 = 1 then 40961 else 0)
def crcN : Nat → Nat → Nat
  | 0, n => n
  | k + 1, n => crcN k (crc1 n)
/-- One byte's. -/
def crcB (n c : Nat) : Nat := crcN 8 (n ^^^ c)
def crcL (n : Nat) (l : List Nat) : Nat := l.foldl crcB n

theorem xor_lt16 {a b : Nat} (ha : a < 65536) (hb : b < 65536) : a ^^^ b < 65536 := Nat.xor_lt_two_pow (n := 16) ha hb
theorem crc1_lt {n : Nat} (h : n < 65536) : crc1 n < 65536 := by
  unfold crc1
  exact xor_lt16 (by omega) (by split <;> omega)
theorem crcN_lt : ∀ (k : Nat) {n : Nat}, n < 65536 → crcN k n < 65536
  | 0, _, h => h
  | k + 1, _, h => crcN_lt k (crc1_lt h)
theorem crcB_lt {n c : Nat} (h : n < 65536) (hc : c < 256) : crcB n c < 65536 := crcN_lt 8 (xor_lt16 h (by omega))
theorem crcL_lt : ∀ (l : List Nat) {n : Nat}, n < 65536 → (∀ c ∈ l, c < 256) → crcL n l < 65536
  | [], _, h, _ => h
  | c :: l, _, h, hl => crcL_lt l (crcB_lt h (hl c (by simp))) (fun x hx => hl x (by simp [hx]))
theorem crcN_add (j : Nat) : ∀ (k n : Nat), crcN (k + j) n = crcN j (crcN k n)
  | 0, n => by simp [crcN]
  | k + 1, n => by
    rw [show k + 1 + j = (k + j) + 1 from by omega]
    show crcN (k + j) (crc1 n) = _
    rw [crcN_add j k]
    rfl

theorem xor_mod2 (a b : Nat) : (a ^^^ b) % 2 = (a % 2 + b % 2) % 2 := by
  have := Nat.xor_mod_two_pow (a := a) (b := b) (n := 1)
  simp only [Nat.pow_one] at this
  rw [this]
  have ha := Nat.mod_two_eq_zero_or_one a
  have hb := Nat.mod_two_eq_zero_or_one b
  rcases ha with ha | ha <;> rcases hb with hb | hb <;> rw [ha, hb] <;> rfl
theorem xor_div2 (a b : Nat) : (a ^^^ b) / 2 = a / 2 ^^^ b / 2 := by
  have := Nat.xor_div_two_pow (a := a) (b := b) (n := 1)
  simpa using this
theorem crc1_xor (a b : Nat) : crc1 (a ^^^ b) = crc1 a ^^^ crc1 b := by
  unfold crc1
  rw [xor_mod2, xor_div2]
  have ha := Nat.mod_two_eq_zero_or_one a
  have hb := Nat.mod_two_eq_zero_or_one b
  rcases ha with ha | ha <;> rcases hb with hb | hb <;> rw [ha, hb] <;> simp
  · rw [Nat.xor_assoc]
  · rw [Nat.xor_assoc, Nat.xor_assoc, Nat.xor_comm 40961 (b / 2)]
  · rw [Nat.xor_assoc, ← Nat.xor_assoc 40961, Nat.xor_comm 40961 (b / 2), Nat.xor_assoc (b / 2), Nat.xor_self, Nat.xor_zero]
theorem crcN_xor : ∀ (k a b : Nat), crcN k (a ^^^ b) = crcN k a ^^^ crcN k b
  | 0, _, _ => rfl
  | k + 1, a, b => by show crcN k (crc1 (a ^^^ b)) = _; rw [crc1_xor, crcN_xor k]; rfl
theorem crc1_zero {n : Nat} (h : n < 65536) (hz : crc1 n = 0) : n = 0 := by
  unfold crc1 at hz
  split at hz
  · have : n / 2 = 40961 := by
      have := congrArg (· ^^^ 40961) hz
      simpa [Nat.xor_assoc] using this
    omega
  · simp at hz; omega
theorem crcN_zero : ∀ (k : Nat) {n : Nat}, n < 65536 → crcN k n = 0 → n = 0
  | 0, _, _, h => h
  | k + 1, _, h, hz => crc1_zero h (crcN_zero k (crc1_lt h) hz)
theorem crcN_of_zero : ∀ k : Nat, crcN k 0 = 0
  | 0 => rfl
  | k + 1 => by show crcN k (crc1 0) = 0; rw [show crc1 0 = 0 from rfl]; exact crcN_of_zero k
/-- A number of which the lowest bits are nought is moved down by as many. -/
theorem crcN_shift : ∀ (k n : Nat), crcN k (n * 2 ^ k) = n
  | 0, n => by simp [crcN]
  | k + 1, n => by
    show crcN k (crc1 (n * 2 ^ (k + 1))) = n
    have e : n * 2 ^ (k + 1) = 2 * (n * 2 ^ k) := by rw [Nat.pow_succ]; rw [Nat.mul_comm 2, Nat.mul_assoc]
    have : crc1 (n * 2 ^ (k + 1)) = n * 2 ^ k := by
      unfold crc1
      rw [e]
      simp
    rw [this]
    exact crcN_shift k n

/-- What is turned ahead of some bytes, behind them. -/
theorem crcL_xor : ∀ (l : List Nat) (a b : Nat), crcL (a ^^^ b) l = crcL a l ^^^ crcN (8 * l.length) b
  | [], a, b => rfl
  | c :: l, a, b => by
    show crcL (crcB (a ^^^ b) c) l = crcL (crcB a c) l ^^^ _
    have : crcB (a ^^^ b) c = crcB a c ^^^ crcN 8 b := by
      unfold crcB
      rw [Nat.xor_assoc, Nat.xor_comm b c, ← Nat.xor_assoc, crcN_xor]
    rw [this, crcL_xor l]
    congr 1
/-- The sum, where the bit r of the byte j is turned. -/
theorem crcL_turn : ∀ (l : List Nat) (j r a : Nat), j < l.length → r < 8 → crcL a (l.set j (l.getD j 0 ^^^ 2 ^ r)) = crcL a l ^^^ crcN (8 * l.length - (8 * j + r)) 1
  | [], j, r, a, h, _ => by simp at h
  | c :: l, 0, r, a, _, hr => by
    show crcL (crcB a (c ^^^ 2 ^ r)) l = crcL (crcB a c) l ^^^ _
    have : crcB a (c ^^^ 2 ^ r) = crcB a c ^^^ crcN (8 - r) 1 := by
      unfold crcB
      rw [← Nat.xor_assoc, crcN_xor]
      congr 1
      rw [show 8 = r + (8 - r) from by omega, crcN_add]
      have := crcN_shift r 1
      rw [Nat.one_mul] at this
      rw [this]
      congr 1
      omega
    rw [this, crcL_xor l]
    congr 1
    rw [← crcN_add]
    congr 1
    simp
    omega
  | c :: l, j + 1, r, a, h, hr => by
    show crcL (crcB a c) (l.set j (l.getD j 0 ^^^ 2 ^ r)) = crcL (crcB a c) l ^^^ _
    rw [crcL_turn l j r _ (by simpa using h) hr]
    congr 2
    simp
    omega
theorem crcL_append (l m : List Nat) (a : Nat) : crcL a (l ++ m) = crcL (crcL a l) m := by unfold crcL; rw [List.foldl_append]

/-- Bytes, and their sum behind them. -/
def put (l : List Nat) : List Nat := l ++ [crcL 65535 l % 256, crcL 65535 l / 256]
theorem xor_low (s : Nat) : s ^^^ s % 256 = s / 256 * 2 ^ 8 := by
  apply Nat.eq_of_testBit_eq
  intro i
  rw [show s % 256 = s % 2 ^ 8 from rfl, show s / 256 = s / 2 ^ 8 from rfl, Nat.testBit_xor, Nat.testBit_mod_two_pow, Nat.testBit_mul_two_pow, Nat.testBit_div_two_pow]
  by_cases h : i < 8
  · have : ¬ 8 ≤ i := by omega
    simp [h, this]
  · have : 8 ≤ i := by omega
    simp [h, this]
theorem put_zero (l : List Nat) : crcL 65535 (put l) = 0 := by
  unfold put
  rw [crcL_append]
  generalize crcL 65535 l = s
  show crcB (crcB s (s % 256)) (s / 256) = 0
  have : crcB s (s % 256) = s / 256 := by unfold crcB; rw [xor_low, crcN_shift]
  rw [this]
  unfold crcB
  rw [Nat.xor_self]
  exact crcN_of_zero 8
theorem put_bytes {l : List Nat} (h : ∀ c ∈ l, c < 256) : ∀ c ∈ put l, c < 256 := by
  intro c hc
  have := crcL_lt l (n := 65535) (by omega) h
  unfold put at hc
  simp at hc
  rcases hc with hc | hc | hc
  · exact h c hc
  · omega
  · omega
theorem put_length (l : List Nat) : (put l).length = l.length + 2 := by simp [put]

/-- T's lowest bits, one more of them. -/
theorem low_succ (T i : Nat) : T % 2 ^ (i + 1) = T % 2 ^ i ^^^ (T / 2 ^ i % 2) * 2 ^ i := by
  apply Nat.eq_of_testBit_eq
  intro k
  have ht := Nat.testBit_eq_decide_div_mod_eq (x := T) (i := i)
  rw [Nat.testBit_mod_two_pow, Nat.testBit_xor, Nat.testBit_mod_two_pow]
  rcases Nat.mod_two_eq_zero_or_one (T / 2 ^ i) with h | h
  · rw [h] at ht ⊢
    by_cases hk : k = i
    · subst hk; simp [ht]
    · by_cases h2 : k < i
      · simp [h2, show k < i + 1 from by omega]
      · simp [h2, show ¬ k < i + 1 from by omega]
  · rw [h] at ht ⊢
    rw [Nat.one_mul, Nat.testBit_two_pow]
    by_cases hk : k = i
    · subst hk; simp [ht]
    · by_cases h2 : k < i
      · simp [h2, show k < i + 1 from by omega, Ne.symm hk]
      · simp [h2, show ¬ k < i + 1 from by omega, Ne.symm hk]

/-- Bytes of which, from the bit 'at' on, the lowest i bits of T were turned: their sum, which was 0. -/
def Turned (n at_ T i : Nat) (l : List Nat) : Prop := l.length = n ∧ (∀ c ∈ l, c < 256) ∧ crcL 65535 l = crcN (8 * n - at_) (T % 2 ^ i)
theorem turned_start (at_ T : Nat) {l : List Nat} (h : ∀ c ∈ l, c < 256) (hz : crcL 65535 l = 0) : Turned l.length at_ T 0 l :=
  ⟨rfl, h, by rw [hz, Nat.pow_zero, Nat.mod_one, crcN_of_zero]⟩
theorem getD_lt {l : List Nat} (h : ∀ c ∈ l, c < 256) (j : Nat) : l.getD j 0 < 256 := by
  by_cases hj : j < l.length
  · simp [List.getD_eq_getElem?_getD, hj]; exact h _ (List.getElem_mem hj)
  · simp [List.getD_eq_getElem?_getD, hj]
theorem turned_bit {n at_ T i : Nat} {l : List Nat} (h : Turned n at_ T i l) (hb : T / 2 ^ i % 2 = 1) (hi : i < 16) (ha : at_ + 16 ≤ 8 * n) :
    Turned n at_ T (i + 1) (l.set ((at_ + i) / 8) (l.getD ((at_ + i) / 8) 0 ^^^ 2 ^ ((at_ + i) % 8))) := by
  obtain ⟨h1, h2, h3⟩ := h
  refine ⟨by simp [h1], ?_, ?_⟩
  · intro c hc
    rcases List.mem_or_eq_of_mem_set hc with hc | rfl
    · exact h2 c hc
    · exact Nat.xor_lt_two_pow (n := 8) (getD_lt h2 _) (Nat.pow_lt_pow_right (by omega) (by omega))
  · rw [crcL_turn l _ _ _ (by omega) (by omega), h3, low_succ, hb, crcN_xor, h1]
    congr 1
    rw [show 8 * n - at_ = i + (8 * n - (8 * ((at_ + i) / 8) + (at_ + i) % 8)) from by omega, crcN_add, crcN_shift]
theorem turned_none {n at_ T i : Nat} {l : List Nat} (h : Turned n at_ T i l) (hb : T / 2 ^ i % 2 = 0) : Turned n at_ T (i + 1) l := by
  obtain ⟨h1, h2, h3⟩ := h
  exact ⟨h1, h2, by rw [h3, low_succ, hb, Nat.zero_mul, Nat.xor_zero]⟩
theorem turned_end {n at_ T : Nat} {l : List Nat} (h : Turned n at_ T 16 l) (h0 : T ≠ 0) (hT : T < 65536) : crcL 65535 l ≠ 0 := by
  obtain ⟨_, _, h3⟩ := h
  rw [h3, Nat.mod_eq_of_lt hT]
  exact fun hz => h0 (crcN_zero _ hT hz)
end Go.Proofs.YtjooacmmgbpkfaaDoor
