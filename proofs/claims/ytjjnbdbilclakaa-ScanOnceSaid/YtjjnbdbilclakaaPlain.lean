/- The plain side of rounds: what each channel has polled, and the map that tells who has groups left. No Go in it but for the words on maps. -/
import Derived.Test.YtjjnbdbilclakaaBase
namespace Go.Proofs.Ytjjnbdbilclakaa
open Go.RowKit Go.Maps

/-- Has channel c a group left, of n, where it has polled p c? -/
def has (n : Int) (p : Int → Int) (c : Int) : Bool := decide (0 ≤ c ∧ c ≤ 2 ∧ p c < n)
def nxt (n : Int) (p : Int → Int) (c : Int) : Int := if has n p c then p c else 0
def upd (n : Int) (p : Int → Int) (c : Int) : Int → Int := fun x => if x = c ∧ has n p c = true then p c + 1 else p x
def ans (b : Bool) : Int := if b then 0 else 8
def full (n : Int) (p : Int → Int) : Bool := p 0 == n && p 1 == n && p 2 == n
/-- How much was polled fits. -/
def Ok (n : Int) (p : Int → Int) : Prop := 1 ≤ n ∧ n ≤ 48 ∧ ∀ c, 0 ≤ c → c ≤ 2 → 0 ≤ p c ∧ p c ≤ n

theorem Ok.upd {n : Int} {p : Int → Int} {c : Int} (h : Ok n p) : Ok n (upd n p c) := by
  refine ⟨h.1, h.2.1, fun x h0 h2 => ?_⟩
  have := h.2.2 x h0 h2
  unfold Ytjjnbdbilclakaa.upd
  split
  · rename_i hh
    obtain ⟨rfl, hb⟩ := hh
    simp [has] at hb
    omega
  · exact this

/-- How many channels have groups left. -/
def cnt (n : Int) (p : Int → Int) : Nat := (if has n p 0 then 1 else 0) + (if has n p 1 then 1 else 0) + (if has n p 2 then 1 else 0)

/-- The map as it reads. -/
structure MapIs (D : DataW Unit) (n : Int) (p : Int → Int) : Prop where
  key : ∀ c : Int, Maps.has D (.int .i64 c) = has n p c
  at_ : ∀ c : Int, D.atKey (.int .i64 c) (.lit (.int .i64 0)) = .lit (.int .i64 (nxt n p c))
  size : Maps.size D = cnt n p

theorem has_upd {n : Int} {p : Int → Int} {c x : Int} (h : has n p c = true) : has n (upd n p c) x = if x = c then decide (p c + 1 < n) else has n p x := by
  unfold has at h
  simp at h
  unfold has upd
  by_cases e : x = c
  · subst e
    simp [has, h]
  · simp [e]
theorem upd_self {n : Int} {p : Int → Int} {c : Int} (h : has n p c = true) : upd n p c c = p c + 1 := by simp [upd, h]
theorem upd_other {n : Int} {p : Int → Int} {c x : Int} (h : x ≠ c) : upd n p c x = p x := by simp [upd, h]
theorem nxt_upd {n : Int} {p : Int → Int} {c x : Int} (h : has n p c = true) : nxt n (upd n p c) x = if x = c then (if p c + 1 < n then p c + 1 else 0) else nxt n p x := by
  unfold nxt
  rw [has_upd h]
  by_cases e : x = c
  · subst e; simp [upd_self h]
  · simp [e, upd_other e]
theorem cnt_upd {n : Int} {p : Int → Int} {c : Int} (h : has n p c = true) : cnt n (upd n p c) + (if p c + 1 < n then 0 else 1) = cnt n p := by
  have hc : c = 0 ∨ c = 1 ∨ c = 2 := by unfold has at h; simp at h; omega
  have hc' := h
  unfold cnt
  simp only [has_upd h]
  rcases hc with rfl | rfl | rfl
  · by_cases hq : p 0 + 1 < n <;> simp [h, hq] <;> omega
  · by_cases hq : p 1 + 1 < n <;> simp [h, hq] <;> omega
  · by_cases hq : p 2 + 1 < n <;> simp [h, hq] <;> omega

theorem key_int (c : Int) : WideAt.IsKeyLit (.int .i64 c) := trivial

theorem mapIs_put {D : DataW Unit} {n : Int} {p : Int → Int} {c : Int} (hD : Tidy D) (h : MapIs D n p) (hc : has n p c = true) (hlt : p c + 1 < n) :
    MapIs (D.put (.int .i64 c) (.lit (.int .i64 (p c + 1)))) n (upd n p c) := by
  refine ⟨fun x => ?_, fun x => ?_, ?_⟩
  · rw [has_upd hc]
    by_cases e : x = c
    · subst e; simp [has_put_same hD.isMap (key_int _), hlt]
    · rw [has_put_other (by simpa using e), h.key]; simp [e]
  · rw [nxt_upd hc]
    by_cases e : x = c
    · subst e; simp [atKey_put_same hD.isMap (key_int _), hlt]
    · rw [atKey_put_other (by simpa using e), h.at_]; simp [e]
  · rw [size_put hD, h.key, hc, if_pos rfl, h.size]
    have := cnt_upd hc
    simp [hlt] at this
    exact this.symm
theorem mapIs_del {D : DataW Unit} {n : Int} {p : Int → Int} {c : Int} (hD : Tidy D) (h : MapIs D n p) (hc : has n p c = true) (hlt : ¬ p c + 1 < n) :
    MapIs ((D.put (.int .i64 c) (.lit (.int .i64 (p c + 1)))).del (.int .i64 c)) n (upd n p c) := by
  refine ⟨fun x => ?_, fun x => ?_, ?_⟩
  · rw [has_upd hc]
    by_cases e : x = c
    · subst e; simp [has_del_same, hlt]
    · rw [has_del_other (by simpa using e), has_put_other (by simpa using e), h.key]; simp [e]
  · rw [nxt_upd hc]
    by_cases e : x = c
    · subst e; simp [atKey_del_same, hlt]
    · rw [atKey_del_other (by simpa using e), atKey_put_other (by simpa using e), h.at_]; simp [e]
  · have h1 := size_del (k := .int .i64 c) (hD.put (key_int _) (.lit (.int .i64 (p c + 1))) (k := .int .i64 c))
    rw [has_put_same hD.isMap (key_int _), if_pos rfl, size_put hD, h.key, hc, if_pos rfl, h.size] at h1
    have := cnt_upd hc
    simp [hlt] at this
    omega
theorem cnt_zero {n : Int} {p : Int → Int} (h : Ok n p) : (cnt n p == 0) = full n p := by
  obtain ⟨_, _, hp⟩ := h
  have h0 := hp 0 (by omega) (by omega)
  have h1 := hp 1 (by omega) (by omega)
  have h2 := hp 2 (by omega) (by omega)
  rw [Bool.eq_iff_iff]
  simp [cnt, full, has]
  omega
def D0 : Nat → DataW Unit
  | 0 => .map []
  | k + 1 => (D0 k).put (.int .i64 k) (.lit (.int .i64 0))
theorem tidy_D0 : ∀ k, Tidy (D0 k)
  | 0 => tidy_empty
  | k + 1 => (tidy_D0 k).put (key_int _) _
theorem has_D0 (c : Int) : ∀ k : Nat, Maps.has (D0 k) (.int .i64 c) = decide (0 ≤ c ∧ c < k)
  | 0 => by simp [D0, Maps.has]
  | k + 1 => by
    unfold D0
    by_cases e : c = (k : Int)
    · subst e; simp [has_put_same (tidy_D0 k).isMap (key_int _)]; omega
    · rw [has_put_other (by simpa using e), has_D0 c k, Bool.eq_iff_iff]; simp; omega
theorem at_D0 (c : Int) : ∀ k : Nat, (D0 k).atKey (.int .i64 c) (.lit (.int .i64 0)) = .lit (.int .i64 0)
  | 0 => atKey_of_not_has (by rw [has_D0]; simp) _
  | k + 1 => by
    unfold D0
    by_cases e : c = (k : Int)
    · subst e; simp [atKey_put_same (tidy_D0 k).isMap (key_int _)]
    · rw [atKey_put_other (by simpa using e), at_D0 c k]
theorem size_D0 : ∀ k : Nat, Maps.size (D0 k) = k
  | 0 => rfl
  | k + 1 => by unfold D0; rw [size_put (tidy_D0 k), has_D0, size_D0 k]; simp
theorem mapIs_first {n : Int} (h : 1 ≤ n) : MapIs (D0 3) n (fun _ => 0) := by
  refine ⟨fun c => ?_, fun c => ?_, ?_⟩
  · rw [has_D0, Bool.eq_iff_iff]; simp [has]; omega
  · rw [at_D0]; simp [nxt]
  · rw [size_D0]; simp [cnt, has, show 0 < n by omega]
theorem ownsMap_tight {w : World} {P : Program} {k : TypeId} {R : Value → Option (DataW Unit × List MemPlace)} {b n : Nat} {D : DataW Unit} (h : w.ownsMap P k R b n D) : w.ownsMap P k R b (Maps.size D) D := by
  obtain ⟨es, cl, hh, F, hn, rfl⟩ := h
  exact ⟨es, cl, hh, F, by rw [size_eq, length_read]; exact Nat.le_refl _, rfl⟩
theorem cnt_le (n : Int) (p : Int → Int) : cnt n p ≤ 3 := by unfold cnt; split <;> split <;> split <;> omega
end Go.Proofs.Ytjjnbdbilclakaa
