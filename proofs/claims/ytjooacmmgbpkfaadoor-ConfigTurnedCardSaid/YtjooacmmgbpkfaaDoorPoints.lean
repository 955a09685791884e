/- config.points: which trouble a list of points has. No conditions. -/
import Derived.Test.YtjooacmmgbpkfaaDoorPts
import Derived.Maps.OwnSet
import Derived.Maps.OwnOps
import Derived.DeepKeys4
namespace Go.Proofs.YtjooacmmgbpkfaaDoor
open Go.RowKit Go.Maps Go.WideMaps

/-- Two points that may not both be. -/
def clash (p q : Pt) : Bool := decide (p.kind = q.kind) && (decide (p.addr = q.addr) || decide (p.at_ = q.at_))
/-- The point at i is in the way of an earlier one. -/
def dupAt (l : List Pt) (i : Nat) : Bool := match l[i]? with | some p => (l.take i).any (clash p) | none => false
def dup (l : List Pt) : Bool := (List.range l.length).any (dupAt l)
def ptsCode (l : List Pt) : Int := if l.all Pt.may then if dup l then 9 else 0 else 1

theorem dup_yes {l : List Pt} {i : Nat} (h : dupAt l i = true) : dup l = true := by
  unfold dup
  refine List.any_eq_true.2 ⟨i, ?_, h⟩
  unfold dupAt at h
  cases hp : l[i]? with
  | none => rw [hp] at h; cases h
  | some p => exact List.mem_range.2 (List.getElem?_eq_some_iff.1 hp).1
theorem dup_no {l : List Pt} (h : ∀ i, i < l.length → dupAt l i = false) : dup l = false := by
  unfold dup
  exact List.any_eq_false.2 fun i hi => by simp [h i (List.mem_range.1 hi)]

/-! ### Keys -/
abbrev k3 (x y z : Int) : Value := .agg #[.int .i64 x, .int .i64 y, .int .i64 z]
theorem lo : laidOutB Tryd.prog = true := by kernel_rfl
theorem keyDeep : Tryd.prog.keyTypeAt (Tryd.prog.types.size + 1) 98 = true := by kernel_rfl
theorem keyRow : (98 : TypeId) < Tryd.prog.types.size := of_decide_eq_true (by kernel_rfl)
theorem keyLaw : Keyed Tryd.prog 98 := Keyed.of_law (deep_law_laid lo (m := 2) (by omega) keyRow (by kernel_rfl) (by rw [Tryd.underlying98]))
theorem keyCells : Tryd.prog.cellsOf 98 = 3 := by kernel_rfl
theorem intCells : Tryd.prog.cellsOf 3 = 1 := by kernel_rfl
theorem typesSome : 1 ≤ Tryd.prog.types.size := of_decide_eq_true (by kernel_rfl)
def I64 (x : Int) : Prop := (Lit.int .i64 x).wf = true
theorem key3 {x y z : Int} (hx : I64 x) (hy : I64 y) (hz : I64 z) : ∃ l, keyOf Tryd.prog 98 (k3 x y z) = some l := by
  unfold I64 at hx hy hz
  unfold keyOf
  rw [Tryd.underlying98]
  have h1 : Tryd.prog.keyType 98 = true := keyDeep
  have h2 : (k3 x y z).formed Tryd.prog 98 = true := by simp [Value.formed, Tryd.underlying98, keyCells]
  simp only [h1, h2, Bool.and_self, if_true]
  obtain ⟨d, hd⟩ : ∃ d, Tryd.prog.types.size + 1 = d + 2 := ⟨Tryd.prog.types.size - 1, by have := typesSome; omega⟩
  rw [hd]
  have e : Tryd.prog.keyLits (d + 2) 98 (k3 x y z).cells.toList = some [.int .i64 x, .int .i64 y, .int .i64 z] := by
    unfold Program.keyLits
    rw [Tryd.underlying98]
    simp only [keyCells, intCells]
    have one : ∀ n : Int, (Lit.int .i64 n).wf = true → Tryd.prog.keyLits (d + 1) 3 [.int .i64 n] = some [.int .i64 n] := fun n hn => by
      unfold Program.keyLits
      rw [Tryd.underlying3]
      simp [hn]
    simp [Value.cells, List.range_succ, one x hx, one y hy, one z hz]
  rw [e]
  exact ⟨_, rfl⟩
theorem k3_inj {x y z x' y' z' : Int} {l l' : Lit} (h : keyOf Tryd.prog 98 (k3 x y z) = some l) (h' : keyOf Tryd.prog 98 (k3 x' y' z') = some l') (e : (x, y, z) ≠ (x', y', z')) : l ≠ l' := by
  intro el
  subst el
  have := keyLaw.inj h h'
  simp [k3] at this
  exact e (by simp [this])
theorem zeroBool (w : World) : (zeroValue 4).run Tryd.prog w = .ok (.bool false) w := by kernel_rfl

variable {H : Type}
/-- The datum of a set of keys. -/
def SeenAs (D : DataW H) (ks : List (Int × Int × Int)) : Prop := ∀ x y z l, keyOf Tryd.prog 98 (k3 x y z) = some l → D.atKey l (.lit (.bool false)) = .lit (.bool (ks.contains (x, y, z)))
theorem SeenAs.nil : SeenAs (H := H) (.map []) [] := by
  intro x y z l _
  rfl
theorem SeenAs.put {D : DataW H} {ks : List (Int × Int × Int)} (h : SeenAs D ks) (hD : IsMap D) {x y z : Int} {l : Lit} (hl : keyOf Tryd.prog 98 (k3 x y z) = some l) : SeenAs (D.put l (.lit (.bool true))) (ks ++ [(x, y, z)]) := by
  intro x' y' z' l' hl'
  by_cases e : (x, y, z) = (x', y', z')
  · cases e
    rw [hl] at hl'
    cases hl'
    rw [atKey_put_same hD (keyLaw.key hl)]
    simp
  · rw [atKey_put_other (k3_inj hl' hl (fun h => e h.symm)), h _ _ _ _ hl']
    have : (x', y', z') ≠ (x, y, z) := fun h => e h.symm
    simp [this]

/-- 'm[k]' at bools: the walk goes on with the bool that the datum has. -/
theorem lookup_own_bool {P : Program} (w : World) {ops : Array Oper} {rest : List Oper} {o : Oper} {a : Act} {Q : Exit → Act → World → Prop}
    (hg : o.guard = none) (m x : Operand) (t : TypeId) (hop : o.op = Op.lookup t m x false)
    (k e : TypeId) (K : Keyed P k) (ht : P.underlying t = some (.map k e)) (he : P.underlying e = some .bool) (hz : (zeroValue e).run P w = .ok (.bool false) w) (b n : Nat) (D : DataW H)
    (hm : a.eval m = .map (some b)) (hown : w.ownsMap P k (plainElem P e) b n D) (key : Value) (kl : Lit) (hx : a.eval x = key) (hkey : keyOf P k key = some kl)
    (c : Bool) (hat : D.atKey kl (.lit (.bool false)) = .lit (.bool c)) (hK : wpList P ops Q rest (a.put o.dst (.bool c)) w) :
    wpList P ops Q (o :: rest) a w := by
  refine wpList_plain hg fun K' hK' => ?_
  obtain ⟨v, ps, hrun, hv⟩ := hown.lookup K ht hz (plainElem_bool he false) hkey
  rw [hat] at hv
  have hvb : v = .bool c := by
    unfold plainElem at hv
    rw [he] at hv
    cases v <;> simp at hv
    rw [hv.1]
  subst hvb
  unfold Oper.wp
  simp [execOp, hop, hm, hx, hrun, Result.andThen]
  exact hK' _ _ hK

/-- The keys of points. -/
def keysOf (l : List Pt) : List (Int × Int × Int) := l.flatMap fun p => [(p.kind, p.addr, 0), (p.kind, p.at_, 1)]
theorem keysOf_snoc (l : List Pt) (k : Nat) (p : Pt) (h : l[k]? = some p) : keysOf (l.take (k + 1)) = (keysOf (l.take k) ++ [(p.kind, p.addr, 0)]) ++ [(p.kind, p.at_, 1)] := by
  obtain ⟨hk, rfl⟩ := List.getElem?_eq_some_iff.1 h
  rw [List.take_succ_eq_append_getElem hk]
  unfold keysOf
  rw [List.flatMap_append]
  simp
theorem keysOf_has (l : List Pt) (x y : Int) : ((keysOf l).contains (x, y, 0) = l.any fun q => decide (x = q.kind) && decide (y = q.addr)) ∧ ((keysOf l).contains (x, y, 1) = l.any fun q => decide (x = q.kind) && decide (y = q.at_)) := by
  unfold keysOf
  induction l with
  | nil => exact ⟨rfl, rfl⟩
  | cons q l ih =>
    rw [List.flatMap_cons, List.any_cons, List.any_cons, ← ih.1, ← ih.2]
    constructor <;> simp
theorem clash_any (l : List Pt) (p : Pt) : l.any (clash p) = ((keysOf l).contains (p.kind, p.addr, 0) || (keysOf l).contains (p.kind, p.at_, 1)) := by
  rw [(keysOf_has l _ _).1, (keysOf_has l _ _).2]
  induction l with
  | nil => rfl
  | cons q l ih =>
    simp only [List.any_cons, ih, clash]
    cases decide (p.kind = q.kind) <;> cases decide (p.addr = q.addr) <;> cases decide (p.at_ = q.at_) <;> simp
theorem dupAt_keys (l : List Pt) (k : Nat) (p : Pt) (h : l[k]? = some p) : dupAt l k = ((keysOf (l.take k)).contains (p.kind, p.addr, 0) || (keysOf (l.take k) ++ [(p.kind, p.addr, 0)]).contains (p.kind, p.at_, 1)) := by
  unfold dupAt
  rw [h]
  show (l.take k).any (clash p) = _
  rw [clash_any]
  simp
end Go.Proofs.YtjooacmmgbpkfaaDoor
