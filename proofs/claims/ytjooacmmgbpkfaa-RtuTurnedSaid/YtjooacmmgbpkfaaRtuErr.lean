/- Package rtu's errors: within, told, and errors.Is at one of them. -/
import Derived.Test.YtjooacmmgbpkfaaChecked
import Derived.Test.YtjooacmmgbpkfaaBase
import Derived.LaidEql
import Derived.Stop.Asserts
import Derived.RowKitTokens
namespace Go
section
variable {P : Program} (w : World)
theorem run_equalIn_iface_int' (d : Nat) {ti tn : TypeId} {ms : Array (String × TypeId)} {i : TypeInfo} {k : IntKind} (a b : Int)
    (hi : P.underlying ti = some (.interface ms)) (hn : P.underlying tn = some (.int k)) (hinfo : P.info? tn = some i) (hcomp : i.comparable = true) :
    (Op.equalIn (d + 2) ti (.iface tn (.int k a)) (.iface tn (.int k b))).run P w = .ok (a == b) w := by
  simp [Op.equalIn, run_underlying hi, run_underlying hn, typeInfo, hinfo, hcomp]
/-- '==' of two interface values of one integer type: as the numbers are. -/
theorem run_eql_iface_int' {ti tn : TypeId} {ms : Array (String × TypeId)} {i : TypeInfo} {k : IntKind} (a b : Int)
    (hi : P.underlying ti = some (.interface ms)) (hn : P.underlying tn = some (.int k)) (hinfo : P.info? tn = some i) (hcomp : i.comparable = true) :
    (binOp .eql ti (.iface tn (.int k a)) (.iface tn (.int k b))).run P w = .ok (.bool (a == b)) w := by
  simp only [binOp]
  simp [Op.equal, Op.maxDepth, run_equalIn_iface_int' w 9998 a b hi hn hinfo hcomp]
end
end Go
namespace Go.Proofs.Ytjooacmmgbpkfaa
open Go.RowKit Go.Extern.Stop Go.Stop Go.Extern

/-- A trouble, of so many bytes, that wraps an error's number. -/
def trouble (n a : Int) : Value := .iface 91 (.agg #[.int .i64 n, .iface 27 (.int .i64 a)])

theorem isTypeOf (v : Value) (w : World) : (Extern.ReflectliteType.typeOf #[.iface 27 v]).run Try.prog w = .ok (.iface 126 (.agg #[.pointer (some ⟨0, 27, none⟩)])) w := by kernel_rfl
/-- The model's entry for (reflectlite.rtype).Comparable. -/
def compEntry : Array Value → Sem Value := Extern.ReflectliteType.method fun t => do Rtype.noPackHeld "Comparable" t; pure (.bool (← typeInfo t).comparable)
theorem isComparable (w : World) : (compEntry #[.agg #[.pointer (some ⟨0, 27, none⟩)]]).run Try.prog w = .ok (.bool true) w := by kernel_rfl
theorem isComp : (Try.prog.info? 27).map (·.comparable) = some true := by kernel_rfl
theorem noIsT (v : Value) (xT : TypeId) (w : World) : (Instr.typeAssert (.iface 91 v) xT 128 true).run Try.prog w = .ok (.tuple #[.nilIface, .bool false]) w := run_typeAssert_lacksB Try.underlying128 (by kernel_rfl) (by kernel_rfl) v xT w
theorem noIsE (v : Value) (xT : TypeId) (w : World) : (Instr.typeAssert (.iface 27 v) xT 128 true).run Try.prog w = .ok (.tuple #[.nilIface, .bool false]) w := run_typeAssert_lacksB Try.underlying128 (by kernel_rfl) (by kernel_rfl) v xT w
theorem noUnwrapE (v : Value) (xT : TypeId) (w : World) : (Instr.typeAssert (.iface 27 v) xT 131 true).run Try.prog w = .ok (.tuple #[.nilIface, .bool false]) w := run_typeAssert_lacksB Try.underlying131 (by kernel_rfl) (by kernel_rfl) v xT w
theorem noUnwrapsE (v : Value) (xT : TypeId) (w : World) : (Instr.typeAssert (.iface 27 v) xT 133 true).run Try.prog w = .ok (.tuple #[.nilIface, .bool false]) w := run_typeAssert_lacksB Try.underlying133 (by kernel_rfl) (by kernel_rfl) v xT w
theorem hasUnwrapT (v : Value) (xT : TypeId) (w : World) : (Instr.typeAssert (.iface 91 v) xT 131 true).run Try.prog w = .ok (.tuple #[.iface 91 v, .bool true]) w := run_typeAssert_hasB Try.underlying131 (by kernel_rfl) v xT w

theorem trouble_Unwrap (n a : Int) (w : World) : Calls Try.prog 116 #[.agg #[.int .i64 n, .iface 27 (.int .i64 a)]] w fun e w' => e = .returned (.iface 27 (.int .i64 a)) ∧ Ext w w' := by
  go_enter Try.func116, Try.ntmps116
  go_wp2
  go_ret
  exact ⟨rfl, (Ext.refl _).alloc _⟩

set_option maxHeartbeats 400000 in
theorem errors_is (n a b : Int) (w : World) :
    Calls Try.prog 71 #[trouble n a, .iface 27 (.int .i64 b), .bool true] w fun e w' => e = .returned (.bool (a == b)) ∧ Ext w w' := by
  obtain ⟨i, hi, hcmp⟩ := Option.map_eq_some_iff.1 isComp
  have nE := noIsE
  have nT := noIsT
  have uE := noUnwrapE
  have vE := noUnwrapsE
  have uT := hasUnwrapT
  have heq := fun W => run_eql_iface_int' (P := Try.prog) W a b Try.underlying62 Try.underlying27 hi hcmp
  have hty := run_eql_iface_types (P := Try.prog) 91 27 (.agg #[.int .i64 n, .iface 27 (.int .i64 a)]) (.int .i64 b) Try.underlying62 (by decide) w
  unfold trouble
  by_cases hab : (a == b) = true
  · go_enter Try.func71, Try.ntmps71
    go_wp2
    refine wp_loop_rounds 2 ?_
    rw [rounds_succ]
    go_wp2_with (go_at_call 116; refine (trouble_Unwrap n a _).mono ?_; rintro e w1 ⟨rfl, h1⟩)
    rw [rounds_succ]
    go_wp2
    go_ret
    exact ⟨by rw [hab]; rfl, h1⟩
  · have hab' : (a == b) = false := by simpa using hab
    clear hab
    go_enter Try.func71, Try.ntmps71
    go_wp2
    refine wp_loop_rounds 2 ?_
    rw [rounds_succ]
    go_wp2_with (go_at_call 116; refine (trouble_Unwrap n a _).mono ?_; rintro e w1 ⟨rfl, h1⟩)
    rw [rounds_succ]
    go_wp2
    go_ret
    exact ⟨by rw [hab']; rfl, h1⟩

set_option maxHeartbeats 400000 in
theorem errors_Is (n a b : Int) (w : World) :
    Calls Try.prog 51 #[trouble n a, .iface 27 (.int .i64 b)] w fun e w' => e = .returned (.bool (a == b)) ∧ Ext w w' := by
  have hI := errors_is n a b
  unfold trouble at hI ⊢
  have HI := Lib.hid hI
  clear hI
  have h8 := @run_callFunc_extern Try.prog 70 _ Extern.ReflectliteType.typeOf Try.func70 (by kernel_rfl) (by kernel_rfl) (by kernel_rfl) (by kernel_rfl)
  have h32 := @run_callFunc_extern Try.prog 120 _ compEntry Try.func120 (by kernel_rfl) (by kernel_rfl) (by kernel_rfl) (by kernel_rfl)
  have tT := isTypeOf
  have cT := isComparable
  go_enter Try.func51, Try.ntmps51
  go_wp2_with fail
  refine (HI.out _).mono ?_
  rintro e w1 ⟨rfl, h1⟩
  go_wp2_with fail
  go_ret
  exact ⟨rfl, h1⟩

/-- Why a number is not from one to another one. -/
def witR (n lo hi : Int) : Value := if n < lo then trouble n 3 else if hi < n then trouble n 4 else .nilIface
theorem rtu_within (n lo hi : Int) (w : World) : Calls Try.prog 24 #[.int .i64 n, .int .i64 lo, .int .i64 hi] w fun e w' => e = .returned (witR n lo hi) ∧ Ext w w' := by
  unfold witR
  by_cases h1 : n < lo
  · rw [if_pos h1]
    unfold trouble
    go_enter Try.func24, Try.ntmps24
    go_wp2
    go_ret
    exact ⟨rfl, Ext.refl _⟩
  · rw [if_neg h1]
    by_cases h2 : hi < n
    · rw [if_pos h2]
      unfold trouble
      go_enter Try.func24, Try.ntmps24
      go_wp2
      go_ret
      exact ⟨rfl, Ext.refl _⟩
    · rw [if_neg h2]
      go_enter Try.func24, Try.ntmps24
      go_wp2
      go_ret
      exact ⟨rfl, Ext.refl _⟩

theorem rtu_told (n a : Int) (g : Nat) (w : World) (ha : a = 3 ∨ a = 4) (hg : w.heap[g]? = some (.cells #[.int .i64 3, .int .i64 4] 27 (0, 0))) :
    Calls Try.prog 25 #[trouble n a, .slice (some ⟨g, 0, none⟩) 2 2] w fun e w' => e = .returned (.int .i64 a) ∧ Ext w w' := by
  have c0 := blk_cell hg 0
  have c1 := blk_cell hg 1
  simp at c0 c1
  have hI := errors_Is n a
  have HI := Lib.hid hI
  clear hI
  rcases ha with rfl | rfl
  · unfold trouble at HI ⊢
    clear hg c1
    go_enter Try.func25, Try.ntmps25
    go_wp2_with fail
    refine wp_loop_rounds 1 ?_
    rw [rounds_succ]
    go_wp2_with fail
    refine (HI.out 3 _).mono ?_
    rintro e w1 ⟨rfl, h1⟩
    go_wp2_with fail
    go_ret
    exact ⟨rfl, h1⟩
  · unfold trouble at HI ⊢
    clear hg
    go_enter Try.func25, Try.ntmps25
    go_wp2_with fail
    refine wp_loop_rounds 2 ?_
    rw [rounds_succ]
    go_wp2_with fail
    refine (HI.out 3 _).mono ?_
    rintro e w1 ⟨rfl, h1⟩
    have d1 := h1.cell' c1
    go_wp2_with fail
    rw [rounds_succ]
    go_wp2_with fail
    refine (HI.out 4 _).mono ?_
    rintro e w2 ⟨rfl, h2⟩
    go_wp2_with fail
    go_ret
    exact ⟨rfl, h1.trans h2⟩
end Go.Proofs.Ytjooacmmgbpkfaa
