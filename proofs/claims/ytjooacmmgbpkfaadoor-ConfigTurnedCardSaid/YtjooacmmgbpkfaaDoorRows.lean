/-
  NARROWER THAN 'FOR EVERY INPUT', by the rows' own cells (each row's printed sentence says how): ConfigTells: laid · ConfigBack: laid · ConfigTurned: laid.
  DERIVED. THE GIVEN ROWS OF THIS SEAT. 3 by the template 'for every input the law returns true; each argument reads behind the call as it read before'; 0 by the template 'total and deterministic' (their statements: YtjooacmmgbpkfaaDoorTotals.lean).
  GIVEN WITH THE SEED: the statements are not yours to turn. If you find one false, say at which input.
  Laid BY PROGRAM, IN A SANDBOX (cutbox-rows.mjs): the forced cells as the released guide's own fill.sh prints them over the translation 493d76f67cb81211… (all of the seat's roots in one cut). By AI agents, Wed Nov 11 2026. No macro, syntax, notation, axiom, sorry.
-/
import Derived.Test.YtjooacmmgbpkfaaDoorChecked
import GoSem.Claim
import GoSem.ClaimJoined
import GoSem.ClaimMapViews
import Derived.JoinedTies
import Derived.KernelRfl
namespace Go.Proofs.YtjooacmmgbpkfaaDoor
/- THE CELL 'sum', in the pinned program and in every row, IS THE sha256 OF THE DUMP (.gsa) THAT YtjooacmmgbpkfaaDoorProg.lean LOADS. Nothing in Lean hashes anything: it is a label: what it is worth is what the hold of that sum in a sandbox is worth. -/
noncomputable def Tryd.pinned : Pinned := { name := "ytjooacmmgbpkfaadoor", sum := "493d76f67cb81211638d1fdcb11228f6bedf326cb4c3a4b09ff43f648ae27aad", checked := Tryd.checked }
namespace Rows
def none {H : Type} : Left H := { results := [], args := [] }

/- WHAT THE LISTED PACKAGE-LEVEL VARIABLES READ AS WHEN THE CALL BEGINS. Each datum BY PROGRAM (the guide's laid-datum.mjs) off the statement by which the dump's own 'gosem.cut.vars' lays the variable. In a bare row this is a premise. The card (YtjooacmmgbpkfaaDoorCards.lean) ties it to the program's text. -/
def laid_errors_errorType {H : Type} : DataW H := .iface "internal/reflectlite.rtype" (.agg [.ptr (.lit (.string [101, 114, 114, 111, 114]))])

/-- 'triunelaw09.ConfigTells': WHATEVER THE INPUT: true; the input reads as it did. -/
def configTellsSpec : ChangeSpec := { name := "configTells", fn := fun _ => fun
  | [d1, d2, d3] => { results := [.lit (.bool true)], args := [d1, d2, d3] }
  | _ => none }
def configTellsRow : OpenClaim := { program := "ytjooacmmgbpkfaadoor", sum := "493d76f67cb81211638d1fdcb11228f6bedf326cb4c3a4b09ff43f648ae27aad", func := "triune/triunelaw09.ConfigTells", spec := "configTells", inPlace := ["internal/reflectlite.ValueOf", "(internal/reflectlite.Value).Type", "(internal/reflectlite.Value).IsNil", "internal/reflectlite.TypeOf", "(internal/reflectlite.Value).Elem", "(internal/reflectlite.Value).Set"], unfollowed := true, recurses := true, named := ["errors.errorType"], plainKeys := false, apart := false, laid := [("errors.errorType", laid_errors_errorType)] }
def ConfigTellsSaid : Prop := configTellsRow.holds Tryd.pinned (OpenSpec.ofChange configTellsSpec)

/-- ITS FALSE NEIGHBOUR: 'it returns false'. Refute it at one input. -/
def configTellsWrong : ChangeSpec := { name := "configTells", fn := fun _ => fun
  | [d1, d2, d3] => { results := [.lit (.bool false)], args := [d1, d2, d3] }
  | _ => none }
def ConfigTellsWrongFalsely : Prop := configTellsRow.holds Tryd.pinned (OpenSpec.ofChange configTellsWrong)

/-- 'triunelaw09.ConfigBack': WHATEVER THE INPUT: true; the input reads as it did. -/
def configBackSpec : ChangeSpec := { name := "configBack", fn := fun _ => fun
  | [d1, d2] => { results := [.lit (.bool true)], args := [d1, d2] }
  | _ => none }
def configBackRow : OpenClaim := { program := "ytjooacmmgbpkfaadoor", sum := "493d76f67cb81211638d1fdcb11228f6bedf326cb4c3a4b09ff43f648ae27aad", func := "triune/triunelaw09.ConfigBack", spec := "configBack", inPlace := ["internal/reflectlite.ValueOf", "(internal/reflectlite.Value).Type", "(internal/reflectlite.Value).IsNil", "internal/reflectlite.TypeOf", "(internal/reflectlite.Value).Elem", "(internal/reflectlite.Value).Set"], unfollowed := true, recurses := true, named := ["errors.errorType"], plainKeys := false, apart := false, laid := [("errors.errorType", laid_errors_errorType)] }
def ConfigBackSaid : Prop := configBackRow.holds Tryd.pinned (OpenSpec.ofChange configBackSpec)

/-- ITS FALSE NEIGHBOUR: 'it returns false'. Refute it at one input. -/
def configBackWrong : ChangeSpec := { name := "configBack", fn := fun _ => fun
  | [d1, d2] => { results := [.lit (.bool false)], args := [d1, d2] }
  | _ => none }
def ConfigBackWrongFalsely : Prop := configBackRow.holds Tryd.pinned (OpenSpec.ofChange configBackWrong)

/-- 'triunelaw09.ConfigTurned': WHATEVER THE INPUT: true; the input reads as it did. -/
def configTurnedSpec : ChangeSpec := { name := "configTurned", fn := fun _ => fun
  | [d1, d2, d3] => { results := [.lit (.bool true)], args := [d1, d2, d3] }
  | _ => none }
def configTurnedRow : OpenClaim := { program := "ytjooacmmgbpkfaadoor", sum := "493d76f67cb81211638d1fdcb11228f6bedf326cb4c3a4b09ff43f648ae27aad", func := "triune/triunelaw09.ConfigTurned", spec := "configTurned", inPlace := ["internal/reflectlite.ValueOf", "(internal/reflectlite.Value).Type", "(internal/reflectlite.Value).IsNil", "internal/reflectlite.TypeOf", "(internal/reflectlite.Value).Elem", "(internal/reflectlite.Value).Set"], unfollowed := true, recurses := true, named := ["errors.errorType"], plainKeys := false, apart := false, laid := [("errors.errorType", laid_errors_errorType)] }
def ConfigTurnedSaid : Prop := configTurnedRow.holds Tryd.pinned (OpenSpec.ofChange configTurnedSpec)

/-- ITS FALSE NEIGHBOUR: 'it returns false'. Refute it at one input. -/
def configTurnedWrong : ChangeSpec := { name := "configTurned", fn := fun _ => fun
  | [d1, d2, d3] => { results := [.lit (.bool false)], args := [d1, d2, d3] }
  | _ => none }
def ConfigTurnedWrongFalsely : Prop := configTurnedRow.holds Tryd.pinned (OpenSpec.ofChange configTurnedWrong)

/- THE SECOND FORM. 'bulk': how many values and letters a reading holds, each counted each time it is reached (what is shared counts as often as it is met; a slice's spare places count too). A statement '..UptoSaid' is the law's where the arguments, and the package variables that the reading takes, are together of bulk at most 1048576: NARROWER than '..Said'. Prove '..Said' where nothing that the law and all that it calls make is longer than what came in: it says more and counts as full. Else prove '..UptoSaid'. A law counts once. -/
mutual
def uptoBulk {H : Type} : DataW H → Nat
  | .lit (.string bytes) => bytes.length + 1
  | .lit _ => 1
  | .nil => 1
  | .ptr d => uptoBulk d + 1
  | .slice elems spare => uptoBulkAll elems + uptoBulkAll spare + 1
  | .agg parts => uptoBulkAll parts + 1
  | .iface _ d => uptoBulk d + 1
  | .map entries => uptoBulkEntries entries + 1
  | .held _ => 1
def uptoBulkAll {H : Type} : List (DataW H) → Nat
  | [] => 0
  | d :: r => uptoBulk d + uptoBulkAll r
def uptoBulkEntries {H : Type} : List (Lit × DataW H) → Nat
  | [] => 0
  | x :: r => uptoBulkEntry x + uptoBulkEntries r
def uptoBulkEntry {H : Type} : Lit × DataW H → Nat
  | (.string bytes, d) => bytes.length + uptoBulk d + 1
  | (_, d) => uptoBulk d + 1
 end
def uptoSmall : (H : Type) → List (DataW H) → Bool := fun _ ds => decide (uptoBulkAll ds ≤ 1048576)
def OpenSpec.upto (s : _root_.Go.ChangeSpec) : _root_.Go.OpenSpec := { _root_.Go.OpenSpec.ofChange s with cond := some uptoSmall }

/-- 'triunelaw09.ConfigTells', WHERE WHAT IT READS IS OF BULK AT MOST 1048576: true; the input reads as it did. -/
def configTellsUptoRow : OpenClaim := { program := "ytjooacmmgbpkfaadoor", sum := "493d76f67cb81211638d1fdcb11228f6bedf326cb4c3a4b09ff43f648ae27aad", func := "triune/triunelaw09.ConfigTells", spec := "configTells", inPlace := ["internal/reflectlite.ValueOf", "(internal/reflectlite.Value).Type", "(internal/reflectlite.Value).IsNil", "internal/reflectlite.TypeOf", "(internal/reflectlite.Value).Elem", "(internal/reflectlite.Value).Set"], unfollowed := true, recurses := true, named := ["errors.errorType"], plainKeys := false, apart := false, laid := [("errors.errorType", laid_errors_errorType)], narrowed := true }
def ConfigTellsUptoSaid : Prop := configTellsUptoRow.holds Tryd.pinned (OpenSpec.upto configTellsSpec)

/-- 'triunelaw09.ConfigBack', WHERE WHAT IT READS IS OF BULK AT MOST 1048576: true; the input reads as it did. -/
def configBackUptoRow : OpenClaim := { program := "ytjooacmmgbpkfaadoor", sum := "493d76f67cb81211638d1fdcb11228f6bedf326cb4c3a4b09ff43f648ae27aad", func := "triune/triunelaw09.ConfigBack", spec := "configBack", inPlace := ["internal/reflectlite.ValueOf", "(internal/reflectlite.Value).Type", "(internal/reflectlite.Value).IsNil", "internal/reflectlite.TypeOf", "(internal/reflectlite.Value).Elem", "(internal/reflectlite.Value).Set"], unfollowed := true, recurses := true, named := ["errors.errorType"], plainKeys := false, apart := false, laid := [("errors.errorType", laid_errors_errorType)], narrowed := true }
def ConfigBackUptoSaid : Prop := configBackUptoRow.holds Tryd.pinned (OpenSpec.upto configBackSpec)

/-- 'triunelaw09.ConfigTurned', WHERE WHAT IT READS IS OF BULK AT MOST 1048576: true; the input reads as it did. -/
def configTurnedUptoRow : OpenClaim := { program := "ytjooacmmgbpkfaadoor", sum := "493d76f67cb81211638d1fdcb11228f6bedf326cb4c3a4b09ff43f648ae27aad", func := "triune/triunelaw09.ConfigTurned", spec := "configTurned", inPlace := ["internal/reflectlite.ValueOf", "(internal/reflectlite.Value).Type", "(internal/reflectlite.Value).IsNil", "internal/reflectlite.TypeOf", "(internal/reflectlite.Value).Elem", "(internal/reflectlite.Value).Set"], unfollowed := true, recurses := true, named := ["errors.errorType"], plainKeys := false, apart := false, laid := [("errors.errorType", laid_errors_errorType)], narrowed := true }
def ConfigTurnedUptoSaid : Prop := configTurnedUptoRow.holds Tryd.pinned (OpenSpec.upto configTurnedSpec)

end Rows
end Go.Proofs.YtjooacmmgbpkfaaDoor
