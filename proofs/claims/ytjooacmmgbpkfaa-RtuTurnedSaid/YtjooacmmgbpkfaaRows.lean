/-
  No cell of these rows narrows 'for every input' (looked for: loops, veiled, ifaces, maps, wideKeys, modest, calm, conditions, laid).
  DERIVED. THE GIVEN ROWS OF THIS SEAT. 4 by the template 'for every input the law returns true; each argument reads behind the call as it read before'; 0 by the template 'total and deterministic' (their statements: YtjooacmmgbpkfaaTotals.lean).
  GIVEN WITH THE SEED: the statements are not yours to turn. If you find one false, say at which input.
  Laid BY PROGRAM, IN A SANDBOX (cutbox-rows.mjs): the forced cells as the released guide's own fill.sh prints them over the translation 9634653a70f08ae0… (all of the seat's roots in one cut). By AI agents, Wed Nov 11 2026. No macro, syntax, notation, axiom, sorry.
-/
import Derived.Test.YtjooacmmgbpkfaaChecked
import GoSem.Claim
import GoSem.ClaimJoined
import GoSem.ClaimMapViews
import Derived.JoinedTies
import Derived.KernelRfl
namespace Go.Proofs.Ytjooacmmgbpkfaa
/- THE CELL 'sum', in the pinned program and in every row, IS THE sha256 OF THE DUMP (.gsa) THAT YtjooacmmgbpkfaaProg.lean LOADS. Nothing in Lean hashes anything: it is a label: what it is worth is what the hold of that sum in a sandbox is worth. -/
noncomputable def Try.pinned : Pinned := { name := "ytjooacmmgbpkfaa", sum := "9634653a70f08ae0621b05c34eb5e5742f38ac4a48236e9c2b61126dff7c0c30", checked := Try.checked }
namespace Rows
def none {H : Type} : Left H := { results := [], args := [] }

/-- 'triunelaw03.RtuTurned': WHATEVER THE INPUT: true; the input reads as it did. -/
def rtuTurnedSpec : ChangeSpec := { name := "rtuTurned", fn := fun _ => fun
  | [d1, d2, d3] => { results := [.lit (.bool true)], args := [d1, d2, d3] }
  | _ => none }
def rtuTurnedRow : OpenClaim := { program := "ytjooacmmgbpkfaa", sum := "9634653a70f08ae0621b05c34eb5e5742f38ac4a48236e9c2b61126dff7c0c30", func := "triune/triunelaw03.RtuTurned", spec := "rtuTurned", inPlace := ["internal/reflectlite.TypeOf"], unfollowed := true, recurses := true, apart := false }
def RtuTurnedSaid : Prop := rtuTurnedRow.holds Try.pinned (OpenSpec.ofChange rtuTurnedSpec)

/-- ITS FALSE NEIGHBOUR: 'it returns false'. Refute it at one input. -/
def rtuTurnedWrong : ChangeSpec := { name := "rtuTurned", fn := fun _ => fun
  | [d1, d2, d3] => { results := [.lit (.bool false)], args := [d1, d2, d3] }
  | _ => none }
def RtuTurnedWrongFalsely : Prop := rtuTurnedRow.holds Try.pinned (OpenSpec.ofChange rtuTurnedWrong)

/-- 'triunelaw07.AnswerTells': WHATEVER THE INPUT: true; the input reads as it did. -/
def answerTellsSpec : ChangeSpec := { name := "answerTells", fn := fun _ => fun
  | [d1, d2, d3] => { results := [.lit (.bool true)], args := [d1, d2, d3] }
  | _ => none }
def answerTellsRow : OpenClaim := { program := "ytjooacmmgbpkfaa", sum := "9634653a70f08ae0621b05c34eb5e5742f38ac4a48236e9c2b61126dff7c0c30", func := "triune/triunelaw07.AnswerTells", spec := "answerTells", unfollowed := true, recurses := true, apart := false }
def AnswerTellsSaid : Prop := answerTellsRow.holds Try.pinned (OpenSpec.ofChange answerTellsSpec)

/-- ITS FALSE NEIGHBOUR: 'it returns false'. Refute it at one input. -/
def answerTellsWrong : ChangeSpec := { name := "answerTells", fn := fun _ => fun
  | [d1, d2, d3] => { results := [.lit (.bool false)], args := [d1, d2, d3] }
  | _ => none }
def AnswerTellsWrongFalsely : Prop := answerTellsRow.holds Try.pinned (OpenSpec.ofChange answerTellsWrong)

/-- 'triunelaw07.AnswerBack': WHATEVER THE INPUT: true; the input reads as it did. -/
def answerBackSpec : ChangeSpec := { name := "answerBack", fn := fun _ => fun
  | [d1, d2, d3] => { results := [.lit (.bool true)], args := [d1, d2, d3] }
  | _ => none }
def answerBackRow : OpenClaim := { program := "ytjooacmmgbpkfaa", sum := "9634653a70f08ae0621b05c34eb5e5742f38ac4a48236e9c2b61126dff7c0c30", func := "triune/triunelaw07.AnswerBack", spec := "answerBack", unfollowed := true, recurses := true, apart := false }
def AnswerBackSaid : Prop := answerBackRow.holds Try.pinned (OpenSpec.ofChange answerBackSpec)

/-- ITS FALSE NEIGHBOUR: 'it returns false'. Refute it at one input. -/
def answerBackWrong : ChangeSpec := { name := "answerBack", fn := fun _ => fun
  | [d1, d2, d3] => { results := [.lit (.bool false)], args := [d1, d2, d3] }
  | _ => none }
def AnswerBackWrongFalsely : Prop := answerBackRow.holds Try.pinned (OpenSpec.ofChange answerBackWrong)

/-- 'triunelaw07.AnswerExcept': WHATEVER THE INPUT: true; the input reads as it did. -/
def answerExceptSpec : ChangeSpec := { name := "answerExcept", fn := fun _ => fun
  | [d1, d2] => { results := [.lit (.bool true)], args := [d1, d2] }
  | _ => none }
def answerExceptRow : OpenClaim := { program := "ytjooacmmgbpkfaa", sum := "9634653a70f08ae0621b05c34eb5e5742f38ac4a48236e9c2b61126dff7c0c30", func := "triune/triunelaw07.AnswerExcept", spec := "answerExcept", unfollowed := true, recurses := true, apart := false }
def AnswerExceptSaid : Prop := answerExceptRow.holds Try.pinned (OpenSpec.ofChange answerExceptSpec)

/-- ITS FALSE NEIGHBOUR: 'it returns false'. Refute it at one input. -/
def answerExceptWrong : ChangeSpec := { name := "answerExcept", fn := fun _ => fun
  | [d1, d2] => { results := [.lit (.bool false)], args := [d1, d2] }
  | _ => none }
def AnswerExceptWrongFalsely : Prop := answerExceptRow.holds Try.pinned (OpenSpec.ofChange answerExceptWrong)

/- THE SECOND FORM. 'bulk': how many values and letters a reading holds, each counted each time it is reached (what is shared counts as often as it is met; a slice's spare places count too). A statement '..UptoSaid' is the law's where the arguments, and the package variables that the reading takes, are together of bulk at most 1048576: NARROWER than '..Said'. Prove '..Said' where nothing that the law and all that it calls make is longer than what came in: it says more and counts as full. Else prove '..UptoSaid'. A law counts once. -/
mutual
def uptoBulk {H : Type} : DataW H → Nat
  | .lit (.string bytes) => bytes.length + 1
  | .lit _ => 1
  | .nil => 1
  | .ptr d => uptoBulk d + 1
  | .slice elems spare => uptoBulkAll elems + uptoBulkAll spare + 1
  | .agg parts => uptoBulkAll parts + 1
  | .iface _ d => uptoBulk d + 1
  | .map entries => uptoBulkEntries entries + 1
  | .held _ => 1
def uptoBulkAll {H : Type} : List (DataW H) → Nat
  | [] => 0
  | d :: r => uptoBulk d + uptoBulkAll r
def uptoBulkEntries {H : Type} : List (Lit × DataW H) → Nat
  | [] => 0
  | x :: r => uptoBulkEntry x + uptoBulkEntries r
def uptoBulkEntry {H : Type} : Lit × DataW H → Nat
  | (.string bytes, d) => bytes.length + uptoBulk d + 1
  | (_, d) => uptoBulk d + 1
 end
def uptoSmall : (H : Type) → List (DataW H) → Bool := fun _ ds => decide (uptoBulkAll ds ≤ 1048576)
def OpenSpec.upto (s : _root_.Go.ChangeSpec) : _root_.Go.OpenSpec := { _root_.Go.OpenSpec.ofChange s with cond := some uptoSmall }

/-- 'triunelaw03.RtuTurned', WHERE WHAT IT READS IS OF BULK AT MOST 1048576: true; the input reads as it did. -/
def rtuTurnedUptoRow : OpenClaim := { program := "ytjooacmmgbpkfaa", sum := "9634653a70f08ae0621b05c34eb5e5742f38ac4a48236e9c2b61126dff7c0c30", func := "triune/triunelaw03.RtuTurned", spec := "rtuTurned", inPlace := ["internal/reflectlite.TypeOf"], unfollowed := true, recurses := true, apart := false, narrowed := true }
def RtuTurnedUptoSaid : Prop := rtuTurnedUptoRow.holds Try.pinned (OpenSpec.upto rtuTurnedSpec)

/-- 'triunelaw07.AnswerTells', WHERE WHAT IT READS IS OF BULK AT MOST 1048576: true; the input reads as it did. -/
def answerTellsUptoRow : OpenClaim := { program := "ytjooacmmgbpkfaa", sum := "9634653a70f08ae0621b05c34eb5e5742f38ac4a48236e9c2b61126dff7c0c30", func := "triune/triunelaw07.AnswerTells", spec := "answerTells", unfollowed := true, recurses := true, apart := false, narrowed := true }
def AnswerTellsUptoSaid : Prop := answerTellsUptoRow.holds Try.pinned (OpenSpec.upto answerTellsSpec)

/-- 'triunelaw07.AnswerBack', WHERE WHAT IT READS IS OF BULK AT MOST 1048576: true; the input reads as it did. -/
def answerBackUptoRow : OpenClaim := { program := "ytjooacmmgbpkfaa", sum := "9634653a70f08ae0621b05c34eb5e5742f38ac4a48236e9c2b61126dff7c0c30", func := "triune/triunelaw07.AnswerBack", spec := "answerBack", unfollowed := true, recurses := true, apart := false, narrowed := true }
def AnswerBackUptoSaid : Prop := answerBackUptoRow.holds Try.pinned (OpenSpec.upto answerBackSpec)

/-- 'triunelaw07.AnswerExcept', WHERE WHAT IT READS IS OF BULK AT MOST 1048576: true; the input reads as it did. -/
def answerExceptUptoRow : OpenClaim := { program := "ytjooacmmgbpkfaa", sum := "9634653a70f08ae0621b05c34eb5e5742f38ac4a48236e9c2b61126dff7c0c30", func := "triune/triunelaw07.AnswerExcept", spec := "answerExcept", unfollowed := true, recurses := true, apart := false, narrowed := true }
def AnswerExceptUptoSaid : Prop := answerExceptUptoRow.holds Try.pinned (OpenSpec.upto answerExceptSpec)

end Rows
end Go.Proofs.Ytjooacmmgbpkfaa
