/-
  DERIVED. GIVEN WITH THE SEED: THE CARDS: each row of YtjooacmmgbpkfaaDoorRows.lean that lists a variable, with what it lists TIED to the program's text (the seventh form; the later family's looks); each row that meets fmt, with fmt's text TOLD by the authors' own Lean function (tested against real Go, not proved from fmt's source: count such statements apart). THE CARD IS WHAT COUNTS. Prove the row's statement (the work); the ties are given (YtjooacmmgbpkfaaDoorTie.lean); close each card by the builder's one call (the guide's Derived/Test/ToyasCard.lean, 'card_holds'). Laid BY PROGRAM, IN A SANDBOX (cutbox-door.mjs). By AI agents, Wed Nov 11 2026. No macro, syntax, notation, axiom, sorry.
-/
import Derived.Test.YtjooacmmgbpkfaaDoorRows
import GoSem.ClaimSeven
namespace Go.Proofs.YtjooacmmgbpkfaaDoor
namespace Rows

/-- THE TIED CARD OF 'triunelaw09.ConfigTells'. -/
def configTellsCard : Claim7 := { stood := { row := configTellsRow, standIns := [], harness := (true, "635db712090f6612200e209023987af1bb0ab5f67e4613a01ecac8ae62b1ca9a"), looks := true }, kinds := [], alts := [], laidByText := true, laidKinds := [.handle], laidTests := true, laidLooks := .later }
def ConfigTellsCardSaid : Prop := Claim7.holds Tryd.pinned (.plain (OpenSpec.ofChange configTellsSpec)) configTellsCard

/-- THE TIED CARD OF 'triunelaw09.ConfigBack'. -/
def configBackCard : Claim7 := { stood := { row := configBackRow, standIns := [], harness := (true, "635db712090f6612200e209023987af1bb0ab5f67e4613a01ecac8ae62b1ca9a"), looks := true }, kinds := [], alts := [], laidByText := true, laidKinds := [.handle], laidTests := true, laidLooks := .later }
def ConfigBackCardSaid : Prop := Claim7.holds Tryd.pinned (.plain (OpenSpec.ofChange configBackSpec)) configBackCard

/-- THE TIED CARD OF 'triunelaw09.ConfigTurned'. -/
def configTurnedCard : Claim7 := { stood := { row := configTurnedRow, standIns := [], harness := (true, "635db712090f6612200e209023987af1bb0ab5f67e4613a01ecac8ae62b1ca9a"), looks := true }, kinds := [], alts := [], laidByText := true, laidKinds := [.handle], laidTests := true, laidLooks := .later }
def ConfigTurnedCardSaid : Prop := Claim7.holds Tryd.pinned (.plain (OpenSpec.ofChange configTurnedSpec)) configTurnedCard

/-- THE SECOND FORM's CARD OF 'triunelaw09.ConfigTells'. -/
def configTellsUptoCard : Claim7 := { stood := { row := configTellsUptoRow, standIns := [], harness := (true, "635db712090f6612200e209023987af1bb0ab5f67e4613a01ecac8ae62b1ca9a"), looks := true }, kinds := [], alts := [], laidByText := true, laidKinds := [.handle], laidTests := true, laidLooks := .later }
def ConfigTellsUptoCardSaid : Prop := Claim7.holds Tryd.pinned (.plain (OpenSpec.upto configTellsSpec)) configTellsUptoCard

/-- THE SECOND FORM's CARD OF 'triunelaw09.ConfigBack'. -/
def configBackUptoCard : Claim7 := { stood := { row := configBackUptoRow, standIns := [], harness := (true, "635db712090f6612200e209023987af1bb0ab5f67e4613a01ecac8ae62b1ca9a"), looks := true }, kinds := [], alts := [], laidByText := true, laidKinds := [.handle], laidTests := true, laidLooks := .later }
def ConfigBackUptoCardSaid : Prop := Claim7.holds Tryd.pinned (.plain (OpenSpec.upto configBackSpec)) configBackUptoCard

/-- THE SECOND FORM's CARD OF 'triunelaw09.ConfigTurned'. -/
def configTurnedUptoCard : Claim7 := { stood := { row := configTurnedUptoRow, standIns := [], harness := (true, "635db712090f6612200e209023987af1bb0ab5f67e4613a01ecac8ae62b1ca9a"), looks := true }, kinds := [], alts := [], laidByText := true, laidKinds := [.handle], laidTests := true, laidLooks := .later }
def ConfigTurnedUptoCardSaid : Prop := Claim7.holds Tryd.pinned (.plain (OpenSpec.upto configTurnedSpec)) configTurnedUptoCard
end Rows
end Go.Proofs.YtjooacmmgbpkfaaDoor
