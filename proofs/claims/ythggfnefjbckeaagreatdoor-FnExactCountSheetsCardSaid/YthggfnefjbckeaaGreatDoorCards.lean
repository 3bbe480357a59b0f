/-
  DERIVED. GIVEN WITH THE SEED: THE CARDS: each row of YthggfnefjbckeaaGreatDoorRows.lean that lists a variable, with what it lists TIED to the program's text (the seventh form; the later family's looks); each row that meets fmt, with fmt's text TOLD by the authors' own Lean function (tested against real Go, not proved from fmt's source: count such statements apart). THE CARD IS WHAT COUNTS. Prove the row's statement (the work); the ties are given (YthggfnefjbckeaaGreatDoorTie.lean); close each card by the builder's one call (the guide's Derived/Test/ToyasCard.lean, 'card_holds'). Laid BY PROGRAM, IN A SANDBOX (cutbox-door.mjs). By AI agents, Wed Nov 11 2026. No macro, syntax, notation, axiom, sorry.
-/
import Derived.Test.YthggfnefjbckeaaGreatDoorRows
import GoSem.ClaimSeven
namespace Go.Proofs.YthggfnefjbckeaaGreatDoor
namespace Rows

/-- THE TIED CARD OF 'laws.FnExactCountSheets'. -/
def fnExactCountSheetsCard : Claim7 := { stood := { row := fnExactCountSheetsRow, standIns := [], harness := (true, "861e27b4baf9871ded02b9ad1cf725e6990f2b1d552e7b7b4116114cf34fe2a6"), looks := false }, kinds := [], alts := [], laidByText := true, laidKinds := [.data], laidTests := true, laidLooks := .later }
def FnExactCountSheetsCardSaid : Prop := Claim7.holds Tryz.pinned (.plain (OpenSpec.ofChange fnExactCountSheetsSpec)) fnExactCountSheetsCard

/-- THE TIED CARD OF 'laws.FnExactOrderChoices'. -/
def fnExactOrderChoicesCard : Claim7 := { stood := { row := fnExactOrderChoicesRow, standIns := [], harness := (true, "861e27b4baf9871ded02b9ad1cf725e6990f2b1d552e7b7b4116114cf34fe2a6"), looks := false }, kinds := [], alts := [], laidByText := true, laidKinds := [.data], laidTests := true, laidLooks := .later }
def FnExactOrderChoicesCardSaid : Prop := Claim7.holds Tryz.pinned (.plain (OpenSpec.ofChange fnExactOrderChoicesSpec)) fnExactOrderChoicesCard

/-- THE SECOND FORM's CARD OF 'laws.FnExactCountSheets'. -/
def fnExactCountSheetsUptoCard : Claim7 := { stood := { row := fnExactCountSheetsUptoRow, standIns := [], harness := (true, "861e27b4baf9871ded02b9ad1cf725e6990f2b1d552e7b7b4116114cf34fe2a6"), looks := false }, kinds := [], alts := [], laidByText := true, laidKinds := [.data], laidTests := true, laidLooks := .later }
def FnExactCountSheetsUptoCardSaid : Prop := Claim7.holds Tryz.pinned (.plain (OpenSpec.upto fnExactCountSheetsSpec)) fnExactCountSheetsUptoCard

/-- THE SECOND FORM's CARD OF 'laws.FnExactOrderChoices'. -/
def fnExactOrderChoicesUptoCard : Claim7 := { stood := { row := fnExactOrderChoicesUptoRow, standIns := [], harness := (true, "861e27b4baf9871ded02b9ad1cf725e6990f2b1d552e7b7b4116114cf34fe2a6"), looks := false }, kinds := [], alts := [], laidByText := true, laidKinds := [.data], laidTests := true, laidLooks := .later }
def FnExactOrderChoicesUptoCardSaid : Prop := Claim7.holds Tryz.pinned (.plain (OpenSpec.upto fnExactOrderChoicesSpec)) fnExactOrderChoicesUptoCard
end Rows
end Go.Proofs.YthggfnefjbckeaaGreatDoor
