/-
  DERIVED. GIVEN WITH THE SEED: THE CARDS: each row of YtjaccjeejeiphaaGreatDoorRows.lean that lists a variable, with what it lists TIED to the program's text (the seventh form; the later family's looks); each row that meets fmt, with fmt's text TOLD by the authors' own Lean function (tested against real Go, not proved from fmt's source: count such statements apart). THE CARD IS WHAT COUNTS. Prove the row's statement (the work); the ties are given (YtjaccjeejeiphaaGreatDoorTie.lean); close each card by the builder's one call (the guide's Derived/Test/ToyasCard.lean, 'card_holds'). Laid BY PROGRAM, IN A SANDBOX (cutbox-door.mjs). By AI agents, Wed Nov 11 2026. No macro, syntax, notation, axiom, sorry.
-/
import Derived.Test.YtjaccjeejeiphaaGreatDoorRows
import GoSem.ClaimSeven
namespace Go.Proofs.YtjaccjeejeiphaaGreatDoor
namespace Rows

/-- THE TIED CARD OF 'laws.FnExactBuildCode'. -/
def fnExactBuildCodeCard : Claim7 := { stood := { row := fnExactBuildCodeRow, standIns := [], harness := (true, "b148dbb2311c56a2d6b04a499b46830e1a73564945632f84572bc610ae3132fd"), looks := false }, kinds := [], alts := [], laidByText := true, laidKinds := [.data], laidTests := true, laidLooks := .later }
def FnExactBuildCodeCardSaid : Prop := Claim7.holds Tryz.pinned (.plain (OpenSpec.ofChange fnExactBuildCodeSpec)) fnExactBuildCodeCard

/-- THE TIED CARD OF 'laws.FnExactIsOver'. -/
def fnExactIsOverCard : Claim7 := { stood := { row := fnExactIsOverRow, standIns := [], harness := (true, "b148dbb2311c56a2d6b04a499b46830e1a73564945632f84572bc610ae3132fd"), looks := false }, kinds := [], alts := [], laidByText := true, laidKinds := [.data], laidTests := true, laidLooks := .later }
def FnExactIsOverCardSaid : Prop := Claim7.holds Tryz.pinned (.plain (OpenSpec.ofChange fnExactIsOverSpec)) fnExactIsOverCard

/-- THE TIED CARD OF 'laws.FnExactTurnsLeft'. -/
def fnExactTurnsLeftCard : Claim7 := { stood := { row := fnExactTurnsLeftRow, standIns := [], harness := (true, "b148dbb2311c56a2d6b04a499b46830e1a73564945632f84572bc610ae3132fd"), looks := false }, kinds := [], alts := [], laidByText := true, laidKinds := [.data], laidTests := true, laidLooks := .later }
def FnExactTurnsLeftCardSaid : Prop := Claim7.holds Tryz.pinned (.plain (OpenSpec.ofChange fnExactTurnsLeftSpec)) fnExactTurnsLeftCard

/-- THE TIED CARD OF 'laws.FnExactRestoreStep'. -/
def fnExactRestoreStepCard : Claim7 := { stood := { row := fnExactRestoreStepRow, standIns := [], harness := (true, "b148dbb2311c56a2d6b04a499b46830e1a73564945632f84572bc610ae3132fd"), looks := false }, kinds := [], alts := [], laidByText := true, laidKinds := [.data], laidTests := true, laidLooks := .later }
def FnExactRestoreStepCardSaid : Prop := Claim7.holds Tryz.pinned (.plain (OpenSpec.ofChange fnExactRestoreStepSpec)) fnExactRestoreStepCard

/-- THE TIED CARD OF 'laws.FnExactProduceTurn'. -/
def fnExactProduceTurnCard : Claim7 := { stood := { row := fnExactProduceTurnRow, standIns := [], harness := (true, "b148dbb2311c56a2d6b04a499b46830e1a73564945632f84572bc610ae3132fd"), looks := false }, kinds := [], alts := [], laidByText := true, laidKinds := [.data], laidTests := true, laidLooks := .later }
def FnExactProduceTurnCardSaid : Prop := Claim7.holds Tryz.pinned (.plain (OpenSpec.ofChange fnExactProduceTurnSpec)) fnExactProduceTurnCard

/-- THE TIED CARD OF 'laws.FnExactProduceTurns'. -/
def fnExactProduceTurnsCard : Claim7 := { stood := { row := fnExactProduceTurnsRow, standIns := [], harness := (true, "b148dbb2311c56a2d6b04a499b46830e1a73564945632f84572bc610ae3132fd"), looks := false }, kinds := [], alts := [], laidByText := true, laidKinds := [.data], laidTests := true, laidLooks := .later }
def FnExactProduceTurnsCardSaid : Prop := Claim7.holds Tryz.pinned (.plain (OpenSpec.ofChange fnExactProduceTurnsSpec)) fnExactProduceTurnsCard

/-- THE TIED CARD OF 'laws.FnExactWeatherPhase'. -/
def fnExactWeatherPhaseCard : Claim7 := { stood := { row := fnExactWeatherPhaseRow, standIns := [], harness := (true, "b148dbb2311c56a2d6b04a499b46830e1a73564945632f84572bc610ae3132fd"), looks := false }, kinds := [], alts := [], laidByText := true, laidKinds := [.data], laidTests := true, laidLooks := .later }
def FnExactWeatherPhaseCardSaid : Prop := Claim7.holds Tryz.pinned (.plain (OpenSpec.ofChange fnExactWeatherPhaseSpec)) fnExactWeatherPhaseCard

/-- THE TIED CARD OF 'laws.FnExactValueOf'. -/
def fnExactValueOfCard : Claim7 := { stood := { row := fnExactValueOfRow, standIns := [], harness := (true, "b148dbb2311c56a2d6b04a499b46830e1a73564945632f84572bc610ae3132fd"), looks := false }, kinds := [], alts := [], laidByText := true, laidKinds := [.data], laidTests := true, laidLooks := .later }
def FnExactValueOfCardSaid : Prop := Claim7.holds Tryz.pinned (.plain (OpenSpec.ofChange fnExactValueOfSpec)) fnExactValueOfCard

/-- THE TIED CARD OF 'laws.FnExactCompareStates'. -/
def fnExactCompareStatesCard : Claim7 := { stood := { row := fnExactCompareStatesRow, standIns := [], harness := (true, "b148dbb2311c56a2d6b04a499b46830e1a73564945632f84572bc610ae3132fd"), looks := false }, kinds := [], alts := [], laidByText := true, laidKinds := [.data], laidTests := true, laidLooks := .later }
def FnExactCompareStatesCardSaid : Prop := Claim7.holds Tryz.pinned (.plain (OpenSpec.ofChange fnExactCompareStatesSpec)) fnExactCompareStatesCard

/-- THE TIED CARD OF 'laws.FnExactCountSheets'. -/
def fnExactCountSheetsCard : Claim7 := { stood := { row := fnExactCountSheetsRow, standIns := [], harness := (true, "b148dbb2311c56a2d6b04a499b46830e1a73564945632f84572bc610ae3132fd"), looks := false }, kinds := [], alts := [], laidByText := true, laidKinds := [.data], laidTests := true, laidLooks := .later }
def FnExactCountSheetsCardSaid : Prop := Claim7.holds Tryz.pinned (.plain (OpenSpec.ofChange fnExactCountSheetsSpec)) fnExactCountSheetsCard

/-- THE TIED CARD OF 'laws.FnExactSupplyPhase'. -/
def fnExactSupplyPhaseCard : Claim7 := { stood := { row := fnExactSupplyPhaseRow, standIns := [], harness := (true, "b148dbb2311c56a2d6b04a499b46830e1a73564945632f84572bc610ae3132fd"), looks := false }, kinds := [], alts := [], laidByText := true, laidKinds := [.data], laidTests := true, laidLooks := .later }
def FnExactSupplyPhaseCardSaid : Prop := Claim7.holds Tryz.pinned (.plain (OpenSpec.ofChange fnExactSupplyPhaseSpec)) fnExactSupplyPhaseCard

/-- THE TIED CARD OF 'laws.FnExactBestSource'. -/
def fnExactBestSourceCard : Claim7 := { stood := { row := fnExactBestSourceRow, standIns := [], harness := (true, "b148dbb2311c56a2d6b04a499b46830e1a73564945632f84572bc610ae3132fd"), looks := false }, kinds := [], alts := [], laidByText := true, laidKinds := [.data], laidTests := true, laidLooks := .later }
def FnExactBestSourceCardSaid : Prop := Claim7.holds Tryz.pinned (.plain (OpenSpec.ofChange fnExactBestSourceSpec)) fnExactBestSourceCard

/-- THE SECOND FORM's CARD OF 'laws.FnExactBuildCode'. -/
def fnExactBuildCodeUptoCard : Claim7 := { stood := { row := fnExactBuildCodeUptoRow, standIns := [], harness := (true, "b148dbb2311c56a2d6b04a499b46830e1a73564945632f84572bc610ae3132fd"), looks := false }, kinds := [], alts := [], laidByText := true, laidKinds := [.data], laidTests := true, laidLooks := .later }
def FnExactBuildCodeUptoCardSaid : Prop := Claim7.holds Tryz.pinned (.plain (OpenSpec.upto fnExactBuildCodeSpec)) fnExactBuildCodeUptoCard

/-- THE SECOND FORM's CARD OF 'laws.FnExactIsOver'. -/
def fnExactIsOverUptoCard : Claim7 := { stood := { row := fnExactIsOverUptoRow, standIns := [], harness := (true, "b148dbb2311c56a2d6b04a499b46830e1a73564945632f84572bc610ae3132fd"), looks := false }, kinds := [], alts := [], laidByText := true, laidKinds := [.data], laidTests := true, laidLooks := .later }
def FnExactIsOverUptoCardSaid : Prop := Claim7.holds Tryz.pinned (.plain (OpenSpec.upto fnExactIsOverSpec)) fnExactIsOverUptoCard

/-- THE SECOND FORM's CARD OF 'laws.FnExactTurnsLeft'. -/
def fnExactTurnsLeftUptoCard : Claim7 := { stood := { row := fnExactTurnsLeftUptoRow, standIns := [], harness := (true, "b148dbb2311c56a2d6b04a499b46830e1a73564945632f84572bc610ae3132fd"), looks := false }, kinds := [], alts := [], laidByText := true, laidKinds := [.data], laidTests := true, laidLooks := .later }
def FnExactTurnsLeftUptoCardSaid : Prop := Claim7.holds Tryz.pinned (.plain (OpenSpec.upto fnExactTurnsLeftSpec)) fnExactTurnsLeftUptoCard

/-- THE SECOND FORM's CARD OF 'laws.FnExactRestoreStep'. -/
def fnExactRestoreStepUptoCard : Claim7 := { stood := { row := fnExactRestoreStepUptoRow, standIns := [], harness := (true, "b148dbb2311c56a2d6b04a499b46830e1a73564945632f84572bc610ae3132fd"), looks := false }, kinds := [], alts := [], laidByText := true, laidKinds := [.data], laidTests := true, laidLooks := .later }
def FnExactRestoreStepUptoCardSaid : Prop := Claim7.holds Tryz.pinned (.plain (OpenSpec.upto fnExactRestoreStepSpec)) fnExactRestoreStepUptoCard

/-- THE SECOND FORM's CARD OF 'laws.FnExactProduceTurn'. -/
def fnExactProduceTurnUptoCard : Claim7 := { stood := { row := fnExactProduceTurnUptoRow, standIns := [], harness := (true, "b148dbb2311c56a2d6b04a499b46830e1a73564945632f84572bc610ae3132fd"), looks := false }, kinds := [], alts := [], laidByText := true, laidKinds := [.data], laidTests := true, laidLooks := .later }
def FnExactProduceTurnUptoCardSaid : Prop := Claim7.holds Tryz.pinned (.plain (OpenSpec.upto fnExactProduceTurnSpec)) fnExactProduceTurnUptoCard

/-- THE SECOND FORM's CARD OF 'laws.FnExactProduceTurns'. -/
def fnExactProduceTurnsUptoCard : Claim7 := { stood := { row := fnExactProduceTurnsUptoRow, standIns := [], harness := (true, "b148dbb2311c56a2d6b04a499b46830e1a73564945632f84572bc610ae3132fd"), looks := false }, kinds := [], alts := [], laidByText := true, laidKinds := [.data], laidTests := true, laidLooks := .later }
def FnExactProduceTurnsUptoCardSaid : Prop := Claim7.holds Tryz.pinned (.plain (OpenSpec.upto fnExactProduceTurnsSpec)) fnExactProduceTurnsUptoCard

/-- THE SECOND FORM's CARD OF 'laws.FnExactWeatherPhase'. -/
def fnExactWeatherPhaseUptoCard : Claim7 := { stood := { row := fnExactWeatherPhaseUptoRow, standIns := [], harness := (true, "b148dbb2311c56a2d6b04a499b46830e1a73564945632f84572bc610ae3132fd"), looks := false }, kinds := [], alts := [], laidByText := true, laidKinds := [.data], laidTests := true, laidLooks := .later }
def FnExactWeatherPhaseUptoCardSaid : Prop := Claim7.holds Tryz.pinned (.plain (OpenSpec.upto fnExactWeatherPhaseSpec)) fnExactWeatherPhaseUptoCard

/-- THE SECOND FORM's CARD OF 'laws.FnExactValueOf'. -/
def fnExactValueOfUptoCard : Claim7 := { stood := { row := fnExactValueOfUptoRow, standIns := [], harness := (true, "b148dbb2311c56a2d6b04a499b46830e1a73564945632f84572bc610ae3132fd"), looks := false }, kinds := [], alts := [], laidByText := true, laidKinds := [.data], laidTests := true, laidLooks := .later }
def FnExactValueOfUptoCardSaid : Prop := Claim7.holds Tryz.pinned (.plain (OpenSpec.upto fnExactValueOfSpec)) fnExactValueOfUptoCard

/-- THE SECOND FORM's CARD OF 'laws.FnExactCompareStates'. -/
def fnExactCompareStatesUptoCard : Claim7 := { stood := { row := fnExactCompareStatesUptoRow, standIns := [], harness := (true, "b148dbb2311c56a2d6b04a499b46830e1a73564945632f84572bc610ae3132fd"), looks := false }, kinds := [], alts := [], laidByText := true, laidKinds := [.data], laidTests := true, laidLooks := .later }
def FnExactCompareStatesUptoCardSaid : Prop := Claim7.holds Tryz.pinned (.plain (OpenSpec.upto fnExactCompareStatesSpec)) fnExactCompareStatesUptoCard

/-- THE SECOND FORM's CARD OF 'laws.FnExactCountSheets'. -/
def fnExactCountSheetsUptoCard : Claim7 := { stood := { row := fnExactCountSheetsUptoRow, standIns := [], harness := (true, "b148dbb2311c56a2d6b04a499b46830e1a73564945632f84572bc610ae3132fd"), looks := false }, kinds := [], alts := [], laidByText := true, laidKinds := [.data], laidTests := true, laidLooks := .later }
def FnExactCountSheetsUptoCardSaid : Prop := Claim7.holds Tryz.pinned (.plain (OpenSpec.upto fnExactCountSheetsSpec)) fnExactCountSheetsUptoCard

/-- THE SECOND FORM's CARD OF 'laws.FnExactSupplyPhase'. -/
def fnExactSupplyPhaseUptoCard : Claim7 := { stood := { row := fnExactSupplyPhaseUptoRow, standIns := [], harness := (true, "b148dbb2311c56a2d6b04a499b46830e1a73564945632f84572bc610ae3132fd"), looks := false }, kinds := [], alts := [], laidByText := true, laidKinds := [.data], laidTests := true, laidLooks := .later }
def FnExactSupplyPhaseUptoCardSaid : Prop := Claim7.holds Tryz.pinned (.plain (OpenSpec.upto fnExactSupplyPhaseSpec)) fnExactSupplyPhaseUptoCard

/-- THE SECOND FORM's CARD OF 'laws.FnExactBestSource'. -/
def fnExactBestSourceUptoCard : Claim7 := { stood := { row := fnExactBestSourceUptoRow, standIns := [], harness := (true, "b148dbb2311c56a2d6b04a499b46830e1a73564945632f84572bc610ae3132fd"), looks := false }, kinds := [], alts := [], laidByText := true, laidKinds := [.data], laidTests := true, laidLooks := .later }
def FnExactBestSourceUptoCardSaid : Prop := Claim7.holds Tryz.pinned (.plain (OpenSpec.upto fnExactBestSourceSpec)) fnExactBestSourceUptoCard
end Rows
end Go.Proofs.YtjaccjeejeiphaaGreatDoor
