/-
  DERIVED. GIVEN WITH THE SEED: THE CARDS: each row of YtlddjlchgibdfaaDoorRows.lean that lists a variable, with what it lists TIED to the program's text (the seventh form; the later family's looks); each row that meets fmt, with fmt's text TOLD by the authors' own Lean function (tested against real Go, not proved from fmt's source: count such statements apart). THE CARD IS WHAT COUNTS. Prove the row's statement (the work); the ties are given (YtlddjlchgibdfaaDoorTie.lean); close each card by the builder's one call (the guide's Derived/Test/ToyasCard.lean, 'card_holds'). Laid BY PROGRAM, IN A SANDBOX (cutbox-door.mjs). By AI agents, Wed Nov 11 2026. No macro, syntax, notation, axiom, sorry.
-/
import Derived.Test.YtlddjlchgibdfaaDoorRows
import GoSem.ClaimSeven
namespace Go.Proofs.YtlddjlchgibdfaaDoor
namespace Rows

/-- THE TIED CARD OF 'laws.FnExactClimateText'. -/
def fnExactClimateTextCard : Claim7 := { stood := { row := fnExactClimateTextRow, standIns := [], harness := (true, "4340b6436af4acbcb9aa6a1a6de43fc5e2a8044ad202be9a1136bd873d995164"), looks := false }, kinds := [], alts := [], laidByText := true, laidKinds := [.data, .data, .data], laidTests := true, laidLooks := .later }
def FnExactClimateTextCardSaid : Prop := Claim7.holds Tryd.pinned (.plain (OpenSpec.ofChange fnExactClimateTextSpec)) fnExactClimateTextCard

/-- THE TIED CARD OF 'laws.FnExactKindPrice'. -/
def fnExactKindPriceCard : Claim7 := { stood := { row := fnExactKindPriceRow, standIns := [], harness := (true, "4340b6436af4acbcb9aa6a1a6de43fc5e2a8044ad202be9a1136bd873d995164"), looks := false }, kinds := [], alts := [], laidByText := true, laidKinds := [.data], laidTests := true, laidLooks := .later }
def FnExactKindPriceCardSaid : Prop := Claim7.holds Tryd.pinned (.plain (OpenSpec.ofChange fnExactKindPriceSpec)) fnExactKindPriceCard

/-- THE TIED CARD OF 'laws.FnExactAreWorks'. -/
def fnExactAreWorksCard : Claim7 := { stood := { row := fnExactAreWorksRow, standIns := [], harness := (true, "4340b6436af4acbcb9aa6a1a6de43fc5e2a8044ad202be9a1136bd873d995164"), looks := false }, kinds := [], alts := [], laidByText := true, laidKinds := [.data], laidTests := true, laidLooks := .later }
def FnExactAreWorksCardSaid : Prop := Claim7.holds Tryd.pinned (.plain (OpenSpec.ofChange fnExactAreWorksSpec)) fnExactAreWorksCard

/-- THE TIED CARD OF 'laws.FnExactQueuePrice'. -/
def fnExactQueuePriceCard : Claim7 := { stood := { row := fnExactQueuePriceRow, standIns := [], harness := (true, "4340b6436af4acbcb9aa6a1a6de43fc5e2a8044ad202be9a1136bd873d995164"), looks := false }, kinds := [], alts := [], laidByText := true, laidKinds := [.data], laidTests := true, laidLooks := .later }
def FnExactQueuePriceCardSaid : Prop := Claim7.holds Tryd.pinned (.plain (OpenSpec.ofChange fnExactQueuePriceSpec)) fnExactQueuePriceCard

/-- THE TIED CARD OF 'laws.FnExactTurnsUntil'. -/
def fnExactTurnsUntilCard : Claim7 := { stood := { row := fnExactTurnsUntilRow, standIns := [], harness := (true, "4340b6436af4acbcb9aa6a1a6de43fc5e2a8044ad202be9a1136bd873d995164"), looks := false }, kinds := [], alts := [], laidByText := true, laidKinds := [.data], laidTests := true, laidLooks := .later }
def FnExactTurnsUntilCardSaid : Prop := Claim7.holds Tryd.pinned (.plain (OpenSpec.ofChange fnExactTurnsUntilSpec)) fnExactTurnsUntilCard

/-- THE TIED CARD OF 'laws.FnExactRestorePrice'. -/
def fnExactRestorePriceCard : Claim7 := { stood := { row := fnExactRestorePriceRow, standIns := [], harness := (true, "4340b6436af4acbcb9aa6a1a6de43fc5e2a8044ad202be9a1136bd873d995164"), looks := false }, kinds := [], alts := [], laidByText := true, laidKinds := [.data], laidTests := true, laidLooks := .later }
def FnExactRestorePriceCardSaid : Prop := Claim7.holds Tryd.pinned (.plain (OpenSpec.ofChange fnExactRestorePriceSpec)) fnExactRestorePriceCard

/-- THE TIED CARD OF 'laws.FnExactAppendKind'. -/
def fnExactAppendKindCard : Claim7 := { stood := { row := fnExactAppendKindRow, standIns := [], harness := (true, "4340b6436af4acbcb9aa6a1a6de43fc5e2a8044ad202be9a1136bd873d995164"), looks := false }, kinds := [], alts := [], laidByText := true, laidKinds := [.data], laidTests := true, laidLooks := .later }
def FnExactAppendKindCardSaid : Prop := Claim7.holds Tryd.pinned (.plain (OpenSpec.ofChange fnExactAppendKindSpec)) fnExactAppendKindCard

/-- THE TIED CARD OF 'laws.FnExactRemoveKind'. -/
def fnExactRemoveKindCard : Claim7 := { stood := { row := fnExactRemoveKindRow, standIns := [], harness := (true, "4340b6436af4acbcb9aa6a1a6de43fc5e2a8044ad202be9a1136bd873d995164"), looks := false }, kinds := [], alts := [], laidByText := true, laidKinds := [.data], laidTests := true, laidLooks := .later }
def FnExactRemoveKindCardSaid : Prop := Claim7.holds Tryd.pinned (.plain (OpenSpec.ofChange fnExactRemoveKindSpec)) fnExactRemoveKindCard

/-- THE TIED CARD OF 'laws.FnExactIsSetup'. -/
def fnExactIsSetupCard : Claim7 := { stood := { row := fnExactIsSetupRow, standIns := [], harness := (true, "4340b6436af4acbcb9aa6a1a6de43fc5e2a8044ad202be9a1136bd873d995164"), looks := false }, kinds := [], alts := [], laidByText := true, laidKinds := [.data], laidTests := true, laidLooks := .later }
def FnExactIsSetupCardSaid : Prop := Claim7.holds Tryd.pinned (.plain (OpenSpec.ofChange fnExactIsSetupSpec)) fnExactIsSetupCard

/-- THE SECOND FORM's CARD OF 'laws.FnExactClimateText'. -/
def fnExactClimateTextUptoCard : Claim7 := { stood := { row := fnExactClimateTextUptoRow, standIns := [], harness := (true, "4340b6436af4acbcb9aa6a1a6de43fc5e2a8044ad202be9a1136bd873d995164"), looks := false }, kinds := [], alts := [], laidByText := true, laidKinds := [.data, .data, .data], laidTests := true, laidLooks := .later }
def FnExactClimateTextUptoCardSaid : Prop := Claim7.holds Tryd.pinned (.plain (OpenSpec.upto fnExactClimateTextSpec)) fnExactClimateTextUptoCard

/-- THE SECOND FORM's CARD OF 'laws.FnExactKindPrice'. -/
def fnExactKindPriceUptoCard : Claim7 := { stood := { row := fnExactKindPriceUptoRow, standIns := [], harness := (true, "4340b6436af4acbcb9aa6a1a6de43fc5e2a8044ad202be9a1136bd873d995164"), looks := false }, kinds := [], alts := [], laidByText := true, laidKinds := [.data], laidTests := true, laidLooks := .later }
def FnExactKindPriceUptoCardSaid : Prop := Claim7.holds Tryd.pinned (.plain (OpenSpec.upto fnExactKindPriceSpec)) fnExactKindPriceUptoCard

/-- THE SECOND FORM's CARD OF 'laws.FnExactAreWorks'. -/
def fnExactAreWorksUptoCard : Claim7 := { stood := { row := fnExactAreWorksUptoRow, standIns := [], harness := (true, "4340b6436af4acbcb9aa6a1a6de43fc5e2a8044ad202be9a1136bd873d995164"), looks := false }, kinds := [], alts := [], laidByText := true, laidKinds := [.data], laidTests := true, laidLooks := .later }
def FnExactAreWorksUptoCardSaid : Prop := Claim7.holds Tryd.pinned (.plain (OpenSpec.upto fnExactAreWorksSpec)) fnExactAreWorksUptoCard

/-- THE SECOND FORM's CARD OF 'laws.FnExactQueuePrice'. -/
def fnExactQueuePriceUptoCard : Claim7 := { stood := { row := fnExactQueuePriceUptoRow, standIns := [], harness := (true, "4340b6436af4acbcb9aa6a1a6de43fc5e2a8044ad202be9a1136bd873d995164"), looks := false }, kinds := [], alts := [], laidByText := true, laidKinds := [.data], laidTests := true, laidLooks := .later }
def FnExactQueuePriceUptoCardSaid : Prop := Claim7.holds Tryd.pinned (.plain (OpenSpec.upto fnExactQueuePriceSpec)) fnExactQueuePriceUptoCard

/-- THE SECOND FORM's CARD OF 'laws.FnExactTurnsUntil'. -/
def fnExactTurnsUntilUptoCard : Claim7 := { stood := { row := fnExactTurnsUntilUptoRow, standIns := [], harness := (true, "4340b6436af4acbcb9aa6a1a6de43fc5e2a8044ad202be9a1136bd873d995164"), looks := false }, kinds := [], alts := [], laidByText := true, laidKinds := [.data], laidTests := true, laidLooks := .later }
def FnExactTurnsUntilUptoCardSaid : Prop := Claim7.holds Tryd.pinned (.plain (OpenSpec.upto fnExactTurnsUntilSpec)) fnExactTurnsUntilUptoCard

/-- THE SECOND FORM's CARD OF 'laws.FnExactRestorePrice'. -/
def fnExactRestorePriceUptoCard : Claim7 := { stood := { row := fnExactRestorePriceUptoRow, standIns := [], harness := (true, "4340b6436af4acbcb9aa6a1a6de43fc5e2a8044ad202be9a1136bd873d995164"), looks := false }, kinds := [], alts := [], laidByText := true, laidKinds := [.data], laidTests := true, laidLooks := .later }
def FnExactRestorePriceUptoCardSaid : Prop := Claim7.holds Tryd.pinned (.plain (OpenSpec.upto fnExactRestorePriceSpec)) fnExactRestorePriceUptoCard

/-- THE SECOND FORM's CARD OF 'laws.FnExactAppendKind'. -/
def fnExactAppendKindUptoCard : Claim7 := { stood := { row := fnExactAppendKindUptoRow, standIns := [], harness := (true, "4340b6436af4acbcb9aa6a1a6de43fc5e2a8044ad202be9a1136bd873d995164"), looks := false }, kinds := [], alts := [], laidByText := true, laidKinds := [.data], laidTests := true, laidLooks := .later }
def FnExactAppendKindUptoCardSaid : Prop := Claim7.holds Tryd.pinned (.plain (OpenSpec.upto fnExactAppendKindSpec)) fnExactAppendKindUptoCard

/-- THE SECOND FORM's CARD OF 'laws.FnExactRemoveKind'. -/
def fnExactRemoveKindUptoCard : Claim7 := { stood := { row := fnExactRemoveKindUptoRow, standIns := [], harness := (true, "4340b6436af4acbcb9aa6a1a6de43fc5e2a8044ad202be9a1136bd873d995164"), looks := false }, kinds := [], alts := [], laidByText := true, laidKinds := [.data], laidTests := true, laidLooks := .later }
def FnExactRemoveKindUptoCardSaid : Prop := Claim7.holds Tryd.pinned (.plain (OpenSpec.upto fnExactRemoveKindSpec)) fnExactRemoveKindUptoCard

/-- THE SECOND FORM's CARD OF 'laws.FnExactIsSetup'. -/
def fnExactIsSetupUptoCard : Claim7 := { stood := { row := fnExactIsSetupUptoRow, standIns := [], harness := (true, "4340b6436af4acbcb9aa6a1a6de43fc5e2a8044ad202be9a1136bd873d995164"), looks := false }, kinds := [], alts := [], laidByText := true, laidKinds := [.data], laidTests := true, laidLooks := .later }
def FnExactIsSetupUptoCardSaid : Prop := Claim7.holds Tryd.pinned (.plain (OpenSpec.upto fnExactIsSetupSpec)) fnExactIsSetupUptoCard
end Rows
end Go.Proofs.YtlddjlchgibdfaaDoor
