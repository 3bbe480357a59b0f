/-
  DERIVED. GIVEN WITH THE SEED: THE CARDS: each row of YtedgfiikaedeoaaDoorRows.lean that lists a variable, with what it lists TIED to the program's text (the seventh form; the later family's looks); each row that meets fmt, with fmt's text TOLD by the authors' own Lean function (tested against real Go, not proved from fmt's source: count such statements apart). THE CARD IS WHAT COUNTS. Prove the row's statement (the work); the ties are given (YtedgfiikaedeoaaDoorTie.lean); close each card by the builder's one call (the guide's Derived/Test/ToyasCard.lean, 'card_holds'). Laid BY PROGRAM, IN A SANDBOX (cutbox-door.mjs). By AI agents, Wed Nov 11 2026. No macro, syntax, notation, axiom, sorry.
-/
import Derived.Test.YtedgfiikaedeoaaDoorRows
import GoSem.ClaimSeven
namespace Go.Proofs.YtedgfiikaedeoaaDoor
namespace Rows

/-- THE TIED CARD OF 'laws.FnExactClimateText'. -/
def fnExactClimateTextCard : Claim7 := { stood := { row := fnExactClimateTextRow, standIns := [], harness := (true, "acbc6a2e8eee0bfe4d49616a3048be4a6b8d3ceaf5ff81993937f3fce2a969c7"), looks := true }, kinds := [], alts := [], laidByText := true, laidKinds := [.data, .data, .data], laidTests := true, laidLooks := .later }
def FnExactClimateTextCardSaid : Prop := Claim7.holds Tryd.pinned (.plain (OpenSpec.ofChange fnExactClimateTextSpec)) fnExactClimateTextCard

/-- THE TIED CARD OF 'laws.FnExactParseClimate'. -/
def fnExactParseClimateCard : Claim7 := { stood := { row := fnExactParseClimateRow, standIns := [], harness := (true, "acbc6a2e8eee0bfe4d49616a3048be4a6b8d3ceaf5ff81993937f3fce2a969c7"), looks := true }, kinds := [], alts := [], laidByText := true, laidKinds := [.data, .data, .data, .data, .sentinel, .sentinel, .pinned], laidTests := true, laidLooks := .later }
def FnExactParseClimateCardSaid : Prop := Claim7.holds Tryd.pinned (.plain (OpenSpec.ofChange fnExactParseClimateSpec)) fnExactParseClimateCard

/-- THE SECOND FORM's CARD OF 'laws.FnExactClimateText'. -/
def fnExactClimateTextUptoCard : Claim7 := { stood := { row := fnExactClimateTextUptoRow, standIns := [], harness := (true, "acbc6a2e8eee0bfe4d49616a3048be4a6b8d3ceaf5ff81993937f3fce2a969c7"), looks := true }, kinds := [], alts := [], laidByText := true, laidKinds := [.data, .data, .data], laidTests := true, laidLooks := .later }
def FnExactClimateTextUptoCardSaid : Prop := Claim7.holds Tryd.pinned (.plain (OpenSpec.upto fnExactClimateTextSpec)) fnExactClimateTextUptoCard

/-- THE SECOND FORM's CARD OF 'laws.FnExactParseClimate'. -/
def fnExactParseClimateUptoCard : Claim7 := { stood := { row := fnExactParseClimateUptoRow, standIns := [], harness := (true, "acbc6a2e8eee0bfe4d49616a3048be4a6b8d3ceaf5ff81993937f3fce2a969c7"), looks := true }, kinds := [], alts := [], laidByText := true, laidKinds := [.data, .data, .data, .data, .sentinel, .sentinel, .pinned], laidTests := true, laidLooks := .later }
def FnExactParseClimateUptoCardSaid : Prop := Claim7.holds Tryd.pinned (.plain (OpenSpec.upto fnExactParseClimateSpec)) fnExactParseClimateUptoCard
end Rows
end Go.Proofs.YtedgfiikaedeoaaDoor
