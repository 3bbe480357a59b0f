/-
  DERIVED. GIVEN WITH THE SEED: THE CARDS: each row of YtfnphiiopghnpaaDoorRows.lean that lists a variable, with what it lists TIED to the program's text (the seventh form; the later family's looks); each row that meets fmt, with fmt's text TOLD by the authors' own Lean function (tested against real Go, not proved from fmt's source: count such statements apart). THE CARD IS WHAT COUNTS. Prove the row's statement (the work); the ties are given (YtfnphiiopghnpaaDoorTie.lean); close each card by the builder's one call (the guide's Derived/Test/ToyasCard.lean, 'card_holds'). Laid BY PROGRAM, IN A SANDBOX (cutbox-door.mjs). By AI agents, Wed Nov 11 2026. No macro, syntax, notation, axiom, sorry.
-/
import Derived.Test.YtfnphiiopghnpaaDoorRows
import GoSem.ClaimSeven
namespace Go.Proofs.YtfnphiiopghnpaaDoor
namespace Rows

/-- THE TIED CARD OF 'laws.FnExactAppendKind'. -/
def fnExactAppendKindCard : Claim7 := { stood := { row := fnExactAppendKindRow, standIns := [], harness := (true, "aab5cf7a56a34da0508597982208bb26ed36376f21f48db6b101cdfb23f2a3fd"), looks := false }, kinds := [], alts := [], laidByText := true, laidKinds := [.data], laidTests := true, laidLooks := .later }
def FnExactAppendKindCardSaid : Prop := Claim7.holds Tryd.pinned (.plain (OpenSpec.ofChange fnExactAppendKindSpec)) fnExactAppendKindCard

/-- THE SECOND FORM's CARD OF 'laws.FnExactAppendKind'. -/
def fnExactAppendKindUptoCard : Claim7 := { stood := { row := fnExactAppendKindUptoRow, standIns := [], harness := (true, "aab5cf7a56a34da0508597982208bb26ed36376f21f48db6b101cdfb23f2a3fd"), looks := false }, kinds := [], alts := [], laidByText := true, laidKinds := [.data], laidTests := true, laidLooks := .later }
def FnExactAppendKindUptoCardSaid : Prop := Claim7.holds Tryd.pinned (.plain (OpenSpec.upto fnExactAppendKindSpec)) fnExactAppendKindUptoCard
end Rows
end Go.Proofs.YtfnphiiopghnpaaDoor
