/-
  DERIVED. GIVEN WITH THE SEED: THE CARDS: each row of YtehkpnfehfcphaaDoorRows.lean that lists a variable, with what it lists TIED to the program's text (the seventh form; the later family's looks); each row that meets fmt, with fmt's text TOLD by the authors' own Lean function (tested against real Go, not proved from fmt's source: count such statements apart). THE CARD IS WHAT COUNTS. Prove the row's statement (the work); the ties are given (YtehkpnfehfcphaaDoorTie.lean); close each card by the builder's one call (the guide's Derived/Test/ToyasCard.lean, 'card_holds'). Laid BY PROGRAM, IN A SANDBOX (cutbox-door.mjs). By AI agents, Wed Nov 11 2026. No macro, syntax, notation, axiom, sorry.
-/
import Derived.Test.YtehkpnfehfcphaaDoorRows
import GoSem.ClaimSeven
namespace Go.Proofs.YtehkpnfehfcphaaDoor
namespace Rows

/-- THE TIED CARD OF 'laws.FnExactRemoveKind'. -/
def fnExactRemoveKindCard : Claim7 := { stood := { row := fnExactRemoveKindRow, standIns := [], harness := (true, "1e254b5ffb42d55fdd9a0f1432cd512199a324515b7c874611657d8af359fe9b"), looks := false }, kinds := [], alts := [], laidByText := true, laidKinds := [.data], laidTests := true, laidLooks := .later }
def FnExactRemoveKindCardSaid : Prop := Claim7.holds Tryd.pinned (.plain (OpenSpec.ofChange fnExactRemoveKindSpec)) fnExactRemoveKindCard

/-- THE SECOND FORM's CARD OF 'laws.FnExactRemoveKind'. -/
def fnExactRemoveKindUptoCard : Claim7 := { stood := { row := fnExactRemoveKindUptoRow, standIns := [], harness := (true, "1e254b5ffb42d55fdd9a0f1432cd512199a324515b7c874611657d8af359fe9b"), looks := false }, kinds := [], alts := [], laidByText := true, laidKinds := [.data], laidTests := true, laidLooks := .later }
def FnExactRemoveKindUptoCardSaid : Prop := Claim7.holds Tryd.pinned (.plain (OpenSpec.upto fnExactRemoveKindSpec)) fnExactRemoveKindUptoCard
end Rows
end Go.Proofs.YtehkpnfehfcphaaDoor
