/-
  DERIVED. GIVEN WITH THE SEED: THE CARDS: each row of YtdhkdkefhoafnaaGreatDoorRows.lean that lists a variable, with what it lists TIED to the program's text (the seventh form; the later family's looks); each row that meets fmt, with fmt's text TOLD by the authors' own Lean function (tested against real Go, not proved from fmt's source: count such statements apart). THE CARD IS WHAT COUNTS. Prove the row's statement (the work); the ties are given (YtdhkdkefhoafnaaGreatDoorTie.lean); close each card by the builder's one call (the guide's Derived/Test/ToyasCard.lean, 'card_holds'). Laid BY PROGRAM, IN A SANDBOX (cutbox-door.mjs). By AI agents, Wed Nov 11 2026. No macro, syntax, notation, axiom, sorry.
-/
import Derived.Test.YtdhkdkefhoafnaaGreatDoorRows
import GoSem.ClaimSeven
namespace Go.Proofs.YtdhkdkefhoafnaaGreatDoor
namespace Rows

/-- THE TIED CARD OF 'laws.FnExactSeedOf'. -/
def fnExactSeedOfCard : Claim7 := { stood := { row := fnExactSeedOfRow, standIns := [], harness := (true, "d203bccee703e451919d810a3d004d983b1a7c9485dee67d816d0a2c3449f33c"), looks := false }, kinds := [], alts := [], laidByText := true, laidKinds := [.data], laidTests := true, laidLooks := .later }
def FnExactSeedOfCardSaid : Prop := Claim7.holds Tryz.pinned (.plain (OpenSpec.ofChange fnExactSeedOfSpec)) fnExactSeedOfCard

/-- THE SECOND FORM's CARD OF 'laws.FnExactSeedOf'. -/
def fnExactSeedOfUptoCard : Claim7 := { stood := { row := fnExactSeedOfUptoRow, standIns := [], harness := (true, "d203bccee703e451919d810a3d004d983b1a7c9485dee67d816d0a2c3449f33c"), looks := false }, kinds := [], alts := [], laidByText := true, laidKinds := [.data], laidTests := true, laidLooks := .later }
def FnExactSeedOfUptoCardSaid : Prop := Claim7.holds Tryz.pinned (.plain (OpenSpec.upto fnExactSeedOfSpec)) fnExactSeedOfUptoCard
end Rows
end Go.Proofs.YtdhkdkefhoafnaaGreatDoor
