/-
  DERIVED. GIVEN WITH THE SEED: THE CARDS: each row of YtlkcpadkjepchaaGreatDoorRows.lean that lists a variable, with what it lists TIED to the program's text (the seventh form; the later family's looks); each row that meets fmt, with fmt's text TOLD by the authors' own Lean function (tested against real Go, not proved from fmt's source: count such statements apart). THE CARD IS WHAT COUNTS. Prove the row's statement (the work); the ties are given (YtlkcpadkjepchaaGreatDoorTie.lean); close each card by the builder's one call (the guide's Derived/Test/ToyasCard.lean, 'card_holds'). Laid BY PROGRAM, IN A SANDBOX (cutbox-door.mjs). By AI agents, Wed Nov 11 2026. No macro, syntax, notation, axiom, sorry.
-/
import Derived.Test.YtlkcpadkjepchaaGreatDoorRows
import GoSem.ClaimSeven
namespace Go.Proofs.YtlkcpadkjepchaaGreatDoor
namespace Rows

/-- THE TIED CARD OF 'laws.FnExactBattlePhase'. -/
def fnExactBattlePhaseCard : Claim7 := { stood := { row := fnExactBattlePhaseRow, standIns := [], harness := (true, "2c936ede19ea86d3781d40c58ad5713a0225c1689e302f24a1df2a55bb7745a7"), looks := false }, kinds := [], alts := [], laidByText := true, laidKinds := [.data], laidTests := true, laidLooks := .later }
def FnExactBattlePhaseCardSaid : Prop := Claim7.holds Tryz.pinned (.plain (OpenSpec.ofChange fnExactBattlePhaseSpec)) fnExactBattlePhaseCard

/-- THE SECOND FORM's CARD OF 'laws.FnExactBattlePhase'. -/
def fnExactBattlePhaseUptoCard : Claim7 := { stood := { row := fnExactBattlePhaseUptoRow, standIns := [], harness := (true, "2c936ede19ea86d3781d40c58ad5713a0225c1689e302f24a1df2a55bb7745a7"), looks := false }, kinds := [], alts := [], laidByText := true, laidKinds := [.data], laidTests := true, laidLooks := .later }
def FnExactBattlePhaseUptoCardSaid : Prop := Claim7.holds Tryz.pinned (.plain (OpenSpec.upto fnExactBattlePhaseSpec)) fnExactBattlePhaseUptoCard
end Rows
end Go.Proofs.YtlkcpadkjepchaaGreatDoor
