/-
  NARROWER THAN 'FOR EVERY INPUT', by the rows' own cells (each row's printed sentence says how): FnExactCountSheets: laid · FnExactOrderChoices: laid.
  DERIVED. THE GIVEN ROWS OF THIS SEAT. 2 by the template 'for every input the law returns true; each argument reads behind the call as it read before'; 0 by the template 'total and deterministic' (their statements: YthggfnefjbckeaaGreatDoorTotals.lean).
  GIVEN WITH THE SEED: the statements are not yours to turn. If you find one false, say at which input.
  Laid BY PROGRAM, IN A SANDBOX (cutbox-rows.mjs): the forced cells as the released guide's own fill.sh prints them over the translation f452c56d95576866… (all of the seat's roots in one cut). By AI agents, Wed Nov 11 2026. No macro, syntax, notation, axiom, sorry.
-/
import Derived.Test.YthggfnefjbckeaaGreatDoorChecked
import GoSem.Claim
import GoSem.ClaimJoined
import GoSem.ClaimMapViews
import Derived.JoinedTies
import Derived.KernelRfl
namespace Go.Proofs.YthggfnefjbckeaaGreatDoor
/- THE CELL 'sum', in the pinned program and in every row, IS THE sha256 OF THE DUMP (.gsa) THAT YthggfnefjbckeaaGreatDoorProg.lean LOADS. Nothing in Lean hashes anything: it is a label: what it is worth is what the hold of that sum in a sandbox is worth. -/
noncomputable def Tryz.pinned : Pinned := { name := "ythggfnefjbckeaagreatdoor", sum := "f452c56d95576866920e839d9b09787d1d9e339964707075d9a4a9af66f785c1", checked := Tryz.checked }
namespace Rows
def none {H : Type} : Left H := { results := [], args := [] }

/- WHAT THE LISTED PACKAGE-LEVEL VARIABLES READ AS WHEN THE CALL BEGINS. Each datum BY PROGRAM (the guide's laid-datum.mjs) off the statement by which the dump's own 'gosem.cut.vars' lays the variable. In a bare row this is a premise. The card (YthggfnefjbckeaaGreatDoorCards.lean) ties it to the program's text. -/
def laid_loop_example_g00886_impl_directions {H : Type} : DataW H := .agg [.agg [.lit (.int .i64 1), .lit (.int .i64 0)], .agg [.lit (.int .i64 1), .lit (.int .i64 (-1))], .agg [.lit (.int .i64 0), .lit (.int .i64 (-1))], .agg [.lit (.int .i64 (-1)), .lit (.int .i64 0)], .agg [.lit (.int .i64 (-1)), .lit (.int .i64 1)], .agg [.lit (.int .i64 0), .lit (.int .i64 1)]]

/-- 'laws.FnExactCountSheets': WHATEVER THE INPUT: true; the input reads as it did. -/
def fnExactCountSheetsSpec : ChangeSpec := { name := "fnExactCountSheets", vars := ["loop.example/g00886/impl.directions"], fn := fun _ => fun
  | [d1, d2, d3, g1] => { results := [.lit (.bool true)], args := [d1, d2, d3], vars := [g1] }
  | _ => none }
def fnExactCountSheetsRow : OpenClaim := { program := "ythggfnefjbckeaagreatdoor", sum := "f452c56d95576866920e839d9b09787d1d9e339964707075d9a4a9af66f785c1", func := "loop.example/g00886/laws.FnExactCountSheets", spec := "fnExactCountSheets", unfollowed := true, recurses := true, named := ["loop.example/g00886/impl.directions"], apart := false, laid := [("loop.example/g00886/impl.directions", laid_loop_example_g00886_impl_directions)] }
def FnExactCountSheetsSaid : Prop := fnExactCountSheetsRow.holds Tryz.pinned (OpenSpec.ofChange fnExactCountSheetsSpec)

/-- ITS FALSE NEIGHBOUR: 'it returns false'. Refute it at one input. -/
def fnExactCountSheetsWrong : ChangeSpec := { name := "fnExactCountSheets", vars := ["loop.example/g00886/impl.directions"], fn := fun _ => fun
  | [d1, d2, d3, g1] => { results := [.lit (.bool false)], args := [d1, d2, d3], vars := [g1] }
  | _ => none }
def FnExactCountSheetsWrongFalsely : Prop := fnExactCountSheetsRow.holds Tryz.pinned (OpenSpec.ofChange fnExactCountSheetsWrong)

/-- 'laws.FnExactOrderChoices': WHATEVER THE INPUT: true; the input reads as it did. -/
def fnExactOrderChoicesSpec : ChangeSpec := { name := "fnExactOrderChoices", vars := ["loop.example/g00886/impl.directions"], fn := fun _ => fun
  | [d1, d2, d3, g1] => { results := [.lit (.bool true)], args := [d1, d2, d3], vars := [g1] }
  | _ => none }
def fnExactOrderChoicesRow : OpenClaim := { program := "ythggfnefjbckeaagreatdoor", sum := "f452c56d95576866920e839d9b09787d1d9e339964707075d9a4a9af66f785c1", func := "loop.example/g00886/laws.FnExactOrderChoices", spec := "fnExactOrderChoices", unfollowed := true, recurses := true, named := ["loop.example/g00886/impl.directions"], apart := false, laid := [("loop.example/g00886/impl.directions", laid_loop_example_g00886_impl_directions)] }
def FnExactOrderChoicesSaid : Prop := fnExactOrderChoicesRow.holds Tryz.pinned (OpenSpec.ofChange fnExactOrderChoicesSpec)

/-- ITS FALSE NEIGHBOUR: 'it returns false'. Refute it at one input. -/
def fnExactOrderChoicesWrong : ChangeSpec := { name := "fnExactOrderChoices", vars := ["loop.example/g00886/impl.directions"], fn := fun _ => fun
  | [d1, d2, d3, g1] => { results := [.lit (.bool false)], args := [d1, d2, d3], vars := [g1] }
  | _ => none }
def FnExactOrderChoicesWrongFalsely : Prop := fnExactOrderChoicesRow.holds Tryz.pinned (OpenSpec.ofChange fnExactOrderChoicesWrong)

/- THE SECOND FORM. 'bulk': how many values and letters a reading holds, each counted each time it is reached (what is shared counts as often as it is met; a slice's spare places count too). A statement '..UptoSaid' is the law's where the arguments, and the package variables that the reading takes, are together of bulk at most 1048576: NARROWER than '..Said'. Prove '..Said' where nothing that the law and all that it calls make is longer than what came in: it says more and counts as full. Else prove '..UptoSaid'. A law counts once. -/
mutual
def uptoBulk {H : Type} : DataW H → Nat
  | .lit (.string bytes) => bytes.length + 1
  | .lit _ => 1
  | .nil => 1
  | .ptr d => uptoBulk d + 1
  | .slice elems spare => uptoBulkAll elems + uptoBulkAll spare + 1
  | .agg parts => uptoBulkAll parts + 1
  | .iface _ d => uptoBulk d + 1
  | .map entries => uptoBulkEntries entries + 1
  | .held _ => 1
def uptoBulkAll {H : Type} : List (DataW H) → Nat
  | [] => 0
  | d :: r => uptoBulk d + uptoBulkAll r
def uptoBulkEntries {H : Type} : List (Lit × DataW H) → Nat
  | [] => 0
  | x :: r => uptoBulkEntry x + uptoBulkEntries r
def uptoBulkEntry {H : Type} : Lit × DataW H → Nat
  | (.string bytes, d) => bytes.length + uptoBulk d + 1
  | (_, d) => uptoBulk d + 1
 end
def uptoSmall : (H : Type) → List (DataW H) → Bool := fun _ ds => decide (uptoBulkAll ds ≤ 1048576)
def OpenSpec.upto (s : _root_.Go.ChangeSpec) : _root_.Go.OpenSpec := { _root_.Go.OpenSpec.ofChange s with cond := some uptoSmall }

/-- 'laws.FnExactCountSheets', WHERE WHAT IT READS IS OF BULK AT MOST 1048576: true; the input reads as it did. -/
def fnExactCountSheetsUptoRow : OpenClaim := { program := "ythggfnefjbckeaagreatdoor", sum := "f452c56d95576866920e839d9b09787d1d9e339964707075d9a4a9af66f785c1", func := "loop.example/g00886/laws.FnExactCountSheets", spec := "fnExactCountSheets", unfollowed := true, recurses := true, named := ["loop.example/g00886/impl.directions"], apart := false, laid := [("loop.example/g00886/impl.directions", laid_loop_example_g00886_impl_directions)], narrowed := true }
def FnExactCountSheetsUptoSaid : Prop := fnExactCountSheetsUptoRow.holds Tryz.pinned (OpenSpec.upto fnExactCountSheetsSpec)

/-- 'laws.FnExactOrderChoices', WHERE WHAT IT READS IS OF BULK AT MOST 1048576: true; the input reads as it did. -/
def fnExactOrderChoicesUptoRow : OpenClaim := { program := "ythggfnefjbckeaagreatdoor", sum := "f452c56d95576866920e839d9b09787d1d9e339964707075d9a4a9af66f785c1", func := "loop.example/g00886/laws.FnExactOrderChoices", spec := "fnExactOrderChoices", unfollowed := true, recurses := true, named := ["loop.example/g00886/impl.directions"], apart := false, laid := [("loop.example/g00886/impl.directions", laid_loop_example_g00886_impl_directions)], narrowed := true }
def FnExactOrderChoicesUptoSaid : Prop := fnExactOrderChoicesUptoRow.holds Tryz.pinned (OpenSpec.upto fnExactOrderChoicesSpec)

end Rows
end Go.Proofs.YthggfnefjbckeaaGreatDoor
