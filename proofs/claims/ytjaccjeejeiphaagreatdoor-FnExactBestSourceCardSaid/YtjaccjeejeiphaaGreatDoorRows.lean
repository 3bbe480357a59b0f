/-
  NARROWER THAN 'FOR EVERY INPUT', by the rows' own cells (each row's printed sentence says how): FnExactBuildCode: laid · FnExactIsOver: laid · FnExactTurnsLeft: laid · FnExactRestoreStep: laid · FnExactProduceTurn: laid · FnExactProduceTurns: laid · FnExactWeatherPhase: laid · FnExactValueOf: laid · FnExactCompareStates: laid · FnExactCountSheets: laid · FnExactSupplyPhase: laid · FnExactBestSource: laid.
  DERIVED. THE GIVEN ROWS OF THIS SEAT. 12 by the template 'for every input the law returns true; each argument reads behind the call as it read before'; 0 by the template 'total and deterministic' (their statements: YtjaccjeejeiphaaGreatDoorTotals.lean).
  GIVEN WITH THE SEED: the statements are not yours to turn. If you find one false, say at which input.
  Laid BY PROGRAM, IN A SANDBOX (cutbox-rows.mjs): the forced cells as the released guide's own fill.sh prints them over the translation 6947a5314861a3a0… (all of the seat's roots in one cut). By AI agents, Wed Nov 11 2026. No macro, syntax, notation, axiom, sorry.
-/
import Derived.Test.YtjaccjeejeiphaaGreatDoorChecked
import GoSem.Claim
import GoSem.ClaimJoined
import GoSem.ClaimMapViews
import Derived.JoinedTies
import Derived.KernelRfl
namespace Go.Proofs.YtjaccjeejeiphaaGreatDoor
/- THE CELL 'sum', in the pinned program and in every row, IS THE sha256 OF THE DUMP (.gsa) THAT YtjaccjeejeiphaaGreatDoorProg.lean LOADS. Nothing in Lean hashes anything: it is a label: what it is worth is what the hold of that sum in a sandbox is worth. -/
noncomputable def Tryz.pinned : Pinned := { name := "ytjaccjeejeiphaagreatdoor", sum := "6947a5314861a3a00c7e97bf94274b60bb6e934bda71c1ca7a300d75c9399202", checked := Tryz.checked }
namespace Rows
def none {H : Type} : Left H := { results := [], args := [] }

/- WHAT THE LISTED PACKAGE-LEVEL VARIABLES READ AS WHEN THE CALL BEGINS. Each datum BY PROGRAM (the guide's laid-datum.mjs) off the statement by which the dump's own 'gosem.cut.vars' lays the variable. In a bare row this is a premise. The card (YtjaccjeejeiphaaGreatDoorCards.lean) ties it to the program's text. -/
def laid_loop_example_g00886_impl_directions {H : Type} : DataW H := .agg [.agg [.lit (.int .i64 1), .lit (.int .i64 0)], .agg [.lit (.int .i64 1), .lit (.int .i64 (-1))], .agg [.lit (.int .i64 0), .lit (.int .i64 (-1))], .agg [.lit (.int .i64 (-1)), .lit (.int .i64 0)], .agg [.lit (.int .i64 (-1)), .lit (.int .i64 1)], .agg [.lit (.int .i64 0), .lit (.int .i64 1)]]

/-- 'laws.FnExactBuildCode': WHATEVER THE INPUT: true; the input reads as it did. -/
def fnExactBuildCodeSpec : ChangeSpec := { name := "fnExactBuildCode", vars := ["loop.example/g00886/impl.directions"], fn := fun _ => fun
  | [d1, d2, d3, g1] => { results := [.lit (.bool true)], args := [d1, d2, d3], vars := [g1] }
  | _ => none }
def fnExactBuildCodeRow : OpenClaim := { program := "ytjaccjeejeiphaagreatdoor", sum := "6947a5314861a3a00c7e97bf94274b60bb6e934bda71c1ca7a300d75c9399202", func := "loop.example/g00886/laws.FnExactBuildCode", spec := "fnExactBuildCode", unfollowed := true, recurses := true, named := ["loop.example/g00886/impl.directions"], apart := false, laid := [("loop.example/g00886/impl.directions", laid_loop_example_g00886_impl_directions)] }
def FnExactBuildCodeSaid : Prop := fnExactBuildCodeRow.holds Tryz.pinned (OpenSpec.ofChange fnExactBuildCodeSpec)

/-- ITS FALSE NEIGHBOUR: 'it returns false'. Refute it at one input. -/
def fnExactBuildCodeWrong : ChangeSpec := { name := "fnExactBuildCode", vars := ["loop.example/g00886/impl.directions"], fn := fun _ => fun
  | [d1, d2, d3, g1] => { results := [.lit (.bool false)], args := [d1, d2, d3], vars := [g1] }
  | _ => none }
def FnExactBuildCodeWrongFalsely : Prop := fnExactBuildCodeRow.holds Tryz.pinned (OpenSpec.ofChange fnExactBuildCodeWrong)

/-- 'laws.FnExactIsOver': WHATEVER THE INPUT: true; the input reads as it did. -/
def fnExactIsOverSpec : ChangeSpec := { name := "fnExactIsOver", vars := ["loop.example/g00886/impl.directions"], fn := fun _ => fun
  | [d1, d2, g1] => { results := [.lit (.bool true)], args := [d1, d2], vars := [g1] }
  | _ => none }
def fnExactIsOverRow : OpenClaim := { program := "ytjaccjeejeiphaagreatdoor", sum := "6947a5314861a3a00c7e97bf94274b60bb6e934bda71c1ca7a300d75c9399202", func := "loop.example/g00886/laws.FnExactIsOver", spec := "fnExactIsOver", unfollowed := true, recurses := true, named := ["loop.example/g00886/impl.directions"], apart := false, laid := [("loop.example/g00886/impl.directions", laid_loop_example_g00886_impl_directions)] }
def FnExactIsOverSaid : Prop := fnExactIsOverRow.holds Tryz.pinned (OpenSpec.ofChange fnExactIsOverSpec)

/-- ITS FALSE NEIGHBOUR: 'it returns false'. Refute it at one input. -/
def fnExactIsOverWrong : ChangeSpec := { name := "fnExactIsOver", vars := ["loop.example/g00886/impl.directions"], fn := fun _ => fun
  | [d1, d2, g1] => { results := [.lit (.bool false)], args := [d1, d2], vars := [g1] }
  | _ => none }
def FnExactIsOverWrongFalsely : Prop := fnExactIsOverRow.holds Tryz.pinned (OpenSpec.ofChange fnExactIsOverWrong)

/-- 'laws.FnExactTurnsLeft': WHATEVER THE INPUT: true; the input reads as it did. -/
def fnExactTurnsLeftSpec : ChangeSpec := { name := "fnExactTurnsLeft", vars := ["loop.example/g00886/impl.directions"], fn := fun _ => fun
  | [d1, d2, g1] => { results := [.lit (.bool true)], args := [d1, d2], vars := [g1] }
  | _ => none }
def fnExactTurnsLeftRow : OpenClaim := { program := "ytjaccjeejeiphaagreatdoor", sum := "6947a5314861a3a00c7e97bf94274b60bb6e934bda71c1ca7a300d75c9399202", func := "loop.example/g00886/laws.FnExactTurnsLeft", spec := "fnExactTurnsLeft", unfollowed := true, recurses := true, named := ["loop.example/g00886/impl.directions"], apart := false, laid := [("loop.example/g00886/impl.directions", laid_loop_example_g00886_impl_directions)] }
def FnExactTurnsLeftSaid : Prop := fnExactTurnsLeftRow.holds Tryz.pinned (OpenSpec.ofChange fnExactTurnsLeftSpec)

/-- ITS FALSE NEIGHBOUR: 'it returns false'. Refute it at one input. -/
def fnExactTurnsLeftWrong : ChangeSpec := { name := "fnExactTurnsLeft", vars := ["loop.example/g00886/impl.directions"], fn := fun _ => fun
  | [d1, d2, g1] => { results := [.lit (.bool false)], args := [d1, d2], vars := [g1] }
  | _ => none }
def FnExactTurnsLeftWrongFalsely : Prop := fnExactTurnsLeftRow.holds Tryz.pinned (OpenSpec.ofChange fnExactTurnsLeftWrong)

/-- 'laws.FnExactRestoreStep': WHATEVER THE INPUT: true; the input reads as it did. -/
def fnExactRestoreStepSpec : ChangeSpec := { name := "fnExactRestoreStep", vars := ["loop.example/g00886/impl.directions"], fn := fun _ => fun
  | [d1, d2, d3, d4, g1] => { results := [.lit (.bool true)], args := [d1, d2, d3, d4], vars := [g1] }
  | _ => none }
def fnExactRestoreStepRow : OpenClaim := { program := "ytjaccjeejeiphaagreatdoor", sum := "6947a5314861a3a00c7e97bf94274b60bb6e934bda71c1ca7a300d75c9399202", func := "loop.example/g00886/laws.FnExactRestoreStep", spec := "fnExactRestoreStep", unfollowed := true, recurses := true, named := ["loop.example/g00886/impl.directions"], apart := false, laid := [("loop.example/g00886/impl.directions", laid_loop_example_g00886_impl_directions)] }
def FnExactRestoreStepSaid : Prop := fnExactRestoreStepRow.holds Tryz.pinned (OpenSpec.ofChange fnExactRestoreStepSpec)

/-- ITS FALSE NEIGHBOUR: 'it returns false'. Refute it at one input. -/
def fnExactRestoreStepWrong : ChangeSpec := { name := "fnExactRestoreStep", vars := ["loop.example/g00886/impl.directions"], fn := fun _ => fun
  | [d1, d2, d3, d4, g1] => { results := [.lit (.bool false)], args := [d1, d2, d3, d4], vars := [g1] }
  | _ => none }
def FnExactRestoreStepWrongFalsely : Prop := fnExactRestoreStepRow.holds Tryz.pinned (OpenSpec.ofChange fnExactRestoreStepWrong)

/-- 'laws.FnExactProduceTurn': WHATEVER THE INPUT: true; the input reads as it did. -/
def fnExactProduceTurnSpec : ChangeSpec := { name := "fnExactProduceTurn", vars := ["loop.example/g00886/impl.directions"], fn := fun _ => fun
  | [d1, d2, d3, d4, g1] => { results := [.lit (.bool true)], args := [d1, d2, d3, d4], vars := [g1] }
  | _ => none }
def fnExactProduceTurnRow : OpenClaim := { program := "ytjaccjeejeiphaagreatdoor", sum := "6947a5314861a3a00c7e97bf94274b60bb6e934bda71c1ca7a300d75c9399202", func := "loop.example/g00886/laws.FnExactProduceTurn", spec := "fnExactProduceTurn", unfollowed := true, recurses := true, named := ["loop.example/g00886/impl.directions"], apart := false, laid := [("loop.example/g00886/impl.directions", laid_loop_example_g00886_impl_directions)] }
def FnExactProduceTurnSaid : Prop := fnExactProduceTurnRow.holds Tryz.pinned (OpenSpec.ofChange fnExactProduceTurnSpec)

/-- ITS FALSE NEIGHBOUR: 'it returns false'. Refute it at one input. -/
def fnExactProduceTurnWrong : ChangeSpec := { name := "fnExactProduceTurn", vars := ["loop.example/g00886/impl.directions"], fn := fun _ => fun
  | [d1, d2, d3, d4, g1] => { results := [.lit (.bool false)], args := [d1, d2, d3, d4], vars := [g1] }
  | _ => none }
def FnExactProduceTurnWrongFalsely : Prop := fnExactProduceTurnRow.holds Tryz.pinned (OpenSpec.ofChange fnExactProduceTurnWrong)

/-- 'laws.FnExactProduceTurns': WHATEVER THE INPUT: true; the input reads as it did. -/
def fnExactProduceTurnsSpec : ChangeSpec := { name := "fnExactProduceTurns", vars := ["loop.example/g00886/impl.directions"], fn := fun _ => fun
  | [d1, d2, d3, d4, d5, g1] => { results := [.lit (.bool true)], args := [d1, d2, d3, d4, d5], vars := [g1] }
  | _ => none }
def fnExactProduceTurnsRow : OpenClaim := { program := "ytjaccjeejeiphaagreatdoor", sum := "6947a5314861a3a00c7e97bf94274b60bb6e934bda71c1ca7a300d75c9399202", func := "loop.example/g00886/laws.FnExactProduceTurns", spec := "fnExactProduceTurns", unfollowed := true, recurses := true, named := ["loop.example/g00886/impl.directions"], apart := false, laid := [("loop.example/g00886/impl.directions", laid_loop_example_g00886_impl_directions)] }
def FnExactProduceTurnsSaid : Prop := fnExactProduceTurnsRow.holds Tryz.pinned (OpenSpec.ofChange fnExactProduceTurnsSpec)

/-- ITS FALSE NEIGHBOUR: 'it returns false'. Refute it at one input. -/
def fnExactProduceTurnsWrong : ChangeSpec := { name := "fnExactProduceTurns", vars := ["loop.example/g00886/impl.directions"], fn := fun _ => fun
  | [d1, d2, d3, d4, d5, g1] => { results := [.lit (.bool false)], args := [d1, d2, d3, d4, d5], vars := [g1] }
  | _ => none }
def FnExactProduceTurnsWrongFalsely : Prop := fnExactProduceTurnsRow.holds Tryz.pinned (OpenSpec.ofChange fnExactProduceTurnsWrong)

/-- 'laws.FnExactWeatherPhase': WHATEVER THE INPUT: true; the input reads as it did. -/
def fnExactWeatherPhaseSpec : ChangeSpec := { name := "fnExactWeatherPhase", vars := ["loop.example/g00886/impl.directions"], fn := fun _ => fun
  | [d1, d2, d3, g1] => { results := [.lit (.bool true)], args := [d1, d2, d3], vars := [g1] }
  | _ => none }
def fnExactWeatherPhaseRow : OpenClaim := { program := "ytjaccjeejeiphaagreatdoor", sum := "6947a5314861a3a00c7e97bf94274b60bb6e934bda71c1ca7a300d75c9399202", func := "loop.example/g00886/laws.FnExactWeatherPhase", spec := "fnExactWeatherPhase", unfollowed := true, recurses := true, named := ["loop.example/g00886/impl.directions"], apart := false, laid := [("loop.example/g00886/impl.directions", laid_loop_example_g00886_impl_directions)] }
def FnExactWeatherPhaseSaid : Prop := fnExactWeatherPhaseRow.holds Tryz.pinned (OpenSpec.ofChange fnExactWeatherPhaseSpec)

/-- ITS FALSE NEIGHBOUR: 'it returns false'. Refute it at one input. -/
def fnExactWeatherPhaseWrong : ChangeSpec := { name := "fnExactWeatherPhase", vars := ["loop.example/g00886/impl.directions"], fn := fun _ => fun
  | [d1, d2, d3, g1] => { results := [.lit (.bool false)], args := [d1, d2, d3], vars := [g1] }
  | _ => none }
def FnExactWeatherPhaseWrongFalsely : Prop := fnExactWeatherPhaseRow.holds Tryz.pinned (OpenSpec.ofChange fnExactWeatherPhaseWrong)

/-- 'laws.FnExactValueOf': WHATEVER THE INPUT: true; the input reads as it did. -/
def fnExactValueOfSpec : ChangeSpec := { name := "fnExactValueOf", vars := ["loop.example/g00886/impl.directions"], fn := fun _ => fun
  | [d1, d2, d3, g1] => { results := [.lit (.bool true)], args := [d1, d2, d3], vars := [g1] }
  | _ => none }
def fnExactValueOfRow : OpenClaim := { program := "ytjaccjeejeiphaagreatdoor", sum := "6947a5314861a3a00c7e97bf94274b60bb6e934bda71c1ca7a300d75c9399202", func := "loop.example/g00886/laws.FnExactValueOf", spec := "fnExactValueOf", unfollowed := true, recurses := true, named := ["loop.example/g00886/impl.directions"], apart := false, laid := [("loop.example/g00886/impl.directions", laid_loop_example_g00886_impl_directions)] }
def FnExactValueOfSaid : Prop := fnExactValueOfRow.holds Tryz.pinned (OpenSpec.ofChange fnExactValueOfSpec)

/-- ITS FALSE NEIGHBOUR: 'it returns false'. Refute it at one input. -/
def fnExactValueOfWrong : ChangeSpec := { name := "fnExactValueOf", vars := ["loop.example/g00886/impl.directions"], fn := fun _ => fun
  | [d1, d2, d3, g1] => { results := [.lit (.bool false)], args := [d1, d2, d3], vars := [g1] }
  | _ => none }
def FnExactValueOfWrongFalsely : Prop := fnExactValueOfRow.holds Tryz.pinned (OpenSpec.ofChange fnExactValueOfWrong)

/-- 'laws.FnExactCompareStates': WHATEVER THE INPUT: true; the input reads as it did. -/
def fnExactCompareStatesSpec : ChangeSpec := { name := "fnExactCompareStates", vars := ["loop.example/g00886/impl.directions"], fn := fun _ => fun
  | [d1, d2, d3, d4, g1] => { results := [.lit (.bool true)], args := [d1, d2, d3, d4], vars := [g1] }
  | _ => none }
def fnExactCompareStatesRow : OpenClaim := { program := "ytjaccjeejeiphaagreatdoor", sum := "6947a5314861a3a00c7e97bf94274b60bb6e934bda71c1ca7a300d75c9399202", func := "loop.example/g00886/laws.FnExactCompareStates", spec := "fnExactCompareStates", unfollowed := true, recurses := true, named := ["loop.example/g00886/impl.directions"], apart := false, laid := [("loop.example/g00886/impl.directions", laid_loop_example_g00886_impl_directions)] }
def FnExactCompareStatesSaid : Prop := fnExactCompareStatesRow.holds Tryz.pinned (OpenSpec.ofChange fnExactCompareStatesSpec)

/-- ITS FALSE NEIGHBOUR: 'it returns false'. Refute it at one input. -/
def fnExactCompareStatesWrong : ChangeSpec := { name := "fnExactCompareStates", vars := ["loop.example/g00886/impl.directions"], fn := fun _ => fun
  | [d1, d2, d3, d4, g1] => { results := [.lit (.bool false)], args := [d1, d2, d3, d4], vars := [g1] }
  | _ => none }
def FnExactCompareStatesWrongFalsely : Prop := fnExactCompareStatesRow.holds Tryz.pinned (OpenSpec.ofChange fnExactCompareStatesWrong)

/-- 'laws.FnExactCountSheets': WHATEVER THE INPUT: true; the input reads as it did. -/
def fnExactCountSheetsSpec : ChangeSpec := { name := "fnExactCountSheets", vars := ["loop.example/g00886/impl.directions"], fn := fun _ => fun
  | [d1, d2, d3, g1] => { results := [.lit (.bool true)], args := [d1, d2, d3], vars := [g1] }
  | _ => none }
def fnExactCountSheetsRow : OpenClaim := { program := "ytjaccjeejeiphaagreatdoor", sum := "6947a5314861a3a00c7e97bf94274b60bb6e934bda71c1ca7a300d75c9399202", func := "loop.example/g00886/laws.FnExactCountSheets", spec := "fnExactCountSheets", unfollowed := true, recurses := true, named := ["loop.example/g00886/impl.directions"], apart := false, laid := [("loop.example/g00886/impl.directions", laid_loop_example_g00886_impl_directions)] }
def FnExactCountSheetsSaid : Prop := fnExactCountSheetsRow.holds Tryz.pinned (OpenSpec.ofChange fnExactCountSheetsSpec)

/-- ITS FALSE NEIGHBOUR: 'it returns false'. Refute it at one input. -/
def fnExactCountSheetsWrong : ChangeSpec := { name := "fnExactCountSheets", vars := ["loop.example/g00886/impl.directions"], fn := fun _ => fun
  | [d1, d2, d3, g1] => { results := [.lit (.bool false)], args := [d1, d2, d3], vars := [g1] }
  | _ => none }
def FnExactCountSheetsWrongFalsely : Prop := fnExactCountSheetsRow.holds Tryz.pinned (OpenSpec.ofChange fnExactCountSheetsWrong)

/-- 'laws.FnExactSupplyPhase': WHATEVER THE INPUT: true; the input reads as it did. -/
def fnExactSupplyPhaseSpec : ChangeSpec := { name := "fnExactSupplyPhase", vars := ["loop.example/g00886/impl.directions"], fn := fun _ => fun
  | [d1, d2, g1] => { results := [.lit (.bool true)], args := [d1, d2], vars := [g1] }
  | _ => none }
def fnExactSupplyPhaseRow : OpenClaim := { program := "ytjaccjeejeiphaagreatdoor", sum := "6947a5314861a3a00c7e97bf94274b60bb6e934bda71c1ca7a300d75c9399202", func := "loop.example/g00886/laws.FnExactSupplyPhase", spec := "fnExactSupplyPhase", unfollowed := true, recurses := true, named := ["loop.example/g00886/impl.directions"], apart := false, laid := [("loop.example/g00886/impl.directions", laid_loop_example_g00886_impl_directions)] }
def FnExactSupplyPhaseSaid : Prop := fnExactSupplyPhaseRow.holds Tryz.pinned (OpenSpec.ofChange fnExactSupplyPhaseSpec)

/-- ITS FALSE NEIGHBOUR: 'it returns false'. Refute it at one input. -/
def fnExactSupplyPhaseWrong : ChangeSpec := { name := "fnExactSupplyPhase", vars := ["loop.example/g00886/impl.directions"], fn := fun _ => fun
  | [d1, d2, g1] => { results := [.lit (.bool false)], args := [d1, d2], vars := [g1] }
  | _ => none }
def FnExactSupplyPhaseWrongFalsely : Prop := fnExactSupplyPhaseRow.holds Tryz.pinned (OpenSpec.ofChange fnExactSupplyPhaseWrong)

/-- 'laws.FnExactBestSource': WHATEVER THE INPUT: true; the input reads as it did. -/
def fnExactBestSourceSpec : ChangeSpec := { name := "fnExactBestSource", vars := ["loop.example/g00886/impl.directions"], fn := fun _ => fun
  | [d1, d2, d3, g1] => { results := [.lit (.bool true)], args := [d1, d2, d3], vars := [g1] }
  | _ => none }
def fnExactBestSourceRow : OpenClaim := { program := "ytjaccjeejeiphaagreatdoor", sum := "6947a5314861a3a00c7e97bf94274b60bb6e934bda71c1ca7a300d75c9399202", func := "loop.example/g00886/laws.FnExactBestSource", spec := "fnExactBestSource", unfollowed := true, recurses := true, named := ["loop.example/g00886/impl.directions"], apart := false, laid := [("loop.example/g00886/impl.directions", laid_loop_example_g00886_impl_directions)] }
def FnExactBestSourceSaid : Prop := fnExactBestSourceRow.holds Tryz.pinned (OpenSpec.ofChange fnExactBestSourceSpec)

/-- ITS FALSE NEIGHBOUR: 'it returns false'. Refute it at one input. -/
def fnExactBestSourceWrong : ChangeSpec := { name := "fnExactBestSource", vars := ["loop.example/g00886/impl.directions"], fn := fun _ => fun
  | [d1, d2, d3, g1] => { results := [.lit (.bool false)], args := [d1, d2, d3], vars := [g1] }
  | _ => none }
def FnExactBestSourceWrongFalsely : Prop := fnExactBestSourceRow.holds Tryz.pinned (OpenSpec.ofChange fnExactBestSourceWrong)

/- THE SECOND FORM. 'bulk': how many values and letters a reading holds, each counted each time it is reached (what is shared counts as often as it is met; a slice's spare places count too). A statement '..UptoSaid' is the law's where the arguments, and the package variables that the reading takes, are together of bulk at most 1048576: NARROWER than '..Said'. Prove '..Said' where nothing that the law and all that it calls make is longer than what came in: it says more and counts as full. Else prove '..UptoSaid'. A law counts once. -/
mutual
def uptoBulk {H : Type} : DataW H → Nat
  | .lit (.string bytes) => bytes.length + 1
  | .lit _ => 1
  | .nil => 1
  | .ptr d => uptoBulk d + 1
  | .slice elems spare => uptoBulkAll elems + uptoBulkAll spare + 1
  | .agg parts => uptoBulkAll parts + 1
  | .iface _ d => uptoBulk d + 1
  | .map entries => uptoBulkEntries entries + 1
  | .held _ => 1
def uptoBulkAll {H : Type} : List (DataW H) → Nat
  | [] => 0
  | d :: r => uptoBulk d + uptoBulkAll r
def uptoBulkEntries {H : Type} : List (Lit × DataW H) → Nat
  | [] => 0
  | x :: r => uptoBulkEntry x + uptoBulkEntries r
def uptoBulkEntry {H : Type} : Lit × DataW H → Nat
  | (.string bytes, d) => bytes.length + uptoBulk d + 1
  | (_, d) => uptoBulk d + 1
 end
def uptoSmall : (H : Type) → List (DataW H) → Bool := fun _ ds => decide (uptoBulkAll ds ≤ 1048576)
def OpenSpec.upto (s : _root_.Go.ChangeSpec) : _root_.Go.OpenSpec := { _root_.Go.OpenSpec.ofChange s with cond := some uptoSmall }

/-- 'laws.FnExactBuildCode', WHERE WHAT IT READS IS OF BULK AT MOST 1048576: true; the input reads as it did. -/
def fnExactBuildCodeUptoRow : OpenClaim := { program := "ytjaccjeejeiphaagreatdoor", sum := "6947a5314861a3a00c7e97bf94274b60bb6e934bda71c1ca7a300d75c9399202", func := "loop.example/g00886/laws.FnExactBuildCode", spec := "fnExactBuildCode", unfollowed := true, recurses := true, named := ["loop.example/g00886/impl.directions"], apart := false, laid := [("loop.example/g00886/impl.directions", laid_loop_example_g00886_impl_directions)], narrowed := true }
def FnExactBuildCodeUptoSaid : Prop := fnExactBuildCodeUptoRow.holds Tryz.pinned (OpenSpec.upto fnExactBuildCodeSpec)

/-- 'laws.FnExactIsOver', WHERE WHAT IT READS IS OF BULK AT MOST 1048576: true; the input reads as it did. -/
def fnExactIsOverUptoRow : OpenClaim := { program := "ytjaccjeejeiphaagreatdoor", sum := "6947a5314861a3a00c7e97bf94274b60bb6e934bda71c1ca7a300d75c9399202", func := "loop.example/g00886/laws.FnExactIsOver", spec := "fnExactIsOver", unfollowed := true, recurses := true, named := ["loop.example/g00886/impl.directions"], apart := false, laid := [("loop.example/g00886/impl.directions", laid_loop_example_g00886_impl_directions)], narrowed := true }
def FnExactIsOverUptoSaid : Prop := fnExactIsOverUptoRow.holds Tryz.pinned (OpenSpec.upto fnExactIsOverSpec)

/-- 'laws.FnExactTurnsLeft', WHERE WHAT IT READS IS OF BULK AT MOST 1048576: true; the input reads as it did. -/
def fnExactTurnsLeftUptoRow : OpenClaim := { program := "ytjaccjeejeiphaagreatdoor", sum := "6947a5314861a3a00c7e97bf94274b60bb6e934bda71c1ca7a300d75c9399202", func := "loop.example/g00886/laws.FnExactTurnsLeft", spec := "fnExactTurnsLeft", unfollowed := true, recurses := true, named := ["loop.example/g00886/impl.directions"], apart := false, laid := [("loop.example/g00886/impl.directions", laid_loop_example_g00886_impl_directions)], narrowed := true }
def FnExactTurnsLeftUptoSaid : Prop := fnExactTurnsLeftUptoRow.holds Tryz.pinned (OpenSpec.upto fnExactTurnsLeftSpec)

/-- 'laws.FnExactRestoreStep', WHERE WHAT IT READS IS OF BULK AT MOST 1048576: true; the input reads as it did. -/
def fnExactRestoreStepUptoRow : OpenClaim := { program := "ytjaccjeejeiphaagreatdoor", sum := "6947a5314861a3a00c7e97bf94274b60bb6e934bda71c1ca7a300d75c9399202", func := "loop.example/g00886/laws.FnExactRestoreStep", spec := "fnExactRestoreStep", unfollowed := true, recurses := true, named := ["loop.example/g00886/impl.directions"], apart := false, laid := [("loop.example/g00886/impl.directions", laid_loop_example_g00886_impl_directions)], narrowed := true }
def FnExactRestoreStepUptoSaid : Prop := fnExactRestoreStepUptoRow.holds Tryz.pinned (OpenSpec.upto fnExactRestoreStepSpec)

/-- 'laws.FnExactProduceTurn', WHERE WHAT IT READS IS OF BULK AT MOST 1048576: true; the input reads as it did. -/
def fnExactProduceTurnUptoRow : OpenClaim := { program := "ytjaccjeejeiphaagreatdoor", sum := "6947a5314861a3a00c7e97bf94274b60bb6e934bda71c1ca7a300d75c9399202", func := "loop.example/g00886/laws.FnExactProduceTurn", spec := "fnExactProduceTurn", unfollowed := true, recurses := true, named := ["loop.example/g00886/impl.directions"], apart := false, laid := [("loop.example/g00886/impl.directions", laid_loop_example_g00886_impl_directions)], narrowed := true }
def FnExactProduceTurnUptoSaid : Prop := fnExactProduceTurnUptoRow.holds Tryz.pinned (OpenSpec.upto fnExactProduceTurnSpec)

/-- 'laws.FnExactProduceTurns', WHERE WHAT IT READS IS OF BULK AT MOST 1048576: true; the input reads as it did. -/
def fnExactProduceTurnsUptoRow : OpenClaim := { program := "ytjaccjeejeiphaagreatdoor", sum := "6947a5314861a3a00c7e97bf94274b60bb6e934bda71c1ca7a300d75c9399202", func := "loop.example/g00886/laws.FnExactProduceTurns", spec := "fnExactProduceTurns", unfollowed := true, recurses := true, named := ["loop.example/g00886/impl.directions"], apart := false, laid := [("loop.example/g00886/impl.directions", laid_loop_example_g00886_impl_directions)], narrowed := true }
def FnExactProduceTurnsUptoSaid : Prop := fnExactProduceTurnsUptoRow.holds Tryz.pinned (OpenSpec.upto fnExactProduceTurnsSpec)

/-- 'laws.FnExactWeatherPhase', WHERE WHAT IT READS IS OF BULK AT MOST 1048576: true; the input reads as it did. -/
def fnExactWeatherPhaseUptoRow : OpenClaim := { program := "ytjaccjeejeiphaagreatdoor", sum := "6947a5314861a3a00c7e97bf94274b60bb6e934bda71c1ca7a300d75c9399202", func := "loop.example/g00886/laws.FnExactWeatherPhase", spec := "fnExactWeatherPhase", unfollowed := true, recurses := true, named := ["loop.example/g00886/impl.directions"], apart := false, laid := [("loop.example/g00886/impl.directions", laid_loop_example_g00886_impl_directions)], narrowed := true }
def FnExactWeatherPhaseUptoSaid : Prop := fnExactWeatherPhaseUptoRow.holds Tryz.pinned (OpenSpec.upto fnExactWeatherPhaseSpec)

/-- 'laws.FnExactValueOf', WHERE WHAT IT READS IS OF BULK AT MOST 1048576: true; the input reads as it did. -/
def fnExactValueOfUptoRow : OpenClaim := { program := "ytjaccjeejeiphaagreatdoor", sum := "6947a5314861a3a00c7e97bf94274b60bb6e934bda71c1ca7a300d75c9399202", func := "loop.example/g00886/laws.FnExactValueOf", spec := "fnExactValueOf", unfollowed := true, recurses := true, named := ["loop.example/g00886/impl.directions"], apart := false, laid := [("loop.example/g00886/impl.directions", laid_loop_example_g00886_impl_directions)], narrowed := true }
def FnExactValueOfUptoSaid : Prop := fnExactValueOfUptoRow.holds Tryz.pinned (OpenSpec.upto fnExactValueOfSpec)

/-- 'laws.FnExactCompareStates', WHERE WHAT IT READS IS OF BULK AT MOST 1048576: true; the input reads as it did. -/
def fnExactCompareStatesUptoRow : OpenClaim := { program := "ytjaccjeejeiphaagreatdoor", sum := "6947a5314861a3a00c7e97bf94274b60bb6e934bda71c1ca7a300d75c9399202", func := "loop.example/g00886/laws.FnExactCompareStates", spec := "fnExactCompareStates", unfollowed := true, recurses := true, named := ["loop.example/g00886/impl.directions"], apart := false, laid := [("loop.example/g00886/impl.directions", laid_loop_example_g00886_impl_directions)], narrowed := true }
def FnExactCompareStatesUptoSaid : Prop := fnExactCompareStatesUptoRow.holds Tryz.pinned (OpenSpec.upto fnExactCompareStatesSpec)

/-- 'laws.FnExactCountSheets', WHERE WHAT IT READS IS OF BULK AT MOST 1048576: true; the input reads as it did. -/
def fnExactCountSheetsUptoRow : OpenClaim := { program := "ytjaccjeejeiphaagreatdoor", sum := "6947a5314861a3a00c7e97bf94274b60bb6e934bda71c1ca7a300d75c9399202", func := "loop.example/g00886/laws.FnExactCountSheets", spec := "fnExactCountSheets", unfollowed := true, recurses := true, named := ["loop.example/g00886/impl.directions"], apart := false, laid := [("loop.example/g00886/impl.directions", laid_loop_example_g00886_impl_directions)], narrowed := true }
def FnExactCountSheetsUptoSaid : Prop := fnExactCountSheetsUptoRow.holds Tryz.pinned (OpenSpec.upto fnExactCountSheetsSpec)

/-- 'laws.FnExactSupplyPhase', WHERE WHAT IT READS IS OF BULK AT MOST 1048576: true; the input reads as it did. -/
def fnExactSupplyPhaseUptoRow : OpenClaim := { program := "ytjaccjeejeiphaagreatdoor", sum := "6947a5314861a3a00c7e97bf94274b60bb6e934bda71c1ca7a300d75c9399202", func := "loop.example/g00886/laws.FnExactSupplyPhase", spec := "fnExactSupplyPhase", unfollowed := true, recurses := true, named := ["loop.example/g00886/impl.directions"], apart := false, laid := [("loop.example/g00886/impl.directions", laid_loop_example_g00886_impl_directions)], narrowed := true }
def FnExactSupplyPhaseUptoSaid : Prop := fnExactSupplyPhaseUptoRow.holds Tryz.pinned (OpenSpec.upto fnExactSupplyPhaseSpec)

/-- 'laws.FnExactBestSource', WHERE WHAT IT READS IS OF BULK AT MOST 1048576: true; the input reads as it did. -/
def fnExactBestSourceUptoRow : OpenClaim := { program := "ytjaccjeejeiphaagreatdoor", sum := "6947a5314861a3a00c7e97bf94274b60bb6e934bda71c1ca7a300d75c9399202", func := "loop.example/g00886/laws.FnExactBestSource", spec := "fnExactBestSource", unfollowed := true, recurses := true, named := ["loop.example/g00886/impl.directions"], apart := false, laid := [("loop.example/g00886/impl.directions", laid_loop_example_g00886_impl_directions)], narrowed := true }
def FnExactBestSourceUptoSaid : Prop := fnExactBestSourceUptoRow.holds Tryz.pinned (OpenSpec.upto fnExactBestSourceSpec)

end Rows
end Go.Proofs.YtjaccjeejeiphaaGreatDoor
