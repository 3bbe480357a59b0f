/-
  NARROWER THAN 'FOR EVERY INPUT', by the rows' own cells (each row's printed sentence says how): FnExactClimateText: laid · FnExactKindPrice: laid · FnExactAreWorks: laid · FnExactQueuePrice: laid · FnExactTurnsUntil: laid · FnExactRestorePrice: laid · FnExactAppendKind: laid · FnExactRemoveKind: laid · FnExactIsSetup: laid.
  DERIVED. THE GIVEN ROWS OF THIS SEAT. 9 by the template 'for every input the law returns true; each argument reads behind the call as it read before'; 0 by the template 'total and deterministic' (their statements: YtlddjlchgibdfaaDoorTotals.lean).
  GIVEN WITH THE SEED: the statements are not yours to turn. If you find one false, say at which input.
  Laid BY PROGRAM, IN A SANDBOX (cutbox-rows.mjs): the forced cells as the released guide's own fill.sh prints them over the translation 41fa0333a3895f2a… (all of the seat's roots in one cut). By AI agents, Wed Nov 11 2026. No macro, syntax, notation, axiom, sorry.
-/
import Derived.Test.YtlddjlchgibdfaaDoorChecked
import GoSem.Claim
import GoSem.ClaimJoined
import GoSem.ClaimMapViews
import Derived.JoinedTies
import Derived.KernelRfl
namespace Go.Proofs.YtlddjlchgibdfaaDoor
/- THE CELL 'sum', in the pinned program and in every row, IS THE sha256 OF THE DUMP (.gsa) THAT YtlddjlchgibdfaaDoorProg.lean LOADS. Nothing in Lean hashes anything: it is a label: what it is worth is what the hold of that sum in a sandbox is worth. -/
noncomputable def Tryd.pinned : Pinned := { name := "ytlddjlchgibdfaadoor", sum := "41fa0333a3895f2a0dc92888c3f068d144d8b69578932132a8c18bef8a8216e3", checked := Tryd.checked }
namespace Rows
def none {H : Type} : Left H := { results := [], args := [] }

/- WHAT THE LISTED PACKAGE-LEVEL VARIABLES READ AS WHEN THE CALL BEGINS. Each datum BY PROGRAM (the guide's laid-datum.mjs) off the statement by which the dump's own 'gosem.cut.vars' lays the variable. In a bare row this is a premise. The card (YtlddjlchgibdfaaDoorCards.lean) ties it to the program's text. -/
def laid_math_bits_deBruijn32tab {H : Type} : DataW H := .agg [.lit (.int .u8 0), .lit (.int .u8 1), .lit (.int .u8 28), .lit (.int .u8 2), .lit (.int .u8 29), .lit (.int .u8 14), .lit (.int .u8 24), .lit (.int .u8 3), .lit (.int .u8 30), .lit (.int .u8 22), .lit (.int .u8 20), .lit (.int .u8 15), .lit (.int .u8 25), .lit (.int .u8 17), .lit (.int .u8 4), .lit (.int .u8 8), .lit (.int .u8 31), .lit (.int .u8 27), .lit (.int .u8 13), .lit (.int .u8 23), .lit (.int .u8 21), .lit (.int .u8 19), .lit (.int .u8 16), .lit (.int .u8 7), .lit (.int .u8 26), .lit (.int .u8 12), .lit (.int .u8 18), .lit (.int .u8 6), .lit (.int .u8 11), .lit (.int .u8 5), .lit (.int .u8 10), .lit (.int .u8 9)]
def laid_math_bits_deBruijn64tab {H : Type} : DataW H := .agg [.lit (.int .u8 0), .lit (.int .u8 1), .lit (.int .u8 56), .lit (.int .u8 2), .lit (.int .u8 57), .lit (.int .u8 49), .lit (.int .u8 28), .lit (.int .u8 3), .lit (.int .u8 61), .lit (.int .u8 58), .lit (.int .u8 42), .lit (.int .u8 50), .lit (.int .u8 38), .lit (.int .u8 29), .lit (.int .u8 17), .lit (.int .u8 4), .lit (.int .u8 62), .lit (.int .u8 47), .lit (.int .u8 59), .lit (.int .u8 36), .lit (.int .u8 45), .lit (.int .u8 43), .lit (.int .u8 51), .lit (.int .u8 22), .lit (.int .u8 53), .lit (.int .u8 39), .lit (.int .u8 33), .lit (.int .u8 30), .lit (.int .u8 24), .lit (.int .u8 18), .lit (.int .u8 12), .lit (.int .u8 5), .lit (.int .u8 63), .lit (.int .u8 55), .lit (.int .u8 48), .lit (.int .u8 27), .lit (.int .u8 60), .lit (.int .u8 41), .lit (.int .u8 37), .lit (.int .u8 16), .lit (.int .u8 46), .lit (.int .u8 35), .lit (.int .u8 44), .lit (.int .u8 21), .lit (.int .u8 52), .lit (.int .u8 32), .lit (.int .u8 23), .lit (.int .u8 11), .lit (.int .u8 54), .lit (.int .u8 26), .lit (.int .u8 40), .lit (.int .u8 15), .lit (.int .u8 34), .lit (.int .u8 20), .lit (.int .u8 31), .lit (.int .u8 10), .lit (.int .u8 25), .lit (.int .u8 14), .lit (.int .u8 19), .lit (.int .u8 9), .lit (.int .u8 13), .lit (.int .u8 8), .lit (.int .u8 7), .lit (.int .u8 6)]
def laid_internal_strconv_uint64pow10 {H : Type} : DataW H := .agg [.lit (.int .u64 1), .lit (.int .u64 10), .lit (.int .u64 100), .lit (.int .u64 1000), .lit (.int .u64 10000), .lit (.int .u64 100000), .lit (.int .u64 1000000), .lit (.int .u64 10000000), .lit (.int .u64 100000000), .lit (.int .u64 1000000000), .lit (.int .u64 10000000000), .lit (.int .u64 100000000000), .lit (.int .u64 1000000000000), .lit (.int .u64 10000000000000), .lit (.int .u64 100000000000000), .lit (.int .u64 1000000000000000), .lit (.int .u64 10000000000000000), .lit (.int .u64 100000000000000000), .lit (.int .u64 1000000000000000000), .lit (.int .u64 10000000000000000000)]
def laid_loop_example_g00886_impl_directions {H : Type} : DataW H := .agg [.agg [.lit (.int .i64 1), .lit (.int .i64 0)], .agg [.lit (.int .i64 1), .lit (.int .i64 (-1))], .agg [.lit (.int .i64 0), .lit (.int .i64 (-1))], .agg [.lit (.int .i64 (-1)), .lit (.int .i64 0)], .agg [.lit (.int .i64 (-1)), .lit (.int .i64 1)], .agg [.lit (.int .i64 0), .lit (.int .i64 1)]]

/-- 'laws.FnExactClimateText': WHATEVER THE INPUT: true; the input reads as it did. -/
def fnExactClimateTextSpec : ChangeSpec := { name := "fnExactClimateText", fn := fun _ => fun
  | [d] => { results := [.lit (.bool true)], args := [d] }
  | _ => none }
def fnExactClimateTextRow : OpenClaim := { program := "ytlddjlchgibdfaadoor", sum := "41fa0333a3895f2a0dc92888c3f068d144d8b69578932132a8c18bef8a8216e3", func := "loop.example/g00886/laws.FnExactClimateText", spec := "fnExactClimateText", inPlace := ["internal/abi.NoEscape", "internal/bytealg.MakeNoZero"], recurses := true, named := ["internal/strconv.uint64pow10", "math/bits.deBruijn32tab", "math/bits.deBruijn64tab"], apart := false, laid := [("math/bits.deBruijn32tab", laid_math_bits_deBruijn32tab), ("math/bits.deBruijn64tab", laid_math_bits_deBruijn64tab), ("internal/strconv.uint64pow10", laid_internal_strconv_uint64pow10)] }
def FnExactClimateTextSaid : Prop := fnExactClimateTextRow.holds Tryd.pinned (OpenSpec.ofChange fnExactClimateTextSpec)

/-- ITS FALSE NEIGHBOUR: 'it returns false'. Refute it at one input. -/
def fnExactClimateTextWrong : ChangeSpec := { name := "fnExactClimateText", fn := fun _ => fun
  | [d] => { results := [.lit (.bool false)], args := [d] }
  | _ => none }
def FnExactClimateTextWrongFalsely : Prop := fnExactClimateTextRow.holds Tryd.pinned (OpenSpec.ofChange fnExactClimateTextWrong)

/-- 'laws.FnExactKindPrice': WHATEVER THE INPUT: true; the input reads as it did. -/
def fnExactKindPriceSpec : ChangeSpec := { name := "fnExactKindPrice", vars := ["loop.example/g00886/impl.directions"], fn := fun _ => fun
  | [d1, d2, g1] => { results := [.lit (.bool true)], args := [d1, d2], vars := [g1] }
  | _ => none }
def fnExactKindPriceRow : OpenClaim := { program := "ytlddjlchgibdfaadoor", sum := "41fa0333a3895f2a0dc92888c3f068d144d8b69578932132a8c18bef8a8216e3", func := "loop.example/g00886/laws.FnExactKindPrice", spec := "fnExactKindPrice", unfollowed := true, recurses := true, named := ["loop.example/g00886/impl.directions"], apart := false, laid := [("loop.example/g00886/impl.directions", laid_loop_example_g00886_impl_directions)] }
def FnExactKindPriceSaid : Prop := fnExactKindPriceRow.holds Tryd.pinned (OpenSpec.ofChange fnExactKindPriceSpec)

/-- ITS FALSE NEIGHBOUR: 'it returns false'. Refute it at one input. -/
def fnExactKindPriceWrong : ChangeSpec := { name := "fnExactKindPrice", vars := ["loop.example/g00886/impl.directions"], fn := fun _ => fun
  | [d1, d2, g1] => { results := [.lit (.bool false)], args := [d1, d2], vars := [g1] }
  | _ => none }
def FnExactKindPriceWrongFalsely : Prop := fnExactKindPriceRow.holds Tryd.pinned (OpenSpec.ofChange fnExactKindPriceWrong)

/-- 'laws.FnExactAreWorks': WHATEVER THE INPUT: true; the input reads as it did. -/
def fnExactAreWorksSpec : ChangeSpec := { name := "fnExactAreWorks", vars := ["loop.example/g00886/impl.directions"], fn := fun _ => fun
  | [d1, d2, g1] => { results := [.lit (.bool true)], args := [d1, d2], vars := [g1] }
  | _ => none }
def fnExactAreWorksRow : OpenClaim := { program := "ytlddjlchgibdfaadoor", sum := "41fa0333a3895f2a0dc92888c3f068d144d8b69578932132a8c18bef8a8216e3", func := "loop.example/g00886/laws.FnExactAreWorks", spec := "fnExactAreWorks", unfollowed := true, recurses := true, named := ["loop.example/g00886/impl.directions"], apart := false, laid := [("loop.example/g00886/impl.directions", laid_loop_example_g00886_impl_directions)] }
def FnExactAreWorksSaid : Prop := fnExactAreWorksRow.holds Tryd.pinned (OpenSpec.ofChange fnExactAreWorksSpec)

/-- ITS FALSE NEIGHBOUR: 'it returns false'. Refute it at one input. -/
def fnExactAreWorksWrong : ChangeSpec := { name := "fnExactAreWorks", vars := ["loop.example/g00886/impl.directions"], fn := fun _ => fun
  | [d1, d2, g1] => { results := [.lit (.bool false)], args := [d1, d2], vars := [g1] }
  | _ => none }
def FnExactAreWorksWrongFalsely : Prop := fnExactAreWorksRow.holds Tryd.pinned (OpenSpec.ofChange fnExactAreWorksWrong)

/-- 'laws.FnExactQueuePrice': WHATEVER THE INPUT: true; the input reads as it did. -/
def fnExactQueuePriceSpec : ChangeSpec := { name := "fnExactQueuePrice", vars := ["loop.example/g00886/impl.directions"], fn := fun _ => fun
  | [d1, d2, g1] => { results := [.lit (.bool true)], args := [d1, d2], vars := [g1] }
  | _ => none }
def fnExactQueuePriceRow : OpenClaim := { program := "ytlddjlchgibdfaadoor", sum := "41fa0333a3895f2a0dc92888c3f068d144d8b69578932132a8c18bef8a8216e3", func := "loop.example/g00886/laws.FnExactQueuePrice", spec := "fnExactQueuePrice", unfollowed := true, recurses := true, named := ["loop.example/g00886/impl.directions"], apart := false, laid := [("loop.example/g00886/impl.directions", laid_loop_example_g00886_impl_directions)] }
def FnExactQueuePriceSaid : Prop := fnExactQueuePriceRow.holds Tryd.pinned (OpenSpec.ofChange fnExactQueuePriceSpec)

/-- ITS FALSE NEIGHBOUR: 'it returns false'. Refute it at one input. -/
def fnExactQueuePriceWrong : ChangeSpec := { name := "fnExactQueuePrice", vars := ["loop.example/g00886/impl.directions"], fn := fun _ => fun
  | [d1, d2, g1] => { results := [.lit (.bool false)], args := [d1, d2], vars := [g1] }
  | _ => none }
def FnExactQueuePriceWrongFalsely : Prop := fnExactQueuePriceRow.holds Tryd.pinned (OpenSpec.ofChange fnExactQueuePriceWrong)

/-- 'laws.FnExactTurnsUntil': WHATEVER THE INPUT: true; the input reads as it did. -/
def fnExactTurnsUntilSpec : ChangeSpec := { name := "fnExactTurnsUntil", vars := ["loop.example/g00886/impl.directions"], fn := fun _ => fun
  | [d1, d2, d3, d4, g1] => { results := [.lit (.bool true)], args := [d1, d2, d3, d4], vars := [g1] }
  | _ => none }
def fnExactTurnsUntilRow : OpenClaim := { program := "ytlddjlchgibdfaadoor", sum := "41fa0333a3895f2a0dc92888c3f068d144d8b69578932132a8c18bef8a8216e3", func := "loop.example/g00886/laws.FnExactTurnsUntil", spec := "fnExactTurnsUntil", unfollowed := true, recurses := true, named := ["loop.example/g00886/impl.directions"], apart := false, laid := [("loop.example/g00886/impl.directions", laid_loop_example_g00886_impl_directions)] }
def FnExactTurnsUntilSaid : Prop := fnExactTurnsUntilRow.holds Tryd.pinned (OpenSpec.ofChange fnExactTurnsUntilSpec)

/-- ITS FALSE NEIGHBOUR: 'it returns false'. Refute it at one input. -/
def fnExactTurnsUntilWrong : ChangeSpec := { name := "fnExactTurnsUntil", vars := ["loop.example/g00886/impl.directions"], fn := fun _ => fun
  | [d1, d2, d3, d4, g1] => { results := [.lit (.bool false)], args := [d1, d2, d3, d4], vars := [g1] }
  | _ => none }
def FnExactTurnsUntilWrongFalsely : Prop := fnExactTurnsUntilRow.holds Tryd.pinned (OpenSpec.ofChange fnExactTurnsUntilWrong)

/-- 'laws.FnExactRestorePrice': WHATEVER THE INPUT: true; the input reads as it did. -/
def fnExactRestorePriceSpec : ChangeSpec := { name := "fnExactRestorePrice", vars := ["loop.example/g00886/impl.directions"], fn := fun _ => fun
  | [d1, d2, d3, g1] => { results := [.lit (.bool true)], args := [d1, d2, d3], vars := [g1] }
  | _ => none }
def fnExactRestorePriceRow : OpenClaim := { program := "ytlddjlchgibdfaadoor", sum := "41fa0333a3895f2a0dc92888c3f068d144d8b69578932132a8c18bef8a8216e3", func := "loop.example/g00886/laws.FnExactRestorePrice", spec := "fnExactRestorePrice", unfollowed := true, recurses := true, named := ["loop.example/g00886/impl.directions"], apart := false, laid := [("loop.example/g00886/impl.directions", laid_loop_example_g00886_impl_directions)] }
def FnExactRestorePriceSaid : Prop := fnExactRestorePriceRow.holds Tryd.pinned (OpenSpec.ofChange fnExactRestorePriceSpec)

/-- ITS FALSE NEIGHBOUR: 'it returns false'. Refute it at one input. -/
def fnExactRestorePriceWrong : ChangeSpec := { name := "fnExactRestorePrice", vars := ["loop.example/g00886/impl.directions"], fn := fun _ => fun
  | [d1, d2, d3, g1] => { results := [.lit (.bool false)], args := [d1, d2, d3], vars := [g1] }
  | _ => none }
def FnExactRestorePriceWrongFalsely : Prop := fnExactRestorePriceRow.holds Tryd.pinned (OpenSpec.ofChange fnExactRestorePriceWrong)

/-- 'laws.FnExactAppendKind': WHATEVER THE INPUT: true; the input reads as it did. -/
def fnExactAppendKindSpec : ChangeSpec := { name := "fnExactAppendKind", vars := ["loop.example/g00886/impl.directions"], fn := fun _ => fun
  | [d1, d2, d3, g1] => { results := [.lit (.bool true)], args := [d1, d2, d3], vars := [g1] }
  | _ => none }
def fnExactAppendKindRow : OpenClaim := { program := "ytlddjlchgibdfaadoor", sum := "41fa0333a3895f2a0dc92888c3f068d144d8b69578932132a8c18bef8a8216e3", func := "loop.example/g00886/laws.FnExactAppendKind", spec := "fnExactAppendKind", unfollowed := true, recurses := true, named := ["loop.example/g00886/impl.directions"], apart := false, laid := [("loop.example/g00886/impl.directions", laid_loop_example_g00886_impl_directions)] }
def FnExactAppendKindSaid : Prop := fnExactAppendKindRow.holds Tryd.pinned (OpenSpec.ofChange fnExactAppendKindSpec)

/-- ITS FALSE NEIGHBOUR: 'it returns false'. Refute it at one input. -/
def fnExactAppendKindWrong : ChangeSpec := { name := "fnExactAppendKind", vars := ["loop.example/g00886/impl.directions"], fn := fun _ => fun
  | [d1, d2, d3, g1] => { results := [.lit (.bool false)], args := [d1, d2, d3], vars := [g1] }
  | _ => none }
def FnExactAppendKindWrongFalsely : Prop := fnExactAppendKindRow.holds Tryd.pinned (OpenSpec.ofChange fnExactAppendKindWrong)

/-- 'laws.FnExactRemoveKind': WHATEVER THE INPUT: true; the input reads as it did. -/
def fnExactRemoveKindSpec : ChangeSpec := { name := "fnExactRemoveKind", vars := ["loop.example/g00886/impl.directions"], fn := fun _ => fun
  | [d1, d2, d3, g1] => { results := [.lit (.bool true)], args := [d1, d2, d3], vars := [g1] }
  | _ => none }
def fnExactRemoveKindRow : OpenClaim := { program := "ytlddjlchgibdfaadoor", sum := "41fa0333a3895f2a0dc92888c3f068d144d8b69578932132a8c18bef8a8216e3", func := "loop.example/g00886/laws.FnExactRemoveKind", spec := "fnExactRemoveKind", unfollowed := true, recurses := true, named := ["loop.example/g00886/impl.directions"], apart := false, laid := [("loop.example/g00886/impl.directions", laid_loop_example_g00886_impl_directions)] }
def FnExactRemoveKindSaid : Prop := fnExactRemoveKindRow.holds Tryd.pinned (OpenSpec.ofChange fnExactRemoveKindSpec)

/-- ITS FALSE NEIGHBOUR: 'it returns false'. Refute it at one input. -/
def fnExactRemoveKindWrong : ChangeSpec := { name := "fnExactRemoveKind", vars := ["loop.example/g00886/impl.directions"], fn := fun _ => fun
  | [d1, d2, d3, g1] => { results := [.lit (.bool false)], args := [d1, d2, d3], vars := [g1] }
  | _ => none }
def FnExactRemoveKindWrongFalsely : Prop := fnExactRemoveKindRow.holds Tryd.pinned (OpenSpec.ofChange fnExactRemoveKindWrong)

/-- 'laws.FnExactIsSetup': WHATEVER THE INPUT: true; the input reads as it did. -/
def fnExactIsSetupSpec : ChangeSpec := { name := "fnExactIsSetup", vars := ["loop.example/g00886/impl.directions"], fn := fun _ => fun
  | [d, g1] => { results := [.lit (.bool true)], args := [d], vars := [g1] }
  | _ => none }
def fnExactIsSetupRow : OpenClaim := { program := "ytlddjlchgibdfaadoor", sum := "41fa0333a3895f2a0dc92888c3f068d144d8b69578932132a8c18bef8a8216e3", func := "loop.example/g00886/laws.FnExactIsSetup", spec := "fnExactIsSetup", unfollowed := true, recurses := true, named := ["loop.example/g00886/impl.directions"], apart := false, laid := [("loop.example/g00886/impl.directions", laid_loop_example_g00886_impl_directions)] }
def FnExactIsSetupSaid : Prop := fnExactIsSetupRow.holds Tryd.pinned (OpenSpec.ofChange fnExactIsSetupSpec)

/-- ITS FALSE NEIGHBOUR: 'it returns false'. Refute it at one input. -/
def fnExactIsSetupWrong : ChangeSpec := { name := "fnExactIsSetup", vars := ["loop.example/g00886/impl.directions"], fn := fun _ => fun
  | [d, g1] => { results := [.lit (.bool false)], args := [d], vars := [g1] }
  | _ => none }
def FnExactIsSetupWrongFalsely : Prop := fnExactIsSetupRow.holds Tryd.pinned (OpenSpec.ofChange fnExactIsSetupWrong)

/- THE SECOND FORM. 'bulk': how many values and letters a reading holds, each counted each time it is reached (what is shared counts as often as it is met; a slice's spare places count too). A statement '..UptoSaid' is the law's where the arguments, and the package variables that the reading takes, are together of bulk at most 1048576: NARROWER than '..Said'. Prove '..Said' where nothing that the law and all that it calls make is longer than what came in: it says more and counts as full. Else prove '..UptoSaid'. A law counts once. -/
mutual
def uptoBulk {H : Type} : DataW H → Nat
  | .lit (.string bytes) => bytes.length + 1
  | .lit _ => 1
  | .nil => 1
  | .ptr d => uptoBulk d + 1
  | .slice elems spare => uptoBulkAll elems + uptoBulkAll spare + 1
  | .agg parts => uptoBulkAll parts + 1
  | .iface _ d => uptoBulk d + 1
  | .map entries => uptoBulkEntries entries + 1
  | .held _ => 1
def uptoBulkAll {H : Type} : List (DataW H) → Nat
  | [] => 0
  | d :: r => uptoBulk d + uptoBulkAll r
def uptoBulkEntries {H : Type} : List (Lit × DataW H) → Nat
  | [] => 0
  | x :: r => uptoBulkEntry x + uptoBulkEntries r
def uptoBulkEntry {H : Type} : Lit × DataW H → Nat
  | (.string bytes, d) => bytes.length + uptoBulk d + 1
  | (_, d) => uptoBulk d + 1
 end
def uptoSmall : (H : Type) → List (DataW H) → Bool := fun _ ds => decide (uptoBulkAll ds ≤ 1048576)
def OpenSpec.upto (s : _root_.Go.ChangeSpec) : _root_.Go.OpenSpec := { _root_.Go.OpenSpec.ofChange s with cond := some uptoSmall }

/-- 'laws.FnExactClimateText', WHERE WHAT IT READS IS OF BULK AT MOST 1048576: true; the input reads as it did. -/
def fnExactClimateTextUptoRow : OpenClaim := { program := "ytlddjlchgibdfaadoor", sum := "41fa0333a3895f2a0dc92888c3f068d144d8b69578932132a8c18bef8a8216e3", func := "loop.example/g00886/laws.FnExactClimateText", spec := "fnExactClimateText", inPlace := ["internal/abi.NoEscape", "internal/bytealg.MakeNoZero"], recurses := true, named := ["internal/strconv.uint64pow10", "math/bits.deBruijn32tab", "math/bits.deBruijn64tab"], apart := false, laid := [("math/bits.deBruijn32tab", laid_math_bits_deBruijn32tab), ("math/bits.deBruijn64tab", laid_math_bits_deBruijn64tab), ("internal/strconv.uint64pow10", laid_internal_strconv_uint64pow10)], narrowed := true }
def FnExactClimateTextUptoSaid : Prop := fnExactClimateTextUptoRow.holds Tryd.pinned (OpenSpec.upto fnExactClimateTextSpec)

/-- 'laws.FnExactKindPrice', WHERE WHAT IT READS IS OF BULK AT MOST 1048576: true; the input reads as it did. -/
def fnExactKindPriceUptoRow : OpenClaim := { program := "ytlddjlchgibdfaadoor", sum := "41fa0333a3895f2a0dc92888c3f068d144d8b69578932132a8c18bef8a8216e3", func := "loop.example/g00886/laws.FnExactKindPrice", spec := "fnExactKindPrice", unfollowed := true, recurses := true, named := ["loop.example/g00886/impl.directions"], apart := false, laid := [("loop.example/g00886/impl.directions", laid_loop_example_g00886_impl_directions)], narrowed := true }
def FnExactKindPriceUptoSaid : Prop := fnExactKindPriceUptoRow.holds Tryd.pinned (OpenSpec.upto fnExactKindPriceSpec)

/-- 'laws.FnExactAreWorks', WHERE WHAT IT READS IS OF BULK AT MOST 1048576: true; the input reads as it did. -/
def fnExactAreWorksUptoRow : OpenClaim := { program := "ytlddjlchgibdfaadoor", sum := "41fa0333a3895f2a0dc92888c3f068d144d8b69578932132a8c18bef8a8216e3", func := "loop.example/g00886/laws.FnExactAreWorks", spec := "fnExactAreWorks", unfollowed := true, recurses := true, named := ["loop.example/g00886/impl.directions"], apart := false, laid := [("loop.example/g00886/impl.directions", laid_loop_example_g00886_impl_directions)], narrowed := true }
def FnExactAreWorksUptoSaid : Prop := fnExactAreWorksUptoRow.holds Tryd.pinned (OpenSpec.upto fnExactAreWorksSpec)

/-- 'laws.FnExactQueuePrice', WHERE WHAT IT READS IS OF BULK AT MOST 1048576: true; the input reads as it did. -/
def fnExactQueuePriceUptoRow : OpenClaim := { program := "ytlddjlchgibdfaadoor", sum := "41fa0333a3895f2a0dc92888c3f068d144d8b69578932132a8c18bef8a8216e3", func := "loop.example/g00886/laws.FnExactQueuePrice", spec := "fnExactQueuePrice", unfollowed := true, recurses := true, named := ["loop.example/g00886/impl.directions"], apart := false, laid := [("loop.example/g00886/impl.directions", laid_loop_example_g00886_impl_directions)], narrowed := true }
def FnExactQueuePriceUptoSaid : Prop := fnExactQueuePriceUptoRow.holds Tryd.pinned (OpenSpec.upto fnExactQueuePriceSpec)

/-- 'laws.FnExactTurnsUntil', WHERE WHAT IT READS IS OF BULK AT MOST 1048576: true; the input reads as it did. -/
def fnExactTurnsUntilUptoRow : OpenClaim := { program := "ytlddjlchgibdfaadoor", sum := "41fa0333a3895f2a0dc92888c3f068d144d8b69578932132a8c18bef8a8216e3", func := "loop.example/g00886/laws.FnExactTurnsUntil", spec := "fnExactTurnsUntil", unfollowed := true, recurses := true, named := ["loop.example/g00886/impl.directions"], apart := false, laid := [("loop.example/g00886/impl.directions", laid_loop_example_g00886_impl_directions)], narrowed := true }
def FnExactTurnsUntilUptoSaid : Prop := fnExactTurnsUntilUptoRow.holds Tryd.pinned (OpenSpec.upto fnExactTurnsUntilSpec)

/-- 'laws.FnExactRestorePrice', WHERE WHAT IT READS IS OF BULK AT MOST 1048576: true; the input reads as it did. -/
def fnExactRestorePriceUptoRow : OpenClaim := { program := "ytlddjlchgibdfaadoor", sum := "41fa0333a3895f2a0dc92888c3f068d144d8b69578932132a8c18bef8a8216e3", func := "loop.example/g00886/laws.FnExactRestorePrice", spec := "fnExactRestorePrice", unfollowed := true, recurses := true, named := ["loop.example/g00886/impl.directions"], apart := false, laid := [("loop.example/g00886/impl.directions", laid_loop_example_g00886_impl_directions)], narrowed := true }
def FnExactRestorePriceUptoSaid : Prop := fnExactRestorePriceUptoRow.holds Tryd.pinned (OpenSpec.upto fnExactRestorePriceSpec)

/-- 'laws.FnExactAppendKind', WHERE WHAT IT READS IS OF BULK AT MOST 1048576: true; the input reads as it did. -/
def fnExactAppendKindUptoRow : OpenClaim := { program := "ytlddjlchgibdfaadoor", sum := "41fa0333a3895f2a0dc92888c3f068d144d8b69578932132a8c18bef8a8216e3", func := "loop.example/g00886/laws.FnExactAppendKind", spec := "fnExactAppendKind", unfollowed := true, recurses := true, named := ["loop.example/g00886/impl.directions"], apart := false, laid := [("loop.example/g00886/impl.directions", laid_loop_example_g00886_impl_directions)], narrowed := true }
def FnExactAppendKindUptoSaid : Prop := fnExactAppendKindUptoRow.holds Tryd.pinned (OpenSpec.upto fnExactAppendKindSpec)

/-- 'laws.FnExactRemoveKind', WHERE WHAT IT READS IS OF BULK AT MOST 1048576: true; the input reads as it did. -/
def fnExactRemoveKindUptoRow : OpenClaim := { program := "ytlddjlchgibdfaadoor", sum := "41fa0333a3895f2a0dc92888c3f068d144d8b69578932132a8c18bef8a8216e3", func := "loop.example/g00886/laws.FnExactRemoveKind", spec := "fnExactRemoveKind", unfollowed := true, recurses := true, named := ["loop.example/g00886/impl.directions"], apart := false, laid := [("loop.example/g00886/impl.directions", laid_loop_example_g00886_impl_directions)], narrowed := true }
def FnExactRemoveKindUptoSaid : Prop := fnExactRemoveKindUptoRow.holds Tryd.pinned (OpenSpec.upto fnExactRemoveKindSpec)

/-- 'laws.FnExactIsSetup', WHERE WHAT IT READS IS OF BULK AT MOST 1048576: true; the input reads as it did. -/
def fnExactIsSetupUptoRow : OpenClaim := { program := "ytlddjlchgibdfaadoor", sum := "41fa0333a3895f2a0dc92888c3f068d144d8b69578932132a8c18bef8a8216e3", func := "loop.example/g00886/laws.FnExactIsSetup", spec := "fnExactIsSetup", unfollowed := true, recurses := true, named := ["loop.example/g00886/impl.directions"], apart := false, laid := [("loop.example/g00886/impl.directions", laid_loop_example_g00886_impl_directions)], narrowed := true }
def FnExactIsSetupUptoSaid : Prop := fnExactIsSetupUptoRow.holds Tryd.pinned (OpenSpec.upto fnExactIsSetupSpec)

end Rows
end Go.Proofs.YtlddjlchgibdfaaDoor
