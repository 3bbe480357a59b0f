/-
  No cell of these rows narrows 'for every input' (looked for: loops, veiled, ifaces, maps, wideKeys, modest, calm, conditions, laid).
  DERIVED. THE GIVEN ROWS OF THIS SEAT. 6 by the template 'for every input the law returns true; each argument reads behind the call as it read before'; 0 by the template 'total and deterministic' (their statements: YtnajmggefapeaaaTotals.lean).
  GIVEN WITH THE SEED: the statements are not yours to turn. If you find one false, say at which input.
  Laid BY PROGRAM, IN A SANDBOX (cutbox-rows.mjs): the forced cells as the released guide's own fill.sh prints them over the translation 61754ff974398619… (all of the seat's roots in one cut). By AI agents, Wed Nov 11 2026. No macro, syntax, notation, axiom, sorry.
-/
import Derived.Test.YtnajmggefapeaaaChecked
import GoSem.Claim
import GoSem.ClaimJoined
import GoSem.ClaimMapViews
import Derived.JoinedTies
import Derived.KernelRfl
namespace Go.Proofs.Ytnajmggefapeaaa
/- THE CELL 'sum', in the pinned program and in every row, IS THE sha256 OF THE DUMP (.gsa) THAT YtnajmggefapeaaaProg.lean LOADS. Nothing in Lean hashes anything: it is a label: what it is worth is what the hold of that sum in a sandbox is worth. -/
noncomputable def Try.pinned : Pinned := { name := "ytnajmggefapeaaa", sum := "61754ff974398619e64ce5407815ca6363e375b89f5a5cdd5d59106da6ede625", checked := Try.checked }
namespace Rows
def none {H : Type} : Left H := { results := [], args := [] }

/-- 'laws.FnExactIsLanes': WHATEVER THE INPUT: true; the input reads as it did. -/
def fnExactIsLanesSpec : ChangeSpec := { name := "fnExactIsLanes", fn := fun _ => fun
  | [d] => { results := [.lit (.bool true)], args := [d] }
  | _ => none }
def fnExactIsLanesRow : OpenClaim := { program := "ytnajmggefapeaaa", sum := "61754ff974398619e64ce5407815ca6363e375b89f5a5cdd5d59106da6ede625", func := "loop.example/g00886/laws.FnExactIsLanes", spec := "fnExactIsLanes", unfollowed := true, recurses := true, apart := false }
def FnExactIsLanesSaid : Prop := fnExactIsLanesRow.holds Try.pinned (OpenSpec.ofChange fnExactIsLanesSpec)

/-- ITS FALSE NEIGHBOUR: 'it returns false'. Refute it at one input. -/
def fnExactIsLanesWrong : ChangeSpec := { name := "fnExactIsLanes", fn := fun _ => fun
  | [d] => { results := [.lit (.bool false)], args := [d] }
  | _ => none }
def FnExactIsLanesWrongFalsely : Prop := fnExactIsLanesRow.holds Try.pinned (OpenSpec.ofChange fnExactIsLanesWrong)

/-- 'laws.FnExactChancesAfter': WHATEVER THE INPUT: true; the input reads as it did. -/
def fnExactChancesAfterSpec : ChangeSpec := { name := "fnExactChancesAfter", fn := fun _ => fun
  | [d1, d2, d3] => { results := [.lit (.bool true)], args := [d1, d2, d3] }
  | _ => none }
def fnExactChancesAfterRow : OpenClaim := { program := "ytnajmggefapeaaa", sum := "61754ff974398619e64ce5407815ca6363e375b89f5a5cdd5d59106da6ede625", func := "loop.example/g00886/laws.FnExactChancesAfter", spec := "fnExactChancesAfter", apart := false }
def FnExactChancesAfterSaid : Prop := fnExactChancesAfterRow.holds Try.pinned (OpenSpec.ofChange fnExactChancesAfterSpec)

/-- ITS FALSE NEIGHBOUR: 'it returns false'. Refute it at one input. -/
def fnExactChancesAfterWrong : ChangeSpec := { name := "fnExactChancesAfter", fn := fun _ => fun
  | [d1, d2, d3] => { results := [.lit (.bool false)], args := [d1, d2, d3] }
  | _ => none }
def FnExactChancesAfterWrongFalsely : Prop := fnExactChancesAfterRow.holds Try.pinned (OpenSpec.ofChange fnExactChancesAfterWrong)

/-- 'laws.FnExactNextWeather': WHATEVER THE INPUT: true; the input reads as it did. -/
def fnExactNextWeatherSpec : ChangeSpec := { name := "fnExactNextWeather", fn := fun _ => fun
  | [d1, d2, d3, d4] => { results := [.lit (.bool true)], args := [d1, d2, d3, d4] }
  | _ => none }
def fnExactNextWeatherRow : OpenClaim := { program := "ytnajmggefapeaaa", sum := "61754ff974398619e64ce5407815ca6363e375b89f5a5cdd5d59106da6ede625", func := "loop.example/g00886/laws.FnExactNextWeather", spec := "fnExactNextWeather", unfollowed := true, recurses := true, apart := false }
def FnExactNextWeatherSaid : Prop := fnExactNextWeatherRow.holds Try.pinned (OpenSpec.ofChange fnExactNextWeatherSpec)

/-- ITS FALSE NEIGHBOUR: 'it returns false'. Refute it at one input. -/
def fnExactNextWeatherWrong : ChangeSpec := { name := "fnExactNextWeather", fn := fun _ => fun
  | [d1, d2, d3, d4] => { results := [.lit (.bool false)], args := [d1, d2, d3, d4] }
  | _ => none }
def FnExactNextWeatherWrongFalsely : Prop := fnExactNextWeatherRow.holds Try.pinned (OpenSpec.ofChange fnExactNextWeatherWrong)

/-- 'laws.FnExactMostLikely': WHATEVER THE INPUT: true; the input reads as it did. -/
def fnExactMostLikelySpec : ChangeSpec := { name := "fnExactMostLikely", fn := fun _ => fun
  | [d1, d2, d3] => { results := [.lit (.bool true)], args := [d1, d2, d3] }
  | _ => none }
def fnExactMostLikelyRow : OpenClaim := { program := "ytnajmggefapeaaa", sum := "61754ff974398619e64ce5407815ca6363e375b89f5a5cdd5d59106da6ede625", func := "loop.example/g00886/laws.FnExactMostLikely", spec := "fnExactMostLikely", apart := false }
def FnExactMostLikelySaid : Prop := fnExactMostLikelyRow.holds Try.pinned (OpenSpec.ofChange fnExactMostLikelySpec)

/-- ITS FALSE NEIGHBOUR: 'it returns false'. Refute it at one input. -/
def fnExactMostLikelyWrong : ChangeSpec := { name := "fnExactMostLikely", fn := fun _ => fun
  | [d1, d2, d3] => { results := [.lit (.bool false)], args := [d1, d2, d3] }
  | _ => none }
def FnExactMostLikelyWrongFalsely : Prop := fnExactMostLikelyRow.holds Try.pinned (OpenSpec.ofChange fnExactMostLikelyWrong)

/-- 'laws.FnExactWeatherFrom': WHATEVER THE INPUT: true; the input reads as it did. -/
def fnExactWeatherFromSpec : ChangeSpec := { name := "fnExactWeatherFrom", fn := fun _ => fun
  | [d1, d2, d3, d4] => { results := [.lit (.bool true)], args := [d1, d2, d3, d4] }
  | _ => none }
def fnExactWeatherFromRow : OpenClaim := { program := "ytnajmggefapeaaa", sum := "61754ff974398619e64ce5407815ca6363e375b89f5a5cdd5d59106da6ede625", func := "loop.example/g00886/laws.FnExactWeatherFrom", spec := "fnExactWeatherFrom", unfollowed := true, recurses := true, apart := false }
def FnExactWeatherFromSaid : Prop := fnExactWeatherFromRow.holds Try.pinned (OpenSpec.ofChange fnExactWeatherFromSpec)

/-- ITS FALSE NEIGHBOUR: 'it returns false'. Refute it at one input. -/
def fnExactWeatherFromWrong : ChangeSpec := { name := "fnExactWeatherFrom", fn := fun _ => fun
  | [d1, d2, d3, d4] => { results := [.lit (.bool false)], args := [d1, d2, d3, d4] }
  | _ => none }
def FnExactWeatherFromWrongFalsely : Prop := fnExactWeatherFromRow.holds Try.pinned (OpenSpec.ofChange fnExactWeatherFromWrong)

/-- 'laws.FnExactCutLoad': WHATEVER THE INPUT: true; the input reads as it did. -/
def fnExactCutLoadSpec : ChangeSpec := { name := "fnExactCutLoad", fn := fun _ => fun
  | [d1, d2, d3] => { results := [.lit (.bool true)], args := [d1, d2, d3] }
  | _ => none }
def fnExactCutLoadRow : OpenClaim := { program := "ytnajmggefapeaaa", sum := "61754ff974398619e64ce5407815ca6363e375b89f5a5cdd5d59106da6ede625", func := "loop.example/g00886/laws.FnExactCutLoad", spec := "fnExactCutLoad", unfollowed := true, recurses := true, apart := false }
def FnExactCutLoadSaid : Prop := fnExactCutLoadRow.holds Try.pinned (OpenSpec.ofChange fnExactCutLoadSpec)

/-- ITS FALSE NEIGHBOUR: 'it returns false'. Refute it at one input. -/
def fnExactCutLoadWrong : ChangeSpec := { name := "fnExactCutLoad", fn := fun _ => fun
  | [d1, d2, d3] => { results := [.lit (.bool false)], args := [d1, d2, d3] }
  | _ => none }
def FnExactCutLoadWrongFalsely : Prop := fnExactCutLoadRow.holds Try.pinned (OpenSpec.ofChange fnExactCutLoadWrong)

/- THE SECOND FORM. 'bulk': how many values and letters a reading holds, each counted each time it is reached (what is shared counts as often as it is met; a slice's spare places count too). A statement '..UptoSaid' is the law's where the arguments, and the package variables that the reading takes, are together of bulk at most 1048576: NARROWER than '..Said'. Prove '..Said' where nothing that the law and all that it calls make is longer than what came in: it says more and counts as full. Else prove '..UptoSaid'. A law counts once. -/
mutual
def uptoBulk {H : Type} : DataW H → Nat
  | .lit (.string bytes) => bytes.length + 1
  | .lit _ => 1
  | .nil => 1
  | .ptr d => uptoBulk d + 1
  | .slice elems spare => uptoBulkAll elems + uptoBulkAll spare + 1
  | .agg parts => uptoBulkAll parts + 1
  | .iface _ d => uptoBulk d + 1
  | .map entries => uptoBulkEntries entries + 1
  | .held _ => 1
def uptoBulkAll {H : Type} : List (DataW H) → Nat
  | [] => 0
  | d :: r => uptoBulk d + uptoBulkAll r
def uptoBulkEntries {H : Type} : List (Lit × DataW H) → Nat
  | [] => 0
  | x :: r => uptoBulkEntry x + uptoBulkEntries r
def uptoBulkEntry {H : Type} : Lit × DataW H → Nat
  | (.string bytes, d) => bytes.length + uptoBulk d + 1
  | (_, d) => uptoBulk d + 1
 end
def uptoSmall : (H : Type) → List (DataW H) → Bool := fun _ ds => decide (uptoBulkAll ds ≤ 1048576)
def OpenSpec.upto (s : _root_.Go.ChangeSpec) : _root_.Go.OpenSpec := { _root_.Go.OpenSpec.ofChange s with cond := some uptoSmall }

/-- 'laws.FnExactIsLanes', WHERE WHAT IT READS IS OF BULK AT MOST 1048576: true; the input reads as it did. -/
def fnExactIsLanesUptoRow : OpenClaim := { program := "ytnajmggefapeaaa", sum := "61754ff974398619e64ce5407815ca6363e375b89f5a5cdd5d59106da6ede625", func := "loop.example/g00886/laws.FnExactIsLanes", spec := "fnExactIsLanes", unfollowed := true, recurses := true, apart := false, narrowed := true }
def FnExactIsLanesUptoSaid : Prop := fnExactIsLanesUptoRow.holds Try.pinned (OpenSpec.upto fnExactIsLanesSpec)

/-- 'laws.FnExactChancesAfter', WHERE WHAT IT READS IS OF BULK AT MOST 1048576: true; the input reads as it did. -/
def fnExactChancesAfterUptoRow : OpenClaim := { program := "ytnajmggefapeaaa", sum := "61754ff974398619e64ce5407815ca6363e375b89f5a5cdd5d59106da6ede625", func := "loop.example/g00886/laws.FnExactChancesAfter", spec := "fnExactChancesAfter", apart := false, narrowed := true }
def FnExactChancesAfterUptoSaid : Prop := fnExactChancesAfterUptoRow.holds Try.pinned (OpenSpec.upto fnExactChancesAfterSpec)

/-- 'laws.FnExactNextWeather', WHERE WHAT IT READS IS OF BULK AT MOST 1048576: true; the input reads as it did. -/
def fnExactNextWeatherUptoRow : OpenClaim := { program := "ytnajmggefapeaaa", sum := "61754ff974398619e64ce5407815ca6363e375b89f5a5cdd5d59106da6ede625", func := "loop.example/g00886/laws.FnExactNextWeather", spec := "fnExactNextWeather", unfollowed := true, recurses := true, apart := false, narrowed := true }
def FnExactNextWeatherUptoSaid : Prop := fnExactNextWeatherUptoRow.holds Try.pinned (OpenSpec.upto fnExactNextWeatherSpec)

/-- 'laws.FnExactMostLikely', WHERE WHAT IT READS IS OF BULK AT MOST 1048576: true; the input reads as it did. -/
def fnExactMostLikelyUptoRow : OpenClaim := { program := "ytnajmggefapeaaa", sum := "61754ff974398619e64ce5407815ca6363e375b89f5a5cdd5d59106da6ede625", func := "loop.example/g00886/laws.FnExactMostLikely", spec := "fnExactMostLikely", apart := false, narrowed := true }
def FnExactMostLikelyUptoSaid : Prop := fnExactMostLikelyUptoRow.holds Try.pinned (OpenSpec.upto fnExactMostLikelySpec)

/-- 'laws.FnExactWeatherFrom', WHERE WHAT IT READS IS OF BULK AT MOST 1048576: true; the input reads as it did. -/
def fnExactWeatherFromUptoRow : OpenClaim := { program := "ytnajmggefapeaaa", sum := "61754ff974398619e64ce5407815ca6363e375b89f5a5cdd5d59106da6ede625", func := "loop.example/g00886/laws.FnExactWeatherFrom", spec := "fnExactWeatherFrom", unfollowed := true, recurses := true, apart := false, narrowed := true }
def FnExactWeatherFromUptoSaid : Prop := fnExactWeatherFromUptoRow.holds Try.pinned (OpenSpec.upto fnExactWeatherFromSpec)

/-- 'laws.FnExactCutLoad', WHERE WHAT IT READS IS OF BULK AT MOST 1048576: true; the input reads as it did. -/
def fnExactCutLoadUptoRow : OpenClaim := { program := "ytnajmggefapeaaa", sum := "61754ff974398619e64ce5407815ca6363e375b89f5a5cdd5d59106da6ede625", func := "loop.example/g00886/laws.FnExactCutLoad", spec := "fnExactCutLoad", unfollowed := true, recurses := true, apart := false, narrowed := true }
def FnExactCutLoadUptoSaid : Prop := fnExactCutLoadUptoRow.holds Try.pinned (OpenSpec.upto fnExactCutLoadSpec)

end Rows
end Go.Proofs.Ytnajmggefapeaaa
