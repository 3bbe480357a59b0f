/-
  No cell of these rows narrows 'for every input' (looked for: loops, veiled, ifaces, maps, wideKeys, modest, calm, conditions, laid).
  DERIVED. THE GIVEN ROWS OF THIS SEAT. 3 by the template 'for every input the law returns true; each argument reads behind the call as it read before'; 0 by the template 'total and deterministic' (their statements: YtiemjnkblggimaaTotals.lean).
  GIVEN WITH THE SEED: the statements are not yours to turn. If you find one false, say at which input.
  Laid BY PROGRAM, IN A SANDBOX (cutbox-rows.mjs): the forced cells as the released guide's own fill.sh prints them over the translation ef07bf71be2d74c6… (all of the seat's roots in one cut). By AI agents, Wed Nov 11 2026. No macro, syntax, notation, axiom, sorry.
-/
import Derived.Test.YtiemjnkblggimaaChecked
import GoSem.Claim
import GoSem.ClaimJoined
import GoSem.ClaimMapViews
import Derived.JoinedTies
import Derived.KernelRfl
namespace Go.Proofs.Ytiemjnkblggimaa
/- THE CELL 'sum', in the pinned program and in every row, IS THE sha256 OF THE DUMP (.gsa) THAT YtiemjnkblggimaaProg.lean LOADS. Nothing in Lean hashes anything: it is a label: what it is worth is what the hold of that sum in a sandbox is worth. -/
noncomputable def Try.pinned : Pinned := { name := "ytiemjnkblggimaa", sum := "ef07bf71be2d74c6044afd4f8a9876c3ea727e73c0a8685e16d18e04ee29d9dc", checked := Try.checked }
namespace Rows
def none {H : Type} : Left H := { results := [], args := [] }

/-- 'laws.FnExactWithoutLane': WHATEVER THE INPUT: true; the input reads as it did. -/
def fnExactWithoutLaneSpec : ChangeSpec := { name := "fnExactWithoutLane", fn := fun _ => fun
  | [d1, d2] => { results := [.lit (.bool true)], args := [d1, d2] }
  | _ => none }
def fnExactWithoutLaneRow : OpenClaim := { program := "ytiemjnkblggimaa", sum := "ef07bf71be2d74c6044afd4f8a9876c3ea727e73c0a8685e16d18e04ee29d9dc", func := "loop.example/g00886/laws.FnExactWithoutLane", spec := "fnExactWithoutLane", unfollowed := true, recurses := true, apart := false }
def FnExactWithoutLaneSaid : Prop := fnExactWithoutLaneRow.holds Try.pinned (OpenSpec.ofChange fnExactWithoutLaneSpec)

/-- ITS FALSE NEIGHBOUR: 'it returns false'. Refute it at one input. -/
def fnExactWithoutLaneWrong : ChangeSpec := { name := "fnExactWithoutLane", fn := fun _ => fun
  | [d1, d2] => { results := [.lit (.bool false)], args := [d1, d2] }
  | _ => none }
def FnExactWithoutLaneWrongFalsely : Prop := fnExactWithoutLaneRow.holds Try.pinned (OpenSpec.ofChange fnExactWithoutLaneWrong)

/-- 'laws.FnExactCriticalLanes': WHATEVER THE INPUT: true; the input reads as it did. -/
def fnExactCriticalLanesSpec : ChangeSpec := { name := "fnExactCriticalLanes", fn := fun _ => fun
  | [d1, d2, d3, d4] => { results := [.lit (.bool true)], args := [d1, d2, d3, d4] }
  | _ => none }
def fnExactCriticalLanesRow : OpenClaim := { program := "ytiemjnkblggimaa", sum := "ef07bf71be2d74c6044afd4f8a9876c3ea727e73c0a8685e16d18e04ee29d9dc", func := "loop.example/g00886/laws.FnExactCriticalLanes", spec := "fnExactCriticalLanes", unfollowed := true, recurses := true, apart := false }
def FnExactCriticalLanesSaid : Prop := fnExactCriticalLanesRow.holds Try.pinned (OpenSpec.ofChange fnExactCriticalLanesSpec)

/-- ITS FALSE NEIGHBOUR: 'it returns false'. Refute it at one input. -/
def fnExactCriticalLanesWrong : ChangeSpec := { name := "fnExactCriticalLanes", fn := fun _ => fun
  | [d1, d2, d3, d4] => { results := [.lit (.bool false)], args := [d1, d2, d3, d4] }
  | _ => none }
def FnExactCriticalLanesWrongFalsely : Prop := fnExactCriticalLanesRow.holds Try.pinned (OpenSpec.ofChange fnExactCriticalLanesWrong)

/-- 'laws.FnExactDeliveryPlan': WHATEVER THE INPUT: true; the input reads as it did. -/
def fnExactDeliveryPlanSpec : ChangeSpec := { name := "fnExactDeliveryPlan", fn := fun _ => fun
  | [d1, d2, d3, d4] => { results := [.lit (.bool true)], args := [d1, d2, d3, d4] }
  | _ => none }
def fnExactDeliveryPlanRow : OpenClaim := { program := "ytiemjnkblggimaa", sum := "ef07bf71be2d74c6044afd4f8a9876c3ea727e73c0a8685e16d18e04ee29d9dc", func := "loop.example/g00886/laws.FnExactDeliveryPlan", spec := "fnExactDeliveryPlan", unfollowed := true, recurses := true, apart := false }
def FnExactDeliveryPlanSaid : Prop := fnExactDeliveryPlanRow.holds Try.pinned (OpenSpec.ofChange fnExactDeliveryPlanSpec)

/-- ITS FALSE NEIGHBOUR: 'it returns false'. Refute it at one input. -/
def fnExactDeliveryPlanWrong : ChangeSpec := { name := "fnExactDeliveryPlan", fn := fun _ => fun
  | [d1, d2, d3, d4] => { results := [.lit (.bool false)], args := [d1, d2, d3, d4] }
  | _ => none }
def FnExactDeliveryPlanWrongFalsely : Prop := fnExactDeliveryPlanRow.holds Try.pinned (OpenSpec.ofChange fnExactDeliveryPlanWrong)

/- THE SECOND FORM. 'bulk': how many values and letters a reading holds, each counted each time it is reached (what is shared counts as often as it is met; a slice's spare places count too). A statement '..UptoSaid' is the law's where the arguments, and the package variables that the reading takes, are together of bulk at most 1048576: NARROWER than '..Said'. Prove '..Said' where nothing that the law and all that it calls make is longer than what came in: it says more and counts as full. Else prove '..UptoSaid'. A law counts once. -/
mutual
def uptoBulk {H : Type} : DataW H → Nat
  | .lit (.string bytes) => bytes.length + 1
  | .lit _ => 1
  | .nil => 1
  | .ptr d => uptoBulk d + 1
  | .slice elems spare => uptoBulkAll elems + uptoBulkAll spare + 1
  | .agg parts => uptoBulkAll parts + 1
  | .iface _ d => uptoBulk d + 1
  | .map entries => uptoBulkEntries entries + 1
  | .held _ => 1
def uptoBulkAll {H : Type} : List (DataW H) → Nat
  | [] => 0
  | d :: r => uptoBulk d + uptoBulkAll r
def uptoBulkEntries {H : Type} : List (Lit × DataW H) → Nat
  | [] => 0
  | x :: r => uptoBulkEntry x + uptoBulkEntries r
def uptoBulkEntry {H : Type} : Lit × DataW H → Nat
  | (.string bytes, d) => bytes.length + uptoBulk d + 1
  | (_, d) => uptoBulk d + 1
 end
def uptoSmall : (H : Type) → List (DataW H) → Bool := fun _ ds => decide (uptoBulkAll ds ≤ 1048576)
def OpenSpec.upto (s : _root_.Go.ChangeSpec) : _root_.Go.OpenSpec := { _root_.Go.OpenSpec.ofChange s with cond := some uptoSmall }

/-- 'laws.FnExactWithoutLane', WHERE WHAT IT READS IS OF BULK AT MOST 1048576: true; the input reads as it did. -/
def fnExactWithoutLaneUptoRow : OpenClaim := { program := "ytiemjnkblggimaa", sum := "ef07bf71be2d74c6044afd4f8a9876c3ea727e73c0a8685e16d18e04ee29d9dc", func := "loop.example/g00886/laws.FnExactWithoutLane", spec := "fnExactWithoutLane", unfollowed := true, recurses := true, apart := false, narrowed := true }
def FnExactWithoutLaneUptoSaid : Prop := fnExactWithoutLaneUptoRow.holds Try.pinned (OpenSpec.upto fnExactWithoutLaneSpec)

/-- 'laws.FnExactCriticalLanes', WHERE WHAT IT READS IS OF BULK AT MOST 1048576: true; the input reads as it did. -/
def fnExactCriticalLanesUptoRow : OpenClaim := { program := "ytiemjnkblggimaa", sum := "ef07bf71be2d74c6044afd4f8a9876c3ea727e73c0a8685e16d18e04ee29d9dc", func := "loop.example/g00886/laws.FnExactCriticalLanes", spec := "fnExactCriticalLanes", unfollowed := true, recurses := true, apart := false, narrowed := true }
def FnExactCriticalLanesUptoSaid : Prop := fnExactCriticalLanesUptoRow.holds Try.pinned (OpenSpec.upto fnExactCriticalLanesSpec)

/-- 'laws.FnExactDeliveryPlan', WHERE WHAT IT READS IS OF BULK AT MOST 1048576: true; the input reads as it did. -/
def fnExactDeliveryPlanUptoRow : OpenClaim := { program := "ytiemjnkblggimaa", sum := "ef07bf71be2d74c6044afd4f8a9876c3ea727e73c0a8685e16d18e04ee29d9dc", func := "loop.example/g00886/laws.FnExactDeliveryPlan", spec := "fnExactDeliveryPlan", unfollowed := true, recurses := true, apart := false, narrowed := true }
def FnExactDeliveryPlanUptoSaid : Prop := fnExactDeliveryPlanUptoRow.holds Try.pinned (OpenSpec.upto fnExactDeliveryPlanSpec)

end Rows
end Go.Proofs.Ytiemjnkblggimaa
