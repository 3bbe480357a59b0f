/-
  No cell of these rows narrows 'for every input' (looked for: loops, veiled, ifaces, maps, wideKeys, modest, calm, conditions, laid).
  DERIVED. THE GIVEN ROWS OF THIS SEAT. 3 by the template 'for every input the law returns true; each argument reads behind the call as it read before'; 0 by the template 'total and deterministic' (their statements: YtomocakahfcihaaTotals.lean).
  GIVEN WITH THE SEED: the statements are not yours to turn. If you find one false, say at which input.
  Laid BY PROGRAM, IN A SANDBOX (cutbox-rows.mjs): the forced cells as the released guide's own fill.sh prints them over the translation 393924bded6e5ff1… (all of the seat's roots in one cut). By AI agents, Wed Nov 11 2026. No macro, syntax, notation, axiom, sorry.
-/
import Derived.Test.YtomocakahfcihaaChecked
import GoSem.Claim
import GoSem.ClaimJoined
import GoSem.ClaimMapViews
import Derived.JoinedTies
import Derived.KernelRfl
namespace Go.Proofs.Ytomocakahfcihaa
/- THE CELL 'sum', in the pinned program and in every row, IS THE sha256 OF THE DUMP (.gsa) THAT YtomocakahfcihaaProg.lean LOADS. Nothing in Lean hashes anything: it is a label: what it is worth is what the hold of that sum in a sandbox is worth. -/
noncomputable def Try.pinned : Pinned := { name := "ytomocakahfcihaa", sum := "393924bded6e5ff195682d76b22266b59c0d7d92c421c39af7234e669bb72bac", checked := Try.checked }
namespace Rows
def none {H : Type} : Left H := { results := [], args := [] }

/-- 'laws.FnExactGreatestDelivery': WHATEVER THE INPUT: true; the input reads as it did. -/
def fnExactGreatestDeliverySpec : ChangeSpec := { name := "fnExactGreatestDelivery", fn := fun _ => fun
  | [d1, d2, d3, d4] => { results := [.lit (.bool true)], args := [d1, d2, d3, d4] }
  | _ => none }
def fnExactGreatestDeliveryRow : OpenClaim := { program := "ytomocakahfcihaa", sum := "393924bded6e5ff195682d76b22266b59c0d7d92c421c39af7234e669bb72bac", func := "loop.example/g00886/laws.FnExactGreatestDelivery", spec := "fnExactGreatestDelivery", unfollowed := true, recurses := true, apart := false }
def FnExactGreatestDeliverySaid : Prop := fnExactGreatestDeliveryRow.holds Try.pinned (OpenSpec.ofChange fnExactGreatestDeliverySpec)

/-- ITS FALSE NEIGHBOUR: 'it returns false'. Refute it at one input. -/
def fnExactGreatestDeliveryWrong : ChangeSpec := { name := "fnExactGreatestDelivery", fn := fun _ => fun
  | [d1, d2, d3, d4] => { results := [.lit (.bool false)], args := [d1, d2, d3, d4] }
  | _ => none }
def FnExactGreatestDeliveryWrongFalsely : Prop := fnExactGreatestDeliveryRow.holds Try.pinned (OpenSpec.ofChange fnExactGreatestDeliveryWrong)

/-- 'laws.FnExactFewestDays': WHATEVER THE INPUT: true; the input reads as it did. -/
def fnExactFewestDaysSpec : ChangeSpec := { name := "fnExactFewestDays", fn := fun _ => fun
  | [d1, d2, d3, d4] => { results := [.lit (.bool true)], args := [d1, d2, d3, d4] }
  | _ => none }
def fnExactFewestDaysRow : OpenClaim := { program := "ytomocakahfcihaa", sum := "393924bded6e5ff195682d76b22266b59c0d7d92c421c39af7234e669bb72bac", func := "loop.example/g00886/laws.FnExactFewestDays", spec := "fnExactFewestDays", unfollowed := true, recurses := true, apart := false }
def FnExactFewestDaysSaid : Prop := fnExactFewestDaysRow.holds Try.pinned (OpenSpec.ofChange fnExactFewestDaysSpec)

/-- ITS FALSE NEIGHBOUR: 'it returns false'. Refute it at one input. -/
def fnExactFewestDaysWrong : ChangeSpec := { name := "fnExactFewestDays", fn := fun _ => fun
  | [d1, d2, d3, d4] => { results := [.lit (.bool false)], args := [d1, d2, d3, d4] }
  | _ => none }
def FnExactFewestDaysWrongFalsely : Prop := fnExactFewestDaysRow.holds Try.pinned (OpenSpec.ofChange fnExactFewestDaysWrong)

/-- 'laws.FnExactDeliveryCut': WHATEVER THE INPUT: true; the input reads as it did. -/
def fnExactDeliveryCutSpec : ChangeSpec := { name := "fnExactDeliveryCut", fn := fun _ => fun
  | [d1, d2, d3, d4] => { results := [.lit (.bool true)], args := [d1, d2, d3, d4] }
  | _ => none }
def fnExactDeliveryCutRow : OpenClaim := { program := "ytomocakahfcihaa", sum := "393924bded6e5ff195682d76b22266b59c0d7d92c421c39af7234e669bb72bac", func := "loop.example/g00886/laws.FnExactDeliveryCut", spec := "fnExactDeliveryCut", unfollowed := true, recurses := true, apart := false }
def FnExactDeliveryCutSaid : Prop := fnExactDeliveryCutRow.holds Try.pinned (OpenSpec.ofChange fnExactDeliveryCutSpec)

/-- ITS FALSE NEIGHBOUR: 'it returns false'. Refute it at one input. -/
def fnExactDeliveryCutWrong : ChangeSpec := { name := "fnExactDeliveryCut", fn := fun _ => fun
  | [d1, d2, d3, d4] => { results := [.lit (.bool false)], args := [d1, d2, d3, d4] }
  | _ => none }
def FnExactDeliveryCutWrongFalsely : Prop := fnExactDeliveryCutRow.holds Try.pinned (OpenSpec.ofChange fnExactDeliveryCutWrong)

/- THE SECOND FORM. 'bulk': how many values and letters a reading holds, each counted each time it is reached (what is shared counts as often as it is met; a slice's spare places count too). A statement '..UptoSaid' is the law's where the arguments, and the package variables that the reading takes, are together of bulk at most 1048576: NARROWER than '..Said'. Prove '..Said' where nothing that the law and all that it calls make is longer than what came in: it says more and counts as full. Else prove '..UptoSaid'. A law counts once. -/
mutual
def uptoBulk {H : Type} : DataW H → Nat
  | .lit (.string bytes) => bytes.length + 1
  | .lit _ => 1
  | .nil => 1
  | .ptr d => uptoBulk d + 1
  | .slice elems spare => uptoBulkAll elems + uptoBulkAll spare + 1
  | .agg parts => uptoBulkAll parts + 1
  | .iface _ d => uptoBulk d + 1
  | .map entries => uptoBulkEntries entries + 1
  | .held _ => 1
def uptoBulkAll {H : Type} : List (DataW H) → Nat
  | [] => 0
  | d :: r => uptoBulk d + uptoBulkAll r
def uptoBulkEntries {H : Type} : List (Lit × DataW H) → Nat
  | [] => 0
  | x :: r => uptoBulkEntry x + uptoBulkEntries r
def uptoBulkEntry {H : Type} : Lit × DataW H → Nat
  | (.string bytes, d) => bytes.length + uptoBulk d + 1
  | (_, d) => uptoBulk d + 1
 end
def uptoSmall : (H : Type) → List (DataW H) → Bool := fun _ ds => decide (uptoBulkAll ds ≤ 1048576)
def OpenSpec.upto (s : _root_.Go.ChangeSpec) : _root_.Go.OpenSpec := { _root_.Go.OpenSpec.ofChange s with cond := some uptoSmall }

/-- 'laws.FnExactGreatestDelivery', WHERE WHAT IT READS IS OF BULK AT MOST 1048576: true; the input reads as it did. -/
def fnExactGreatestDeliveryUptoRow : OpenClaim := { program := "ytomocakahfcihaa", sum := "393924bded6e5ff195682d76b22266b59c0d7d92c421c39af7234e669bb72bac", func := "loop.example/g00886/laws.FnExactGreatestDelivery", spec := "fnExactGreatestDelivery", unfollowed := true, recurses := true, apart := false, narrowed := true }
def FnExactGreatestDeliveryUptoSaid : Prop := fnExactGreatestDeliveryUptoRow.holds Try.pinned (OpenSpec.upto fnExactGreatestDeliverySpec)

/-- 'laws.FnExactFewestDays', WHERE WHAT IT READS IS OF BULK AT MOST 1048576: true; the input reads as it did. -/
def fnExactFewestDaysUptoRow : OpenClaim := { program := "ytomocakahfcihaa", sum := "393924bded6e5ff195682d76b22266b59c0d7d92c421c39af7234e669bb72bac", func := "loop.example/g00886/laws.FnExactFewestDays", spec := "fnExactFewestDays", unfollowed := true, recurses := true, apart := false, narrowed := true }
def FnExactFewestDaysUptoSaid : Prop := fnExactFewestDaysUptoRow.holds Try.pinned (OpenSpec.upto fnExactFewestDaysSpec)

/-- 'laws.FnExactDeliveryCut', WHERE WHAT IT READS IS OF BULK AT MOST 1048576: true; the input reads as it did. -/
def fnExactDeliveryCutUptoRow : OpenClaim := { program := "ytomocakahfcihaa", sum := "393924bded6e5ff195682d76b22266b59c0d7d92c421c39af7234e669bb72bac", func := "loop.example/g00886/laws.FnExactDeliveryCut", spec := "fnExactDeliveryCut", unfollowed := true, recurses := true, apart := false, narrowed := true }
def FnExactDeliveryCutUptoSaid : Prop := fnExactDeliveryCutUptoRow.holds Try.pinned (OpenSpec.upto fnExactDeliveryCutSpec)

end Rows
end Go.Proofs.Ytomocakahfcihaa
