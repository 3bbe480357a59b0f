import Derived.Test.YtlddjlchgibdfaaDoorXTab
import Derived.Laws.Strings
set_option linter.unusedVariables false
namespace Go.Proofs.YtlddjlchgibdfaaDoor.X
open Go
theorem str_eq (a b : ByteArray) : (a.toList == b.toList) = decide (a = b) := by
  rw [Bool.eq_iff_iff, beq_iff_eq, decide_eq_true_eq, ByteArray.toList_eq, ByteArray.toList_eq]
  constructor
  · intro h; exact ByteArray.ext (Array.toList_inj.mp h)
  · rintro rfl; rfl
theorem bs_eql {a b : ByteArray} {K : AV → Prop} : strK .eql a b K = K (.bool (decide (a = b))) := by
  rw [← str_eq]; rfl
theorem bs_neq {a b : ByteArray} {K : AV → Prop} : strK .neq a b K = K (.bool (!decide (a = b))) := by
  rw [← str_eq]; rfl
theorem bs_add {a b : ByteArray} {K : AV → Prop} : strK .add a b K = (((a.size + b.size : Nat) : Int) ≤ 9223372036854775807 ∧ K (.str (a ++ b))) := _root_.id rfl
theorem bt_lo (s : ByteArray) (i : Int) : 0 ≤ bt s i ∧ bt s i ≤ 255 := by
  unfold bt
  have := (s.data.toList.getD i.toNat 0).toNat_lt
  omega
attribute [push_cast] bs_eql bs_neq bs_add
end Go.Proofs.YtlddjlchgibdfaaDoor.X
