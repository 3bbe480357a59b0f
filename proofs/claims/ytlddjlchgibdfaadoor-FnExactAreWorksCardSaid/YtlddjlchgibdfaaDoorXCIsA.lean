import Derived.Test.YtlddjlchgibdfaaDoorXCGlo
set_option maxHeartbeats 1000000
set_option maxRecDepth 8000
set_option linter.unusedSimpArgs false
set_option linter.unusedSectionVars false
set_option linter.unusedVariables false
namespace Go.Proofs.YtlddjlchgibdfaaDoor.X
open Go
def ints (l : List Int) : List (List AV) := l.map fun n => [.int .i64 n]
theorem own_ints (l : List Int) : ownR (.ow 1 (ints l)) = true := by
  simp only [ownR]
  unfold ints
  induction l with
  | nil => rfl
  | cons x l ih => simp only [List.map_cons, ownRLL, ownRL, ownR, Bool.and_true, Bool.true_and]; exact ih
section
variable {C : CT} (hC : Closed Tryd.prog G1 md0 C)
include hC
theorem t75 (a b c : Int) : Ev C 75 [.int .i64 a, .int .i64 b, .int .i64 c] (.bool (decide (b ≤ a) && decide (a ≤ c))) := by
  refine Ev.runT hC Tryd.func75 h75 nt75 r75 (by decide) (Nat.le_of_ble_eq_true rfl) (rfl) ?_
  simp only [c75, push_cast, ↓ifB_true, ↓ifB_false, Nat.reduceBEq, Nat.reduceAdd, Nat.reduceSub, reduceCtorEq, Nat.reduceMul, Nat.reduceEqDiff, Nat.reduceLeDiff, reduceIte, Nat.reduceLT, Int.reduceLE, Int.reduceLT, Int.reduceToNat]
  grind [ifB]
theorem t101 (a b c : Int) : Ev C 101 [.int .i64 a, .int .i64 b, .int .i64 c] (.bool (decide (b ≤ a) && decide (a ≤ c))) := by
  refine Ev.runT hC Tryd.func101 h101 nt101 r101 (by decide) (Nat.le_of_ble_eq_true rfl) (rfl) ?_
  simp only [c101, push_cast, ↓ifB_true, ↓ifB_false, Nat.reduceBEq, Nat.reduceAdd, Nat.reduceSub, reduceCtorEq, Nat.reduceMul, Nat.reduceEqDiff, Nat.reduceLeDiff, reduceIte, Nat.reduceLT, Int.reduceLE, Int.reduceLT, Int.reduceToNat]
  grind [ifB]
theorem t76 (a b : Int) (hb : -2^62 ≤ b ∧ b ≤ 2^62) : Ev C 76 [.int .i64 a, .int .i64 b] (.bool (decide (0 ≤ a) && decide (a ≤ b - 1))) := by
  refine Ev.runT hC Tryd.func76 h76 nt76 r76 (by decide) (Nat.le_of_ble_eq_true rfl) (rfl) ?_
  simp only [c76, push_cast, ↓ifB_true, ↓ifB_false, Nat.reduceBEq, Nat.reduceAdd, Nat.reduceSub, reduceCtorEq, Nat.reduceMul, Nat.reduceEqDiff, Nat.reduceLeDiff, reduceIte, Nat.reduceLT, Int.reduceLE, Int.reduceLT, Int.reduceToNat]
  refine ⟨_, t101 hC _ _ _, ?_⟩
  simp only [push_cast, ↓ifB_true, ↓ifB_false, Nat.reduceBEq, Nat.reduceAdd, Nat.reduceSub, reduceCtorEq, Nat.reduceMul, Nat.reduceEqDiff, Nat.reduceLeDiff, reduceIte, Nat.reduceLT, Int.reduceLE, Int.reduceLT, Int.reduceToNat]
  rw [wrap64 (by omega) (by omega)]
theorem t65 (es : List (List AV)) (v : Int) (hv : -1 ≤ v ∧ v < 2^50) (he : es.length < 2^50) : Ev C 65 [.sl es, .int .i64 v] (.int .i64 (if v < es.length then -1 else v - es.length)) := by
  refine Ev.runT hC Tryd.func65 h65 nt65 r65 (by decide) (Nat.le_of_ble_eq_true rfl) (rfl) ?_
  simp only [c65, push_cast, ↓ifB_true, ↓ifB_false, Nat.reduceBEq, Nat.reduceAdd, Nat.reduceSub, reduceCtorEq, Nat.reduceMul, Nat.reduceEqDiff, Nat.reduceLeDiff, reduceIte, Nat.reduceLT, Int.reduceLE, Int.reduceLT, Int.reduceToNat]
  rw [wrap64 (by omega) (by omega)]
  grind [ifB]
theorem t71 (l m : List Int) (hl : l.length < 2^50) (hm : m.length < 2^50) : Ev C 71 [.sl (ints l), .sl (ints m)] (.bool (l == m)) := by
  refine Ev.runT hC Tryd.func71 h71 nt71 r71 (by decide) (Nat.le_of_ble_eq_true rfl) (rfl) ?_
  simp only [c71, ints, List.length_map, push_cast, ↓ifB_true, ↓ifB_false, Nat.reduceBEq, Nat.reduceAdd, Nat.reduceSub, reduceCtorEq, Nat.reduceMul, Nat.reduceEqDiff, Nat.reduceLeDiff, reduceIte, Nat.reduceLT, Int.reduceLE, Int.reduceLT, Int.reduceToNat]
  refine ifB_intro (fun h => ?_) (fun h => ?_)
  · have hlm : l.length = m.length := by simp at h; omega
    refine RL_count (fun i => ⟨tb 26 .any [(0, .sl (l.map fun n => [.int .i64 n])), (1, .sl (m.map fun n => [.int .i64 n])), (5, .int .i64 (i : Int))], [], 0⟩) (fun i => l.take i = m.take i) l.length 0 (head_tb [] rfl (by simp only [keptV_cons, keptV_nil, tb_get, lk_same, lk_ne, lk_nil, ren, renL, lkp, Nat.reduceLT, Nat.reduceBEq, Nat.reduceEqDiff, reduceIte, and_true, true_and, Nat.not_lt_zero, if_false, if_true, Nat.add_zero, Nat.zero_add]; (try rw [wrap64 (by omega) (by omega)]); (first | done | (simp; done) | (simp [*]; done) | (simp; omega) | (and_intros <;> rfl))) (by simp only [canR, canB, renO, renL, ren, lkp, hget, Nat.reduceLT, Nat.reduceEqDiff, Nat.not_lt_zero, if_false, if_true, reduceIte, List.append_nil, List.nil_append]; (first | done | rfl))) (by omega) rfl fun i hi ht J hJ => ?_
    by_cases h1 : i < l.length
    · have h2 : i < m.length := by omega
      simp only [List.length_map, Int.toNat_natCast, List.getElem?_map, List.getElem?_eq_getElem h1, List.getElem?_eq_getElem h2, push_cast, ↓ifB_true, ↓ifB_false, Nat.reduceBEq, Nat.reduceAdd, Nat.reduceSub, reduceCtorEq, Nat.reduceMul, Nat.reduceEqDiff, Nat.reduceLeDiff, reduceIte, Nat.reduceLT, Int.reduceLE, Int.reduceLT, Int.reduceToNat]
      refine ifB_intro (fun _ => ⟨by omega, by omega, ifB_intro (fun h => ?_) (fun h => ?_)⟩) (fun h => by simp at h; omega)
      · refine hJ h1 ?_ _ (head_tb [] rfl (by simp only [keptV_cons, keptV_nil, tb_get, lk_same, lk_ne, lk_nil, ren, renL, lkp, Nat.reduceLT, Nat.reduceBEq, Nat.reduceEqDiff, reduceIte, and_true, true_and, Nat.not_lt_zero, if_false, if_true, Nat.add_zero, Nat.zero_add]; (try rw [wrap64 (by omega) (by omega)]); (first | done | (simp; done) | (simp [*]; done) | (simp; omega) | (and_intros <;> rfl))) (by simp only [canR, canB, renO, renL, ren, lkp, hget, Nat.reduceLT, Nat.reduceEqDiff, Nat.not_lt_zero, if_false, if_true, reduceIte, List.append_nil, List.nil_append]; (first | done | rfl)))
        · rw [List.take_succ_eq_append_getElem h1, List.take_succ_eq_append_getElem h2, ht]
          have h' : l[i] = m[i] := by simpa using h
          rw [h']
      · have : ¬ l = m := by rintro rfl; simp at h
        simp [this]
    · simp only [List.length_map, Int.toNat_natCast, List.getElem?_map, push_cast, ↓ifB_true, ↓ifB_false, Nat.reduceBEq, Nat.reduceAdd, Nat.reduceSub, reduceCtorEq, Nat.reduceMul, Nat.reduceEqDiff, Nat.reduceLeDiff, reduceIte, Nat.reduceLT, Int.reduceLE, Int.reduceLT, Int.reduceToNat]
      refine ifB_intro (fun h => by simp at h; omega) (fun h => ?_)
      rw [List.take_of_length_le (by omega), List.take_of_length_le (by omega)] at ht
      simp [ht]
  · have : ¬ l = m := by rintro rfl; simp at h
    simp [this]
theorem t68 (l : List Int) (hl : l.length < 2^30) : Ev C 68 [.sl (ints l)] (.ow 1 (ints l)) := by
  refine Ev.runT hC Tryd.func68 h68 nt68 r68 (by decide) (Nat.le_of_ble_eq_true rfl) (own_ints l) ?_
  simp only [c68, ints, List.length_map, push_cast, ↓ifB_true, ↓ifB_false, Nat.reduceBEq, Nat.reduceAdd, Nat.reduceSub, reduceCtorEq, Nat.reduceMul, Nat.reduceEqDiff, Nat.reduceLeDiff, reduceIte, Nat.reduceLT, Int.reduceLE, Int.reduceLT, Int.reduceToNat]
  refine ⟨by omega, by omega, by omega, by omega, ?_⟩
  refine RL_count (fun i => ⟨tb 22 .any [(0, .sl (l.map fun n => [.int .i64 n])), (3, .ref 0 none 1 0 l.length), (4, .int .i64 (i : Int))], [(0, .slice 1 ((l.take i).map (fun n => [.int .i64 n]) ++ List.replicate (l.length - i) [.int .i64 0]))], 1⟩) (fun _ => True) l.length 0 (head_tb [(0, 0)] rfl (by simp only [keptV_cons, keptV_nil, tb_get, lk_same, lk_ne, lk_nil, ren, renL, lkp, Nat.reduceLT, Nat.reduceBEq, Nat.reduceEqDiff, reduceIte, and_true, true_and, Nat.not_lt_zero, if_false, if_true, Nat.add_zero, Nat.zero_add]; (try rw [wrap64 (by omega) (by omega)]); (first | done | (simp; done) | (simp [*]; done) | (simp; omega) | (and_intros <;> rfl))) (by simp only [canR, canB, renO, renL, ren, lkp, hget, Nat.reduceLT, Nat.reduceEqDiff, Nat.not_lt_zero, if_false, if_true, reduceIte, List.append_nil, List.nil_append]; (first | done | rfl))) (by omega) trivial fun i hi _ J hJ => ?_
  by_cases h1 : i < l.length
  · rw [show l.length - i = (l.length - (i + 1)) + 1 by omega, List.replicate_succ]
    simp only [List.length_map, Int.toNat_natCast, List.getElem?_map, List.getElem?_eq_getElem h1, mid_get (show ((l.take i).map fun n => [AV.int .i64 n]).length = i by simp; omega), mid_set (show ((l.take i).map fun n => [AV.int .i64 n]).length = i by simp; omega), push_cast, ↓ifB_true, ↓ifB_false, Nat.reduceBEq, Nat.reduceAdd, Nat.reduceSub, reduceCtorEq, Nat.reduceMul, Nat.reduceEqDiff, Nat.reduceLeDiff, reduceIte, Nat.reduceLT, Int.reduceLE, Int.reduceLT, Int.reduceToNat]
    refine ifB_intro (fun _ => ⟨by omega, by omega, by omega, ?_⟩) (fun h => by simp at h; omega)
    refine hJ h1 trivial _ (head_tb [(0, 0)] rfl (by simp only [keptV_cons, keptV_nil, tb_get, lk_same, lk_ne, lk_nil, ren, renL, lkp, Nat.reduceLT, Nat.reduceBEq, Nat.reduceEqDiff, reduceIte, and_true, true_and, Nat.not_lt_zero, if_false, if_true, Nat.add_zero, Nat.zero_add]; (try rw [wrap64 (by omega) (by omega)]); (first | done | (simp; done) | (simp [*]; done) | (simp; omega) | (and_intros <;> rfl))) ?_)
    rw [List.take_succ_eq_append_getElem h1, List.map_append, List.append_assoc]
    simp only [canR, canB, renO, renL, ren, lkp, hget, Nat.reduceLT, Nat.reduceEqDiff, Nat.not_lt_zero, if_false, if_true, reduceIte, List.append_nil, List.nil_append]
    rfl
  · simp only [List.length_map, Int.toNat_natCast, List.getElem?_map, push_cast, ↓ifB_true, ↓ifB_false, Nat.reduceBEq, Nat.reduceAdd, Nat.reduceSub, reduceCtorEq, Nat.reduceMul, Nat.reduceEqDiff, Nat.reduceLeDiff, reduceIte, Nat.reduceLT, Int.reduceLE, Int.reduceLT, Int.reduceToNat]
    refine ifB_intro (fun h => by simp at h; omega) (fun h => ?_)
    rw [List.take_of_length_le (by omega), show l.length - i = 0 by omega]
    exact RetTo_ow (by simp [hget]) (by simp)
end
end Go.Proofs.YtlddjlchgibdfaaDoor.X
