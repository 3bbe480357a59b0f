import Derived.Test.YtlddjlchgibdfaaDoorXCBdM
set_option maxHeartbeats 4000000
set_option maxRecDepth 8000
set_option linter.unusedSimpArgs false
set_option linter.unusedVariables false
namespace Go.Proofs.YtlddjlchgibdfaaDoor.X
open Go
attribute [local irreducible] Ev
section
variable {C : CT} (hC : Closed Tryd.prog G1 md0 C)
include hC
theorem t144 (t : Ter) (h : t.c.length < 2^30) : Ev C 144 [.agg (terF t)] (.agg (terO t)) := by
  simp only [terF, terO]
  refine Ev.runT hC Tryd.func144 h144 nt144 r144 (by decide) (Nat.le_of_ble_eq_true rfl) (by simp only [ownR, ownRL, own_ints1, Bool.and_true]) ?_
  simp only [c144, push_cast, ↓ifB_true, ↓ifB_false, Nat.reduceBEq, Nat.reduceAdd, Nat.reduceSub, reduceCtorEq, Nat.reduceMul, Nat.reduceEqDiff, Nat.reduceLeDiff, reduceIte, Nat.reduceLT, Int.reduceLE, Int.reduceLT, Int.reduceToNat]
  refine ⟨_, t68 hC _ h, ?_⟩
  simp only [push_cast, ↓ifB_true, ↓ifB_false, Nat.reduceBEq, Nat.reduceAdd, Nat.reduceSub, reduceCtorEq, Nat.reduceMul, Nat.reduceEqDiff, Nat.reduceLeDiff, reduceIte, Nat.reduceLT, Int.reduceLE, Int.reduceLT, Int.reduceToNat]
  exact RetTo_of (by simp only [conR, conRL, isF, hget, hdel, List.drop_zero, List.take_length, if_true, if_false, reduceIte, Nat.reduceEqDiff, reduceCtorEq]; rfl)
theorem t145 (k : Kin) : Ev C 145 [.agg (kinA k)] (.agg (kinA k)) := by
  simp only [kinA]
  refine Ev.runT hC Tryd.func145 h145 nt145 r145 (by decide) (Nat.le_of_ble_eq_true rfl) (rfl) ?_
  simp only [c145, push_cast, ↓ifB_true, ↓ifB_false, Nat.reduceBEq, Nat.reduceAdd, Nat.reduceSub, reduceCtorEq, Nat.reduceMul, Nat.reduceEqDiff, Nat.reduceLeDiff, reduceIte, Nat.reduceLT, Int.reduceLE, Int.reduceLT, Int.reduceToNat]
  exact RetTo_of (by simp only [conR, conRL, isF, hget, hdel, List.drop_zero, List.take_length, if_true, if_false, reduceIte, Nat.reduceEqDiff, reduceCtorEq]; rfl)
theorem t108 (l : List Ter) (hl : l.length < 2^30) (hn : ∀ x ∈ l, x.c.length < 2^30) : Ev C 108 [.sl (tersF l)] (.ow 5 (tersO l)) := by
  refine Ev.runT hC Tryd.func108 h108 nt108 r108 (by decide) (Nat.le_of_ble_eq_true rfl) (by simp only [ownR, own_ters]) ?_
  simp only [c108, tersF_length, push_cast, ↓ifB_true, ↓ifB_false, Nat.reduceBEq, Nat.reduceAdd, Nat.reduceSub, reduceCtorEq, Nat.reduceMul, Nat.reduceEqDiff, Nat.reduceLeDiff, reduceIte, Nat.reduceLT, Int.reduceLE, Int.reduceLT, Int.reduceToNat]
  repeat (refine ⟨by omega, ?_⟩)
  refine RL_count (fun i => ⟨tb 23 .any [(0, .sl (tersF l)), (3, .ref 0 none 5 0 l.length), (4, .int .i64 (i : Int))], [(0, .slice 5 ((l.take i).map terO ++ List.replicate (l.length - i) [.str ByteArray.empty, .nil, .int .i64 0, .int .i64 0, .bool false]))], 1⟩) (fun _ => True) l.length 0 (head_tb [(0, 0)] rfl (by simp only [keptV_cons, keptV_nil, tb_get, lk_same, lk_ne, lk_nil, ren, renL, lkp, Nat.reduceLT, Nat.reduceBEq, Nat.reduceEqDiff, reduceIte, and_true, true_and, Nat.not_lt_zero, if_false, if_true, Nat.add_zero, Nat.zero_add]; (try rw [wrap64 (by omega) (by omega)]); (first | done | (simp; done) | (simp [*]; done) | (simp; omega) | (and_intros <;> rfl))) (by simp only [canR, canB, renO, renL, ren, lkp, hget, Nat.reduceLT, Nat.reduceEqDiff, Nat.not_lt_zero, if_false, if_true, reduceIte, List.append_nil, List.nil_append]; (first | done | rfl))) (by omega) trivial fun i hi _ J hJ => ?_
  by_cases h1 : i < l.length
  · have e1 : (tersF l)[i]? = some (terF l[i]) := by simp [tersF, h1]
    rw [show l.length - i = (l.length - (i + 1)) + 1 by omega, List.replicate_succ]
    simp only [tersF_length, Int.toNat_natCast, e1, terF, push_cast, ↓ifB_true, ↓ifB_false, Nat.reduceBEq, Nat.reduceAdd, Nat.reduceSub, reduceCtorEq, Nat.reduceMul, Nat.reduceEqDiff, Nat.reduceLeDiff, reduceIte, Nat.reduceLT, Int.reduceLE, Int.reduceLT, Int.reduceToNat]
    refine ifB_intro (fun _ => ?_) (fun h => by simp at h; omega)
    repeat (refine ⟨by omega, ?_⟩)
    refine ⟨_, t144 hC l[i] (hn _ (List.getElem_mem h1)), ?_⟩
    simp only [Int.toNat_natCast, terF, terO, List.take_length, mid_get (show ((l.take i).map terO).length = i by simp; omega), mid_set (show ((l.take i).map terO).length = i by simp; omega), push_cast, ↓ifB_true, ↓ifB_false, Nat.reduceBEq, Nat.reduceAdd, Nat.reduceSub, reduceCtorEq, Nat.reduceMul, Nat.reduceEqDiff, Nat.reduceLeDiff, reduceIte, Nat.reduceLT, Int.reduceLE, Int.reduceLT, Int.reduceToNat]
    repeat (refine ⟨by omega, ?_⟩)
    refine hJ h1 trivial _ (head_tb [(0, 0)] rfl (by simp only [keptV_cons, keptV_nil, tb_get, lk_same, lk_ne, lk_nil, ren, renL, lkp, Nat.reduceLT, Nat.reduceBEq, Nat.reduceEqDiff, reduceIte, and_true, true_and, Nat.not_lt_zero, if_false, if_true, Nat.add_zero, Nat.zero_add]; (try rw [wrap64 (by omega) (by omega)]); (first | done | (simp; done) | (simp [*]; done) | (simp; omega) | (and_intros <;> rfl))) ?_)
    rw [List.take_succ_eq_append_getElem h1, List.map_append, List.append_assoc]
    simp only [hdel, canR, canB, renO, renL, ren, lkp, hget, Nat.reduceLT, Nat.reduceEqDiff, Nat.not_lt_zero, if_false, if_true, reduceIte, List.append_nil, List.nil_append]
    rfl
  · simp only [tersF_length, Int.toNat_natCast, push_cast, ↓ifB_true, ↓ifB_false, Nat.reduceBEq, Nat.reduceAdd, Nat.reduceSub, reduceCtorEq, Nat.reduceMul, Nat.reduceEqDiff, Nat.reduceLeDiff, reduceIte, Nat.reduceLT, Int.reduceLE, Int.reduceLT, Int.reduceToNat]
    refine ifB_intro (fun h => by simp at h; omega) (fun h => ?_)
    rw [List.take_of_length_le (by omega), show l.length - i = 0 by omega]
    exact RetTo_ow (by simp [hget, tersO]) (by simp [tersO])
theorem t109 (l : List Kin) (hl : l.length < 2^30) : Ev C 109 [.sl (kins l)] (.ow 6 (kins l)) := by
  refine Ev.runT hC Tryd.func109 h109 nt109 r109 (by decide) (Nat.le_of_ble_eq_true rfl) (by simp only [ownR, own_kins]) ?_
  simp only [c109, kins_length, push_cast, ↓ifB_true, ↓ifB_false, Nat.reduceBEq, Nat.reduceAdd, Nat.reduceSub, reduceCtorEq, Nat.reduceMul, Nat.reduceEqDiff, Nat.reduceLeDiff, reduceIte, Nat.reduceLT, Int.reduceLE, Int.reduceLT, Int.reduceToNat]
  repeat (refine ⟨by omega, ?_⟩)
  refine RL_count (fun i => ⟨tb 23 .any [(0, .sl (kins l)), (3, .ref 0 none 6 0 l.length), (4, .int .i64 (i : Int))], [(0, .slice 6 ((l.take i).map kinA ++ List.replicate (l.length - i) [.str ByteArray.empty, .int .i64 0, .int .i64 0, .int .i64 0, .bool false, .int .i64 0]))], 1⟩) (fun _ => True) l.length 0 (head_tb [(0, 0)] rfl (by simp only [keptV_cons, keptV_nil, tb_get, lk_same, lk_ne, lk_nil, ren, renL, lkp, Nat.reduceLT, Nat.reduceBEq, Nat.reduceEqDiff, reduceIte, and_true, true_and, Nat.not_lt_zero, if_false, if_true, Nat.add_zero, Nat.zero_add]; (try rw [wrap64 (by omega) (by omega)]); (first | done | (simp; done) | (simp [*]; done) | (simp; omega) | (and_intros <;> rfl))) (by simp only [canR, canB, renO, renL, ren, lkp, hget, Nat.reduceLT, Nat.reduceEqDiff, Nat.not_lt_zero, if_false, if_true, reduceIte, List.append_nil, List.nil_append]; (first | done | rfl))) (by omega) trivial fun i hi _ J hJ => ?_
  by_cases h1 : i < l.length
  · have e1 : (kins l)[i]? = some (kinA l[i]) := by simp [kins, h1]
    rw [show l.length - i = (l.length - (i + 1)) + 1 by omega, List.replicate_succ]
    simp only [kins_length, Int.toNat_natCast, e1, kinA, push_cast, ↓ifB_true, ↓ifB_false, Nat.reduceBEq, Nat.reduceAdd, Nat.reduceSub, reduceCtorEq, Nat.reduceMul, Nat.reduceEqDiff, Nat.reduceLeDiff, reduceIte, Nat.reduceLT, Int.reduceLE, Int.reduceLT, Int.reduceToNat]
    refine ifB_intro (fun _ => ?_) (fun h => by simp at h; omega)
    repeat (refine ⟨by omega, ?_⟩)
    refine ⟨_, t145 hC l[i], ?_⟩
    simp only [Int.toNat_natCast, kinA, kinA, List.take_length, mid_get (show ((l.take i).map kinA).length = i by simp; omega), mid_set (show ((l.take i).map kinA).length = i by simp; omega), push_cast, ↓ifB_true, ↓ifB_false, Nat.reduceBEq, Nat.reduceAdd, Nat.reduceSub, reduceCtorEq, Nat.reduceMul, Nat.reduceEqDiff, Nat.reduceLeDiff, reduceIte, Nat.reduceLT, Int.reduceLE, Int.reduceLT, Int.reduceToNat]
    repeat (refine ⟨by omega, ?_⟩)
    refine hJ h1 trivial _ (head_tb [(0, 0)] rfl (by simp only [keptV_cons, keptV_nil, tb_get, lk_same, lk_ne, lk_nil, ren, renL, lkp, Nat.reduceLT, Nat.reduceBEq, Nat.reduceEqDiff, reduceIte, and_true, true_and, Nat.not_lt_zero, if_false, if_true, Nat.add_zero, Nat.zero_add]; (try rw [wrap64 (by omega) (by omega)]); (first | done | (simp; done) | (simp [*]; done) | (simp; omega) | (and_intros <;> rfl))) ?_)
    rw [List.take_succ_eq_append_getElem h1, List.map_append, List.append_assoc]
    simp only [hdel, canR, canB, renO, renL, ren, lkp, hget, Nat.reduceLT, Nat.reduceEqDiff, Nat.not_lt_zero, if_false, if_true, reduceIte, List.append_nil, List.nil_append]
    rfl
  · simp only [kins_length, Int.toNat_natCast, push_cast, ↓ifB_true, ↓ifB_false, Nat.reduceBEq, Nat.reduceAdd, Nat.reduceSub, reduceCtorEq, Nat.reduceMul, Nat.reduceEqDiff, Nat.reduceLeDiff, reduceIte, Nat.reduceLT, Int.reduceLE, Int.reduceLT, Int.reduceToNat]
    refine ifB_intro (fun h => by simp at h; omega) (fun h => ?_)
    rw [List.take_of_length_le (by omega), show l.length - i = 0 by omega]
    exact RetTo_ow (by simp [hget, kins]) (by simp [kins])
end
end Go.Proofs.YtlddjlchgibdfaaDoor.X
