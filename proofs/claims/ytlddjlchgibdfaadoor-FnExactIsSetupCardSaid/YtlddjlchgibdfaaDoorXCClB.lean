/- A part of the proof: lemmas on the functions that the law reaches. No condition of its own. -/
import Derived.Test.YtlddjlchgibdfaaDoorXCClA
set_option maxHeartbeats 1000000
set_option maxRecDepth 8000
set_option linter.unusedSimpArgs false
set_option linter.unusedVariables false
namespace Go.Proofs.YtlddjlchgibdfaaDoor.X
open Go
theorem sum3 {a b c : Int} (ha : inR 0 36 a = true) (hb : inR 0 36 b = true) (hc : inR 0 36 c = true) : sumW [a, b, c] = a + b + c := by
  simp only [inR, Bool.and_eq_true, decide_eq_true_eq] at ha hb hc
  simp only [sumW, List.foldl]
  rw [Int.zero_add, wrap64 (n := a) (by omega) (by omega), wrap64 (n := a + b) (by omega) (by omega), wrap64 (by omega) (by omega)]
section
variable {C : CT} (hC : Closed Tryd.prog G1 md0 C)
include hC
theorem t100 (r : List Int) (hr : r.length < 2^50) : Ev C 100 [.sl (ints r)] (.int .i64 (sumW r)) := by
  refine Ev.runT hC Tryd.func100 h100 nt100 r100 (by decide) (Nat.le_of_ble_eq_true rfl) (rfl) ?_
  simp only [c100, ints, List.length_map, push_cast, ↓ifB_true, ↓ifB_false, Nat.reduceBEq, Nat.reduceAdd, Nat.reduceSub, reduceCtorEq, Nat.reduceMul, Nat.reduceEqDiff, Nat.reduceLeDiff, reduceIte, Nat.reduceLT, Int.reduceLE, Int.reduceLT, Int.reduceToNat]
  refine RL_count (fun i => ⟨tb 17 .any [(3, .int .i64 (sumW (r.take i))), (6, .sl (r.map fun n => [.int .i64 n])), (7, .int .i64 (r.length : Int)), (8, .int .i64 (i : Int))], [], 0⟩) (fun _ => True) r.length 0 (head_tb [] rfl (by simp only [keptV_cons, keptV_nil, tb_get, lk_same, lk_ne, lk_nil, ren, renL, lkp, Nat.reduceLT, Nat.reduceBEq, Nat.reduceEqDiff, reduceIte, and_true, true_and, Nat.not_lt_zero, if_false, if_true, Nat.add_zero, Nat.zero_add]; simp [sumW]) rfl) (by omega) trivial fun i hi _ J hJ => ?_
  by_cases h1 : i < r.length
  · simp only [List.length_map, Int.toNat_natCast, List.getElem?_map, List.getElem?_eq_getElem h1, push_cast, ↓ifB_true, ↓ifB_false, Nat.reduceBEq, Nat.reduceAdd, Nat.reduceSub, reduceCtorEq, Nat.reduceMul, Nat.reduceEqDiff, Nat.reduceLeDiff, reduceIte, Nat.reduceLT, Int.reduceLE, Int.reduceLT, Int.reduceToNat]
    refine ifB_intro (fun _ => ⟨by omega, ?_⟩) (fun h => by simp at h; omega)
    refine hJ h1 trivial _ (head_tb [] rfl ?_ (by simp only [canR, canB, renO, renL, ren, lkp, hget, Nat.reduceLT, Nat.reduceEqDiff, Nat.not_lt_zero, if_false, if_true, reduceIte, List.append_nil, List.nil_append]; (first | done | rfl)))
    simp only [keptV_cons, keptV_nil, tb_get, lk_same, lk_ne, lk_nil, ren, renL, lkp, Nat.reduceLT, Nat.reduceBEq, Nat.reduceEqDiff, reduceIte, and_true, true_and, Nat.not_lt_zero, if_false, if_true, Nat.add_zero, Nat.zero_add]
    rw [wrap64 (n := (i : Int) + 1) (by omega) (by omega), sumW_succ h1]
    simp
  · simp only [List.length_map, Int.toNat_natCast, List.getElem?_map, push_cast, ↓ifB_true, ↓ifB_false, Nat.reduceBEq, Nat.reduceAdd, Nat.reduceSub, reduceCtorEq, Nat.reduceMul, Nat.reduceEqDiff, Nat.reduceLeDiff, reduceIte, Nat.reduceLT, Int.reduceLE, Int.reduceLT, Int.reduceToNat]
    refine ifB_intro (fun h => by simp at h; omega) (fun h => ?_)
    rw [List.take_of_length_le (by omega)]
theorem t49 (W : List (List Int)) (hW : W.length < 2^50) (hr : ∀ r ∈ W, r.length < 2^50) : Ev C 49 [clA W] (.bool (goodW W)) := by
  simp only [clA, goodW]
  refine Ev.runT hC Tryd.func49 h49 nt49 r49 (by decide) (Nat.le_of_ble_eq_true rfl) (rfl) ?_
  simp only [c49, intss, List.length_map, push_cast, ↓ifB_true, ↓ifB_false, Nat.reduceBEq, Nat.reduceAdd, Nat.reduceSub, reduceCtorEq, Nat.reduceMul, Nat.reduceEqDiff, Nat.reduceLeDiff, reduceIte, Nat.reduceLT, Int.reduceLE, Int.reduceLT, Int.reduceToNat]
  refine ifB_intro (fun h => ?_) (fun h => ?_)
  · have h3 : W.length = 3 := by simp at h; omega
    rw [show (decide (W.length = 3) && W.all rowOk) = W.all rowOk by simp [h3]]
    refine RL_count (fun i => ⟨tb 39 .any [(10, .sl (W.map fun r => [.sl (ints r)])), (11, .int .i64 (W.length : Int)), (12, .int .i64 (i : Int))], [], 0⟩) (fun i => W.all rowOk = (W.drop i).all rowOk) W.length 0 (head_tb [] rfl (by simp only [keptV_cons, keptV_nil, tb_get, lk_same, lk_ne, lk_nil, ren, renL, lkp, Nat.reduceLT, Nat.reduceBEq, Nat.reduceEqDiff, reduceIte, and_true, true_and, Nat.not_lt_zero, if_false, if_true, Nat.add_zero, Nat.zero_add]; (try rw [wrap64 (by omega) (by omega)]); (first | done | (simp; done) | (simp [*]; done) | (simp; omega) | (and_intros <;> rfl))) (by simp only [canR, canB, renO, renL, ren, lkp, hget, Nat.reduceLT, Nat.reduceEqDiff, Nat.not_lt_zero, if_false, if_true, reduceIte, List.append_nil, List.nil_append]; (first | done | rfl))) (by omega) rfl fun i hi ht J hJ => ?_
    by_cases h1 : i < W.length
    · have hri := hr _ (List.getElem_mem h1)
      rw [List.drop_eq_getElem_cons h1, List.all_cons] at ht
      simp only [List.length_map, Int.toNat_natCast, List.getElem?_map, List.getElem?_eq_getElem h1, push_cast, ↓ifB_true, ↓ifB_false, Nat.reduceBEq, Nat.reduceAdd, Nat.reduceSub, reduceCtorEq, Nat.reduceMul, Nat.reduceEqDiff, Nat.reduceLeDiff, reduceIte, Nat.reduceLT, Int.reduceLE, Int.reduceLT, Int.reduceToNat]
      generalize W[i] = r at *
      refine ifB_intro (fun _ => ⟨by omega, ?_⟩) (fun h => by simp at h; omega)
      rw [ints_length]
      refine ifB_intro (fun h => ?_) (fun h => ?_)
      · refine ⟨_, t98 hC r _ _ hri, ?_⟩
        simp only [push_cast, ↓ifB_true, ↓ifB_false, Nat.reduceBEq, Nat.reduceAdd, Nat.reduceSub, reduceCtorEq, Nat.reduceMul, Nat.reduceEqDiff, Nat.reduceLeDiff, reduceIte, Nat.reduceLT, Int.reduceLE, Int.reduceLT, Int.reduceToNat]
        have h5 : r.length = 3 := by simp at h; omega
        refine ifB_intro (fun h => ?_) (fun h => ?_)
        · obtain ⟨a, b, c, rfl⟩ : ∃ a b c, r = [a, b, c] := by
            match r, h5 with
            | [a, b, c], _ => exact ⟨a, b, c, rfl⟩
          simp only [ints, push_cast, ↓ifB_true, ↓ifB_false, Nat.reduceBEq, Nat.reduceAdd, Nat.reduceSub, reduceCtorEq, Nat.reduceMul, Nat.reduceEqDiff, Nat.reduceLeDiff, reduceIte, Nat.reduceLT, Int.reduceLE, Int.reduceLT, Int.reduceToNat]
          simp only [List.all_cons, List.all_nil, Bool.and_true, Bool.and_eq_true] at h
          have e3 := sum3 h.1 h.2.1 h.2.2
          have e4 : rowOk [a, b, c] = decide (a + b + c = 36) := by
            simp [rowOk, e3, h.1, h.2.1, h.2.2]
          have b1 := h.1; have b2 := h.2.1; have b3 := h.2.2
          simp only [inR, Bool.and_eq_true, decide_eq_true_eq] at b1 b2 b3
          rw [wrap64 (n := a + b) (by omega) (by omega), wrap64 (n := a + b + c) (by omega) (by omega)]
          refine ifB_intro (fun hh => ?_) (fun hh => ?_)
          · refine hJ h1 ?_ _ (head_tb [] rfl (by simp only [keptV_cons, keptV_nil, tb_get, lk_same, lk_ne, lk_nil, ren, renL, lkp, Nat.reduceLT, Nat.reduceBEq, Nat.reduceEqDiff, reduceIte, and_true, true_and, Nat.not_lt_zero, if_false, if_true, Nat.add_zero, Nat.zero_add]; (try rw [wrap64 (by omega) (by omega)]); (first | done | (simp; done) | (simp [*]; done) | (simp; omega) | (and_intros <;> rfl))) (by simp only [canR, canB, renO, renL, ren, lkp, hget, Nat.reduceLT, Nat.reduceEqDiff, Nat.not_lt_zero, if_false, if_true, reduceIte, List.append_nil, List.nil_append]; (first | done | rfl)))
            rw [ht, e4, hh]; rfl
          · rw [ht, e4, hh]; rfl
        · rw [ht]; simp only [rowOk, h, Bool.and_false, Bool.false_and]
      · have h5 : ¬ r.length = 3 := by simp at h; omega
        rw [ht]; simp [rowOk, h5]
    · simp only [List.length_map, Int.toNat_natCast, List.getElem?_map, push_cast, ↓ifB_true, ↓ifB_false, Nat.reduceBEq, Nat.reduceAdd, Nat.reduceSub, reduceCtorEq, Nat.reduceMul, Nat.reduceEqDiff, Nat.reduceLeDiff, reduceIte, Nat.reduceLT, Int.reduceLE, Int.reduceLT, Int.reduceToNat]
      refine ifB_intro (fun h => by simp at h; omega) (fun h => ?_)
      rw [ht, List.drop_eq_nil_of_le (by omega)]
      rfl
  · have h3 : ¬ W.length = 3 := by simp at h; omega
    simp [h3]
theorem t52 (W : List (List Int)) (hW : W.length < 2^50) (hr : ∀ r ∈ W, r.length < 2^50) : Ev C 52 [clA W] (.bool (goodW W)) := by
  simp only [clA, goodW]
  refine Ev.runT hC Tryd.func52 h52 nt52 r52 (by decide) (Nat.le_of_ble_eq_true rfl) (rfl) ?_
  simp only [c52, intss, List.length_map, push_cast, ↓ifB_true, ↓ifB_false, Nat.reduceBEq, Nat.reduceAdd, Nat.reduceSub, reduceCtorEq, Nat.reduceMul, Nat.reduceEqDiff, Nat.reduceLeDiff, reduceIte, Nat.reduceLT, Int.reduceLE, Int.reduceLT, Int.reduceToNat]
  refine ifB_intro (fun h => ?_) (fun h => ?_)
  · have h3 : W.length = 3 := by simp at h; omega
    rw [show (decide (W.length = 3) && W.all rowOk) = W.all rowOk by simp [h3]]
    refine RL_count (fun i => ⟨tb 37 .any [(12, .sl (W.map fun r => [.sl (ints r)])), (13, .int .i64 (W.length : Int)), (14, .int .i64 (i : Int))], [], 0⟩) (fun i => W.all rowOk = (W.drop i).all rowOk) W.length 0 (head_tb [] rfl (by simp only [keptV_cons, keptV_nil, tb_get, lk_same, lk_ne, lk_nil, ren, renL, lkp, Nat.reduceLT, Nat.reduceBEq, Nat.reduceEqDiff, reduceIte, and_true, true_and, Nat.not_lt_zero, if_false, if_true, Nat.add_zero, Nat.zero_add]; (try rw [wrap64 (by omega) (by omega)]); (first | done | (simp; done) | (simp [*]; done) | (simp; omega) | (and_intros <;> rfl))) (by simp only [canR, canB, renO, renL, ren, lkp, hget, Nat.reduceLT, Nat.reduceEqDiff, Nat.not_lt_zero, if_false, if_true, reduceIte, List.append_nil, List.nil_append]; (first | done | rfl))) (by omega) rfl fun i hi ht J hJ => ?_
    by_cases h1 : i < W.length
    · have hri := hr _ (List.getElem_mem h1)
      rw [List.drop_eq_getElem_cons h1, List.all_cons] at ht
      simp only [List.length_map, Int.toNat_natCast, List.getElem?_map, List.getElem?_eq_getElem h1, push_cast, ↓ifB_true, ↓ifB_false, Nat.reduceBEq, Nat.reduceAdd, Nat.reduceSub, reduceCtorEq, Nat.reduceMul, Nat.reduceEqDiff, Nat.reduceLeDiff, reduceIte, Nat.reduceLT, Int.reduceLE, Int.reduceLT, Int.reduceToNat]
      generalize W[i] = r at *
      refine ifB_intro (fun _ => ⟨by omega, ?_⟩) (fun h => by simp at h; omega)
      rw [ints_length]
      refine ifB_intro (fun h => ?_) (fun h => ?_)
      · refine ⟨_, t100 hC r hri, ?_⟩
        simp only [push_cast, ↓ifB_true, ↓ifB_false, Nat.reduceBEq, Nat.reduceAdd, Nat.reduceSub, reduceCtorEq, Nat.reduceMul, Nat.reduceEqDiff, Nat.reduceLeDiff, reduceIte, Nat.reduceLT, Int.reduceLE, Int.reduceLT, Int.reduceToNat]
        have h5 : r.length = 3 := by simp at h; omega
        refine ifB_intro (fun h => ?_) (fun h => ?_)
        · have e4 : rowOk r = r.all (inR 0 36) := by
            simp only [rowOk, h5, h, decide_true, Bool.true_and, Bool.and_true]
          refine RL_count (fun k => ⟨tb 37 .any [(12, .sl (W.map fun r => [.sl (ints r)])), (13, .int .i64 (W.length : Int)), (14, .int .i64 (i : Int)), (26, .sl (r.map fun n => [.int .i64 n])), (27, .int .i64 (r.length : Int)), (28, .int .i64 (k : Int))], [], 0⟩) (fun k => r.all (inR 0 36) = (r.drop k).all (inR 0 36)) r.length 0 (head_tb [] rfl (by simp only [ints, List.length_map, keptV_cons, keptV_nil, tb_get, lk_same, lk_ne, lk_nil, ren, renL, lkp, Nat.reduceLT, Nat.reduceBEq, Nat.reduceEqDiff, reduceIte, and_true, true_and, Nat.not_lt_zero, if_false, if_true, Nat.add_zero, Nat.zero_add]; simp) rfl) (by omega) rfl fun k hk hkt J' hJ' => ?_
          by_cases h6 : k < r.length
          · rw [List.drop_eq_getElem_cons h6, List.all_cons] at hkt
            simp only [List.length_map, Int.toNat_natCast, List.getElem?_map, List.getElem?_eq_getElem h6, push_cast, ↓ifB_true, ↓ifB_false, Nat.reduceBEq, Nat.reduceAdd, Nat.reduceSub, reduceCtorEq, Nat.reduceMul, Nat.reduceEqDiff, Nat.reduceLeDiff, reduceIte, Nat.reduceLT, Int.reduceLE, Int.reduceLT, Int.reduceToNat]
            refine ifB_intro (fun _ => ⟨by omega, _, t101 hC _ _ _, ?_⟩) (fun h => by simp at h; omega)
            simp only [push_cast, ↓ifB_true, ↓ifB_false, Nat.reduceBEq, Nat.reduceAdd, Nat.reduceSub, reduceCtorEq, Nat.reduceMul, Nat.reduceEqDiff, Nat.reduceLeDiff, reduceIte, Nat.reduceLT, Int.reduceLE, Int.reduceLT, Int.reduceToNat]
            refine ifB_intro (fun hh => ?_) (fun hh => ?_)
            · refine hJ' h6 ?_ _ (head_tb [] rfl (by simp only [keptV_cons, keptV_nil, tb_get, lk_same, lk_ne, lk_nil, ren, renL, lkp, Nat.reduceLT, Nat.reduceBEq, Nat.reduceEqDiff, reduceIte, and_true, true_and, Nat.not_lt_zero, if_false, if_true, Nat.add_zero, Nat.zero_add]; (try rw [wrap64 (by omega) (by omega)]); (first | done | (simp; done) | (simp [*]; done) | (simp; omega) | (and_intros <;> rfl))) (by simp only [canR, canB, renO, renL, ren, lkp, hget, Nat.reduceLT, Nat.reduceEqDiff, Nat.not_lt_zero, if_false, if_true, reduceIte, List.append_nil, List.nil_append]; (first | done | rfl)))
              rw [hkt]; simp only [inR] at hh ⊢; rw [hh]; rfl
            · rw [ht, e4, hkt]; simp only [inR] at hh ⊢; rw [hh]; rfl
          · simp only [List.length_map, Int.toNat_natCast, List.getElem?_map, push_cast, ↓ifB_true, ↓ifB_false, Nat.reduceBEq, Nat.reduceAdd, Nat.reduceSub, reduceCtorEq, Nat.reduceMul, Nat.reduceEqDiff, Nat.reduceLeDiff, reduceIte, Nat.reduceLT, Int.reduceLE, Int.reduceLT, Int.reduceToNat]
            refine ifB_intro (fun h => by simp at h; omega) (fun h => ?_)
            rw [List.drop_eq_nil_of_le (by omega)] at hkt
            refine hJ h1 ?_ _ (head_tb [] rfl (by simp only [keptV_cons, keptV_nil, tb_get, lk_same, lk_ne, lk_nil, ren, renL, lkp, Nat.reduceLT, Nat.reduceBEq, Nat.reduceEqDiff, reduceIte, and_true, true_and, Nat.not_lt_zero, if_false, if_true, Nat.add_zero, Nat.zero_add]; (try rw [wrap64 (by omega) (by omega)]); (first | done | (simp; done) | (simp [*]; done) | (simp; omega) | (and_intros <;> rfl))) (by simp only [canR, canB, renO, renL, ren, lkp, hget, Nat.reduceLT, Nat.reduceEqDiff, Nat.not_lt_zero, if_false, if_true, reduceIte, List.append_nil, List.nil_append]; (first | done | rfl)))
            rw [ht, e4, hkt]; rfl
        · rw [ht]; simp only [rowOk, h, Bool.and_false, Bool.false_and]
      · have h5 : ¬ r.length = 3 := by simp at h; omega
        rw [ht]; simp [rowOk, h5]
    · simp only [List.length_map, Int.toNat_natCast, List.getElem?_map, push_cast, ↓ifB_true, ↓ifB_false, Nat.reduceBEq, Nat.reduceAdd, Nat.reduceSub, reduceCtorEq, Nat.reduceMul, Nat.reduceEqDiff, Nat.reduceLeDiff, reduceIte, Nat.reduceLT, Int.reduceLE, Int.reduceLT, Int.reduceToNat]
      refine ifB_intro (fun h => by simp at h; omega) (fun h => ?_)
      rw [ht, List.drop_eq_nil_of_le (by omega)]
      rfl
  · have h3 : ¬ W.length = 3 := by simp at h; omega
    simp [h3]
end
end Go.Proofs.YtlddjlchgibdfaaDoor.X
