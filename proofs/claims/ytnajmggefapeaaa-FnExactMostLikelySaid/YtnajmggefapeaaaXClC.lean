import Derived.Test.YtnajmggefapeaaaXClB
set_option maxHeartbeats 1000000
set_option linter.unusedSimpArgs false
set_option linter.unusedVariables false
namespace Go.Proofs.Ytnajmggefapeaaa.X
open Go
def w64 (n : Int) : Int := IntKind.i64.wrap n
theorem w64_id {n : Int} (h1 : -9223372036854775808 ≤ n) (h2 : n ≤ 9223372036854775807) : w64 n = n := wrap64 h1 h2
/-- The residue, as both programs reckon it. -/
def dmod (x m : Int) : Int := (w64 (x.tmod m + m)).tmod m
def mixA (a b x : Int) : Int := (w64 (w64 (w64 (16807 * a) + dmod x 2147483647) + b)).tmod 2147483647
def mixB (a' b x : Int) : Int := (w64 (w64 (w64 (39373 * b) + dmod x 2147483629) + a')).tmod 2147483629
def mixS (ab : Int × Int) (x : Int) : Int × Int := (mixA ab.1 ab.2 x, mixB (mixA ab.1 ab.2 x) ab.2 x)
def mixF (l : List Int) (n : Int) : Int × Int := l.foldl mixS (7, w64 (n + 1))
def mixL (l : List Int) : Int × Int := mixF (l ++ [1, 1, 1]) l.length
theorem mixF_succ {l : List Int} {n : Int} {i : Nat} (h : i < l.length) : mixF (l.take (i + 1)) n = mixS (mixF (l.take i) n) l[i] := by
  simp only [mixF, List.take_succ_eq_append_getElem h, List.foldl_append, List.foldl_cons, List.foldl_nil]
section
variable {C : CT} (hC : Closed Try.prog G0 md0 C)
include hC
theorem t78 (x m : Int) (hm : m ≠ 0) : Ev C 78 [.int .i64 x, .int .i64 m] (.int .i64 (dmod x m)) := by
  refine Ev.runT hC Try.func78 h78 nt78 r78 (by decide) (Nat.le_of_ble_eq_true rfl) (rfl) ?_
  simp only [c78, push_cast, ↓ifB_true, ↓ifB_false, Nat.reduceBEq, Nat.reduceAdd, Nat.reduceSub, reduceCtorEq, Nat.reduceMul, Nat.reduceEqDiff, Nat.reduceLeDiff, reduceIte, Nat.reduceLT, Int.reduceLE, Int.reduceLT, Int.reduceToNat]
  simp only [hm, not_false_eq_true, true_and]
  rfl
theorem t80 (x m : Int) (hm : m ≠ 0) : Ev C 80 [.int .i64 x, .int .i64 m] (.int .i64 (dmod x m)) := by
  refine Ev.runT hC Try.func80 h80 nt80 r80 (by decide) (Nat.le_of_ble_eq_true rfl) (rfl) ?_
  simp only [c80, push_cast, ↓ifB_true, ↓ifB_false, Nat.reduceBEq, Nat.reduceAdd, Nat.reduceSub, reduceCtorEq, Nat.reduceMul, Nat.reduceEqDiff, Nat.reduceLeDiff, reduceIte, Nat.reduceLT, Int.reduceLE, Int.reduceLT, Int.reduceToNat]
  simp only [hm, not_false_eq_true, true_and]
  rfl
theorem t50 (n : Int) : Ev C 50 [.int .i64 n] (.bool (inR 0 4611686016279904236 n)) := by
  refine Ev.runT hC Try.func50 h50 nt50 r50 (by decide) (Nat.le_of_ble_eq_true rfl) (rfl) ?_
  simp only [c50, push_cast, ↓ifB_true, ↓ifB_false, Nat.reduceBEq, Nat.reduceAdd, Nat.reduceSub, reduceCtorEq, Nat.reduceMul, Nat.reduceEqDiff, Nat.reduceLeDiff, reduceIte, Nat.reduceLT, Int.reduceLE, Int.reduceLT, Int.reduceToNat]
  refine ⟨_, t43 hC _ _ _, ?_⟩
  simp only [push_cast, ↓ifB_true, ↓ifB_false, Nat.reduceBEq, Nat.reduceAdd, Nat.reduceSub, reduceCtorEq, Nat.reduceMul, Nat.reduceEqDiff, Nat.reduceLeDiff, reduceIte, Nat.reduceLT, Int.reduceLE, Int.reduceLT, Int.reduceToNat]
  rfl
theorem t52 (n : Int) : Ev C 52 [.int .i64 n] (.bool (inR 0 4611686016279904236 n)) := by
  refine Ev.runT hC Try.func52 h52 nt52 r52 (by decide) (Nat.le_of_ble_eq_true rfl) (rfl) ?_
  simp only [c52, push_cast, ↓ifB_true, ↓ifB_false, Nat.reduceBEq, Nat.reduceAdd, Nat.reduceSub, reduceCtorEq, Nat.reduceMul, Nat.reduceEqDiff, Nat.reduceLeDiff, reduceIte, Nat.reduceLT, Int.reduceLE, Int.reduceLT, Int.reduceToNat]
  refine ⟨_, t36 hC _ _ _, ?_⟩
  simp only [push_cast, ↓ifB_true, ↓ifB_false, Nat.reduceBEq, Nat.reduceAdd, Nat.reduceSub, reduceCtorEq, Nat.reduceMul, Nat.reduceEqDiff, Nat.reduceLeDiff, reduceIte, Nat.reduceLT, Int.reduceLE, Int.reduceLT, Int.reduceToNat]
  rfl
theorem t53 (n : Int) : Ev C 53 [.int .i64 n] (.bool (inR 0 30 n)) := by
  refine Ev.runT hC Try.func53 h53 nt53 r53 (by decide) (Nat.le_of_ble_eq_true rfl) (rfl) ?_
  simp only [c53, push_cast, ↓ifB_true, ↓ifB_false, Nat.reduceBEq, Nat.reduceAdd, Nat.reduceSub, reduceCtorEq, Nat.reduceMul, Nat.reduceEqDiff, Nat.reduceLeDiff, reduceIte, Nat.reduceLT, Int.reduceLE, Int.reduceLT, Int.reduceToNat]
  refine ⟨_, t36 hC _ _ _, ?_⟩
  simp only [push_cast, ↓ifB_true, ↓ifB_false, Nat.reduceBEq, Nat.reduceAdd, Nat.reduceSub, reduceCtorEq, Nat.reduceMul, Nat.reduceEqDiff, Nat.reduceLeDiff, reduceIte, Nat.reduceLT, Int.reduceLE, Int.reduceLT, Int.reduceToNat]
  rfl
theorem t76 (l : List Int) (hl : l.length < 2^50) : Ev C 76 [.sl (ints l)] (.tup [.int .i64 (mixL l).1, .int .i64 (mixL l).2]) := by
  refine Ev.runT hC Try.func76 h76 nt76 r76 (by decide) (Nat.le_of_ble_eq_true rfl) (rfl) ?_
  simp only [c76, ints, List.length_map, push_cast, ↓ifB_true, ↓ifB_false, Nat.reduceBEq, Nat.reduceAdd, Nat.reduceSub, reduceCtorEq, Nat.reduceMul, Nat.reduceEqDiff, Nat.reduceLeDiff, reduceIte, Nat.reduceLT, Int.reduceLE, Int.reduceLT, Int.reduceToNat]
  have eL : (l ++ [1, 1, 1]).length = l.length + 3 := by simp
  refine RL_count (fun i => ⟨tb 44 .any [(0, .sl (l.map fun n => [.int .i64 n])), (4, .int .i64 (mixF ((l ++ [1, 1, 1]).take i) l.length).1), (5, .int .i64 (mixF ((l ++ [1, 1, 1]).take i) l.length).2), (6, .int .i64 (i : Int))], [], 0⟩) (fun _ => True) (l.length + 3) 0 (head_tb [] rfl (by simp only [keptV_cons, keptV_nil, tb_get, lk_same, lk_ne, lk_nil, ren, renL, lkp, Nat.reduceLT, Nat.reduceBEq, Nat.reduceEqDiff, reduceIte, and_true, true_and, Nat.not_lt_zero, if_false, if_true, Nat.add_zero, Nat.zero_add]; simp [mixF, w64]) rfl) (by omega) trivial fun i hi _ J hJ => ?_
  simp only [List.length_map, Int.toNat_natCast, List.getElem?_map, push_cast, ↓ifB_true, ↓ifB_false, Nat.reduceBEq, Nat.reduceAdd, Nat.reduceSub, reduceCtorEq, Nat.reduceMul, Nat.reduceEqDiff, Nat.reduceLeDiff, reduceIte, Nat.reduceLT, Int.reduceLE, Int.reduceLT, Int.reduceToNat]
  rw [wrap64 (n := (l.length : Int) + 3) (by omega) (by omega)]
  by_cases h1 : i < l.length + 3
  · have h2 : i < (l ++ [1, 1, 1]).length := by omega
    have e1 := mixF_succ (n := l.length) h2
    refine ifB_intro (fun _ => ?_) (fun h => by simp at h; omega)
    refine ifB_intro (fun h => ?_) (fun h => ?_)
    · have h3 : i < l.length := by simp at h; omega
      rw [List.getElem_append_left h3] at e1
      simp only [List.getElem?_eq_getElem h3, push_cast, ↓ifB_true, ↓ifB_false, Nat.reduceBEq, Nat.reduceAdd, Nat.reduceSub, reduceCtorEq, Nat.reduceMul, Nat.reduceEqDiff, Nat.reduceLeDiff, reduceIte, Nat.reduceLT, Int.reduceLE, Int.reduceLT, Int.reduceToNat]
      refine ⟨by omega, _, t78 hC _ _ (by omega), ?_⟩
      simp only [push_cast, ↓ifB_true, ↓ifB_false, Nat.reduceBEq, Nat.reduceAdd, Nat.reduceSub, reduceCtorEq, Nat.reduceMul, Nat.reduceEqDiff, Nat.reduceLeDiff, reduceIte, Nat.reduceLT, Int.reduceLE, Int.reduceLT, Int.reduceToNat]
      refine ⟨by omega, _, t78 hC _ _ (by omega), ?_⟩
      simp only [push_cast, ↓ifB_true, ↓ifB_false, Nat.reduceBEq, Nat.reduceAdd, Nat.reduceSub, reduceCtorEq, Nat.reduceMul, Nat.reduceEqDiff, Nat.reduceLeDiff, reduceIte, Nat.reduceLT, Int.reduceLE, Int.reduceLT, Int.reduceToNat]
      refine ⟨by omega, hJ h1 trivial _ (head_tb [] rfl ?_ (by simp only [canR, canB, renO, renL, ren, lkp, hget, Nat.reduceLT, Nat.reduceEqDiff, Nat.not_lt_zero, if_false, if_true, reduceIte, List.append_nil, List.nil_append]; (first | done | rfl)))⟩
      simp only [keptV_cons, keptV_nil, tb_get, lk_same, lk_ne, lk_nil, ren, renL, lkp, Nat.reduceLT, Nat.reduceBEq, Nat.reduceEqDiff, reduceIte, and_true, true_and, Nat.not_lt_zero, if_false, if_true, Nat.add_zero, Nat.zero_add]
      rw [wrap64 (n := (i : Int) + 1) (by omega) (by omega), e1]
      and_intros <;> rfl
    · have h3 : ¬ i < l.length := by simp at h; omega
      have h4 : (l ++ [1, 1, 1])[i] = 1 := by
        rw [List.getElem_append_right (by omega)]
        have : i - l.length = 0 ∨ i - l.length = 1 ∨ i - l.length = 2 := by omega
        rcases this with h | h | h <;> simp [h]
      rw [h4] at e1
      refine ⟨_, t78 hC _ _ (by omega), ?_⟩
      simp only [push_cast, ↓ifB_true, ↓ifB_false, Nat.reduceBEq, Nat.reduceAdd, Nat.reduceSub, reduceCtorEq, Nat.reduceMul, Nat.reduceEqDiff, Nat.reduceLeDiff, reduceIte, Nat.reduceLT, Int.reduceLE, Int.reduceLT, Int.reduceToNat]
      refine ⟨by omega, _, t78 hC _ _ (by omega), ?_⟩
      simp only [push_cast, ↓ifB_true, ↓ifB_false, Nat.reduceBEq, Nat.reduceAdd, Nat.reduceSub, reduceCtorEq, Nat.reduceMul, Nat.reduceEqDiff, Nat.reduceLeDiff, reduceIte, Nat.reduceLT, Int.reduceLE, Int.reduceLT, Int.reduceToNat]
      refine ⟨by omega, hJ h1 trivial _ (head_tb [] rfl ?_ (by simp only [canR, canB, renO, renL, ren, lkp, hget, Nat.reduceLT, Nat.reduceEqDiff, Nat.not_lt_zero, if_false, if_true, reduceIte, List.append_nil, List.nil_append]; (first | done | rfl)))⟩
      simp only [keptV_cons, keptV_nil, tb_get, lk_same, lk_ne, lk_nil, ren, renL, lkp, Nat.reduceLT, Nat.reduceBEq, Nat.reduceEqDiff, reduceIte, and_true, true_and, Nat.not_lt_zero, if_false, if_true, Nat.add_zero, Nat.zero_add]
      rw [wrap64 (n := (i : Int) + 1) (by omega) (by omega), e1]
      and_intros <;> rfl
  · refine ifB_intro (fun h => by simp at h; omega) (fun h => ?_)
    rw [List.take_of_length_le (by omega)]
    exact ⟨rfl, rfl⟩
theorem t79 (a b x : Int) : C 79 [.int .i64 x, .ptr 0 none 0 0 0, .ptr 1 none 0 0 0] [(0, .var [.int .i64 a]), (1, .var [.int .i64 b])] 2 (fun v h' n' => v = .tup [] ∧ n' = 2 ∧ h' = [(0, .var [.int .i64 (mixS (a, b) x).1]), (1, .var [.int .i64 (mixS (a, b) x).2])]) := by
  refine Closed.runT hC Try.func79 h79 nt79 r79 (by decide) (Nat.le_of_ble_eq_true rfl) ?_
  simp only [c79, push_cast, ↓ifB_true, ↓ifB_false, Nat.reduceBEq, Nat.reduceAdd, Nat.reduceSub, reduceCtorEq, Nat.reduceMul, Nat.reduceEqDiff, Nat.reduceLeDiff, reduceIte, Nat.reduceLT, Int.reduceLE, Int.reduceLT, Int.reduceToNat]
  refine ⟨_, t80 hC _ _ (by omega), ?_⟩
  simp only [push_cast, ↓ifB_true, ↓ifB_false, Nat.reduceBEq, Nat.reduceAdd, Nat.reduceSub, reduceCtorEq, Nat.reduceMul, Nat.reduceEqDiff, Nat.reduceLeDiff, reduceIte, Nat.reduceLT, Int.reduceLE, Int.reduceLT, Int.reduceToNat]
  refine ⟨by omega, _, t80 hC _ _ (by omega), ?_⟩
  simp only [push_cast, ↓ifB_true, ↓ifB_false, Nat.reduceBEq, Nat.reduceAdd, Nat.reduceSub, reduceCtorEq, Nat.reduceMul, Nat.reduceEqDiff, Nat.reduceLeDiff, reduceIte, Nat.reduceLT, Int.reduceLE, Int.reduceLT, Int.reduceToNat]
  exact ⟨by omega, rfl⟩
theorem t77 (l : List Int) (hl : l.length < 2^50) : Ev C 77 [.sl (ints l)] (.tup [.int .i64 (mixL l).1, .int .i64 (mixL l).2]) := by
  refine Ev.runT hC Try.func77 h77 nt77 r77 (by decide) (Nat.le_of_ble_eq_true rfl) (rfl) ?_
  simp only [c77, ints, List.length_map, push_cast, ↓ifB_true, ↓ifB_false, Nat.reduceBEq, Nat.reduceAdd, Nat.reduceSub, reduceCtorEq, Nat.reduceMul, Nat.reduceEqDiff, Nat.reduceLeDiff, reduceIte, Nat.reduceLT, Int.reduceLE, Int.reduceLT, Int.reduceToNat]
  refine RL_count (fun i => ⟨tb 30 .any [(4, .ptr 0 none 0 0 0), (5, .ptr 1 none 0 0 0), (6, .fn 79 [.ptr 0 none 0 0 0, .ptr 1 none 0 0 0]), (13, .sl (l.map fun n => [.int .i64 n])), (14, .int .i64 (l.length : Int)), (15, .int .i64 (i : Int))], [(0, .var [.int .i64 (mixF (l.take i) l.length).1]), (1, .var [.int .i64 (mixF (l.take i) l.length).2])], 2⟩) (fun _ => True) l.length 0 (head_tb [(0, 0), (1, 1)] rfl (by simp only [keptV_cons, keptV_nil, tb_get, lk_same, lk_ne, lk_nil, ren, renL, lkp, Nat.reduceLT, Nat.reduceBEq, Nat.reduceEqDiff, reduceIte, and_true, true_and, Nat.not_lt_zero, if_false, if_true, Nat.add_zero, Nat.zero_add]; (try rw [wrap64 (by omega) (by omega)]); (first | done | (simp; done) | (simp [*]; done) | (simp; omega) | (and_intros <;> rfl))) (by simp only [canR, canB, renO, renL, ren, lkp, hget, Nat.reduceLT, Nat.reduceEqDiff, Nat.not_lt_zero, if_false, if_true, reduceIte, List.append_nil, List.nil_append]; (first | done | rfl))) (by omega) trivial fun i hi _ J hJ => ?_
  by_cases h1 : i < l.length
  · have e1 := mixF_succ (n := l.length) h1
    simp only [List.length_map, Int.toNat_natCast, List.getElem?_map, List.getElem?_eq_getElem h1, push_cast, ↓ifB_true, ↓ifB_false, Nat.reduceBEq, Nat.reduceAdd, Nat.reduceSub, reduceCtorEq, Nat.reduceMul, Nat.reduceEqDiff, Nat.reduceLeDiff, reduceIte, Nat.reduceLT, Int.reduceLE, Int.reduceLT, Int.reduceToNat]
    refine ifB_intro (fun _ => ⟨by omega, _, t79 hC _ _ _, ?_⟩) (fun h => by simp at h; omega)
    rintro v h' n' ⟨rfl, rfl, rfl⟩ _
    simp only [push_cast, ↓ifB_true, ↓ifB_false, Nat.reduceBEq, Nat.reduceAdd, Nat.reduceSub, reduceCtorEq, Nat.reduceMul, Nat.reduceEqDiff, Nat.reduceLeDiff, reduceIte, Nat.reduceLT, Int.reduceLE, Int.reduceLT, Int.reduceToNat]
    refine hJ h1 trivial _ (head_tb [(0, 0), (1, 1)] rfl (by simp only [keptV_cons, keptV_nil, tb_get, lk_same, lk_ne, lk_nil, ren, renL, lkp, Nat.reduceLT, Nat.reduceBEq, Nat.reduceEqDiff, reduceIte, and_true, true_and, Nat.not_lt_zero, if_false, if_true, Nat.add_zero, Nat.zero_add]; (try rw [wrap64 (by omega) (by omega)]); (first | done | (simp; done) | (simp [*]; done) | (simp; omega) | (and_intros <;> rfl))) ?_)
    rw [e1]
    rfl
  · simp only [List.length_map, Int.toNat_natCast, List.getElem?_map, push_cast, ↓ifB_true, ↓ifB_false, Nat.reduceBEq, Nat.reduceAdd, Nat.reduceSub, reduceCtorEq, Nat.reduceMul, Nat.reduceEqDiff, Nat.reduceLeDiff, reduceIte, Nat.reduceLT, Int.reduceLE, Int.reduceLT, Int.reduceToNat]
    refine ifB_intro (fun h => by simp at h; omega) (fun h => ?_)
    rw [List.take_of_length_le (by omega)]
    refine RL_count (fun k => ⟨tb 30 .any [(4, .ptr 0 none 0 0 0), (5, .ptr 1 none 0 0 0), (6, .fn 79 [.ptr 0 none 0 0 0, .ptr 1 none 0 0 0]), (23, .int .i64 (k : Int))], [(0, .var [.int .i64 ((List.replicate k 1).foldl mixS (mixF l l.length)).1]), (1, .var [.int .i64 ((List.replicate k 1).foldl mixS (mixF l l.length)).2])], 2⟩) (fun _ => True) 3 0 (head_tb [(0, 0), (1, 1)] rfl (by simp only [keptV_cons, keptV_nil, tb_get, lk_same, lk_ne, lk_nil, ren, renL, lkp, Nat.reduceLT, Nat.reduceBEq, Nat.reduceEqDiff, reduceIte, and_true, true_and, Nat.not_lt_zero, if_false, if_true, Nat.add_zero, Nat.zero_add]; (try rw [wrap64 (by omega) (by omega)]); (first | done | (simp; done) | (simp [*]; done) | (simp; omega) | (and_intros <;> rfl))) (by simp only [canR, canB, renO, renL, ren, lkp, hget, Nat.reduceLT, Nat.reduceEqDiff, Nat.not_lt_zero, if_false, if_true, reduceIte, List.append_nil, List.nil_append]; (first | done | rfl))) (by omega) trivial fun k hk _ J' hJ' => ?_
    by_cases h6 : k < 3
    · simp only [push_cast, ↓ifB_true, ↓ifB_false, Nat.reduceBEq, Nat.reduceAdd, Nat.reduceSub, reduceCtorEq, Nat.reduceMul, Nat.reduceEqDiff, Nat.reduceLeDiff, reduceIte, Nat.reduceLT, Int.reduceLE, Int.reduceLT, Int.reduceToNat]
      refine ifB_intro (fun _ => ⟨_, t79 hC _ _ _, ?_⟩) (fun h => by simp at h; omega)
      rintro v h' n' ⟨rfl, rfl, rfl⟩ _
      simp only [push_cast, ↓ifB_true, ↓ifB_false, Nat.reduceBEq, Nat.reduceAdd, Nat.reduceSub, reduceCtorEq, Nat.reduceMul, Nat.reduceEqDiff, Nat.reduceLeDiff, reduceIte, Nat.reduceLT, Int.reduceLE, Int.reduceLT, Int.reduceToNat]
      refine hJ' h6 trivial _ (head_tb [(0, 0), (1, 1)] rfl (by simp only [keptV_cons, keptV_nil, tb_get, lk_same, lk_ne, lk_nil, ren, renL, lkp, Nat.reduceLT, Nat.reduceBEq, Nat.reduceEqDiff, reduceIte, and_true, true_and, Nat.not_lt_zero, if_false, if_true, Nat.add_zero, Nat.zero_add]; (try rw [wrap64 (by omega) (by omega)]); (first | done | (simp; done) | (simp [*]; done) | (simp; omega) | (and_intros <;> rfl))) ?_)
      rw [List.replicate_succ', List.foldl_append]
      rfl
    · obtain rfl : k = 3 := by omega
      simp only [push_cast, ↓ifB_true, ↓ifB_false, Nat.reduceBEq, Nat.reduceAdd, Nat.reduceSub, reduceCtorEq, Nat.reduceMul, Nat.reduceEqDiff, Nat.reduceLeDiff, reduceIte, Nat.reduceLT, Int.reduceLE, Int.reduceLT, Int.reduceToNat]
      refine ifB_intro (fun h => by simp at h) (fun h => ?_)
      have e3 : ([1, 1, 1] : List Int).foldl mixS (mixF l l.length) = mixL l := by
        simp only [mixL, mixF, List.foldl_append]
      rw [e3]
      exact ⟨rfl, rfl⟩
end
end Go.Proofs.Ytnajmggefapeaaa.X
