import Derived.Test.YtnajmggefapeaaaXIsB
set_option maxHeartbeats 1000000
set_option linter.unusedSimpArgs false
set_option linter.unusedSectionVars false
set_option linter.unusedVariables false
set_option pp.deepTerms false
set_option pp.deepTerms.threshold 4
namespace Go.Proofs.Ytnajmggefapeaaa.X
open Go
structure Lanes where
  d : Int
  ls : List Ln
  st : List Int
def Lanes.av (L : Lanes) : AV := .agg [.int .i64 L.d, .sl (lns L.ls), .sl (ints L.st)]
def laneOk (d : Int) (p : Ln) : Bool := inR 0 (d - 1) p.a && inR 0 (d - 1) p.b && !decide (p.a = p.b) && inR 0 1000 p.c
def lanesOk (L : Lanes) : Bool := inR 2 6 L.d && decide (L.ls.length ≤ 15) && decide ((L.st.length : Int) = L.d) && L.st.all (inR 0 1000) && L.ls.all (laneOk L.d)
theorem ints_length (l : List Int) : (ints l).length = l.length := by simp [ints]
section
variable {C : CT} (hC : Closed Try.prog G0 md0 C)
include hC
theorem t34 (L : Lanes) (h1 : L.ls.length < 2^50) (h2 : L.st.length < 2^50) : Ev C 34 [L.av] (.bool (lanesOk L)) := by
  obtain ⟨d, ls, st⟩ := L
  simp only [Lanes.av, lanesOk] at *
  refine Ev.runT hC Try.func34 h34 nt34 r34 (by decide) (Nat.le_of_ble_eq_true rfl) (rfl) ?_
  simp only [c34, lns, List.length_map, push_cast, ↓ifB_true, ↓ifB_false, Nat.reduceBEq, Nat.reduceAdd, Nat.reduceSub, reduceCtorEq, Nat.reduceMul, Nat.reduceEqDiff, Nat.reduceLeDiff, reduceIte, Nat.reduceLT, Int.reduceLE, Int.reduceLT, Int.reduceToNat]
  repeat' (first
    | refine ⟨_, t43 hC _ _ _, ?_⟩
    | refine ⟨_, t65 hC st _ _ h2, ?_⟩
    | refine ifB_intro (fun h => ?_) (fun h => ?_)
    | simp only [List.length_map, ints_length, push_cast, ↓ifB_true, ↓ifB_false, Nat.reduceBEq, Nat.reduceAdd, Nat.reduceSub, reduceCtorEq, Nat.reduceMul, Nat.reduceEqDiff, Nat.reduceLeDiff, reduceIte, Nat.reduceLT, Int.reduceLE, Int.reduceLT, Int.reduceToNat])
  all_goals try (rw [ints_length] at *)
  all_goals try (first | (simp_all [inR]; done) | grind [inR]; done)
  · rename_i g1 g2 g3
    have g4 := h
    simp only [Bool.and_eq_true, decide_eq_true_eq] at g1
    have e0 : (inR 2 6 d && decide (ls.length ≤ 15) && decide ((st.length : Int) = d) && st.all (inR 0 1000) && ls.all (laneOk d)) = ls.all (laneOk d) := by
      simp [inR, g1, g4] at g2 g3 ⊢; intros; omega
    rw [e0]
    refine RL_count (fun i => ⟨tb 66 .any [(1, .ptr 0 none 0 0 0), (30, .sl (ls.map lnA)), (31, .int .i64 (ls.length : Int)), (32, .int .i64 (i : Int))], [(0, .var [.int .i64 d, .sl (ls.map lnA), .sl (ints st)])], 1⟩) (fun i => ls.all (laneOk d) = (ls.drop i).all (laneOk d)) ls.length 0 (head_tb [(0, 0)] rfl (by simp only [keptV_cons, keptV_nil, tb_get, lk_same, lk_ne, lk_nil, ren, renL, lkp, Nat.reduceLT, Nat.reduceBEq, Nat.reduceEqDiff, reduceIte, and_true, true_and, Nat.not_lt_zero, if_false, if_true, Nat.add_zero, Nat.zero_add]; (try rw [wrap64 (by omega) (by omega)]); (first | done | (simp; done) | (simp [*]; done) | (simp; omega) | (and_intros <;> rfl))) (by simp only [canR, canB, renO, renL, ren, lkp, hget, Nat.reduceLT, Nat.reduceEqDiff, Nat.not_lt_zero, if_false, if_true, reduceIte, List.append_nil, List.nil_append]; (first | done | rfl))) (by omega) rfl fun i hi' ht J hJ => ?_
    by_cases h1 : i < ls.length
    · rw [List.drop_eq_getElem_cons h1, List.all_cons] at ht
      have hl : i < 2 ^ 50 := by omega
      simp only [List.length_map, Int.toNat_natCast, List.getElem?_map, List.getElem?_eq_getElem h1, lnA, push_cast, ↓ifB_true, ↓ifB_false, Nat.reduceBEq, Nat.reduceAdd, Nat.reduceSub, reduceCtorEq, Nat.reduceMul, Nat.reduceEqDiff, Nat.reduceLeDiff, reduceIte, Nat.reduceLT, Int.reduceLE, Int.reduceLT, Int.reduceToNat]
      refine ifB_intro (fun _ => ⟨by omega, ?_⟩) (fun h => by simp at h; omega)
      rw [wrap64 (by omega) (by omega)]
      repeat' (first
    | refine ⟨_, t43 hC _ _ _, ?_⟩
    | refine ifB_intro (fun h => ?_) (fun h => ?_)
    | simp only [wrap64 (show -9223372036854775808 ≤ d - 1 by omega) (show d - 1 ≤ 9223372036854775807 by omega), push_cast, ↓ifB_true, ↓ifB_false, Nat.reduceBEq, Nat.reduceAdd, Nat.reduceSub, reduceCtorEq, Nat.reduceMul, Nat.reduceEqDiff, Nat.reduceLeDiff, reduceIte, Nat.reduceLT, Int.reduceLE, Int.reduceLT, Int.reduceToNat])
      all_goals first
        | (rw [ht]; simp_all [inR, laneOk]; done)
        | (rw [ht]; simp only [laneOk]; grind [inR])
        | (refine hJ h1 ?_ _ (head_tb [(0, 0)] rfl (by simp only [keptV_cons, keptV_nil, tb_get, lk_same, lk_ne, lk_nil, ren, renL, lkp, Nat.reduceLT, Nat.reduceBEq, Nat.reduceEqDiff, reduceIte, and_true, true_and, Nat.not_lt_zero, if_false, if_true, Nat.add_zero, Nat.zero_add]; (try rw [wrap64 (by omega) (by omega)]); (first | done | (simp; done) | (simp [*]; done) | (simp; omega) | (and_intros <;> rfl))) (by simp only [canR, canB, renO, renL, ren, lkp, hget, Nat.reduceLT, Nat.reduceEqDiff, Nat.not_lt_zero, if_false, if_true, reduceIte, List.append_nil, List.nil_append]; (first | done | rfl))); rw [ht]; simp_all [inR, laneOk])
        | skip
    · simp only [List.length_map, Int.toNat_natCast, List.getElem?_map, push_cast, ↓ifB_true, ↓ifB_false, Nat.reduceBEq, Nat.reduceAdd, Nat.reduceSub, reduceCtorEq, Nat.reduceMul, Nat.reduceEqDiff, Nat.reduceLeDiff, reduceIte, Nat.reduceLT, Int.reduceLE, Int.reduceLT, Int.reduceToNat]
      refine ifB_intro (fun h => by simp at h; omega) (fun h => ?_)
      rw [ht, List.drop_eq_nil_of_le (by omega)]
      rfl
theorem t12 (L : Lanes) (h1 : L.ls.length < 2^50) (h2 : L.st.length < 2^50) : Ev C 12 [L.av] (.bool (lanesOk L)) := by
  obtain ⟨d, ls, st⟩ := L
  simp only [Lanes.av, lanesOk] at *
  refine Ev.runT hC Try.func12 h12 nt12 r12 (by decide) (Nat.le_of_ble_eq_true rfl) (rfl) ?_
  simp only [c12, lns, List.length_map, push_cast, ↓ifB_true, ↓ifB_false, Nat.reduceBEq, Nat.reduceAdd, Nat.reduceSub, reduceCtorEq, Nat.reduceMul, Nat.reduceEqDiff, Nat.reduceLeDiff, reduceIte, Nat.reduceLT, Int.reduceLE, Int.reduceLT, Int.reduceToNat]
  repeat' (first
    | refine ⟨_, t36 hC _ _ _, ?_⟩
    | refine ifB_intro (fun h => ?_) (fun h => ?_)
    | simp only [List.length_map, ints_length, push_cast, ↓ifB_true, ↓ifB_false, Nat.reduceBEq, Nat.reduceAdd, Nat.reduceSub, reduceCtorEq, Nat.reduceMul, Nat.reduceEqDiff, Nat.reduceLeDiff, reduceIte, Nat.reduceLT, Int.reduceLE, Int.reduceLT, Int.reduceToNat])
  all_goals try (rw [ints_length] at *)
  all_goals try (first | (simp_all [inR]; done) | grind [inR]; done)
  · rename_i g1 g2
    have g3 := h
    simp only [Bool.and_eq_true, decide_eq_true_eq] at g1
    have e0 : (inR 2 6 d && decide (ls.length ≤ 15) && decide ((st.length : Int) = d) && st.all (inR 0 1000) && ls.all (laneOk d)) = (ls.all (laneOk d) && st.all (inR 0 1000)) := by
      have a1 : inR 2 6 d = true := by simp [inR, g1]
      have a2 : decide (ls.length ≤ 15) = true := by simp at g2 ⊢; omega
      rw [a1, a2, g3, Bool.true_and, Bool.true_and, Bool.true_and, Bool.and_comm]
    rw [e0]
    refine RL_count (fun i => ⟨tb 62 .any [(1, .ptr 0 none 0 0 0), (24, .sl (ls.map lnA)), (25, .int .i64 (ls.length : Int)), (26, .int .i64 (i : Int))], [(0, .var [.int .i64 d, .sl (ls.map lnA), .sl (ints st)])], 1⟩) (fun i => ls.all (laneOk d) = (ls.drop i).all (laneOk d)) ls.length 0 (head_tb [(0, 0)] rfl (by simp only [keptV_cons, keptV_nil, tb_get, lk_same, lk_ne, lk_nil, ren, renL, lkp, Nat.reduceLT, Nat.reduceBEq, Nat.reduceEqDiff, reduceIte, and_true, true_and, Nat.not_lt_zero, if_false, if_true, Nat.add_zero, Nat.zero_add]; (try rw [wrap64 (by omega) (by omega)]); (first | done | (simp; done) | (simp [*]; done) | (simp; omega) | (and_intros <;> rfl))) (by simp only [canR, canB, renO, renL, ren, lkp, hget, Nat.reduceLT, Nat.reduceEqDiff, Nat.not_lt_zero, if_false, if_true, reduceIte, List.append_nil, List.nil_append]; (first | done | rfl))) (by omega) rfl fun i hi' ht J hJ => ?_
    by_cases h1 : i < ls.length
    · rw [List.drop_eq_getElem_cons h1, List.all_cons] at ht
      have hl : i < 2 ^ 50 := by omega
      simp only [List.length_map, Int.toNat_natCast, List.getElem?_map, List.getElem?_eq_getElem h1, lnA, push_cast, ↓ifB_true, ↓ifB_false, Nat.reduceBEq, Nat.reduceAdd, Nat.reduceSub, reduceCtorEq, Nat.reduceMul, Nat.reduceEqDiff, Nat.reduceLeDiff, reduceIte, Nat.reduceLT, Int.reduceLE, Int.reduceLT, Int.reduceToNat]
      refine ifB_intro (fun _ => ⟨by omega, ?_⟩) (fun h => by simp at h; omega)
      repeat' (first
    | refine ⟨_, t37 hC _ _ (by omega), ?_⟩
    | refine ⟨_, t36 hC _ _ _, ?_⟩
    | refine ifB_intro (fun h => ?_) (fun h => ?_)
    | simp only [push_cast, ↓ifB_true, ↓ifB_false, Nat.reduceBEq, Nat.reduceAdd, Nat.reduceSub, reduceCtorEq, Nat.reduceMul, Nat.reduceEqDiff, Nat.reduceLeDiff, reduceIte, Nat.reduceLT, Int.reduceLE, Int.reduceLT, Int.reduceToNat])
      all_goals first
        | (rw [ht]; simp_all [inR, laneOk]; done)
        | (rw [ht]; simp only [laneOk]; grind [inR])
        | (refine hJ h1 ?_ _ (head_tb [(0, 0)] rfl (by simp only [keptV_cons, keptV_nil, tb_get, lk_same, lk_ne, lk_nil, ren, renL, lkp, Nat.reduceLT, Nat.reduceBEq, Nat.reduceEqDiff, reduceIte, and_true, true_and, Nat.not_lt_zero, if_false, if_true, Nat.add_zero, Nat.zero_add]; (try rw [wrap64 (by omega) (by omega)]); (first | done | (simp; done) | (simp [*]; done) | (simp; omega) | (and_intros <;> rfl))) (by simp only [canR, canB, renO, renL, ren, lkp, hget, Nat.reduceLT, Nat.reduceEqDiff, Nat.not_lt_zero, if_false, if_true, reduceIte, List.append_nil, List.nil_append]; (first | done | rfl))); rw [ht]; simp_all [inR, laneOk])
        | skip
    · simp only [List.length_map, Int.toNat_natCast, List.getElem?_map, push_cast, ↓ifB_true, ↓ifB_false, Nat.reduceBEq, Nat.reduceAdd, Nat.reduceSub, reduceCtorEq, Nat.reduceMul, Nat.reduceEqDiff, Nat.reduceLeDiff, reduceIte, Nat.reduceLT, Int.reduceLE, Int.reduceLT, Int.reduceToNat]
      refine ifB_intro (fun h => by simp at h; omega) (fun h => ?_)
      refine ⟨_, t38 hC st 39 [] _ h2 rfl rfl fun n _ => t39 hC n, ?_⟩
      simp only [push_cast, ↓ifB_true, ↓ifB_false, Nat.reduceBEq, Nat.reduceAdd, Nat.reduceSub, reduceCtorEq, Nat.reduceMul, Nat.reduceEqDiff, Nat.reduceLeDiff, reduceIte, Nat.reduceLT, Int.reduceLE, Int.reduceLT, Int.reduceToNat]
      rw [ht, List.drop_eq_nil_of_le (by omega)]
      simp [List.all_eq_not_any_not]
end
end Go.Proofs.Ytnajmggefapeaaa.X
