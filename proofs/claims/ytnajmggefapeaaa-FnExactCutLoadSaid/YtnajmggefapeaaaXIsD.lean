import Derived.Test.YtnajmggefapeaaaXIsC
set_option maxHeartbeats 1000000
set_option linter.unusedSimpArgs false
set_option linter.unusedSectionVars false
set_option linter.unusedVariables false
namespace Go.Proofs.Ytnajmggefapeaaa.X
open Go
def Lanes.ow (L : Lanes) : AV := .agg [.int .i64 L.d, .ow 3 (lns L.ls), .ow 1 (ints L.st)]
def szL (n1 n2 : Nat) (v : Int) : Int := if v < n1 then -1 else if v - n1 < n2 then -1 else v - n1 - n2
theorem lns_length (l : List Ln) : (lns l).length = l.length := by simp [lns]
theorem frzLL_ints (l : List Int) : frzLL (ints l) = ints l := by
  unfold ints
  induction l with
  | nil => rfl
  | cons x l ih => simp only [List.map_cons, frzLL, frzL, frzT, ih]
theorem frzLL_lns (l : List Ln) : frzLL (lns l) = lns l := by
  unfold lns
  induction l with
  | nil => rfl
  | cons x l ih => simp only [List.map_cons, frzLL, lnA, frzL, frzT, ih]
theorem conR_ref {h : Heap} {k id sz len : Nat} {es : List (List AV)} (hg : hget h id = some (.slice sz es)) (hl : es.length = len) : conR k h (.ref id none sz 0 len) = some (.ow sz es, hdel h id) := by
  subst hl
  cases k <;> simp [conR, hg]
theorem own_lanes (L : Lanes) : ownR L.ow = true := by
  have e1 := own_lns L.ls
  have e2 := own_ints L.st
  simp only [ownR] at e1 e2
  simp only [Lanes.ow, ownR, ownRL, e1, e2, Bool.and_true]
section
variable {C : CT} (hC : Closed Try.prog G0 md0 C)
include hC
theorem t9 (L : Lanes) (v : Int) (hv : 0 ≤ v ∧ v < 2^50) (h1 : L.ls.length < 2^50) (h2 : L.st.length < 2^50) : Ev C 9 [L.av, .int .i64 v] (.int .i64 (szL L.ls.length L.st.length v)) := by
  obtain ⟨d, ls, st⟩ := L
  simp only [Lanes.av] at *
  refine Ev.runT hC Try.func9 h9 nt9 r9 (by decide) (Nat.le_of_ble_eq_true rfl) (rfl) ?_
  simp only [c9, push_cast, ↓ifB_true, ↓ifB_false, Nat.reduceBEq, Nat.reduceAdd, Nat.reduceSub, reduceCtorEq, Nat.reduceMul, Nat.reduceEqDiff, Nat.reduceLeDiff, reduceIte, Nat.reduceLT, Int.reduceLE, Int.reduceLT, Int.reduceToNat]
  refine ⟨_, t32 hC _ _ (by omega) (by rw [lns_length]; exact h1), ?_⟩
  simp only [lns_length, push_cast, ↓ifB_true, ↓ifB_false, Nat.reduceBEq, Nat.reduceAdd, Nat.reduceSub, reduceCtorEq, Nat.reduceMul, Nat.reduceEqDiff, Nat.reduceLeDiff, reduceIte, Nat.reduceLT, Int.reduceLE, Int.reduceLT, Int.reduceToNat]
  refine ifB_intro (fun h => ?_) (fun h => ?_)
  · simp only [szL]; grind
  · have h0 : ¬ v < ls.length := by intro hh; simp [hh] at h
    simp only [h0, if_false] at h ⊢
    refine ⟨_, t33 hC _ _ (by omega) (by rw [ints_length]; exact h2), ?_⟩
    simp only [ints_length, push_cast, ↓ifB_true, ↓ifB_false, Nat.reduceBEq, Nat.reduceAdd, Nat.reduceSub, reduceCtorEq, Nat.reduceMul, Nat.reduceEqDiff, Nat.reduceLeDiff, reduceIte, Nat.reduceLT, Int.reduceLE, Int.reduceLT, Int.reduceToNat]
    refine ifB_intro (fun h => ?_) (fun h => ?_)
    · simp only [szL]; grind
    · simp only [szL]; grind
theorem t10 (L : Lanes) (h1 : L.ls.length < 2^50) (h2 : L.st.length < 2^50) : Ev C 10 [L.av] (.bool (lanesOk L)) := by
  simp only [Lanes.av] at *
  refine Ev.runT hC Try.func10 h10 nt10 r10 (by decide) (Nat.le_of_ble_eq_true rfl) (rfl) ?_
  simp only [c10, push_cast, ↓ifB_true, ↓ifB_false, Nat.reduceBEq, Nat.reduceAdd, Nat.reduceSub, reduceCtorEq, Nat.reduceMul, Nat.reduceEqDiff, Nat.reduceLeDiff, reduceIte, Nat.reduceLT, Int.reduceLE, Int.reduceLT, Int.reduceToNat]
  refine ⟨_, t34 hC L h1 h2, ?_⟩
  simp only [push_cast, ↓ifB_true, ↓ifB_false, Nat.reduceBEq, Nat.reduceAdd, Nat.reduceSub, reduceCtorEq, Nat.reduceMul, Nat.reduceEqDiff, Nat.reduceLeDiff, reduceIte, Nat.reduceLT, Int.reduceLE, Int.reduceLT, Int.reduceToNat]
theorem t11 (L : Lanes) (h1 : L.ls.length < 2^30) (h2 : L.st.length < 2^30) : Ev C 11 [L.av] L.ow := by
  obtain ⟨d, ls, st⟩ := L
  simp only [Lanes.av] at *
  refine Ev.runT hC Try.func11 h11 nt11 r11 (by decide) (Nat.le_of_ble_eq_true rfl) (own_lanes ⟨d, ls, st⟩) ?_
  simp only [c11, push_cast, ↓ifB_true, ↓ifB_false, Nat.reduceBEq, Nat.reduceAdd, Nat.reduceSub, reduceCtorEq, Nat.reduceMul, Nat.reduceEqDiff, Nat.reduceLeDiff, reduceIte, Nat.reduceLT, Int.reduceLE, Int.reduceLT, Int.reduceToNat]
  refine ⟨_, t35 hC _ h1, ?_⟩
  simp only [push_cast, ↓ifB_true, ↓ifB_false, Nat.reduceBEq, Nat.reduceAdd, Nat.reduceSub, reduceCtorEq, Nat.reduceMul, Nat.reduceEqDiff, Nat.reduceLeDiff, reduceIte, Nat.reduceLT, Int.reduceLE, Int.reduceLT, Int.reduceToNat]
  refine ⟨_, t30 hC _ h2, ?_⟩
  simp only [push_cast, ↓ifB_true, ↓ifB_false, Nat.reduceBEq, Nat.reduceAdd, Nat.reduceSub, reduceCtorEq, Nat.reduceMul, Nat.reduceEqDiff, Nat.reduceLeDiff, reduceIte, Nat.reduceLT, Int.reduceLE, Int.reduceLT, Int.reduceToNat]
  simp only [Lanes.ow]
  exact RetTo_of (by simp only [conR, conRL, isF, hget, hdel, List.drop_zero, List.take_length, if_true, if_false, reduceIte, Nat.reduceEqDiff, reduceCtorEq]; rfl)
theorem t13 (L M : Lanes) (h1 : L.ls.length < 2^50) (h2 : L.st.length < 2^50) (h3 : M.ls.length < 2^50) (h4 : M.st.length < 2^50) : Ev C 13 [L.av, M.av] (.bool (decide (L.d = M.d) && decide (L.ls = M.ls) && (L.st == M.st))) := by
  obtain ⟨d, ls, st⟩ := L
  obtain ⟨d', ls', st'⟩ := M
  simp only [Lanes.av] at *
  refine Ev.runT hC Try.func13 h13 nt13 r13 (by decide) (Nat.le_of_ble_eq_true rfl) (rfl) ?_
  simp only [c13, push_cast, ↓ifB_true, ↓ifB_false, Nat.reduceBEq, Nat.reduceAdd, Nat.reduceSub, reduceCtorEq, Nat.reduceMul, Nat.reduceEqDiff, Nat.reduceLeDiff, reduceIte, Nat.reduceLT, Int.reduceLE, Int.reduceLT, Int.reduceToNat]
  repeat' (first
    | refine ⟨_, t40 hC _ _ h1 h3, ?_⟩
    | refine ⟨_, t18 hC _ _ h2 h4, ?_⟩
    | refine ifB_intro (fun h => ?_) (fun h => ?_)
    | simp only [push_cast, ↓ifB_true, ↓ifB_false, Nat.reduceBEq, Nat.reduceAdd, Nat.reduceSub, reduceCtorEq, Nat.reduceMul, Nat.reduceEqDiff, Nat.reduceLeDiff, reduceIte, Nat.reduceLT, Int.reduceLE, Int.reduceLT, Int.reduceToNat])
  all_goals simp_all
theorem t3 (L : Lanes) (h1 : L.ls.length < 2^50) (h2 : L.st.length < 2^50) : Ev C 3 [L.av] (.bool true) := by
  simp only [Lanes.av] at *
  refine Ev.runT hC Try.func3 h3 nt3 r3 (by decide) (Nat.le_of_ble_eq_true rfl) (rfl) ?_
  simp only [c3, push_cast, ↓ifB_true, ↓ifB_false, Nat.reduceBEq, Nat.reduceAdd, Nat.reduceSub, reduceCtorEq, Nat.reduceMul, Nat.reduceEqDiff, Nat.reduceLeDiff, reduceIte, Nat.reduceLT, Int.reduceLE, Int.reduceLT, Int.reduceToNat]
  refine ⟨_, t9 hC L _ (by omega) h1 h2, ?_⟩
  simp only [push_cast, ↓ifB_true, ↓ifB_false, Nat.reduceBEq, Nat.reduceAdd, Nat.reduceSub, reduceCtorEq, Nat.reduceMul, Nat.reduceEqDiff, Nat.reduceLeDiff, reduceIte, Nat.reduceLT, Int.reduceLE, Int.reduceLT, Int.reduceToNat]
  refine ifB_intro (fun h => trivial) (fun h => ?_)
  have g1 : L.ls.length < 2^30 ∧ L.st.length < 2^30 := by simp only [szL] at h; grind
  refine ⟨_, t11 hC L g1.1 g1.2, ?_⟩
  simp only [Lanes.ow, List.take_length, frzLL_ints, frzLL_lns, push_cast, ↓ifB_true, ↓ifB_false, Nat.reduceBEq, Nat.reduceAdd, Nat.reduceSub, reduceCtorEq, Nat.reduceMul, Nat.reduceEqDiff, Nat.reduceLeDiff, reduceIte, Nat.reduceLT, Int.reduceLE, Int.reduceLT, Int.reduceToNat]
  refine ⟨_, t10 hC L h1 h2, ?_⟩
  simp only [push_cast, ↓ifB_true, ↓ifB_false, Nat.reduceBEq, Nat.reduceAdd, Nat.reduceSub, reduceCtorEq, Nat.reduceMul, Nat.reduceEqDiff, Nat.reduceLeDiff, reduceIte, Nat.reduceLT, Int.reduceLE, Int.reduceLT, Int.reduceToNat]
  refine ⟨_, t11 hC L g1.1 g1.2, ?_⟩
  simp only [Lanes.ow, frzLL_ints, frzLL_lns, push_cast, ↓ifB_true, ↓ifB_false, Nat.reduceBEq, Nat.reduceAdd, Nat.reduceSub, reduceCtorEq, Nat.reduceMul, Nat.reduceEqDiff, Nat.reduceLeDiff, reduceIte, Nat.reduceLT, Int.reduceLE, Int.reduceLT, Int.reduceToNat]
  refine ⟨_, t12 hC L h1 h2, ?_⟩
  simp only [push_cast, ↓ifB_true, ↓ifB_false, Nat.reduceBEq, Nat.reduceAdd, Nat.reduceSub, reduceCtorEq, Nat.reduceMul, Nat.reduceEqDiff, Nat.reduceLeDiff, reduceIte, Nat.reduceLT, Int.reduceLE, Int.reduceLT, Int.reduceToNat]
  refine ⟨_, t11 hC L g1.1 g1.2, ?_⟩
  simp only [Lanes.ow, frzLL_ints, frzLL_lns, push_cast, ↓ifB_true, ↓ifB_false, Nat.reduceBEq, Nat.reduceAdd, Nat.reduceSub, reduceCtorEq, Nat.reduceMul, Nat.reduceEqDiff, Nat.reduceLeDiff, reduceIte, Nat.reduceLT, Int.reduceLE, Int.reduceLT, Int.reduceToNat]
  refine ⟨_, t13 hC L L h1 h2 h1 h2, ?_⟩
  simp only [push_cast, ↓ifB_true, ↓ifB_false, Nat.reduceBEq, Nat.reduceAdd, Nat.reduceSub, reduceCtorEq, Nat.reduceMul, Nat.reduceEqDiff, Nat.reduceLeDiff, reduceIte, Nat.reduceLT, Int.reduceLE, Int.reduceLT, Int.reduceToNat]
end
end Go.Proofs.Ytnajmggefapeaaa.X
