import Derived.Test.YtlddjlchgibdfaaDoorXCBdM
set_option maxHeartbeats 4000000
set_option maxRecDepth 8000
set_option linter.unusedSimpArgs false
set_option linter.unusedVariables false
namespace Go.Proofs.YtlddjlchgibdfaaDoor.X
open Go
attribute [local irreducible] Ev
section
variable {C : CT} (hC : Closed Tryd.prog G1 md0 C)
include hC
omit hC in
theorem if_sub {n : Nat} {v : Int} : (if v < (n : Int) then (-1 : Int) else v - n) = sub1 v n := rfl
theorem t142 (t : Ter) (v : Int) (hv : 0 ≤ v ∧ v < 2^50) (h1 : t.n.size < 2^50) (h2 : t.c.length < 2^50) : Ev C 142 [.agg (terF t), .int .i64 v] (.int .i64 (szTer t v)) := by
  simp only [terF]
  refine Ev.runT hC Tryd.func142 h142 nt142 r142 (by decide) (Nat.le_of_ble_eq_true rfl) (rfl) ?_
  simp only [c142, push_cast, ↓ifB_true, ↓ifB_false, Nat.reduceBEq, Nat.reduceAdd, Nat.reduceSub, reduceCtorEq, Nat.reduceMul, Nat.reduceEqDiff, Nat.reduceLeDiff, reduceIte, Nat.reduceLT, Int.reduceLE, Int.reduceLT, Int.reduceToNat]
  rw [wrap64 (by omega) (by omega)]
  refine ifB_intro (fun h => ?_) (fun h => ?_)
  · have h' : v < t.n.size := by simp at h; omega
    simp only [szTer, sub1, if_pos h']; rfl
  · have h' : ¬ v < t.n.size := by simp at h; omega
    refine ⟨_, t65 hC _ _ (by omega) (by rw [ints_length]; exact h2), ?_⟩
    simp only [ints_length, push_cast, ↓ifB_true, ↓ifB_false, Nat.reduceBEq, Nat.reduceAdd, Nat.reduceSub, reduceCtorEq, Nat.reduceMul, Nat.reduceEqDiff, Nat.reduceLeDiff, reduceIte, Nat.reduceLT, Int.reduceLE, Int.reduceLT, Int.reduceToNat]
    have e : szTer t v = if v - (t.n.size : Int) < t.c.length then -1 else v - t.n.size - t.c.length := by
      simp only [szTer, sub1, if_neg h', if_neg (show ¬ v - (t.n.size : Int) < 0 by omega)]
    rw [e]
    refine ifB_intro (fun h => ?_) (fun h => ?_)
    · have := of_decide_eq_true h; split at this <;> (first | rfl | omega)
    · rfl
theorem t143 (k : Kin) (v : Int) (hv : 0 ≤ v ∧ v < 2^50) (h1 : k.n.size < 2^50) : Ev C 143 [.agg (kinA k), .int .i64 v] (.int .i64 (szKin k v)) := by
  simp only [kinA]
  refine Ev.runT hC Tryd.func143 h143 nt143 r143 (by decide) (Nat.le_of_ble_eq_true rfl) (rfl) ?_
  simp only [c143, push_cast, ↓ifB_true, ↓ifB_false, Nat.reduceBEq, Nat.reduceAdd, Nat.reduceSub, reduceCtorEq, Nat.reduceMul, Nat.reduceEqDiff, Nat.reduceLeDiff, reduceIte, Nat.reduceLT, Int.reduceLE, Int.reduceLT, Int.reduceToNat]
  rw [wrap64 (by omega) (by omega)]
  refine ifB_intro (fun h => ?_) (fun h => ?_)
  · have h' : v < k.n.size := by simp at h; omega
    simp only [szKin, sub1, if_pos h']
  · have h' : ¬ v < k.n.size := by simp at h; omega
    simp only [szKin, sub1, if_neg h']
theorem t105 (l : List Ter) (v : Int) (hv : 0 ≤ v ∧ v < 2^50) (hl : l.length < 2^50) (hn : ∀ x ∈ l, x.n.size < 2^50 ∧ x.c.length < 2^50) : Ev C 105 [.sl (tersF l), .int .i64 v] (.int .i64 (szTers l v)) := by
  refine Ev.runT hC Tryd.func105 h105 nt105 r105 (by decide) (Nat.le_of_ble_eq_true rfl) (rfl) ?_
  simp only [c105, tersF_length, push_cast, ↓ifB_true, ↓ifB_false, Nat.reduceBEq, Nat.reduceAdd, Nat.reduceSub, reduceCtorEq, Nat.reduceMul, Nat.reduceEqDiff, Nat.reduceLeDiff, reduceIte, Nat.reduceLT, Int.reduceLE, Int.reduceLT, Int.reduceToNat]
  rw [wrap64 (by omega) (by omega)]
  refine ifB_intro (fun h => ?_) (fun h => ?_)
  · have h' : v < l.length := by simp at h; omega
    simp only [szTers, sub1, if_pos h']; rfl
  · have h' : ¬ v < l.length := by simp at h; omega
    have e0 : szTers l v = szAll szTer l (v - l.length) := by simp only [szTers, sub1, if_neg h', if_neg (show ¬ v - (l.length : Int) < 0 by omega)]
    rw [e0]
    have hok : ∀ x ∈ l, SzOk szTer (2^50) x := fun x _ => szTer_ok _ x
    refine RL_count (fun i => ⟨tb 27 .any [(0, .sl (tersF l)), (1, .int .i64 (leftAt szTer l (v - l.length) i)), (5, .int .i64 (i : Int))], [], 0⟩) (fun i => (0 ≤ leftAt szTer l (v - l.length) i ∧ leftAt szTer l (v - l.length) i ≤ v) ∧ szAll szTer l (v - l.length) = szAll szTer (l.drop i) (leftAt szTer l (v - l.length) i)) l.length 0 (head_tb [] rfl (by simp only [keptV_cons, keptV_nil, tb_get, lk_same, lk_ne, lk_nil, ren, renL, lkp, Nat.reduceLT, Nat.reduceBEq, Nat.reduceEqDiff, reduceIte, and_true, true_and, Nat.not_lt_zero, if_false, if_true, Nat.add_zero, Nat.zero_add]; (try rw [wrap64 (by omega) (by omega)]); (first | done | (simp; done) | (simp [*]; done) | (simp; omega) | (and_intros <;> rfl))) (by simp only [canR, canB, renO, renL, ren, lkp, hget, Nat.reduceLT, Nat.reduceEqDiff, Nat.not_lt_zero, if_false, if_true, reduceIte, List.append_nil, List.nil_append]; (first | done | rfl))) (by omega) ⟨⟨by simp only [leftAt]; omega, by simp only [leftAt]; omega⟩, rfl⟩ fun i hi ⟨ht0, ht⟩ J hJ => ?_
    by_cases h1 : i < l.length
    · have e1 : (tersF l)[i]? = some (terF l[i]) := by simp [tersF, h1]
      have hb := (hok _ (List.getElem_mem h1)).le _ ht0.1 (by omega)
      have e2 := leftAt_succ (f := szTer) (v := v - l.length) h1
      simp only [tersF_length, Int.toNat_natCast, e1, terF, push_cast, ↓ifB_true, ↓ifB_false, Nat.reduceBEq, Nat.reduceAdd, Nat.reduceSub, reduceCtorEq, Nat.reduceMul, Nat.reduceEqDiff, Nat.reduceLeDiff, reduceIte, Nat.reduceLT, Int.reduceLE, Int.reduceLT, Int.reduceToNat]
      refine ifB_intro (fun _ => ?_) (fun h => by simp at h; omega)
      repeat (refine ⟨by omega, ?_⟩)
      refine ⟨_, t142 hC l[i] _ ⟨ht0.1, by omega⟩ (hn _ (List.getElem_mem h1)).1 (hn _ (List.getElem_mem h1)).2, ?_⟩
      simp only [push_cast, ↓ifB_true, ↓ifB_false, Nat.reduceBEq, Nat.reduceAdd, Nat.reduceSub, reduceCtorEq, Nat.reduceMul, Nat.reduceEqDiff, Nat.reduceLeDiff, reduceIte, Nat.reduceLT, Int.reduceLE, Int.reduceLT, Int.reduceToNat]
      rw [List.drop_eq_getElem_cons h1, szAll] at ht
      refine ifB_intro (fun h => ?_) (fun h => ?_)
      · rw [ht, if_pos (of_decide_eq_true h)]
      · have hn := of_decide_eq_false h
        rw [if_neg hn] at ht
        refine hJ h1 ⟨⟨by rw [e2]; omega, by rw [e2]; omega⟩, by rw [e2]; exact ht⟩ _ (head_tb [] rfl ?_ (by simp only [canR, canB, renO, renL, ren, lkp, hget, Nat.reduceLT, Nat.reduceEqDiff, Nat.not_lt_zero, if_false, if_true, reduceIte, List.append_nil, List.nil_append]; (first | done | rfl)))
        simp only [keptV_cons, keptV_nil, tb_get, lk_same, lk_ne, lk_nil, ren, renL, lkp, Nat.reduceLT, Nat.reduceBEq, Nat.reduceEqDiff, reduceIte, and_true, true_and, Nat.not_lt_zero, if_false, if_true, Nat.add_zero, Nat.zero_add]
        rw [wrap64 (by omega) (by omega), e2]
        and_intros <;> rfl
    · simp only [tersF_length, Int.toNat_natCast, push_cast, ↓ifB_true, ↓ifB_false, Nat.reduceBEq, Nat.reduceAdd, Nat.reduceSub, reduceCtorEq, Nat.reduceMul, Nat.reduceEqDiff, Nat.reduceLeDiff, reduceIte, Nat.reduceLT, Int.reduceLE, Int.reduceLT, Int.reduceToNat]
      refine ifB_intro (fun h => by simp at h; omega) (fun h => ?_)
      rw [ht, List.drop_eq_nil_of_le (by omega)]
      rfl
theorem t106 (l : List Kin) (v : Int) (hv : 0 ≤ v ∧ v < 2^50) (hl : l.length < 2^50) (hn : ∀ x ∈ l, x.n.size < 2^50) : Ev C 106 [.sl (kins l), .int .i64 v] (.int .i64 (szKins l v)) := by
  refine Ev.runT hC Tryd.func106 h106 nt106 r106 (by decide) (Nat.le_of_ble_eq_true rfl) (rfl) ?_
  simp only [c106, kins_length, push_cast, ↓ifB_true, ↓ifB_false, Nat.reduceBEq, Nat.reduceAdd, Nat.reduceSub, reduceCtorEq, Nat.reduceMul, Nat.reduceEqDiff, Nat.reduceLeDiff, reduceIte, Nat.reduceLT, Int.reduceLE, Int.reduceLT, Int.reduceToNat]
  rw [wrap64 (by omega) (by omega)]
  refine ifB_intro (fun h => ?_) (fun h => ?_)
  · have h' : v < l.length := by simp at h; omega
    simp only [szKins, sub1, if_pos h']; rfl
  · have h' : ¬ v < l.length := by simp at h; omega
    have e0 : szKins l v = szAll szKin l (v - l.length) := by simp only [szKins, sub1, if_neg h', if_neg (show ¬ v - (l.length : Int) < 0 by omega)]
    rw [e0]
    have hok : ∀ x ∈ l, SzOk szKin (2^50) x := fun x _ => szKin_ok _ x
    refine RL_count (fun i => ⟨tb 27 .any [(0, .sl (kins l)), (1, .int .i64 (leftAt szKin l (v - l.length) i)), (5, .int .i64 (i : Int))], [], 0⟩) (fun i => (0 ≤ leftAt szKin l (v - l.length) i ∧ leftAt szKin l (v - l.length) i ≤ v) ∧ szAll szKin l (v - l.length) = szAll szKin (l.drop i) (leftAt szKin l (v - l.length) i)) l.length 0 (head_tb [] rfl (by simp only [keptV_cons, keptV_nil, tb_get, lk_same, lk_ne, lk_nil, ren, renL, lkp, Nat.reduceLT, Nat.reduceBEq, Nat.reduceEqDiff, reduceIte, and_true, true_and, Nat.not_lt_zero, if_false, if_true, Nat.add_zero, Nat.zero_add]; (try rw [wrap64 (by omega) (by omega)]); (first | done | (simp; done) | (simp [*]; done) | (simp; omega) | (and_intros <;> rfl))) (by simp only [canR, canB, renO, renL, ren, lkp, hget, Nat.reduceLT, Nat.reduceEqDiff, Nat.not_lt_zero, if_false, if_true, reduceIte, List.append_nil, List.nil_append]; (first | done | rfl))) (by omega) ⟨⟨by simp only [leftAt]; omega, by simp only [leftAt]; omega⟩, rfl⟩ fun i hi ⟨ht0, ht⟩ J hJ => ?_
    by_cases h1 : i < l.length
    · have e1 : (kins l)[i]? = some (kinA l[i]) := by simp [kins, h1]
      have hb := (hok _ (List.getElem_mem h1)).le _ ht0.1 (by omega)
      have e2 := leftAt_succ (f := szKin) (v := v - l.length) h1
      simp only [kins_length, Int.toNat_natCast, e1, kinA, push_cast, ↓ifB_true, ↓ifB_false, Nat.reduceBEq, Nat.reduceAdd, Nat.reduceSub, reduceCtorEq, Nat.reduceMul, Nat.reduceEqDiff, Nat.reduceLeDiff, reduceIte, Nat.reduceLT, Int.reduceLE, Int.reduceLT, Int.reduceToNat]
      refine ifB_intro (fun _ => ?_) (fun h => by simp at h; omega)
      repeat (refine ⟨by omega, ?_⟩)
      refine ⟨_, t143 hC l[i] _ ⟨ht0.1, by omega⟩ (hn _ (List.getElem_mem h1)), ?_⟩
      simp only [push_cast, ↓ifB_true, ↓ifB_false, Nat.reduceBEq, Nat.reduceAdd, Nat.reduceSub, reduceCtorEq, Nat.reduceMul, Nat.reduceEqDiff, Nat.reduceLeDiff, reduceIte, Nat.reduceLT, Int.reduceLE, Int.reduceLT, Int.reduceToNat]
      rw [List.drop_eq_getElem_cons h1, szAll] at ht
      refine ifB_intro (fun h => ?_) (fun h => ?_)
      · rw [ht, if_pos (of_decide_eq_true h)]
      · have hn := of_decide_eq_false h
        rw [if_neg hn] at ht
        refine hJ h1 ⟨⟨by rw [e2]; omega, by rw [e2]; omega⟩, by rw [e2]; exact ht⟩ _ (head_tb [] rfl ?_ (by simp only [canR, canB, renO, renL, ren, lkp, hget, Nat.reduceLT, Nat.reduceEqDiff, Nat.not_lt_zero, if_false, if_true, reduceIte, List.append_nil, List.nil_append]; (first | done | rfl)))
        simp only [keptV_cons, keptV_nil, tb_get, lk_same, lk_ne, lk_nil, ren, renL, lkp, Nat.reduceLT, Nat.reduceBEq, Nat.reduceEqDiff, reduceIte, and_true, true_and, Nat.not_lt_zero, if_false, if_true, Nat.add_zero, Nat.zero_add]
        rw [wrap64 (by omega) (by omega), e2]
        and_intros <;> rfl
    · simp only [kins_length, Int.toNat_natCast, push_cast, ↓ifB_true, ↓ifB_false, Nat.reduceBEq, Nat.reduceAdd, Nat.reduceSub, reduceCtorEq, Nat.reduceMul, Nat.reduceEqDiff, Nat.reduceLeDiff, reduceIte, Nat.reduceLT, Int.reduceLE, Int.reduceLT, Int.reduceToNat]
      refine ifB_intro (fun h => by simp at h; omega) (fun h => ?_)
      rw [ht, List.drop_eq_nil_of_le (by omega)]
      rfl
end
end Go.Proofs.YtlddjlchgibdfaaDoor.X
