import Derived.Test.YtlddjlchgibdfaaDoorXCBdN
set_option maxHeartbeats 4000000
set_option maxRecDepth 8000
set_option linter.unusedSimpArgs false
set_option linter.unusedVariables false
namespace Go.Proofs.YtlddjlchgibdfaaDoor.X
open Go
attribute [local irreducible] Ev
section
variable {C : CT} (hC : Closed Tryd.prog G1 md0 C)
include hC
theorem tIn (a b c : Int) : Ev C 75 [.int .i64 a, .int .i64 b, .int .i64 c] (.bool (inR b c a)) := t75 hC a b c
theorem tRange (a b c : Int) : Ev C 101 [.int .i64 a, .int .i64 b, .int .i64 c] (.bool (inR b c a)) := t101 hC a b c
theorem tIdx (a b : Int) (hb : -2^62 ≤ b ∧ b ≤ 2^62) : Ev C 76 [.int .i64 a, .int .i64 b] (.bool (inR 0 (b - 1) a)) := t76 hC a b hb
theorem t149 (l : List Ter) (s : ByteArray) (hl : l.length < 2^50) : Ev C 149 [.sl (tersF l), .str s] (.int .i64 (gidx (fun x => decide (x.n = s)) l)) := by
  refine Ev.runT hC Tryd.func149 h149 nt149 r149 (by decide) (Nat.le_of_ble_eq_true rfl) (rfl) ?_
  simp only [c149, tersF_length, push_cast, ↓ifB_true, ↓ifB_false, Nat.reduceBEq, Nat.reduceAdd, Nat.reduceSub, reduceCtorEq, Nat.reduceMul, Nat.reduceEqDiff, Nat.reduceLeDiff, reduceIte, Nat.reduceLT, Int.reduceLE, Int.reduceLT, Int.reduceToNat]
  refine RL_count (fun i => ⟨tb 20 .any [(1, .str s), (7, .sl (tersF l)), (8, .int .i64 (l.length : Int)), (9, .int .i64 (i : Int))], [], 0⟩) (fun i => ∀ j (h : j < l.length), j < i → decide (l[j].n = s) = false) l.length 0 (head_tb [] rfl (by simp only [keptV_cons, keptV_nil, tb_get, lk_same, lk_ne, lk_nil, ren, renL, lkp, Nat.reduceLT, Nat.reduceBEq, Nat.reduceEqDiff, reduceIte, and_true, true_and, Nat.not_lt_zero, if_false, if_true, Nat.add_zero, Nat.zero_add]; (try rw [wrap64 (by omega) (by omega)]); (first | done | (simp; done) | (simp [*]; done) | (simp; omega) | (and_intros <;> rfl))) (by simp only [canR, canB, renO, renL, ren, lkp, hget, Nat.reduceLT, Nat.reduceEqDiff, Nat.not_lt_zero, if_false, if_true, reduceIte, List.append_nil, List.nil_append]; (first | done | rfl))) (by omega) (by intro j h h'; omega) fun i hi' ht J hJ => ?_
  by_cases h1 : i < l.length
  · have e1 : (tersF l)[i]? = some (terF l[i]) := by simp [tersF, h1]
    simp only [Int.toNat_natCast, e1, terF, push_cast, ↓ifB_true, ↓ifB_false, Nat.reduceBEq, Nat.reduceAdd, Nat.reduceSub, reduceCtorEq, Nat.reduceMul, Nat.reduceEqDiff, Nat.reduceLeDiff, reduceIte, Nat.reduceLT, Int.reduceLE, Int.reduceLT, Int.reduceToNat]
    refine ifB_intro (fun _ => ?_) (fun h => by simp at h; omega)
    repeat (refine ⟨by omega, ?_⟩)
    refine ifB_intro (fun h => ?_) (fun h => ?_)
    · exact (gidx_at (p := fun x => decide (x.n = s)) h1 h ht).symm
    · refine hJ h1 ?_ _ (head_tb [] rfl (by simp only [keptV_cons, keptV_nil, tb_get, lk_same, lk_ne, lk_nil, ren, renL, lkp, Nat.reduceLT, Nat.reduceBEq, Nat.reduceEqDiff, reduceIte, and_true, true_and, Nat.not_lt_zero, if_false, if_true, Nat.add_zero, Nat.zero_add]; (try rw [wrap64 (by omega) (by omega)]); (first | done | (simp; done) | (simp [*]; done) | (simp; omega) | (and_intros <;> rfl))) (by simp only [canR, canB, renO, renL, ren, lkp, hget, Nat.reduceLT, Nat.reduceEqDiff, Nat.not_lt_zero, if_false, if_true, reduceIte, List.append_nil, List.nil_append]; (first | done | rfl)))
      intro j hj hji
      by_cases hij : j = i
      · subst hij; exact h
      · exact ht j hj (by omega)
  · simp only [push_cast, ↓ifB_true, ↓ifB_false, Nat.reduceBEq, Nat.reduceAdd, Nat.reduceSub, reduceCtorEq, Nat.reduceMul, Nat.reduceEqDiff, Nat.reduceLeDiff, reduceIte, Nat.reduceLT, Int.reduceLE, Int.reduceLT, Int.reduceToNat]
    refine ifB_intro (fun h => by simp at h; omega) (fun h => ?_)
    exact (gidx_no fun j hj => ht j hj (by omega)).symm
theorem t150 (l : List Kin) (s : ByteArray) (hl : l.length < 2^50) : Ev C 150 [.sl (kins l), .str s] (.int .i64 (gidx (fun x => decide (x.n = s)) l)) := by
  refine Ev.runT hC Tryd.func150 h150 nt150 r150 (by decide) (Nat.le_of_ble_eq_true rfl) (rfl) ?_
  simp only [c150, kins_length, push_cast, ↓ifB_true, ↓ifB_false, Nat.reduceBEq, Nat.reduceAdd, Nat.reduceSub, reduceCtorEq, Nat.reduceMul, Nat.reduceEqDiff, Nat.reduceLeDiff, reduceIte, Nat.reduceLT, Int.reduceLE, Int.reduceLT, Int.reduceToNat]
  refine RL_count (fun i => ⟨tb 20 .any [(1, .str s), (7, .sl (kins l)), (8, .int .i64 (l.length : Int)), (9, .int .i64 (i : Int))], [], 0⟩) (fun i => ∀ j (h : j < l.length), j < i → decide (l[j].n = s) = false) l.length 0 (head_tb [] rfl (by simp only [keptV_cons, keptV_nil, tb_get, lk_same, lk_ne, lk_nil, ren, renL, lkp, Nat.reduceLT, Nat.reduceBEq, Nat.reduceEqDiff, reduceIte, and_true, true_and, Nat.not_lt_zero, if_false, if_true, Nat.add_zero, Nat.zero_add]; (try rw [wrap64 (by omega) (by omega)]); (first | done | (simp; done) | (simp [*]; done) | (simp; omega) | (and_intros <;> rfl))) (by simp only [canR, canB, renO, renL, ren, lkp, hget, Nat.reduceLT, Nat.reduceEqDiff, Nat.not_lt_zero, if_false, if_true, reduceIte, List.append_nil, List.nil_append]; (first | done | rfl))) (by omega) (by intro j h h'; omega) fun i hi' ht J hJ => ?_
  by_cases h1 : i < l.length
  · have e1 : (kins l)[i]? = some (kinA l[i]) := by simp [kins, h1]
    simp only [Int.toNat_natCast, e1, kinA, push_cast, ↓ifB_true, ↓ifB_false, Nat.reduceBEq, Nat.reduceAdd, Nat.reduceSub, reduceCtorEq, Nat.reduceMul, Nat.reduceEqDiff, Nat.reduceLeDiff, reduceIte, Nat.reduceLT, Int.reduceLE, Int.reduceLT, Int.reduceToNat]
    refine ifB_intro (fun _ => ?_) (fun h => by simp at h; omega)
    repeat (refine ⟨by omega, ?_⟩)
    refine ifB_intro (fun h => ?_) (fun h => ?_)
    · exact (gidx_at (p := fun x => decide (x.n = s)) h1 h ht).symm
    · refine hJ h1 ?_ _ (head_tb [] rfl (by simp only [keptV_cons, keptV_nil, tb_get, lk_same, lk_ne, lk_nil, ren, renL, lkp, Nat.reduceLT, Nat.reduceBEq, Nat.reduceEqDiff, reduceIte, and_true, true_and, Nat.not_lt_zero, if_false, if_true, Nat.add_zero, Nat.zero_add]; (try rw [wrap64 (by omega) (by omega)]); (first | done | (simp; done) | (simp [*]; done) | (simp; omega) | (and_intros <;> rfl))) (by simp only [canR, canB, renO, renL, ren, lkp, hget, Nat.reduceLT, Nat.reduceEqDiff, Nat.not_lt_zero, if_false, if_true, reduceIte, List.append_nil, List.nil_append]; (first | done | rfl)))
      intro j hj hji
      by_cases hij : j = i
      · subst hij; exact h
      · exact ht j hj (by omega)
  · simp only [push_cast, ↓ifB_true, ↓ifB_false, Nat.reduceBEq, Nat.reduceAdd, Nat.reduceSub, reduceCtorEq, Nat.reduceMul, Nat.reduceEqDiff, Nat.reduceLeDiff, reduceIte, Nat.reduceLT, Int.reduceLE, Int.reduceLT, Int.reduceToNat]
    refine ifB_intro (fun h => by simp at h; omega) (fun h => ?_)
    exact (gidx_no fun j hj => ht j hj (by omega)).symm
theorem t148 (s : ByteArray) (hs : s.size < 2^50) : Ev C 148 [.str s] (.bool (okName s)) := by
  refine Ev.runT hC Tryd.func148 h148 nt148 r148 (by decide) (Nat.le_of_ble_eq_true rfl) (rfl) ?_
  simp only [c148, push_cast, ↓ifB_true, ↓ifB_false, Nat.reduceBEq, Nat.reduceAdd, Nat.reduceSub, reduceCtorEq, Nat.reduceMul, Nat.reduceEqDiff, Nat.reduceLeDiff, reduceIte, Nat.reduceLT, Int.reduceLE, Int.reduceLT, Int.reduceToNat]
  refine RL_count (fun i => ⟨tb 23 .any [(0, .str s), (3, .int .i64 (i : Int))], [], 0⟩) (fun i => ∀ j, j < i → (decide (97 ≤ bt s j) && decide (bt s j ≤ 122)) = true) s.size 0 (head_tb [] rfl (by simp only [keptV_cons, keptV_nil, tb_get, lk_same, lk_ne, lk_nil, ren, renL, lkp, Nat.reduceLT, Nat.reduceBEq, Nat.reduceEqDiff, reduceIte, and_true, true_and, Nat.not_lt_zero, if_false, if_true, Nat.add_zero, Nat.zero_add]; (try rw [wrap64 (by omega) (by omega)]); (first | done | (simp; done) | (simp [*]; done) | (simp; omega) | (and_intros <;> rfl))) (by simp only [canR, canB, renO, renL, ren, lkp, hget, Nat.reduceLT, Nat.reduceEqDiff, Nat.not_lt_zero, if_false, if_true, reduceIte, List.append_nil, List.nil_append]; (first | done | rfl))) (by omega) (by omega) fun i hi' ht J hJ => ?_
  by_cases h1 : i < s.size
  · simp only [push_cast, ↓ifB_true, ↓ifB_false, Nat.reduceBEq, Nat.reduceAdd, Nat.reduceSub, reduceCtorEq, Nat.reduceMul, Nat.reduceEqDiff, Nat.reduceLeDiff, reduceIte, Nat.reduceLT, Int.reduceLE, Int.reduceLT, Int.reduceToNat]
    refine ifB_intro (fun _ => ?_) (fun h => by simp at h; omega)
    repeat (refine ⟨by omega, ?_⟩)
    refine ifB_intro (fun h => ?_) (fun h => ?_)
    · simp only [okName]
      rw [upto_no h1 (by simp at h ⊢; omega)]; rfl
    · repeat (refine ⟨by omega, ?_⟩)
      refine ifB_intro (fun h2 => ?_) (fun h2 => ?_)
      · simp only [okName]
        rw [upto_no h1 (by simp at h2 ⊢; omega)]; rfl
      · refine hJ h1 ?_ _ (head_tb [] rfl (by simp only [keptV_cons, keptV_nil, tb_get, lk_same, lk_ne, lk_nil, ren, renL, lkp, Nat.reduceLT, Nat.reduceBEq, Nat.reduceEqDiff, reduceIte, and_true, true_and, Nat.not_lt_zero, if_false, if_true, Nat.add_zero, Nat.zero_add]; (try rw [wrap64 (by omega) (by omega)]); (first | done | (simp; done) | (simp [*]; done) | (simp; omega) | (and_intros <;> rfl))) (by simp only [canR, canB, renO, renL, ren, lkp, hget, Nat.reduceLT, Nat.reduceEqDiff, Nat.not_lt_zero, if_false, if_true, reduceIte, List.append_nil, List.nil_append]; (first | done | rfl)))
        intro j hj
        by_cases hij : j = i
        · subst hij; simp at h h2 ⊢; omega
        · exact ht j (by omega)
  · simp only [push_cast, ↓ifB_true, ↓ifB_false, Nat.reduceBEq, Nat.reduceAdd, Nat.reduceSub, reduceCtorEq, Nat.reduceMul, Nat.reduceEqDiff, Nat.reduceLeDiff, reduceIte, Nat.reduceLT, Int.reduceLE, Int.reduceLT, Int.reduceToNat]
    refine ifB_intro (fun h => by simp at h; omega) (fun h => ?_)
    refine ⟨_, tIn hC _ _ _, ?_⟩
    simp only [push_cast, ↓ifB_true, ↓ifB_false, Nat.reduceBEq, Nat.reduceAdd, Nat.reduceSub, reduceCtorEq, Nat.reduceMul, Nat.reduceEqDiff, Nat.reduceLeDiff, reduceIte, Nat.reduceLT, Int.reduceLE, Int.reduceLT, Int.reduceToNat]
    simp only [okName]
    rw [upto_yes fun j hj => ht j (by omega)]; rfl
theorem t112 (r : Rul) (hb : RulB (2^50) r) : Ev C 112 [.agg (rulF r)] (.bool (rulOk r)) := by
  have hts := hb.ts
  have hks := hb.ks
  simp only [rulF]
  refine Ev.runT hC Tryd.func112 h112 nt112 r112 (by decide) (Nat.le_of_ble_eq_true rfl) (rfl) ?_
  simp only [c112, tersF_length, kins_length, push_cast, ↓ifB_true, ↓ifB_false, Nat.reduceBEq, Nat.reduceAdd, Nat.reduceSub, reduceCtorEq, Nat.reduceMul, Nat.reduceEqDiff, Nat.reduceLeDiff, reduceIte, Nat.reduceLT, Int.reduceLE, Int.reduceLT, Int.reduceToNat]
  repeat' (first
    | refine ⟨_, tIn hC _ _ _, ?_⟩
    | refine ifB_intro (fun h => ?_) (fun h => ?_)
    | simp only [tersF_length, kins_length, push_cast, ↓ifB_true, ↓ifB_false, Nat.reduceBEq, Nat.reduceAdd, Nat.reduceSub, reduceCtorEq, Nat.reduceMul, Nat.reduceEqDiff, Nat.reduceLeDiff, reduceIte, Nat.reduceLT, Int.reduceLE, Int.reduceLT, Int.reduceToNat])
  all_goals try (simp only [rulOk, *, Bool.false_and, Bool.and_false, Bool.true_and]; done)
  rename_i g1
  have g2 := h
  clear h
  refine RL_count (fun i => ⟨tb 137 .any [(1, .ptr 0 none 0 0 0), (20, .sl (tersF r.ts)), (21, .int .i64 (r.ts.length : Int)), (22, .int .i64 (i : Int))], [(0, .var (rulF r))], 1⟩) (fun i => ∀ j (h : j < r.ts.length), j < i → terOk r j r.ts[j] = true) r.ts.length 0 (head_tb [(0, 0)] rfl (by simp only [keptV_cons, keptV_nil, tb_get, lk_same, lk_ne, lk_nil, ren, renL, lkp, Nat.reduceLT, Nat.reduceBEq, Nat.reduceEqDiff, reduceIte, and_true, true_and, Nat.not_lt_zero, if_false, if_true, Nat.add_zero, Nat.zero_add]; (try rw [wrap64 (by omega) (by omega)]); (first | done | (simp; done) | (simp [*]; done) | (simp; omega) | (and_intros <;> rfl))) (by simp only [canR, canB, renO, renL, ren, lkp, hget, Nat.reduceLT, Nat.reduceEqDiff, Nat.not_lt_zero, if_false, if_true, reduceIte, List.append_nil, List.nil_append]; (first | done | rfl))) (by omega) (by intro j h h'; omega) fun i hi' ht J hJ => ?_
  simp only [rulF]
  by_cases h1 : i < r.ts.length
  · have e1 : (tersF r.ts)[i]? = some (terF r.ts[i]) := by simp [tersF, h1]
    have b1 := hb.t _ (List.getElem_mem h1)
    simp only [Int.toNat_natCast, e1, terF, push_cast, ↓ifB_true, ↓ifB_false, Nat.reduceBEq, Nat.reduceAdd, Nat.reduceSub, reduceCtorEq, Nat.reduceMul, Nat.reduceEqDiff, Nat.reduceLeDiff, reduceIte, Nat.reduceLT, Int.reduceLE, Int.reduceLT, Int.reduceToNat]
    refine ifB_intro (fun _ => ?_) (fun h => by simp at h; omega)
    repeat (refine ⟨by omega, ?_⟩)
    repeat' (first
    | refine ⟨_, t148 hC _ b1.1, ?_⟩
    | refine ⟨_, t149 hC _ _ hts, ?_⟩
    | refine ⟨_, t98 hC _ _ _ b1.2, ?_⟩
    | refine ⟨_, tIn hC _ _ _, ?_⟩
    | refine ifB_intro (fun h => ?_) (fun h => ?_)
    | simp only [tersF_length, kins_length, ints_length, push_cast, ↓ifB_true, ↓ifB_false, Nat.reduceBEq, Nat.reduceAdd, Nat.reduceSub, reduceCtorEq, Nat.reduceMul, Nat.reduceEqDiff, Nat.reduceLeDiff, reduceIte, Nat.reduceLT, Int.reduceLE, Int.reduceLT, Int.reduceToNat])
    all_goals first
      | (have hf : terOk r i r.ts[i] = false := by clear hJ ht; simp only [terOk, *, Bool.and_false, Bool.false_and, Bool.and_true, Bool.true_and]
         simp only [rulOk, allI_no h1 hf, Bool.and_false, Bool.false_and]; done)
      | (have hf : terOk r i r.ts[i] = true := by clear hJ ht; simp only [terOk, *, Bool.and_false, Bool.false_and, Bool.and_true, Bool.true_and]
         refine hJ h1 (fun j hj hji => ?_) _ (head_tb [(0, 0)] rfl (by simp only [keptV_cons, keptV_nil, tb_get, lk_same, lk_ne, lk_nil, ren, renL, lkp, Nat.reduceLT, Nat.reduceBEq, Nat.reduceEqDiff, reduceIte, and_true, true_and, Nat.not_lt_zero, if_false, if_true, Nat.add_zero, Nat.zero_add]; (try rw [wrap64 (by omega) (by omega)]); (first | done | (simp; done) | (simp [*]; done) | (simp; omega) | (and_intros <;> rfl))) (by simp only [canR, canB, renO, renL, ren, lkp, hget, Nat.reduceLT, Nat.reduceEqDiff, Nat.not_lt_zero, if_false, if_true, reduceIte, List.append_nil, List.nil_append]; (first | done | rfl)))
         by_cases hij : j = i
         · subst hij; exact hf
         · exact ht j hj (by omega))
  · simp only [tersF_length, kins_length, push_cast, ↓ifB_true, ↓ifB_false, Nat.reduceBEq, Nat.reduceAdd, Nat.reduceSub, reduceCtorEq, Nat.reduceMul, Nat.reduceEqDiff, Nat.reduceLeDiff, reduceIte, Nat.reduceLT, Int.reduceLE, Int.reduceLT, Int.reduceToNat]
    refine ifB_intro (fun h => by simp at h; omega) (fun h => ?_)
    have gt : allI (terOk r) r.ts = true := allI_yes fun j hj => ht j hj (by omega)
    clear ht hJ
    refine RL_count (fun i => ⟨tb 137 .any [(1, .ptr 0 none 0 0 0), (69, .sl (kins r.ks)), (70, .int .i64 (r.ks.length : Int)), (71, .int .i64 (i : Int))], [(0, .var (rulF r))], 1⟩) (fun i => ∀ j (h : j < r.ks.length), j < i → kinOk r j r.ks[j] = true) r.ks.length 0 (head_tb [(0, 0)] rfl (by simp only [keptV_cons, keptV_nil, tb_get, lk_same, lk_ne, lk_nil, ren, renL, lkp, Nat.reduceLT, Nat.reduceBEq, Nat.reduceEqDiff, reduceIte, and_true, true_and, Nat.not_lt_zero, if_false, if_true, Nat.add_zero, Nat.zero_add]; (try rw [wrap64 (by omega) (by omega)]); (first | done | (simp; done) | (simp [*]; done) | (simp; omega) | (and_intros <;> rfl))) (by simp only [canR, canB, renO, renL, ren, lkp, hget, Nat.reduceLT, Nat.reduceEqDiff, Nat.not_lt_zero, if_false, if_true, reduceIte, List.append_nil, List.nil_append]; (first | done | rfl))) (by omega) (by intro j h h'; omega) fun i hi' ht J hJ => ?_
    simp only [rulF]
    by_cases h1 : i < r.ks.length
    · have e1 : (kins r.ks)[i]? = some (kinA r.ks[i]) := by simp [kins, h1]
      have b1 := hb.k _ (List.getElem_mem h1)
      simp only [Int.toNat_natCast, e1, kinA, push_cast, ↓ifB_true, ↓ifB_false, Nat.reduceBEq, Nat.reduceAdd, Nat.reduceSub, reduceCtorEq, Nat.reduceMul, Nat.reduceEqDiff, Nat.reduceLeDiff, reduceIte, Nat.reduceLT, Int.reduceLE, Int.reduceLT, Int.reduceToNat]
      refine ifB_intro (fun _ => ?_) (fun h => by simp at h; omega)
      repeat (refine ⟨by omega, ?_⟩)
      repeat' (first
    | refine ⟨_, t148 hC _ b1, ?_⟩
    | refine ⟨_, t150 hC _ _ hks, ?_⟩
    | refine ⟨_, tIn hC _ _ _, ?_⟩
    | refine ifB_intro (fun h => ?_) (fun h => ?_)
    | simp only [tersF_length, kins_length, push_cast, ↓ifB_true, ↓ifB_false, Nat.reduceBEq, Nat.reduceAdd, Nat.reduceSub, reduceCtorEq, Nat.reduceMul, Nat.reduceEqDiff, Nat.reduceLeDiff, reduceIte, Nat.reduceLT, Int.reduceLE, Int.reduceLT, Int.reduceToNat])
      all_goals first
        | (have hf : kinOk r i r.ks[i] = false := by clear hJ ht; simp only [kinOk, *, Bool.and_false, Bool.false_and, Bool.and_true, Bool.true_and]
           simp only [rulOk, allI_no h1 hf, Bool.and_false, Bool.false_and]; done)
        | (have hf : kinOk r i r.ks[i] = true := by clear hJ ht; simp only [kinOk, *, Bool.and_false, Bool.false_and, Bool.and_true, Bool.true_and]
           refine hJ h1 (fun j hj hji => ?_) _ (head_tb [(0, 0)] rfl (by simp only [keptV_cons, keptV_nil, tb_get, lk_same, lk_ne, lk_nil, ren, renL, lkp, Nat.reduceLT, Nat.reduceBEq, Nat.reduceEqDiff, reduceIte, and_true, true_and, Nat.not_lt_zero, if_false, if_true, Nat.add_zero, Nat.zero_add]; (try rw [wrap64 (by omega) (by omega)]); (first | done | (simp; done) | (simp [*]; done) | (simp; omega) | (and_intros <;> rfl))) (by simp only [canR, canB, renO, renL, ren, lkp, hget, Nat.reduceLT, Nat.reduceEqDiff, Nat.not_lt_zero, if_false, if_true, reduceIte, List.append_nil, List.nil_append]; (first | done | rfl)))
           by_cases hij : j = i
           · subst hij; exact hf
           · exact ht j hj (by omega))
    · simp only [push_cast, ↓ifB_true, ↓ifB_false, Nat.reduceBEq, Nat.reduceAdd, Nat.reduceSub, reduceCtorEq, Nat.reduceMul, Nat.reduceEqDiff, Nat.reduceLeDiff, reduceIte, Nat.reduceLT, Int.reduceLE, Int.reduceLT, Int.reduceToNat]
      refine ifB_intro (fun h => by simp at h; omega) (fun h => ?_)
      have gk : allI (kinOk r) r.ks = true := allI_yes fun j hj => ht j hj (by omega)
      rw [show rulOk r = tailOk r by simp only [rulOk, g1, g2, gt, gk, Bool.and_self, Bool.true_and]]
      clear ht hJ
      simp only [tailOk]
      refine ⟨_, tIn hC _ _ _, ?_⟩
      cases inR 1 4 r.stack
      · simp only [push_cast, ↓ifB_true, ↓ifB_false, Nat.reduceBEq, Nat.reduceAdd, Nat.reduceSub, reduceCtorEq, Nat.reduceMul, Nat.reduceEqDiff, Nat.reduceLeDiff, reduceIte, Nat.reduceLT, Int.reduceLE, Int.reduceLT, Int.reduceToNat]
      · simp only [push_cast, ↓ifB_true, ↓ifB_false, Nat.reduceBEq, Nat.reduceAdd, Nat.reduceSub, reduceCtorEq, Nat.reduceMul, Nat.reduceEqDiff, Nat.reduceLeDiff, reduceIte, Nat.reduceLT, Int.reduceLE, Int.reduceLT, Int.reduceToNat]
        refine ⟨_, tIn hC _ _ _, ?_⟩
        cases inR 0 9 r.river
        · simp only [push_cast, ↓ifB_true, ↓ifB_false, Nat.reduceBEq, Nat.reduceAdd, Nat.reduceSub, reduceCtorEq, Nat.reduceMul, Nat.reduceEqDiff, Nat.reduceLeDiff, reduceIte, Nat.reduceLT, Int.reduceLE, Int.reduceLT, Int.reduceToNat]
        · simp only [push_cast, ↓ifB_true, ↓ifB_false, Nat.reduceBEq, Nat.reduceAdd, Nat.reduceSub, reduceCtorEq, Nat.reduceMul, Nat.reduceEqDiff, Nat.reduceLeDiff, reduceIte, Nat.reduceLT, Int.reduceLE, Int.reduceLT, Int.reduceToNat]
          refine ⟨_, tIn hC _ _ _, ?_⟩
          cases inR 1 9 r.road
          · simp only [push_cast, ↓ifB_true, ↓ifB_false, Nat.reduceBEq, Nat.reduceAdd, Nat.reduceSub, reduceCtorEq, Nat.reduceMul, Nat.reduceEqDiff, Nat.reduceLeDiff, reduceIte, Nat.reduceLT, Int.reduceLE, Int.reduceLT, Int.reduceToNat]
          · simp only [push_cast, ↓ifB_true, ↓ifB_false, Nat.reduceBEq, Nat.reduceAdd, Nat.reduceSub, reduceCtorEq, Nat.reduceMul, Nat.reduceEqDiff, Nat.reduceLeDiff, reduceIte, Nat.reduceLT, Int.reduceLE, Int.reduceLT, Int.reduceToNat]
            refine ⟨_, tIn hC _ _ _, ?_⟩
            cases inR 0 20 r.supply
            · simp only [push_cast, ↓ifB_true, ↓ifB_false, Nat.reduceBEq, Nat.reduceAdd, Nat.reduceSub, reduceCtorEq, Nat.reduceMul, Nat.reduceEqDiff, Nat.reduceLeDiff, reduceIte, Nat.reduceLT, Int.reduceLE, Int.reduceLT, Int.reduceToNat]
            · simp only [push_cast, ↓ifB_true, ↓ifB_false, Nat.reduceBEq, Nat.reduceAdd, Nat.reduceSub, reduceCtorEq, Nat.reduceMul, Nat.reduceEqDiff, Nat.reduceLeDiff, reduceIte, Nat.reduceLT, Int.reduceLE, Int.reduceLT, Int.reduceToNat]
              refine ⟨_, tIn hC _ _ _, ?_⟩
              simp only [push_cast, ↓ifB_true, ↓ifB_false, Nat.reduceBEq, Nat.reduceAdd, Nat.reduceSub, reduceCtorEq, Nat.reduceMul, Nat.reduceEqDiff, Nat.reduceLeDiff, reduceIte, Nat.reduceLT, Int.reduceLE, Int.reduceLT, Int.reduceToNat]
end
end Go.Proofs.YtlddjlchgibdfaaDoor.X
