import Derived.Test.YtnajmggefapeaaaXChB
set_option maxHeartbeats 2000000
set_option linter.unusedSimpArgs false
set_option linter.unusedVariables false
namespace Go.Proofs.Ytnajmggefapeaaa.X
open Go
attribute [local irreducible] Ev szSS szRows
theorem ints_snoc {l : List Int} {x : Int} : ints l ++ [[.int .i64 x]] = ints (l ++ [x]) := by simp [ints]
theorem allScs_ints (l : List Int) : allScs (ints l) = true := by
  unfold ints
  induction l with
  | nil => rfl
  | cons x l ih => simp only [List.map_cons, allScs, allSc, isSc, Bool.and_true, Bool.true_and]; exact ih
/-- The weather of a turn; those of the turns before. -/
def wAt (W : List (List Int)) (w seed : Int) : Nat → Int
  | 0 => w
  | i + 1 => nextS (rowAt W (wAt W w seed i)) (belowOf seed i 36) 0
def wOut (W : List (List Int)) (w seed : Int) : Nat → List Int
  | 0 => []
  | i + 1 => wOut W w seed i ++ [wAt W w seed (i + 1)]
theorem wOut_length (W : List (List Int)) (w seed : Int) : ∀ i, (wOut W w seed i).length = i
  | 0 => rfl
  | i + 1 => by simp [wOut, wOut_length W w seed i]
theorem wAt_in {W : List (List Int)} {w seed : Int} (hg : goodW W = true) (hw : inR 0 2 w = true) : ∀ i, inR 0 2 (wAt W w seed i) = true
  | 0 => hw
  | i + 1 => by
    obtain ⟨_, _, a, b, c, hra, _⟩ := rowAt_some hg (wAt_in hg hw i)
    rw [wAt, hra]
    simp only [nextS]
    split
    · rfl
    · split
      · rfl
      · split <;> rfl
def askWF (W : List (List Int)) (w seed n : Int) : Bool := goodW W && inR 0 2 w && inR 0 4611686016279904236 seed && inR 0 30 n
def resWF (W : List (List Int)) (w seed n : Int) : List Int := if askWF W w seed n then wOut W w seed n.toNat else []
theorem resWF_length (W : List (List Int)) (w seed n : Int) : (resWF W w seed n).length ≤ 1000 := by
  unfold resWF
  split
  · rename_i h
    simp only [askWF, inR, Bool.and_eq_true, decide_eq_true_eq] at h
    rw [wOut_length]; omega
  · simp
section
variable {C : CT} (hC : Closed Try.prog G0 md0 C)
include hC
theorem t27 (W : List (List Int)) (w seed n : Int) (hW : W.length < 2^50) (hr : ∀ r ∈ W, r.length < 2^50) : Ev C 27 [clA W, .int .i64 w, .int .i64 seed, .int .i64 n] (.tup [.ow 1 (ints (resWF W w seed n)), .bool (askWF W w seed n)]) := by
  have h1 := t42 hC W w hW hr
  simp only [clA] at *
  refine Ev.runT hC Try.func27 h27 nt27 r27 (by decide) (Nat.le_of_ble_eq_true rfl) (own_lb _ _) ?_
  simp only [c27, push_cast, ↓ifB_true, ↓ifB_false, Nat.reduceBEq, Nat.reduceAdd, Nat.reduceSub, reduceCtorEq, Nat.reduceMul, Nat.reduceEqDiff, Nat.reduceLeDiff, reduceIte, Nat.reduceLT, Int.reduceLE, Int.reduceLT, Int.reduceToNat]
  repeat' (first
    | refine ⟨_, h1, ?_⟩
    | refine ⟨_, t50 hC _, ?_⟩
    | refine ⟨_, t43 hC _ _ _, ?_⟩
    | refine ifB_intro (fun h => ?_) (fun h => ?_)
    | simp only [push_cast, ↓ifB_true, ↓ifB_false, Nat.reduceBEq, Nat.reduceAdd, Nat.reduceSub, reduceCtorEq, Nat.reduceMul, Nat.reduceEqDiff, Nat.reduceLeDiff, reduceIte, Nat.reduceLT, Int.reduceLE, Int.reduceLT, Int.reduceToNat])
  · have ha : askWF W w seed n = true := by simp_all [askWF, inR]
    rw [ha, show resWF W w seed n = wOut W w seed n.toNat by simp [resWF, ha]]
    simp only [askWF, Bool.and_eq_true] at ha
    have hn := ha.2
    simp only [inR, Bool.and_eq_true, decide_eq_true_eq] at hn
    obtain ⟨N, rfl⟩ : ∃ N : Nat, n = N := ⟨n.toNat, by omega⟩
    simp only [Int.toNat_natCast]
    refine RL_count (fun i => ⟨tb 41 .any [(10, .ref 1 none 1 0 i), (1, .int .i64 (wAt W w seed i)), (2, .int .i64 seed), (4, .ptr 0 none 0 0 0), (3, .int .i64 (N : Int)), (11, .int .i64 (i : Int))], [(1, .slice 1 (ints (wOut W w seed i))), (0, .var [.sl (intss W)])], 2⟩) (fun _ => True) N 0 (head_obj 10 1 1 [(0, 0)] rfl (by simp only [keptV_cons, keptV_nil, tb_get, lk_same, lk_ne, lk_nil, ren, renL, lkp, Nat.reduceLT, Nat.reduceBEq, Nat.reduceEqDiff, reduceIte, and_true, true_and, Nat.not_lt_zero, if_false, if_true, Nat.add_zero, Nat.zero_add]) (by decide) (by simp only [keptV_cons, keptV_nil, tb_get, lk_same, lk_ne, lk_nil, ren, renL, lkp, Nat.reduceLT, Nat.reduceBEq, Nat.reduceEqDiff, reduceIte, and_true, true_and, Nat.not_lt_zero, if_false, if_true, Nat.add_zero, Nat.zero_add]; (first | done | (simp; done) | (and_intros <;> rfl))) (by simp) (by simp only [canR, canB, renO, renL, ren, lkp, hget, Nat.reduceLT, Nat.reduceEqDiff, Nat.not_lt_zero, if_false, if_true, reduceIte, List.append_nil, List.nil_append]; rfl)) (by omega) trivial fun i hi _ J hJ => ?_
    have tk : List.take i (ints (wOut W w seed i)) = ints (wOut W w seed i) := List.take_of_length_le (by rw [ints_length, wOut_length]; omega)
    have hol := wOut_length W w seed i
    have hs := t51 hC W (wAt W w seed i) seed i ha.1.1.1 (wAt_in ha.1.1.1 ha.1.1.2 i)
    simp only [clA] at hs
    by_cases h1 : i < N
    · simp only [push_cast, ↓ifB_true, ↓ifB_false, Nat.reduceBEq, Nat.reduceAdd, Nat.reduceSub, reduceCtorEq, Nat.reduceMul, Nat.reduceEqDiff, Nat.reduceLeDiff, reduceIte, Nat.reduceLT, Int.reduceLE, Int.reduceLT, Int.reduceToNat]
      refine ifB_intro (fun _ => ?_) (fun h => by simp at h; omega)
      refine ⟨_, hs, ?_⟩
      simp only [tk, ints_length, hol, allScs, apYR_sc, push_cast, ↓ifB_true, ↓ifB_false, Nat.reduceBEq, Nat.reduceAdd, Nat.reduceSub, reduceCtorEq, Nat.reduceMul, Nat.reduceEqDiff, Nat.reduceLeDiff, reduceIte, Nat.reduceLT, Int.reduceLE, Int.reduceLT, Int.reduceToNat]
      repeat (refine ⟨by omega, ?_⟩)
      refine hJ h1 trivial _ (head_tb [(3, 1), (0, 0)] rfl (by simp only [keptV_cons, keptV_nil, tb_get, lk_same, lk_ne, lk_nil, ren, renL, lkp, Nat.reduceLT, Nat.reduceBEq, Nat.reduceEqDiff, reduceIte, and_true, true_and, Nat.not_lt_zero, if_false, if_true, Nat.add_zero, Nat.zero_add]; (try rw [wrap64 (by omega) (by omega)]); (first | done | (simp; done) | (simp [*]; done) | (simp; omega) | (and_intros <;> rfl))) ?_)
      simp only [canR, canB, renO, renL, ren, lkp, hget, Nat.reduceLT, Nat.reduceEqDiff, Nat.not_lt_zero, if_false, if_true, reduceIte, List.append_nil, List.nil_append, ints_snoc]
      rfl
    · obtain rfl : i = N := by omega
      simp only [push_cast, ↓ifB_true, ↓ifB_false, Nat.reduceBEq, Nat.reduceAdd, Nat.reduceSub, reduceCtorEq, Nat.reduceMul, Nat.reduceEqDiff, Nat.reduceLeDiff, reduceIte, Nat.reduceLT, Int.reduceLE, Int.reduceLT, Int.reduceToNat]
      refine ifB_intro (fun h => by simp at h) (fun h => ?_)
      exact RetTo_lb rfl (by rw [ints_length, hol])
  · rw [show askWF W w seed n = false by grind [askWF, inR], show resWF W w seed n = [] by grind [resWF, askWF, inR]]
    exact RetTo_nb
  · rw [show askWF W w seed n = false by grind [askWF, inR], show resWF W w seed n = [] by grind [resWF, askWF, inR]]
    exact RetTo_nb
  · rw [show askWF W w seed n = false by grind [askWF, inR], show resWF W w seed n = [] by grind [resWF, askWF, inR]]
    exact RetTo_nb

theorem t28 (W : List (List Int)) (w seed n : Int) (hW : W.length < 2^50) (hr : ∀ r ∈ W, r.length < 2^50) : Ev C 28 [clA W, .int .i64 w, .int .i64 seed, .int .i64 n] (.tup [.ow 1 (ints (resWF W w seed n)), .bool (askWF W w seed n)]) := by
  have h1 := t46 hC W w hW hr
  simp only [clA] at *
  refine Ev.runT hC Try.func28 h28 nt28 r28 (by decide) (Nat.le_of_ble_eq_true rfl) (own_lb _ _) ?_
  simp only [c28, push_cast, ↓ifB_true, ↓ifB_false, Nat.reduceBEq, Nat.reduceAdd, Nat.reduceSub, reduceCtorEq, Nat.reduceMul, Nat.reduceEqDiff, Nat.reduceLeDiff, reduceIte, Nat.reduceLT, Int.reduceLE, Int.reduceLT, Int.reduceToNat]
  repeat' (first
    | refine ⟨_, h1, ?_⟩
    | refine ⟨_, t52 hC _, ?_⟩
    | refine ⟨_, t53 hC _, ?_⟩
    | refine ifB_intro (fun h => ?_) (fun h => ?_)
    | simp only [push_cast, ↓ifB_true, ↓ifB_false, Nat.reduceBEq, Nat.reduceAdd, Nat.reduceSub, reduceCtorEq, Nat.reduceMul, Nat.reduceEqDiff, Nat.reduceLeDiff, reduceIte, Nat.reduceLT, Int.reduceLE, Int.reduceLT, Int.reduceToNat])
  · have ha : askWF W w seed n = true := by simp_all [askWF, inR]
    rw [ha, show resWF W w seed n = wOut W w seed n.toNat by simp [resWF, ha]]
    simp only [askWF, Bool.and_eq_true] at ha
    have hn := ha.2
    simp only [inR, Bool.and_eq_true, decide_eq_true_eq] at hn
    obtain ⟨N, rfl⟩ : ∃ N : Nat, n = N := ⟨n.toNat, by omega⟩
    simp only [Int.toNat_natCast]
    refine RL_count (fun i => ⟨tb 42 .any [(10, .ref 1 none 1 0 i), (1, .int .i64 (wAt W w seed i)), (2, .int .i64 seed), (4, .ptr 0 none 0 0 0), (27, .int .i64 (N : Int)), (28, .int .i64 (i : Int))], [(1, .slice 1 (ints (wOut W w seed i))), (0, .var [.sl (intss W)])], 2⟩) (fun _ => True) N 0 (head_tb [(1, 1), (0, 0)] rfl (by simp only [keptV_cons, keptV_nil, tb_get, lk_same, lk_ne, lk_nil, ren, renL, lkp, Nat.reduceLT, Nat.reduceBEq, Nat.reduceEqDiff, reduceIte, and_true, true_and, Nat.not_lt_zero, if_false, if_true, Nat.add_zero, Nat.zero_add]; (try rw [wrap64 (by omega) (by omega)]); (first | done | (simp; done) | (simp [*]; done) | (simp; omega) | (and_intros <;> rfl))) (by simp only [canR, canB, renO, renL, ren, lkp, hget, Nat.reduceLT, Nat.reduceEqDiff, Nat.not_lt_zero, if_false, if_true, reduceIte, List.append_nil, List.nil_append]; (first | done | rfl))) (by omega) trivial fun i hi _ J hJ => ?_
    have tk : List.take i (ints (wOut W w seed i)) = ints (wOut W w seed i) := List.take_of_length_le (by rw [ints_length, wOut_length]; omega)
    have hol := wOut_length W w seed i
    have hs := t54 hC W (wAt W w seed i) seed i ha.1.1.1 (wAt_in ha.1.1.1 ha.1.1.2 i)
    simp only [clA] at hs
    by_cases h1 : i < N
    · simp only [push_cast, ↓ifB_true, ↓ifB_false, Nat.reduceBEq, Nat.reduceAdd, Nat.reduceSub, reduceCtorEq, Nat.reduceMul, Nat.reduceEqDiff, Nat.reduceLeDiff, reduceIte, Nat.reduceLT, Int.reduceLE, Int.reduceLT, Int.reduceToNat]
      refine ifB_intro (fun _ => ?_) (fun h => by simp at h; omega)
      refine ⟨_, hs, ?_⟩
      simp only [tk, ints_length, hol, allScs, apYR_sc, push_cast, ↓ifB_true, ↓ifB_false, Nat.reduceBEq, Nat.reduceAdd, Nat.reduceSub, reduceCtorEq, Nat.reduceMul, Nat.reduceEqDiff, Nat.reduceLeDiff, reduceIte, Nat.reduceLT, Int.reduceLE, Int.reduceLT, Int.reduceToNat]
      repeat (refine ⟨by omega, ?_⟩)
      refine hJ h1 trivial _ (head_tb [(3, 1), (0, 0)] rfl (by simp only [keptV_cons, keptV_nil, tb_get, lk_same, lk_ne, lk_nil, ren, renL, lkp, Nat.reduceLT, Nat.reduceBEq, Nat.reduceEqDiff, reduceIte, and_true, true_and, Nat.not_lt_zero, if_false, if_true, Nat.add_zero, Nat.zero_add]; (try rw [wrap64 (by omega) (by omega)]); (first | done | (simp; done) | (simp [*]; done) | (simp; omega) | (and_intros <;> rfl))) ?_)
      simp only [canR, canB, renO, renL, ren, lkp, hget, Nat.reduceLT, Nat.reduceEqDiff, Nat.not_lt_zero, if_false, if_true, reduceIte, List.append_nil, List.nil_append, ints_snoc]
      rfl
    · obtain rfl : i = N := by omega
      simp only [push_cast, ↓ifB_true, ↓ifB_false, Nat.reduceBEq, Nat.reduceAdd, Nat.reduceSub, reduceCtorEq, Nat.reduceMul, Nat.reduceEqDiff, Nat.reduceLeDiff, reduceIte, Nat.reduceLT, Int.reduceLE, Int.reduceLT, Int.reduceToNat]
      refine ifB_intro (fun h => by simp at h) (fun h => ?_)
      exact RetTo_lb rfl (by rw [ints_length, hol])
  · rw [show askWF W w seed n = false by grind [askWF, inR], show resWF W w seed n = [] by grind [resWF, askWF, inR]]
    exact RetTo_nb
  · rw [show askWF W w seed n = false by grind [askWF, inR], show resWF W w seed n = [] by grind [resWF, askWF, inR]]
    exact RetTo_nb
  · rw [show askWF W w seed n = false by grind [askWF, inR], show resWF W w seed n = [] by grind [resWF, askWF, inR]]
    exact RetTo_nb

theorem t7 (W : List (List Int)) (w seed n : Int) (hW : W.length < 2^50) (hr : ∀ r ∈ W, r.length < 2^50) : Ev C 7 [clA W, .int .i64 w, .int .i64 seed, .int .i64 n] (.bool true) := by
  have h1 := t14 hC W 1048576 (by omega) hW hr
  simp only [clA] at *
  refine Ev.runT hC Try.func7 h7 nt7 r7 (by decide) (Nat.le_of_ble_eq_true rfl) (rfl) ?_
  simp only [c7, push_cast, ↓ifB_true, ↓ifB_false, Nat.reduceBEq, Nat.reduceAdd, Nat.reduceSub, reduceCtorEq, Nat.reduceMul, Nat.reduceEqDiff, Nat.reduceLeDiff, reduceIte, Nat.reduceLT, Int.reduceLE, Int.reduceLT, Int.reduceToNat]
  refine ⟨_, h1, ?_⟩
  simp only [push_cast, ↓ifB_true, ↓ifB_false, Nat.reduceBEq, Nat.reduceAdd, Nat.reduceSub, reduceCtorEq, Nat.reduceMul, Nat.reduceEqDiff, Nat.reduceLeDiff, reduceIte, Nat.reduceLT, Int.reduceLE, Int.reduceLT, Int.reduceToNat]
  refine ifB_intro (fun h => trivial) (fun h => ?_)
  have g : 0 ≤ szSS W 1048576 := by
    simp only [decide_eq_false_iff_not] at h
    split at h
    · omega
    · omega
  have g1 := szSS_le (by omega) g
  have g2 := szSS_lens (by omega) g
  have gW : W.length < 2^30 := by omega
  have gr : ∀ r ∈ W, r.length < 2^30 := fun r h => by have := g1.2 r h; omega
  have h2 := t16 hC W gW gr
  have h3 := t27 hC W w seed n hW hr
  have h4 := t28 hC W w seed n hW hr
  have h5 := t19 hC W W hW hW hr hr
  have hrl := resWF_length W w seed n
  generalize resWF W w seed n = res at *
  generalize askWF W w seed n = ask at *
  have h6 := t18 hC res res (by omega) (by omega)
  have h7 := t22 hC 1 res.length (by omega) (by omega)
  simp only [clA, clO] at *
  refine ⟨_, h2, ?_⟩
  simp only [frzLL_owss, push_cast, ↓ifB_true, ↓ifB_false, Nat.reduceBEq, Nat.reduceAdd, Nat.reduceSub, reduceCtorEq, Nat.reduceMul, Nat.reduceEqDiff, Nat.reduceLeDiff, reduceIte, Nat.reduceLT, Int.reduceLE, Int.reduceLT, Int.reduceToNat]
  refine ⟨_, h3, ?_⟩
  simp only [frzLL_owss, push_cast, ↓ifB_true, ↓ifB_false, Nat.reduceBEq, Nat.reduceAdd, Nat.reduceSub, reduceCtorEq, Nat.reduceMul, Nat.reduceEqDiff, Nat.reduceLeDiff, reduceIte, Nat.reduceLT, Int.reduceLE, Int.reduceLT, Int.reduceToNat]
  refine ⟨_, h2, ?_⟩
  simp only [frzLL_owss, push_cast, ↓ifB_true, ↓ifB_false, Nat.reduceBEq, Nat.reduceAdd, Nat.reduceSub, reduceCtorEq, Nat.reduceMul, Nat.reduceEqDiff, Nat.reduceLeDiff, reduceIte, Nat.reduceLT, Int.reduceLE, Int.reduceLT, Int.reduceToNat]
  refine ⟨_, h4, ?_⟩
  simp only [frzLL_owss, frzLL_ints, push_cast, ↓ifB_true, ↓ifB_false, Nat.reduceBEq, Nat.reduceAdd, Nat.reduceSub, reduceCtorEq, Nat.reduceMul, Nat.reduceEqDiff, Nat.reduceLeDiff, reduceIte, Nat.reduceLT, Int.reduceLE, Int.reduceLT, Int.reduceToNat]
  refine ⟨_, h6, ?_⟩
  simp only [frzLL_owss, push_cast, ↓ifB_true, ↓ifB_false, Nat.reduceBEq, Nat.reduceAdd, Nat.reduceSub, reduceCtorEq, Nat.reduceMul, Nat.reduceEqDiff, Nat.reduceLeDiff, reduceIte, Nat.reduceLT, Int.reduceLE, Int.reduceLT, Int.reduceToNat]
  refine ⟨_, h2, ?_⟩
  simp only [frzLL_owss, push_cast, ↓ifB_true, ↓ifB_false, Nat.reduceBEq, Nat.reduceAdd, Nat.reduceSub, reduceCtorEq, Nat.reduceMul, Nat.reduceEqDiff, Nat.reduceLeDiff, reduceIte, Nat.reduceLT, Int.reduceLE, Int.reduceLT, Int.reduceToNat]
  refine ⟨_, h5, ?_⟩
  simp only [frzLL_owss, push_cast, ↓ifB_true, ↓ifB_false, Nat.reduceBEq, Nat.reduceAdd, Nat.reduceSub, reduceCtorEq, Nat.reduceMul, Nat.reduceEqDiff, Nat.reduceLeDiff, reduceIte, Nat.reduceLT, Int.reduceLE, Int.reduceLT, Int.reduceToNat]
  rw [owss_length]
  have d1 : decide (1 + (lens W : Int) < 0) = false := by simp; omega
  have d2 : decide (1 + (res.length : Int) < 0) = false := by simp; omega
  have tk : List.take res.length (ints (run 1 res.length)) = ints (run 1 res.length) := List.take_of_length_le (by rw [ints_length, run_length]; omega)
  have tk2 : List.take res.length (ints res) = ints res := List.take_of_length_le (by rw [ints_length]; omega)
  refine ⟨_, t20 hC W 1 _ 3 7 rfl (by simp [below, canB, renO, ren, renL]) (by simp [solid, killH, killL, killS]) (by omega) hW (by omega) hr, ?_⟩
  rintro v h' n' ⟨rfl, rfl, rfl⟩ _
  simp only [d1, frzLL_ints, push_cast, ↓ifB_true, ↓ifB_false, Nat.reduceBEq, Nat.reduceAdd, Nat.reduceSub, reduceCtorEq, Nat.reduceMul, Nat.reduceEqDiff, Nat.reduceLeDiff, reduceIte, Nat.reduceLT, Int.reduceLE, Int.reduceLT, Int.reduceToNat]
  refine ⟨_, h6, ?_⟩
  simp only [frzLL_ints, push_cast, ↓ifB_true, ↓ifB_false, Nat.reduceBEq, Nat.reduceAdd, Nat.reduceSub, reduceCtorEq, Nat.reduceMul, Nat.reduceEqDiff, Nat.reduceLeDiff, reduceIte, Nat.reduceLT, Int.reduceLE, Int.reduceLT, Int.reduceToNat]
  rw [ints_length]
  refine ⟨_, t21 hC res 1 _ 5 8 rfl (by simp [below, canB, renO, ren, renL]) (by omega) (by omega), ?_⟩
  rintro v h' n' ⟨rfl, rfl, rfl⟩ _
  rw [mk_run]
  simp only [frzLL_ints, tk, tk2, push_cast, ↓ifB_true, ↓ifB_false, Nat.reduceBEq, Nat.reduceAdd, Nat.reduceSub, reduceCtorEq, Nat.reduceMul, Nat.reduceEqDiff, Nat.reduceLeDiff, reduceIte, Nat.reduceLT, Int.reduceLE, Int.reduceLT, Int.reduceToNat]
  refine ⟨_, h7, ?_⟩
  simp only [frzLL_ints, tk, tk2, d2, push_cast, ↓ifB_true, ↓ifB_false, Nat.reduceBEq, Nat.reduceAdd, Nat.reduceSub, reduceCtorEq, Nat.reduceMul, Nat.reduceEqDiff, Nat.reduceLeDiff, reduceIte, Nat.reduceLT, Int.reduceLE, Int.reduceLT, Int.reduceToNat]
  refine ⟨_, h2, ?_⟩
  simp only [frzLL_owss, push_cast, ↓ifB_true, ↓ifB_false, Nat.reduceBEq, Nat.reduceAdd, Nat.reduceSub, reduceCtorEq, Nat.reduceMul, Nat.reduceEqDiff, Nat.reduceLeDiff, reduceIte, Nat.reduceLT, Int.reduceLE, Int.reduceLT, Int.reduceToNat]
  refine ⟨_, h4, ?_⟩
  simp only [frzLL_ints, tk, tk2, push_cast, ↓ifB_true, ↓ifB_false, Nat.reduceBEq, Nat.reduceAdd, Nat.reduceSub, reduceCtorEq, Nat.reduceMul, Nat.reduceEqDiff, Nat.reduceLeDiff, reduceIte, Nat.reduceLT, Int.reduceLE, Int.reduceLT, Int.reduceToNat]
  refine ⟨_, h6, ?_⟩
  simp only [frzLL_ints, tk, tk2, push_cast, ↓ifB_true, ↓ifB_false, Nat.reduceBEq, Nat.reduceAdd, Nat.reduceSub, reduceCtorEq, Nat.reduceMul, Nat.reduceEqDiff, Nat.reduceLeDiff, reduceIte, Nat.reduceLT, Int.reduceLE, Int.reduceLT, Int.reduceToNat]
  refine ⟨_, h7, ?_⟩
  simp only [frzLL_ints, tk, tk2, d2, push_cast, ↓ifB_true, ↓ifB_false, Nat.reduceBEq, Nat.reduceAdd, Nat.reduceSub, reduceCtorEq, Nat.reduceMul, Nat.reduceEqDiff, Nat.reduceLeDiff, reduceIte, Nat.reduceLT, Int.reduceLE, Int.reduceLT, Int.reduceToNat]

end
end Go.Proofs.Ytnajmggefapeaaa.X
