import Derived.Test.YtnajmggefapeaaaXIsA
set_option maxHeartbeats 1000000
set_option linter.unusedSimpArgs false
set_option linter.unusedSectionVars false
set_option linter.unusedVariables false
namespace Go.Proofs.Ytnajmggefapeaaa.X
open Go
structure Ln where
  a : Int
  b : Int
  c : Int
  deriving DecidableEq
def lnA (p : Ln) : List AV := [.int .i64 p.a, .int .i64 p.b, .int .i64 p.c]
def lns (l : List Ln) : List (List AV) := l.map lnA
def inR (lo hi n : Int) : Bool := decide (lo ≤ n) && decide (n ≤ hi)
theorem own_lns (l : List Ln) : ownR (.ow 3 (lns l)) = true := by
  simp only [ownR]
  unfold lns
  induction l with
  | nil => rfl
  | cons x l ih => simp only [List.map_cons, lnA, ownRLL, ownRL, ownR, Bool.and_true, Bool.true_and]; exact ih
/-- The first place where p holds, or -1. -/
def fidx (p : Int → Bool) (l : List Int) : Int := if l.findIdx p < l.length then (l.findIdx p : Int) else -1
theorem fidx_at {p : Int → Bool} {l : List Int} {i : Nat} (h : i < l.length) (hp : p l[i] = true) (hn : ∀ j (h : j < l.length), j < i → p l[j] = false) : fidx p l = i := by
  have : l.findIdx p = i := (List.findIdx_eq h).2 ⟨hp, fun j hj => hn j (by omega) hj⟩
  simp [fidx, this, h]
theorem fidx_no {p : Int → Bool} {l : List Int} (hn : ∀ j (h : j < l.length), p l[j] = false) : fidx p l = -1 := by
  have : ¬ l.findIdx p < l.length := fun h => by
    have := hn _ h
    rw [List.findIdx_getElem (w := h)] at this
    cases this
  simp only [fidx, this, if_false]
theorem fidx_any (p : Int → Bool) (l : List Int) : decide (0 ≤ fidx p l) = l.any p := by
  by_cases h : l.findIdx p < l.length
  · have h1 : fidx p l = l.findIdx p := if_pos h
    have h2 : l.any p = true := by
      obtain ⟨x, hx, hp⟩ := List.findIdx_lt_length.1 h
      exact List.any_eq_true.2 ⟨x, hx, hp⟩
    rw [h1, h2]
    exact decide_eq_true (by omega)
  · have h1 : fidx p l = -1 := if_neg h
    have h2 : l.any p = false := by
      rw [List.any_eq_false]
      intro x hx hp
      exact h (List.findIdx_lt_length.2 ⟨x, hx, hp⟩)
    rw [h1, h2]
    rfl
theorem frzA_F {h : Heap} {k : Nat} {x : AV} (hx : isF x = true) : frzA h k x = some x := by
  cases x <;> simp [isF] at hx <;> cases k <;> simp [frzA, isF]
theorem frzAL_F {h : Heap} {k : Nat} : ∀ {xs : List AV}, allF xs = true → frzAL h k xs = some xs
  | [], _ => by cases k <;> simp [frzAL]
  | x :: xs, hx => by
    simp only [allF, Bool.and_eq_true] at hx
    cases k <;> simp [frzAL, frzA_F hx.1, frzAL_F hx.2]
theorem ren_F {B : Nat} {ρ : List (Nat × Nat)} {x : AV} (hx : isF x = true) : ren B ρ x = x := by
  cases x <;> simp [isF] at hx <;> simp [ren]
theorem renL_F {B : Nat} {ρ : List (Nat × Nat)} : ∀ {xs : List AV}, allF xs = true → renL B ρ xs = xs
  | [], _ => by simp [renL]
  | x :: xs, hx => by
    simp only [allF, Bool.and_eq_true] at hx
    simp [renL, ren_F hx.1, renL_F hx.2]
theorem frzOkL_F : ∀ {xs : List AV}, allF xs = true → frzOkL xs = true
  | [], _ => by simp [frzOkL]
  | x :: xs, hx => by
    simp only [allF, Bool.and_eq_true] at hx
    simp only [frzOkL, frzOkL_F hx.2, Bool.and_true]
    have := hx.1
    cases x <;> simp [isF] at this <;> simp [frzOk]
section
variable {C : CT} (hC : Closed Try.prog G0 md0 C)
include hC
theorem t66 (a b c : Int) : Ev C 66 [.agg [.int .i64 a, .int .i64 b, .int .i64 c]] (.agg [.int .i64 a, .int .i64 b, .int .i64 c]) := by
  refine Ev.runT hC Try.func66 h66 nt66 r66 (by decide) (Nat.le_of_ble_eq_true rfl) (rfl) ?_
  simp only [c66, push_cast, ↓ifB_true, ↓ifB_false, Nat.reduceBEq, Nat.reduceAdd, Nat.reduceSub, reduceCtorEq, Nat.reduceMul, Nat.reduceEqDiff, Nat.reduceLeDiff, reduceIte, Nat.reduceLT, Int.reduceLE, Int.reduceLT, Int.reduceToNat]
  exact RetTo_of (by simp only [conR, conRL, isF, hget, hdel, List.drop_zero, List.take_length, if_true, if_false, reduceIte, Nat.reduceEqDiff, reduceCtorEq]; rfl)
theorem t65 (l : List Int) (lo hi : Int) (hl : l.length < 2^50) : Ev C 65 [.sl (ints l), .int .i64 lo, .int .i64 hi] (.bool (l.all (inR lo hi))) := by
  refine Ev.runT hC Try.func65 h65 nt65 r65 (by decide) (Nat.le_of_ble_eq_true rfl) (rfl) ?_
  simp only [c65, ints, List.length_map, push_cast, ↓ifB_true, ↓ifB_false, Nat.reduceBEq, Nat.reduceAdd, Nat.reduceSub, reduceCtorEq, Nat.reduceMul, Nat.reduceEqDiff, Nat.reduceLeDiff, reduceIte, Nat.reduceLT, Int.reduceLE, Int.reduceLT, Int.reduceToNat]
  refine RL_count (fun i => ⟨tb 21 .any [(1, .int .i64 lo), (2, .int .i64 hi), (9, .sl (l.map fun n => [.int .i64 n])), (10, .int .i64 (l.length : Int)), (11, .int .i64 (i : Int))], [], 0⟩) (fun i => l.all (inR lo hi) = (l.drop i).all (inR lo hi)) l.length 0 (head_tb [] rfl (by simp only [keptV_cons, keptV_nil, tb_get, lk_same, lk_ne, lk_nil, ren, renL, lkp, Nat.reduceLT, Nat.reduceBEq, Nat.reduceEqDiff, reduceIte, and_true, true_and, Nat.not_lt_zero, if_false, if_true, Nat.add_zero, Nat.zero_add]; (try rw [wrap64 (by omega) (by omega)]); (first | done | (simp; done) | (simp [*]; done) | (simp; omega) | (and_intros <;> rfl))) (by simp only [canR, canB, renO, renL, ren, lkp, hget, Nat.reduceLT, Nat.reduceEqDiff, Nat.not_lt_zero, if_false, if_true, reduceIte, List.append_nil, List.nil_append]; (first | done | rfl))) (by omega) rfl fun i hi' ht J hJ => ?_
  by_cases h1 : i < l.length
  · simp only [List.length_map, Int.toNat_natCast, List.getElem?_map, List.getElem?_eq_getElem h1, push_cast, ↓ifB_true, ↓ifB_false, Nat.reduceBEq, Nat.reduceAdd, Nat.reduceSub, reduceCtorEq, Nat.reduceMul, Nat.reduceEqDiff, Nat.reduceLeDiff, reduceIte, Nat.reduceLT, Int.reduceLE, Int.reduceLT, Int.reduceToNat]
    refine ifB_intro (fun _ => ⟨by omega, _, t43 hC _ _ _, ?_⟩) (fun h => by simp at h; omega)
    rw [List.drop_eq_getElem_cons h1, List.all_cons] at ht
    simp only [push_cast, ↓ifB_true, ↓ifB_false, Nat.reduceBEq, Nat.reduceAdd, Nat.reduceSub, reduceCtorEq, Nat.reduceMul, Nat.reduceEqDiff, Nat.reduceLeDiff, reduceIte, Nat.reduceLT, Int.reduceLE, Int.reduceLT, Int.reduceToNat]
    refine ifB_intro (fun h => ?_) (fun h => ?_)
    · refine hJ h1 ?_ _ (head_tb [] rfl (by simp only [keptV_cons, keptV_nil, tb_get, lk_same, lk_ne, lk_nil, ren, renL, lkp, Nat.reduceLT, Nat.reduceBEq, Nat.reduceEqDiff, reduceIte, and_true, true_and, Nat.not_lt_zero, if_false, if_true, Nat.add_zero, Nat.zero_add]; (try rw [wrap64 (by omega) (by omega)]); (first | done | (simp; done) | (simp [*]; done) | (simp; omega) | (and_intros <;> rfl))) (by simp only [canR, canB, renO, renL, ren, lkp, hget, Nat.reduceLT, Nat.reduceEqDiff, Nat.not_lt_zero, if_false, if_true, reduceIte, List.append_nil, List.nil_append]; (first | done | rfl)))
      · rw [ht]; simp only [inR] at h ⊢; rw [h]; rfl
    · rw [ht]; simp only [inR] at h ⊢; rw [h]; rfl
  · simp only [List.length_map, Int.toNat_natCast, List.getElem?_map, push_cast, ↓ifB_true, ↓ifB_false, Nat.reduceBEq, Nat.reduceAdd, Nat.reduceSub, reduceCtorEq, Nat.reduceMul, Nat.reduceEqDiff, Nat.reduceLeDiff, reduceIte, Nat.reduceLT, Int.reduceLE, Int.reduceLT, Int.reduceToNat]
    refine ifB_intro (fun h => by simp at h; omega) (fun h => ?_)
    rw [ht, List.drop_eq_nil_of_le (by omega)]
    rfl
theorem t35 (l : List Ln) (hl : l.length < 2^30) : Ev C 35 [.sl (lns l)] (.ow 3 (lns l)) := by
  refine Ev.runT hC Try.func35 h35 nt35 r35 (by decide) (Nat.le_of_ble_eq_true rfl) (own_lns l) ?_
  simp only [c35, lns, List.length_map, push_cast, ↓ifB_true, ↓ifB_false, Nat.reduceBEq, Nat.reduceAdd, Nat.reduceSub, reduceCtorEq, Nat.reduceMul, Nat.reduceEqDiff, Nat.reduceLeDiff, reduceIte, Nat.reduceLT, Int.reduceLE, Int.reduceLT, Int.reduceToNat]
  refine ⟨by omega, by omega, by omega, by omega, ?_⟩
  refine RL_count (fun i => ⟨tb 23 .any [(0, .sl (l.map lnA)), (3, .ref 0 none 3 0 l.length), (4, .int .i64 (i : Int))], [(0, .slice 3 ((l.take i).map lnA ++ List.replicate (l.length - i) [.int .i64 0, .int .i64 0, .int .i64 0]))], 1⟩) (fun _ => True) l.length 0 (head_tb [(0, 0)] rfl (by simp only [keptV_cons, keptV_nil, tb_get, lk_same, lk_ne, lk_nil, ren, renL, lkp, Nat.reduceLT, Nat.reduceBEq, Nat.reduceEqDiff, reduceIte, and_true, true_and, Nat.not_lt_zero, if_false, if_true, Nat.add_zero, Nat.zero_add]; (try rw [wrap64 (by omega) (by omega)]); (first | done | (simp; done) | (simp [*]; done) | (simp; omega) | (and_intros <;> rfl))) (by simp only [canR, canB, renO, renL, ren, lkp, hget, Nat.reduceLT, Nat.reduceEqDiff, Nat.not_lt_zero, if_false, if_true, reduceIte, List.append_nil, List.nil_append]; (first | done | rfl))) (by omega) trivial fun i hi _ J hJ => ?_
  by_cases h1 : i < l.length
  · rw [show l.length - i = (l.length - (i + 1)) + 1 by omega, List.replicate_succ]
    simp only [List.length_map, Int.toNat_natCast, List.getElem?_map, List.getElem?_eq_getElem h1, lnA, push_cast, ↓ifB_true, ↓ifB_false, Nat.reduceBEq, Nat.reduceAdd, Nat.reduceSub, reduceCtorEq, Nat.reduceMul, Nat.reduceEqDiff, Nat.reduceLeDiff, reduceIte, Nat.reduceLT, Int.reduceLE, Int.reduceLT, Int.reduceToNat]
    refine ifB_intro (fun _ => ⟨by omega, _, t66 hC _ _ _, ?_⟩) (fun h => by simp at h; omega)
    simp only [Int.toNat_natCast, mid_get (show ((l.take i).map lnA).length = i by simp; omega), mid_set (show ((l.take i).map lnA).length = i by simp; omega), push_cast, ↓ifB_true, ↓ifB_false, Nat.reduceBEq, Nat.reduceAdd, Nat.reduceSub, reduceCtorEq, Nat.reduceMul, Nat.reduceEqDiff, Nat.reduceLeDiff, reduceIte, Nat.reduceLT, Int.reduceLE, Int.reduceLT, Int.reduceToNat]
    refine ⟨by omega, by omega, ?_⟩
    refine hJ h1 trivial _ (head_tb [(0, 0)] rfl (by simp only [keptV_cons, keptV_nil, tb_get, lk_same, lk_ne, lk_nil, ren, renL, lkp, Nat.reduceLT, Nat.reduceBEq, Nat.reduceEqDiff, reduceIte, and_true, true_and, Nat.not_lt_zero, if_false, if_true, Nat.add_zero, Nat.zero_add]; (try rw [wrap64 (by omega) (by omega)]); (first | done | (simp; done) | (simp [*]; done) | (simp; omega) | (and_intros <;> rfl))) ?_)
    rw [List.take_succ_eq_append_getElem h1, List.map_append, List.append_assoc]
    simp only [canR, canB, renO, renL, ren, lkp, hget, Nat.reduceLT, Nat.reduceEqDiff, Nat.not_lt_zero, if_false, if_true, reduceIte, List.append_nil, List.nil_append]
    rfl
  · simp only [List.length_map, Int.toNat_natCast, List.getElem?_map, push_cast, ↓ifB_true, ↓ifB_false, Nat.reduceBEq, Nat.reduceAdd, Nat.reduceSub, reduceCtorEq, Nat.reduceMul, Nat.reduceEqDiff, Nat.reduceLeDiff, reduceIte, Nat.reduceLT, Int.reduceLE, Int.reduceLT, Int.reduceToNat]
    refine ifB_intro (fun h => by simp at h; omega) (fun h => ?_)
    rw [List.take_of_length_le (by omega), show l.length - i = 0 by omega]
    exact RetTo_ow (by simp [hget]) (by simp)
theorem t40 (l m : List Ln) (hl : l.length < 2^50) (hm : m.length < 2^50) : Ev C 40 [.sl (lns l), .sl (lns m)] (.bool (decide (l = m))) := by
  refine Ev.runT hC Try.func40 h40 nt40 r40 (by decide) (Nat.le_of_ble_eq_true rfl) (rfl) ?_
  simp only [c40, lns, List.length_map, push_cast, ↓ifB_true, ↓ifB_false, Nat.reduceBEq, Nat.reduceAdd, Nat.reduceSub, reduceCtorEq, Nat.reduceMul, Nat.reduceEqDiff, Nat.reduceLeDiff, reduceIte, Nat.reduceLT, Int.reduceLE, Int.reduceLT, Int.reduceToNat]
  refine ifB_intro (fun h => ?_) (fun h => ?_)
  · have hlm : l.length = m.length := by simp at h; omega
    refine RL_count (fun i => ⟨tb 27 .any [(0, .sl (l.map lnA)), (1, .sl (m.map lnA)), (5, .int .i64 (i : Int))], [], 0⟩) (fun i => l.take i = m.take i) l.length 0 (head_tb [] rfl (by simp only [keptV_cons, keptV_nil, tb_get, lk_same, lk_ne, lk_nil, ren, renL, lkp, Nat.reduceLT, Nat.reduceBEq, Nat.reduceEqDiff, reduceIte, and_true, true_and, Nat.not_lt_zero, if_false, if_true, Nat.add_zero, Nat.zero_add]; (try rw [wrap64 (by omega) (by omega)]); (first | done | (simp; done) | (simp [*]; done) | (simp; omega) | (and_intros <;> rfl))) (by simp only [canR, canB, renO, renL, ren, lkp, hget, Nat.reduceLT, Nat.reduceEqDiff, Nat.not_lt_zero, if_false, if_true, reduceIte, List.append_nil, List.nil_append]; (first | done | rfl))) (by omega) rfl fun i hi ht J hJ => ?_
    by_cases h1 : i < l.length
    · have h2 : i < m.length := by omega
      simp only [List.length_map, Int.toNat_natCast, List.getElem?_map, List.getElem?_eq_getElem h1, List.getElem?_eq_getElem h2, lnA, push_cast, ↓ifB_true, ↓ifB_false, Nat.reduceBEq, Nat.reduceAdd, Nat.reduceSub, reduceCtorEq, Nat.reduceMul, Nat.reduceEqDiff, Nat.reduceLeDiff, reduceIte, Nat.reduceLT, Int.reduceLE, Int.reduceLT, Int.reduceToNat]
      refine ifB_intro (fun _ => ⟨by omega, by omega, _, t68 hC _ _ _ _ _ _, ?_⟩) (fun h => by simp at h; omega)
      simp only [push_cast, ↓ifB_true, ↓ifB_false, Nat.reduceBEq, Nat.reduceAdd, Nat.reduceSub, reduceCtorEq, Nat.reduceMul, Nat.reduceEqDiff, Nat.reduceLeDiff, reduceIte, Nat.reduceLT, Int.reduceLE, Int.reduceLT, Int.reduceToNat]
      refine ifB_intro (fun h => ?_) (fun h => ?_)
      · refine hJ h1 ?_ _ (head_tb [] rfl (by simp only [keptV_cons, keptV_nil, tb_get, lk_same, lk_ne, lk_nil, ren, renL, lkp, Nat.reduceLT, Nat.reduceBEq, Nat.reduceEqDiff, reduceIte, and_true, true_and, Nat.not_lt_zero, if_false, if_true, Nat.add_zero, Nat.zero_add]; (try rw [wrap64 (by omega) (by omega)]); (first | done | (simp; done) | (simp [*]; done) | (simp; omega) | (and_intros <;> rfl))) (by simp only [canR, canB, renO, renL, ren, lkp, hget, Nat.reduceLT, Nat.reduceEqDiff, Nat.not_lt_zero, if_false, if_true, reduceIte, List.append_nil, List.nil_append]; (first | done | rfl)))
        · rw [List.take_succ_eq_append_getElem h1, List.take_succ_eq_append_getElem h2, ht]
          have h' : l[i] = m[i] := by
            simp only [Bool.and_eq_true, beq_iff_eq] at h
            cases hp : l[i]; cases hq : m[i]; simp_all
          rw [h']
      · have : ¬ l = m := by rintro rfl; simp at h
        simp [this]
    · simp only [List.length_map, Int.toNat_natCast, List.getElem?_map, push_cast, ↓ifB_true, ↓ifB_false, Nat.reduceBEq, Nat.reduceAdd, Nat.reduceSub, reduceCtorEq, Nat.reduceMul, Nat.reduceEqDiff, Nat.reduceLeDiff, reduceIte, Nat.reduceLT, Int.reduceLE, Int.reduceLT, Int.reduceToNat]
      refine ifB_intro (fun h => by simp at h; omega) (fun h => ?_)
      rw [List.take_of_length_le (by omega), List.take_of_length_le (by omega)] at ht
      simp [ht]
  · have : ¬ l = m := by rintro rfl; simp at h
    simp [this]
theorem t67 (l : List Int) (f : FuncId) (caps : List AV) (p : Int → Bool) (hl : l.length < 2^50) (hm : md0 f = false) (hc : allF caps = true)
    (hp : ∀ n ∈ l, Ev C f (.int .i64 n :: caps) (.bool (p n))) : Ev C 67 [.sl (ints l), .fn f caps] (.int .i64 (fidx p l)) := by
  have hr : renL 0 [] caps = caps := renL_F hc
  refine Ev.runT hC Try.func67 h67 nt67 r67 (by decide) (Nat.le_of_ble_eq_true rfl) (rfl) ?_
  simp only [c67, ints, List.length_map, push_cast, ↓ifB_true, ↓ifB_false, Nat.reduceBEq, Nat.reduceAdd, Nat.reduceSub, reduceCtorEq, Nat.reduceMul, Nat.reduceEqDiff, Nat.reduceLeDiff, reduceIte, Nat.reduceLT, Int.reduceLE, Int.reduceLT, Int.reduceToNat]
  refine RL_count (fun i => ⟨tb 19 .any [(0, .sl (l.map fun n => [.int .i64 n])), (1, .fn f caps), (7, .int .i64 (l.length : Int)), (8, .int .i64 (i : Int))], [], 0⟩) (fun i => ∀ j (h : j < l.length), j < i → p l[j] = false) l.length 0 (head_tb [] rfl (by simp only [keptV_cons, keptV_nil, tb_get, lk_same, lk_ne, lk_nil, ren, renL, lkp, Nat.reduceLT, Nat.reduceBEq, Nat.reduceEqDiff, reduceIte, and_true, true_and, Nat.not_lt_zero, if_false, if_true, Nat.add_zero, Nat.zero_add]; (try rw [wrap64 (by omega) (by omega)]); (first | done | (simp; done) | (simp [*]; done) | (simp; omega) | (and_intros <;> rfl))) (by simp only [canR, canB, renO, renL, ren, lkp, hget, Nat.reduceLT, Nat.reduceEqDiff, Nat.not_lt_zero, if_false, if_true, reduceIte, List.append_nil, List.nil_append]; (first | done | rfl))) (by omega) (by intro j h h'; omega) fun i hi' ht J hJ => ?_
  by_cases h1 : i < l.length
  · simp only [List.length_map, Int.toNat_natCast, List.getElem?_map, List.getElem?_eq_getElem h1, hm, frzAL_F hc, frzOkL_F hc, push_cast, ↓ifB_true, ↓ifB_false, Nat.reduceBEq, Nat.reduceAdd, Nat.reduceSub, reduceCtorEq, Nat.reduceMul, Nat.reduceEqDiff, Nat.reduceLeDiff, reduceIte, Nat.reduceLT, Int.reduceLE, Int.reduceLT, Int.reduceToNat]
    refine ifB_intro (fun _ => ⟨by omega, _, hp _ (List.getElem_mem h1), ?_⟩) (fun h => by simp at h; omega)
    simp only [push_cast, ↓ifB_true, ↓ifB_false, Nat.reduceBEq, Nat.reduceAdd, Nat.reduceSub, reduceCtorEq, Nat.reduceMul, Nat.reduceEqDiff, Nat.reduceLeDiff, reduceIte, Nat.reduceLT, Int.reduceLE, Int.reduceLT, Int.reduceToNat]
    refine ifB_intro (fun h => ?_) (fun h => ?_)
    · exact (fidx_at h1 h ht).symm
    · refine hJ h1 ?_ _ (head_tb [] rfl (by simp only [keptV_cons, keptV_nil, tb_get, lk_same, lk_ne, lk_nil, ren, renL, lkp, Nat.reduceLT, Nat.reduceBEq, Nat.reduceEqDiff, reduceIte, and_true, true_and, Nat.not_lt_zero, if_false, if_true, Nat.add_zero, Nat.zero_add]; (try rw [wrap64 (by omega) (by omega)]); (first | done | (simp; done) | (simp [*]; done) | (simp; omega) | (and_intros <;> rfl))) (by simp only [canR, canB, renO, renL, ren, lkp, hget, Nat.reduceLT, Nat.reduceEqDiff, Nat.not_lt_zero, if_false, if_true, reduceIte, List.append_nil, List.nil_append]; (first | done | rfl)))
      · intro j hj hji
        by_cases hij : j = i
        · subst hij; exact h
        · exact ht j hj (by omega)
  · simp only [List.length_map, Int.toNat_natCast, List.getElem?_map, hm, push_cast, ↓ifB_true, ↓ifB_false, Nat.reduceBEq, Nat.reduceAdd, Nat.reduceSub, reduceCtorEq, Nat.reduceMul, Nat.reduceEqDiff, Nat.reduceLeDiff, reduceIte, Nat.reduceLT, Int.reduceLE, Int.reduceLT, Int.reduceToNat]
    refine ifB_intro (fun h => by simp at h; omega) (fun h => ?_)
    exact (fidx_no fun j hj => ht j hj (by omega)).symm
theorem t38 (l : List Int) (f : FuncId) (caps : List AV) (p : Int → Bool) (hl : l.length < 2^50) (hm : md0 f = false) (hc : allF caps = true)
    (hp : ∀ n ∈ l, Ev C f (.int .i64 n :: caps) (.bool (p n))) : Ev C 38 [.sl (ints l), .fn f caps] (.bool (l.any p)) := by
  refine Ev.runT hC Try.func38 h38 nt38 r38 (by decide) (Nat.le_of_ble_eq_true rfl) (rfl) ?_
  simp only [c38, push_cast, ↓ifB_true, ↓ifB_false, Nat.reduceBEq, Nat.reduceAdd, Nat.reduceSub, reduceCtorEq, Nat.reduceMul, Nat.reduceEqDiff, Nat.reduceLeDiff, reduceIte, Nat.reduceLT, Int.reduceLE, Int.reduceLT, Int.reduceToNat]
  simp only [frzAL_F hc, frzOkL_F hc, push_cast, ↓ifB_true, ↓ifB_false, Nat.reduceBEq, Nat.reduceAdd, Nat.reduceSub, reduceCtorEq, Nat.reduceMul, Nat.reduceEqDiff, Nat.reduceLeDiff, reduceIte, Nat.reduceLT, Int.reduceLE, Int.reduceLT, Int.reduceToNat]
  refine ⟨_, t67 hC l f caps p hl hm hc hp, ?_⟩
  simp only [push_cast, ↓ifB_true, ↓ifB_false, Nat.reduceBEq, Nat.reduceAdd, Nat.reduceSub, reduceCtorEq, Nat.reduceMul, Nat.reduceEqDiff, Nat.reduceLeDiff, reduceIte, Nat.reduceLT, Int.reduceLE, Int.reduceLT, Int.reduceToNat]
  exact fidx_any p l
theorem t39 (n : Int) : Ev C 39 [.int .i64 n] (.bool (!inR 0 1000 n)) := by
  refine Ev.runT hC Try.func39 h39 nt39 r39 (by decide) (Nat.le_of_ble_eq_true rfl) (rfl) ?_
  simp only [c39, push_cast, ↓ifB_true, ↓ifB_false, Nat.reduceBEq, Nat.reduceAdd, Nat.reduceSub, reduceCtorEq, Nat.reduceMul, Nat.reduceEqDiff, Nat.reduceLeDiff, reduceIte, Nat.reduceLT, Int.reduceLE, Int.reduceLT, Int.reduceToNat]
  refine ⟨_, t36 hC _ _ _, ?_⟩
  simp only [push_cast, ↓ifB_true, ↓ifB_false, Nat.reduceBEq, Nat.reduceAdd, Nat.reduceSub, reduceCtorEq, Nat.reduceMul, Nat.reduceEqDiff, Nat.reduceLeDiff, reduceIte, Nat.reduceLT, Int.reduceLE, Int.reduceLT, Int.reduceToNat]
  rfl
end
end Go.Proofs.Ytnajmggefapeaaa.X
