import Derived.Test.YtlddjlchgibdfaaDoorXCBdV
set_option maxHeartbeats 4000000
set_option maxRecDepth 8000
set_option linter.unusedSimpArgs false
set_option linter.unusedVariables false
namespace Go.Proofs.YtlddjlchgibdfaaDoor.X
open Go
attribute [local irreducible] Ev
section
variable {C : CT} (hC : Closed Tryd.prog G1 md0 C)
include hC
theorem t162 (l : List Int) (lo hi : Int) (hl : l.length < 2^50) : Ev C 162 [.sl (ints l), .int .i64 lo, .int .i64 hi] (.bool (upto l.length (risP l lo hi))) := by
  refine Ev.runT hC Tryd.func162 h162 nt162 r162 (by decide) (Nat.le_of_ble_eq_true rfl) (rfl) ?_
  simp only [c162, ints_length, push_cast, ↓ifB_true, ↓ifB_false, Nat.reduceBEq, Nat.reduceAdd, Nat.reduceSub, reduceCtorEq, Nat.reduceMul, Nat.reduceEqDiff, Nat.reduceLeDiff, reduceIte, Nat.reduceLT, Int.reduceLE, Int.reduceLT, Int.reduceToNat]
  refine RL_count (fun i => ⟨tb 35 .any [(0, .sl (ints l)), (1, .int .i64 lo), (2, .int .i64 hi), (9, .sl (ints l)), (10, .int .i64 (l.length : Int)), (11, .int .i64 (i : Int))], [], 0⟩) (fun i => ∀ j, j < i → risP l lo hi j = true) l.length 0 (head_tb [] rfl (by simp only [keptV_cons, keptV_nil, tb_get, lk_same, lk_ne, lk_nil, ren, renL, lkp, Nat.reduceLT, Nat.reduceBEq, Nat.reduceEqDiff, reduceIte, and_true, true_and, Nat.not_lt_zero, if_false, if_true, Nat.add_zero, Nat.zero_add]; (try rw [wrap64 (by omega) (by omega)]); (first | done | (simp; done) | (simp [*]; done) | (simp; omega) | (and_intros <;> rfl))) (by simp only [canR, canB, renO, renL, ren, lkp, hget, Nat.reduceLT, Nat.reduceEqDiff, Nat.not_lt_zero, if_false, if_true, reduceIte, List.append_nil, List.nil_append]; (first | done | rfl))) (by omega) (by omega) fun i hi' ht J hJ => ?_
  by_cases h1 : i < l.length
  · have e1 : (ints l)[i]? = some [.int .i64 (l.getD i 0)] := cut_ints_get h1
    simp only [Int.toNat_natCast, e1, push_cast, ↓ifB_true, ↓ifB_false, Nat.reduceBEq, Nat.reduceAdd, Nat.reduceSub, reduceCtorEq, Nat.reduceMul, Nat.reduceEqDiff, Nat.reduceLeDiff, reduceIte, Nat.reduceLT, Int.reduceLE, Int.reduceLT, Int.reduceToNat]
    refine ifB_intro (fun _ => ?_) (fun h => by simp at h; omega)
    repeat (refine ⟨by omega, ?_⟩)
    refine ⟨_, t75 hC _ _ _, ?_⟩
    simp only [push_cast, ↓ifB_true, ↓ifB_false, Nat.reduceBEq, Nat.reduceAdd, Nat.reduceSub, reduceCtorEq, Nat.reduceMul, Nat.reduceEqDiff, Nat.reduceLeDiff, reduceIte, Nat.reduceLT, Int.reduceLE, Int.reduceLT, Int.reduceToNat]
    have go : risP l lo hi i = true → ∀ s, Head 0 s ⟨tb 35 .any [(0, .sl (ints l)), (1, .int .i64 lo), (2, .int .i64 hi), (9, .sl (ints l)), (10, .int .i64 (l.length : Int)), (11, .int .i64 ((i + 1 : Nat) : Int))], [], 0⟩ → J s := fun hp => hJ h1 (by
      intro j hj
      by_cases h : j = i
      · subst h; exact hp
      · exact ht j (by omega))
    refine ifB_intro (fun h => ?_) (fun h => ?_)
    · refine ifB_intro (fun h2 => ?_) (fun h2 => ?_)
      · have hi0 : 0 < i := by simp at h2; omega
        have z : IntKind.i64.wrap ((i : Int) - 1) = ((i - 1 : Nat) : Int) := by rw [wrap64 (by omega) (by omega)]; omega
        have e2 : (ints l)[i - 1]? = some [.int .i64 (l.getD (i - 1) 0)] := cut_ints_get (by omega)
        simp only [z, Int.toNat_natCast, e2, push_cast, ↓ifB_true, ↓ifB_false, Nat.reduceBEq, Nat.reduceAdd, Nat.reduceSub, reduceCtorEq, Nat.reduceMul, Nat.reduceEqDiff, Nat.reduceLeDiff, reduceIte, Nat.reduceLT, Int.reduceLE, Int.reduceLT, Int.reduceToNat]
        repeat (refine ⟨by omega, ?_⟩)
        refine ifB_intro (fun h3 => ?_) (fun h3 => ?_)
        · rw [upto_no h1]
          have : ¬ l.getD (i - 1) 0 < l.getD i 0 := by simp only [decide_eq_true_eq] at h3; omega
          simp only [risP, this, decide_false, Bool.or_false, show ¬ i = 0 by omega, Bool.and_false]
        · refine go ?_ _ (head_tb [] rfl (by simp only [keptV_cons, keptV_nil, tb_get, lk_same, lk_ne, lk_nil, ren, renL, lkp, Nat.reduceLT, Nat.reduceBEq, Nat.reduceEqDiff, reduceIte, and_true, true_and, Nat.not_lt_zero, if_false, if_true, Nat.add_zero, Nat.zero_add]; (try rw [wrap64 (by omega) (by omega)]); (first | done | (simp; done) | (simp [*]; done) | (simp; omega) | (and_intros <;> rfl))) (by simp only [canR, canB, renO, renL, ren, lkp, hget, Nat.reduceLT, Nat.reduceEqDiff, Nat.not_lt_zero, if_false, if_true, reduceIte, List.append_nil, List.nil_append]; (first | done | rfl)))
          have : l.getD (i - 1) 0 < l.getD i 0 := by simp only [decide_eq_false_iff_not] at h3; omega
          simp only [risP, inR, h, this, decide_true, Bool.or_true, Bool.and_true]
      · refine go ?_ _ (head_tb [] rfl (by simp only [keptV_cons, keptV_nil, tb_get, lk_same, lk_ne, lk_nil, ren, renL, lkp, Nat.reduceLT, Nat.reduceBEq, Nat.reduceEqDiff, reduceIte, and_true, true_and, Nat.not_lt_zero, if_false, if_true, Nat.add_zero, Nat.zero_add]; (try rw [wrap64 (by omega) (by omega)]); (first | done | (simp; done) | (simp [*]; done) | (simp; omega) | (and_intros <;> rfl))) (by simp only [canR, canB, renO, renL, ren, lkp, hget, Nat.reduceLT, Nat.reduceEqDiff, Nat.not_lt_zero, if_false, if_true, reduceIte, List.append_nil, List.nil_append]; (first | done | rfl)))
        have : i = 0 := by simp at h2; omega
        simp only [risP, inR, h, this, decide_true, Bool.true_or, Bool.and_true]
        subst this; simpa using h
    · rw [upto_no h1]
      simp only [risP, inR, h, Bool.false_and]
  · obtain rfl : i = l.length := by omega
    simp only [push_cast, ↓ifB_true, ↓ifB_false, Nat.reduceBEq, Nat.reduceAdd, Nat.reduceSub, reduceCtorEq, Nat.reduceMul, Nat.reduceEqDiff, Nat.reduceLeDiff, reduceIte, Nat.reduceLT, Int.reduceLE, Int.reduceLT, Int.reduceToNat]
    refine ifB_intro (fun h => by simp at h) (fun h => ?_)
    exact (upto_yes ht).symm
theorem t135 (l : List Int) (hl : l.length < 2^50) : Ev C 135 [.sl (ints l)] (.bool (upto (l.length - 1) (incP l))) := by
  refine Ev.runT hC Tryd.func135 h135 nt135 r135 (by decide) (Nat.le_of_ble_eq_true rfl) (rfl) ?_
  simp only [c135, ints_length, push_cast, ↓ifB_true, ↓ifB_false, Nat.reduceBEq, Nat.reduceAdd, Nat.reduceSub, reduceCtorEq, Nat.reduceMul, Nat.reduceEqDiff, Nat.reduceLeDiff, reduceIte, Nat.reduceLT, Int.reduceLE, Int.reduceLT, Int.reduceToNat]
  refine RL_count (fun i => ⟨tb 20 .any [(0, .sl (ints l)), (3, .int .i64 ((i : Int) + 1))], [], 0⟩) (fun i => ∀ j, j < i → incP l j = true) (l.length - 1) 0 (head_tb [] rfl (by simp only [keptV_cons, keptV_nil, tb_get, lk_same, lk_ne, lk_nil, ren, renL, lkp, Nat.reduceLT, Nat.reduceBEq, Nat.reduceEqDiff, reduceIte, and_true, true_and, Nat.not_lt_zero, if_false, if_true, Nat.add_zero, Nat.zero_add]; (try rw [wrap64 (by omega) (by omega)]); (first | done | (simp; done) | (simp [*]; done) | (simp; omega) | (and_intros <;> rfl))) (by simp only [canR, canB, renO, renL, ren, lkp, hget, Nat.reduceLT, Nat.reduceEqDiff, Nat.not_lt_zero, if_false, if_true, reduceIte, List.append_nil, List.nil_append]; (first | done | rfl))) (by omega) (by omega) fun i hi' ht J hJ => ?_
  by_cases h1 : i < l.length - 1
  · have e1 : (ints l)[i]? = some [.int .i64 (l.getD i 0)] := cut_ints_get (by omega)
    have e2 : (ints l)[i + 1]? = some [.int .i64 (l.getD (i + 1) 0)] := cut_ints_get (by omega)
    have z1 : IntKind.i64.wrap ((i : Int) + 1 - 1) = i := by rw [wrap64 (by omega) (by omega)]; omega
    have z2 : ((i : Int) + 1).toNat = i + 1 := by omega
    simp only [Int.toNat_natCast, z1, z2, e1, e2, ints_length, push_cast, ↓ifB_true, ↓ifB_false, Nat.reduceBEq, Nat.reduceAdd, Nat.reduceSub, reduceCtorEq, Nat.reduceMul, Nat.reduceEqDiff, Nat.reduceLeDiff, reduceIte, Nat.reduceLT, Int.reduceLE, Int.reduceLT, Int.reduceToNat]
    refine ifB_intro (fun _ => ?_) (fun h => by simp at h; omega)
    repeat (refine ⟨by omega, ?_⟩)
    refine ifB_intro (fun h3 => ?_) (fun h3 => ?_)
    · rw [upto_no h1]
      have : ¬ l.getD i 0 < l.getD (i + 1) 0 := by simp only [decide_eq_true_eq] at h3; omega
      simp only [incP, this, decide_false]
    · refine hJ h1 ?_ _ (head_tb [] rfl ?_ (by simp only [canR, canB, renO, renL, ren, lkp, hget, Nat.reduceLT, Nat.reduceEqDiff, Nat.not_lt_zero, if_false, if_true, reduceIte, List.append_nil, List.nil_append]; (first | done | rfl)))
      · intro j hj
        by_cases h : j = i
        · subst h
          simp only [decide_eq_false_iff_not] at h3
          exact decide_eq_true (by omega)
        · exact ht j (by omega)
      · simp only [keptV_cons, keptV_nil, tb_get, lk_same, lk_ne, lk_nil, ren, renL, lkp, Nat.reduceLT, Nat.reduceBEq, Nat.reduceEqDiff, reduceIte, and_true, true_and, Nat.not_lt_zero, if_false, if_true, Nat.add_zero, Nat.zero_add]
        rw [wrap64 (n := (i : Int) + 1 + 1) (by omega) (by omega)]
        simp
  · obtain rfl : i = l.length - 1 := by omega
    simp only [ints_length, push_cast, ↓ifB_true, ↓ifB_false, Nat.reduceBEq, Nat.reduceAdd, Nat.reduceSub, reduceCtorEq, Nat.reduceMul, Nat.reduceEqDiff, Nat.reduceLeDiff, reduceIte, Nat.reduceLT, Int.reduceLE, Int.reduceLT, Int.reduceToNat]
    refine ifB_intro (fun h => by simp at h; omega) (fun h => ?_)
    exact (upto_yes ht).symm
omit hC in
theorem wh_le {a b : Int} (ha : 1 ≤ a ∧ a ≤ 10) (hb : 1 ≤ b ∧ b ≤ 10) : 1 ≤ a * b ∧ a * b ≤ 100 := ⟨by
  have := Int.mul_le_mul ha.1 hb.1 (by omega) (by omega); omega, by
  have := Int.mul_le_mul ha.2 hb.2 (by omega) (by omega); omega⟩
theorem t107 (m : Mp) (hw : 1 ≤ m.w ∧ m.w ≤ 10) (hh : 1 ≤ m.h ∧ m.h ≤ 10) : Ev C 107 [.agg (mpF m)] (.int .i64 (m.w * m.h)) := by
  have := wh_le hw hh
  simp only [mpF]
  refine Ev.runT hC Tryd.func107 h107 nt107 r107 (by decide) (Nat.le_of_ble_eq_true rfl) (rfl) ?_
  simp only [c107, push_cast, ↓ifB_true, ↓ifB_false, Nat.reduceBEq, Nat.reduceAdd, Nat.reduceSub, reduceCtorEq, Nat.reduceMul, Nat.reduceEqDiff, Nat.reduceLeDiff, reduceIte, Nat.reduceLT, Int.reduceLE, Int.reduceLT, Int.reduceToNat]
  rw [wrap64 (by omega) (by omega)]
omit hC in
theorem hex_bnd {w i : Int} (hw : 1 ≤ w ∧ w ≤ 10) (hi : 0 ≤ i ∧ i < 300) : (0 ≤ i.tmod w ∧ i.tmod w < 10) ∧ 0 ≤ i.tdiv w ∧ i.tdiv w ≤ 300 := by
  have h1 := Int.tmod_lt_of_pos i (show (0 : Int) < w by omega)
  have h2 := Int.tmod_nonneg w hi.1
  have h3 := Int.tdiv_nonneg hi.1 (show (0 : Int) ≤ w by omega)
  have h4 := Int.tdiv_le_self (b := w) hi.1
  omega
theorem t186 (m : Mp) (i : Int) (hw : 1 ≤ m.w ∧ m.w ≤ 10) (hh : 1 ≤ m.h ∧ m.h ≤ 10) (hi : 0 ≤ i ∧ i < 300) : Ev C 186 [.agg (mpF m), .int .i64 i] (.agg [.int .i64 (i.tmod m.w), .int .i64 (i.tdiv m.w)]) := by
  have hb := hex_bnd hw hi
  simp only [mpF]
  refine Ev.runT hC Tryd.func186 h186 nt186 r186 (by decide) (Nat.le_of_ble_eq_true rfl) (rfl) ?_
  simp only [c186, push_cast, ↓ifB_true, ↓ifB_false, Nat.reduceBEq, Nat.reduceAdd, Nat.reduceSub, reduceCtorEq, Nat.reduceMul, Nat.reduceEqDiff, Nat.reduceLeDiff, reduceIte, Nat.reduceLT, Int.reduceLE, Int.reduceLT, Int.reduceToNat]
  rw [wrap64 (by omega) (by omega)]
  refine ⟨by omega, by omega, ?_⟩
  exact RetTo_of (by simp only [conR, conRL, isF, hget, hdel, List.drop_zero, List.take_length, if_true, if_false, reduceIte, Nat.reduceEqDiff, reduceCtorEq]; rfl)
omit hC in
theorem dq_bnd (d : Nat) : -1 ≤ dq d ∧ dq d ≤ 1 := by
  unfold dq; match d with
  | 0 | 1 | 2 | 3 | 4 | 5 => decide
  | d + 6 => simp
omit hC in
theorem dr_bnd (d : Nat) : -1 ≤ dr d ∧ dr d ≤ 1 := by
  unfold dr; match d with
  | 0 | 1 | 2 | 3 | 4 | 5 => decide
  | d + 6 => simp
theorem t185 (q r d : Int) (hq : -1000 ≤ q ∧ q ≤ 1000) (hr : -1000 ≤ r ∧ r ≤ 1000) (hd : 0 ≤ d ∧ d < 6) : Ev C 185 [.agg [.int .i64 q, .int .i64 r], .int .i64 d] (.agg [.int .i64 (q + dq d.toNat), .int .i64 (r + dr d.toNat)]) := by
  have b1 := dq_bnd d.toNat
  have b2 := dr_bnd d.toNat
  obtain ⟨k, rfl⟩ : ∃ k : Nat, d = k := ⟨d.toNat, by omega⟩
  simp only [Int.toNat_natCast] at *
  have e1 : ([[AV.int .i64 1], [AV.int .i64 1], [AV.int .i64 0], [AV.int .i64 (-1)], [AV.int .i64 (-1)], [AV.int .i64 0]] : List (List AV))[k]? = some [.int .i64 (dq k)] := by
    have : k = 0 ∨ k = 1 ∨ k = 2 ∨ k = 3 ∨ k = 4 ∨ k = 5 := by omega
    rcases this with rfl | rfl | rfl | rfl | rfl | rfl <;> rfl
  have e2 : ([[AV.int .i64 0], [AV.int .i64 (-1)], [AV.int .i64 (-1)], [AV.int .i64 0], [AV.int .i64 1], [AV.int .i64 1]] : List (List AV))[k]? = some [.int .i64 (dr k)] := by
    have : k = 0 ∨ k = 1 ∨ k = 2 ∨ k = 3 ∨ k = 4 ∨ k = 5 := by omega
    rcases this with rfl | rfl | rfl | rfl | rfl | rfl <;> rfl
  refine Ev.runT hC Tryd.func185 h185 nt185 r185 (by decide) (Nat.le_of_ble_eq_true rfl) (rfl) ?_
  simp only [c185, push_cast, ↓ifB_true, ↓ifB_false, Nat.reduceBEq, Nat.reduceAdd, Nat.reduceSub, reduceCtorEq, Nat.reduceMul, Nat.reduceEqDiff, Nat.reduceLeDiff, reduceIte, Nat.reduceLT, Int.reduceLE, Int.reduceLT, Int.reduceToNat]
  simp only [Int.toNat_natCast, e1, e2, wrap64 (n := q + dq k) (by omega) (by omega), wrap64 (n := r + dr k) (by omega) (by omega), push_cast, ↓ifB_true, ↓ifB_false, Nat.reduceBEq, Nat.reduceAdd, Nat.reduceSub, reduceCtorEq, Nat.reduceMul, Nat.reduceEqDiff, Nat.reduceLeDiff, reduceIte, Nat.reduceLT, Int.reduceLE, Int.reduceLT, Int.reduceToNat]
  refine ⟨⟨by omega, by omega, by omega, by omega, ?_⟩, by omega, by omega, by omega, by omega, ?_⟩ <;> exact RetTo_of (by simp only [conR, conRL, isF, hget, hdel, List.drop_zero, List.take_length, if_true, if_false, reduceIte, Nat.reduceEqDiff, reduceCtorEq]; rfl)
theorem t184 (m : Mp) (q r : Int) (hw : 1 ≤ m.w ∧ m.w ≤ 10) (hh : 1 ≤ m.h ∧ m.h ≤ 10) (hq : -1000 ≤ q ∧ q ≤ 1000) (hr : -1000 ≤ r ∧ r ≤ 1000) : Ev C 184 [.agg (mpF m), .agg [.int .i64 q, .int .i64 r]] (.int .i64 (if inR 0 (m.w - 1) q && inR 0 (m.h - 1) r then r * m.w + q else -1)) := by
  simp only [mpF]
  refine Ev.runT hC Tryd.func184 h184 nt184 r184 (by decide) (Nat.le_of_ble_eq_true rfl) (rfl) ?_
  simp only [c184, push_cast, ↓ifB_true, ↓ifB_false, Nat.reduceBEq, Nat.reduceAdd, Nat.reduceSub, reduceCtorEq, Nat.reduceMul, Nat.reduceEqDiff, Nat.reduceLeDiff, reduceIte, Nat.reduceLT, Int.reduceLE, Int.reduceLT, Int.reduceToNat]
  rw [wrap64 (n := m.w - 1) (by omega) (by omega)]
  refine ⟨_, tIn hC _ _ _, ?_⟩
  cases g1 : inR 0 (m.w - 1) q
  · simp only [push_cast, ↓ifB_true, ↓ifB_false, Nat.reduceBEq, Nat.reduceAdd, Nat.reduceSub, reduceCtorEq, Nat.reduceMul, Nat.reduceEqDiff, Nat.reduceLeDiff, reduceIte, Nat.reduceLT, Int.reduceLE, Int.reduceLT, Int.reduceToNat]
  · simp only [push_cast, ↓ifB_true, ↓ifB_false, Nat.reduceBEq, Nat.reduceAdd, Nat.reduceSub, reduceCtorEq, Nat.reduceMul, Nat.reduceEqDiff, Nat.reduceLeDiff, reduceIte, Nat.reduceLT, Int.reduceLE, Int.reduceLT, Int.reduceToNat]
    rw [wrap64 (n := m.h - 1) (by omega) (by omega)]
    refine ⟨_, tIn hC _ _ _, ?_⟩
    cases g2 : inR 0 (m.h - 1) r
    · simp only [push_cast, ↓ifB_true, ↓ifB_false, Nat.reduceBEq, Nat.reduceAdd, Nat.reduceSub, reduceCtorEq, Nat.reduceMul, Nat.reduceEqDiff, Nat.reduceLeDiff, reduceIte, Nat.reduceLT, Int.reduceLE, Int.reduceLT, Int.reduceToNat]
    · simp only [inR, Bool.and_eq_true, decide_eq_true_eq] at g1 g2
      have hm : 0 ≤ r * m.w ∧ r * m.w ≤ 100 := ⟨Int.mul_nonneg (by omega) (by omega), by
        have := Int.mul_le_mul (show r ≤ 10 by omega) hw.2 (by omega) (by omega); omega⟩
      simp only [push_cast, ↓ifB_true, ↓ifB_false, Nat.reduceBEq, Nat.reduceAdd, Nat.reduceSub, reduceCtorEq, Nat.reduceMul, Nat.reduceEqDiff, Nat.reduceLeDiff, reduceIte, Nat.reduceLT, Int.reduceLE, Int.reduceLT, Int.reduceToNat]
      rw [wrap64 (n := r * m.w) (by omega) (by omega), wrap64 (by omega) (by omega)]
theorem t170 (m : Mp) (i d : Int) (hw : 1 ≤ m.w ∧ m.w ≤ 10) (hh : 1 ≤ m.h ∧ m.h ≤ 10) (hi : 0 ≤ i ∧ i < 300) (hd : 0 ≤ d ∧ d < 6) : Ev C 170 [.agg (mpF m), .int .i64 i, .int .i64 d] (.int .i64 (nextM m i d)) := by
  have hb := hex_bnd hw hi
  have b1 := dq_bnd d.toNat
  have b2 := dr_bnd d.toNat
  have c1 := t186 hC m i hw hh hi
  have c2 := t185 hC (i.tmod m.w) (i.tdiv m.w) d (by omega) (by omega) hd
  have c3 := t184 hC m (i.tmod m.w + dq d.toNat) (i.tdiv m.w + dr d.toNat) hw hh (by omega) (by omega)
  simp only [mpF] at *
  refine Ev.runT hC Tryd.func170 h170 nt170 r170 (by decide) (Nat.le_of_ble_eq_true rfl) (rfl) ?_
  simp only [c170, push_cast, ↓ifB_true, ↓ifB_false, Nat.reduceBEq, Nat.reduceAdd, Nat.reduceSub, reduceCtorEq, Nat.reduceMul, Nat.reduceEqDiff, Nat.reduceLeDiff, reduceIte, Nat.reduceLT, Int.reduceLE, Int.reduceLT, Int.reduceToNat]
  refine ⟨_, c1, ?_⟩
  simp only [push_cast, ↓ifB_true, ↓ifB_false, Nat.reduceBEq, Nat.reduceAdd, Nat.reduceSub, reduceCtorEq, Nat.reduceMul, Nat.reduceEqDiff, Nat.reduceLeDiff, reduceIte, Nat.reduceLT, Int.reduceLE, Int.reduceLT, Int.reduceToNat]
  refine ⟨_, c2, ?_⟩
  simp only [push_cast, ↓ifB_true, ↓ifB_false, Nat.reduceBEq, Nat.reduceAdd, Nat.reduceSub, reduceCtorEq, Nat.reduceMul, Nat.reduceEqDiff, Nat.reduceLeDiff, reduceIte, Nat.reduceLT, Int.reduceLE, Int.reduceLT, Int.reduceToNat]
  refine ⟨_, c3, ?_⟩
  simp only [push_cast, ↓ifB_true, ↓ifB_false, Nat.reduceBEq, Nat.reduceAdd, Nat.reduceSub, reduceCtorEq, Nat.reduceMul, Nat.reduceEqDiff, Nat.reduceLeDiff, reduceIte, Nat.reduceLT, Int.reduceLE, Int.reduceLT, Int.reduceToNat]
  rfl
omit hC in
theorem e3_bnd {e : Int} (he : 0 ≤ e ∧ e < 300) : (0 ≤ e.tdiv 3 ∧ e.tdiv 3 < 300) ∧ 0 ≤ e.tmod 3 ∧ e.tmod 3 < 6 := by
  have h1 := Int.tmod_lt_of_pos e (show (0 : Int) < 3 by omega)
  have h2 := Int.tmod_nonneg 3 he.1
  have h3 := Int.tdiv_nonneg he.1 (show (0 : Int) ≤ 3 by omega)
  have h4 := Int.tdiv_le_self (b := 3) he.1
  omega
theorem t151 (m : Mp) (l : List Int) (hw : 1 ≤ m.w ∧ m.w ≤ 10) (hh : 1 ≤ m.h ∧ m.h ≤ 10) (hl : l.length < 2^50) : Ev C 151 [.agg (mpF m), .sl (ints l)] (.bool (edgesOk m l)) := by
  have hwh := wh_le hw hh
  have c1 := t107 hC m hw hh
  have c2 := fun i d hi hd => t170 hC m i d hw hh hi hd
  simp only [mpF] at *
  refine Ev.runT hC Tryd.func151 h151 nt151 r151 (by decide) (Nat.le_of_ble_eq_true rfl) (rfl) ?_
  simp only [c151, ints_length, push_cast, ↓ifB_true, ↓ifB_false, Nat.reduceBEq, Nat.reduceAdd, Nat.reduceSub, reduceCtorEq, Nat.reduceMul, Nat.reduceEqDiff, Nat.reduceLeDiff, reduceIte, Nat.reduceLT, Int.reduceLE, Int.reduceLT, Int.reduceToNat]
  refine RL_count (fun i => ⟨tb 36 .any [(1, .sl (ints l)), (2, .ptr 0 none 0 0 0), (7, .sl (ints l)), (8, .int .i64 (l.length : Int)), (9, .int .i64 (i : Int))], [(0, .var (mpF m))], 1⟩) (fun i => l.all (edgeOk m) = (l.drop i).all (edgeOk m)) l.length 0 (head_tb [(0, 0)] rfl (by simp only [keptV_cons, keptV_nil, tb_get, lk_same, lk_ne, lk_nil, ren, renL, lkp, Nat.reduceLT, Nat.reduceBEq, Nat.reduceEqDiff, reduceIte, and_true, true_and, Nat.not_lt_zero, if_false, if_true, Nat.add_zero, Nat.zero_add]; (try rw [wrap64 (by omega) (by omega)]); (first | done | (simp; done) | (simp [*]; done) | (simp; omega) | (and_intros <;> rfl))) (by simp only [canR, canB, renO, renL, ren, lkp, hget, Nat.reduceLT, Nat.reduceEqDiff, Nat.not_lt_zero, if_false, if_true, reduceIte, List.append_nil, List.nil_append]; (first | done | rfl))) (by omega) rfl fun i hi' ht J hJ => ?_
  simp only [mpF]
  by_cases h1 : i < l.length
  · have e1 : (ints l)[i]? = some [.int .i64 l[i]] := by simp [ints, h1]
    rw [List.drop_eq_getElem_cons h1, List.all_cons] at ht
    simp only [Int.toNat_natCast, e1, push_cast, ↓ifB_true, ↓ifB_false, Nat.reduceBEq, Nat.reduceAdd, Nat.reduceSub, reduceCtorEq, Nat.reduceMul, Nat.reduceEqDiff, Nat.reduceLeDiff, reduceIte, Nat.reduceLT, Int.reduceLE, Int.reduceLT, Int.reduceToNat]
    generalize l[i] = e at *
    refine ifB_intro (fun _ => ?_) (fun h => by simp at h; omega)
    repeat (refine ⟨by omega, ?_⟩)
    refine ⟨_, c1, ?_⟩
    simp only [push_cast, ↓ifB_true, ↓ifB_false, Nat.reduceBEq, Nat.reduceAdd, Nat.reduceSub, reduceCtorEq, Nat.reduceMul, Nat.reduceEqDiff, Nat.reduceLeDiff, reduceIte, Nat.reduceLT, Int.reduceLE, Int.reduceLT, Int.reduceToNat]
    rw [wrap64 (n := 3 * (m.w * m.h)) (by omega) (by omega), wrap64 (n := 3 * (m.w * m.h) - 1) (by omega) (by omega)]
    refine ⟨_, tIn hC _ _ _, ?_⟩
    cases g1 : inR 0 (3 * (m.w * m.h) - 1) e
    · simp only [push_cast, ↓ifB_true, ↓ifB_false, Nat.reduceBEq, Nat.reduceAdd, Nat.reduceSub, reduceCtorEq, Nat.reduceMul, Nat.reduceEqDiff, Nat.reduceLeDiff, reduceIte, Nat.reduceLT, Int.reduceLE, Int.reduceLT, Int.reduceToNat]
      simp only [edgesOk, ht, edgeOk, g1, Bool.false_and]
    · have he := g1
      simp only [inR, Bool.and_eq_true, decide_eq_true_eq] at he
      have hb := e3_bnd (e := e) (by omega)
      simp only [wrap64 (n := e.tdiv 3) (by omega) (by omega), push_cast, ↓ifB_true, ↓ifB_false, Nat.reduceBEq, Nat.reduceAdd, Nat.reduceSub, reduceCtorEq, Nat.reduceMul, Nat.reduceEqDiff, Nat.reduceLeDiff, reduceIte, Nat.reduceLT, Int.reduceLE, Int.reduceLT, Int.reduceToNat]
      repeat (refine ⟨by omega, ?_⟩)
      refine ⟨_, c2 _ _ hb.1 hb.2, ?_⟩
      simp only [push_cast, ↓ifB_true, ↓ifB_false, Nat.reduceBEq, Nat.reduceAdd, Nat.reduceSub, reduceCtorEq, Nat.reduceMul, Nat.reduceEqDiff, Nat.reduceLeDiff, reduceIte, Nat.reduceLT, Int.reduceLE, Int.reduceLT, Int.reduceToNat]
      refine ifB_intro (fun h => ?_) (fun h => ?_)
      · simp only [edgesOk, ht, edgeOk, g1, h, Bool.false_and, Bool.and_false, Bool.not_true]
      · refine hJ h1 ?_ _ (head_tb [(0, 0)] rfl (by simp only [keptV_cons, keptV_nil, tb_get, lk_same, lk_ne, lk_nil, ren, renL, lkp, Nat.reduceLT, Nat.reduceBEq, Nat.reduceEqDiff, reduceIte, and_true, true_and, Nat.not_lt_zero, if_false, if_true, Nat.add_zero, Nat.zero_add]; (try rw [wrap64 (by omega) (by omega)]); (first | done | (simp; done) | (simp [*]; done) | (simp; omega) | (and_intros <;> rfl))) (by simp only [canR, canB, renO, renL, ren, lkp, hget, Nat.reduceLT, Nat.reduceEqDiff, Nat.not_lt_zero, if_false, if_true, reduceIte, List.append_nil, List.nil_append]; (first | done | rfl)))
        rw [ht]; simp only [edgeOk, g1, h, Bool.true_and, Bool.and_self, Bool.not_false]
  · simp only [push_cast, ↓ifB_true, ↓ifB_false, Nat.reduceBEq, Nat.reduceAdd, Nat.reduceSub, reduceCtorEq, Nat.reduceMul, Nat.reduceEqDiff, Nat.reduceLeDiff, reduceIte, Nat.reduceLT, Int.reduceLE, Int.reduceLT, Int.reduceToNat]
    refine ifB_intro (fun h => by simp at h; omega) (fun h => ?_)
    refine ⟨_, c1, ?_⟩
    simp only [push_cast, ↓ifB_true, ↓ifB_false, Nat.reduceBEq, Nat.reduceAdd, Nat.reduceSub, reduceCtorEq, Nat.reduceMul, Nat.reduceEqDiff, Nat.reduceLeDiff, reduceIte, Nat.reduceLT, Int.reduceLE, Int.reduceLT, Int.reduceToNat]
    rw [wrap64 (n := 3 * (m.w * m.h)) (by omega) (by omega), wrap64 (n := 3 * (m.w * m.h) - 1) (by omega) (by omega)]
    refine ⟨_, t162 hC l _ _ hl, ?_⟩
    simp only [push_cast, ↓ifB_true, ↓ifB_false, Nat.reduceBEq, Nat.reduceAdd, Nat.reduceSub, reduceCtorEq, Nat.reduceMul, Nat.reduceEqDiff, Nat.reduceLeDiff, reduceIte, Nat.reduceLT, Int.reduceLE, Int.reduceLT, Int.reduceToNat]
    rw [edgesOk, ht, List.drop_eq_nil_of_le (by omega)]
    rfl
theorem t113 (m : Mp) (hb : MpB (2^50) m) : Ev C 113 [.agg (mpF m)] (.bool (mpOk m)) := by
  have b1 := hb.t
  have b2 := hb.ri
  have b3 := hb.ro
  have c1 := t107 hC m
  have c2 := fun l => t151 hC m l
  simp only [mpF, mpOk] at *
  refine Ev.runT hC Tryd.func113 h113 nt113 r113 (by decide) (Nat.le_of_ble_eq_true rfl) (rfl) ?_
  simp only [c113, ints_length, push_cast, ↓ifB_true, ↓ifB_false, Nat.reduceBEq, Nat.reduceAdd, Nat.reduceSub, reduceCtorEq, Nat.reduceMul, Nat.reduceEqDiff, Nat.reduceLeDiff, reduceIte, Nat.reduceLT, Int.reduceLE, Int.reduceLT, Int.reduceToNat]
  refine ⟨_, tIn hC _ _ _, ?_⟩
  cases g1 : inR 1 10 m.w
  · simp only [push_cast, ↓ifB_true, ↓ifB_false, Nat.reduceBEq, Nat.reduceAdd, Nat.reduceSub, reduceCtorEq, Nat.reduceMul, Nat.reduceEqDiff, Nat.reduceLeDiff, reduceIte, Nat.reduceLT, Int.reduceLE, Int.reduceLT, Int.reduceToNat]
  · simp only [push_cast, ↓ifB_true, ↓ifB_false, Nat.reduceBEq, Nat.reduceAdd, Nat.reduceSub, reduceCtorEq, Nat.reduceMul, Nat.reduceEqDiff, Nat.reduceLeDiff, reduceIte, Nat.reduceLT, Int.reduceLE, Int.reduceLT, Int.reduceToNat]
    refine ⟨_, tIn hC _ _ _, ?_⟩
    cases g2 : inR 1 10 m.h
    · simp only [push_cast, ↓ifB_true, ↓ifB_false, Nat.reduceBEq, Nat.reduceAdd, Nat.reduceSub, reduceCtorEq, Nat.reduceMul, Nat.reduceEqDiff, Nat.reduceLeDiff, reduceIte, Nat.reduceLT, Int.reduceLE, Int.reduceLT, Int.reduceToNat]
    · simp only [inR, Bool.and_eq_true, decide_eq_true_eq] at g1 g2
      simp only [ints_length, push_cast, ↓ifB_true, ↓ifB_false, Nat.reduceBEq, Nat.reduceAdd, Nat.reduceSub, reduceCtorEq, Nat.reduceMul, Nat.reduceEqDiff, Nat.reduceLeDiff, reduceIte, Nat.reduceLT, Int.reduceLE, Int.reduceLT, Int.reduceToNat]
      refine ⟨_, c1 g1 g2, ?_⟩
      simp only [push_cast, ↓ifB_true, ↓ifB_false, Nat.reduceBEq, Nat.reduceAdd, Nat.reduceSub, reduceCtorEq, Nat.reduceMul, Nat.reduceEqDiff, Nat.reduceLeDiff, reduceIte, Nat.reduceLT, Int.reduceLE, Int.reduceLT, Int.reduceToNat]
      cases g3 : decide ((m.t.length : Int) = m.w * m.h)
      · simp only [push_cast, ↓ifB_true, ↓ifB_false, Nat.reduceBEq, Nat.reduceAdd, Nat.reduceSub, reduceCtorEq, Nat.reduceMul, Nat.reduceEqDiff, Nat.reduceLeDiff, reduceIte, Nat.reduceLT, Int.reduceLE, Int.reduceLT, Int.reduceToNat]
      · simp only [push_cast, ↓ifB_true, ↓ifB_false, Nat.reduceBEq, Nat.reduceAdd, Nat.reduceSub, reduceCtorEq, Nat.reduceMul, Nat.reduceEqDiff, Nat.reduceLeDiff, reduceIte, Nat.reduceLT, Int.reduceLE, Int.reduceLT, Int.reduceToNat]
        refine ⟨_, t98 hC _ _ _ b1, ?_⟩
        cases g4 : m.t.all (inR 0 5)
        · simp only [push_cast, ↓ifB_true, ↓ifB_false, Nat.reduceBEq, Nat.reduceAdd, Nat.reduceSub, reduceCtorEq, Nat.reduceMul, Nat.reduceEqDiff, Nat.reduceLeDiff, reduceIte, Nat.reduceLT, Int.reduceLE, Int.reduceLT, Int.reduceToNat]
        · simp only [push_cast, ↓ifB_true, ↓ifB_false, Nat.reduceBEq, Nat.reduceAdd, Nat.reduceSub, reduceCtorEq, Nat.reduceMul, Nat.reduceEqDiff, Nat.reduceLeDiff, reduceIte, Nat.reduceLT, Int.reduceLE, Int.reduceLT, Int.reduceToNat]
          refine ⟨_, c2 m.ri g1 g2 b2, ?_⟩
          cases g5 : edgesOk m m.ri
          · simp only [push_cast, ↓ifB_true, ↓ifB_false, Nat.reduceBEq, Nat.reduceAdd, Nat.reduceSub, reduceCtorEq, Nat.reduceMul, Nat.reduceEqDiff, Nat.reduceLeDiff, reduceIte, Nat.reduceLT, Int.reduceLE, Int.reduceLT, Int.reduceToNat]
          · simp only [push_cast, ↓ifB_true, ↓ifB_false, Nat.reduceBEq, Nat.reduceAdd, Nat.reduceSub, reduceCtorEq, Nat.reduceMul, Nat.reduceEqDiff, Nat.reduceLeDiff, reduceIte, Nat.reduceLT, Int.reduceLE, Int.reduceLT, Int.reduceToNat]
            refine ⟨_, c2 m.ro g1 g2 b3, ?_⟩
            simp only [push_cast, ↓ifB_true, ↓ifB_false, Nat.reduceBEq, Nat.reduceAdd, Nat.reduceSub, reduceCtorEq, Nat.reduceMul, Nat.reduceEqDiff, Nat.reduceLeDiff, reduceIte, Nat.reduceLT, Int.reduceLE, Int.reduceLT, Int.reduceToNat]
theorem t66 (b : Brd) (hb : BrdB (2^50) b) : Ev C 66 [brdF b] (.bool (brdOk b)) := by
  have c1 := t112 hC b.r hb.r
  have c2 := t113 hC b.m hb.m
  have b1 := hb.m.t
  have b2 := hb.r.ts
  simp only [brdF, rulF, mpF, brdOk, List.cons_append, List.nil_append] at *
  refine Ev.runT hC Tryd.func66 h66 nt66 r66 (by decide) (Nat.le_of_ble_eq_true rfl) (rfl) ?_
  simp only [c66, push_cast, ↓ifB_true, ↓ifB_false, Nat.reduceBEq, Nat.reduceAdd, Nat.reduceSub, reduceCtorEq, Nat.reduceMul, Nat.reduceEqDiff, Nat.reduceLeDiff, reduceIte, Nat.reduceLT, Int.reduceLE, Int.reduceLT, Int.reduceToNat]
  refine ⟨_, c1, ?_⟩
  cases g1 : rulOk b.r
  · simp only [push_cast, ↓ifB_true, ↓ifB_false, Nat.reduceBEq, Nat.reduceAdd, Nat.reduceSub, reduceCtorEq, Nat.reduceMul, Nat.reduceEqDiff, Nat.reduceLeDiff, reduceIte, Nat.reduceLT, Int.reduceLE, Int.reduceLT, Int.reduceToNat]
  · simp only [push_cast, ↓ifB_true, ↓ifB_false, Nat.reduceBEq, Nat.reduceAdd, Nat.reduceSub, reduceCtorEq, Nat.reduceMul, Nat.reduceEqDiff, Nat.reduceLeDiff, reduceIte, Nat.reduceLT, Int.reduceLE, Int.reduceLT, Int.reduceToNat]
    refine ⟨_, c2, ?_⟩
    cases g2 : mpOk b.m
    · simp only [push_cast, ↓ifB_true, ↓ifB_false, Nat.reduceBEq, Nat.reduceAdd, Nat.reduceSub, reduceCtorEq, Nat.reduceMul, Nat.reduceEqDiff, Nat.reduceLeDiff, reduceIte, Nat.reduceLT, Int.reduceLE, Int.reduceLT, Int.reduceToNat]
    · simp only [tersF_length, push_cast, ↓ifB_true, ↓ifB_false, Nat.reduceBEq, Nat.reduceAdd, Nat.reduceSub, reduceCtorEq, Nat.reduceMul, Nat.reduceEqDiff, Nat.reduceLeDiff, reduceIte, Nat.reduceLT, Int.reduceLE, Int.reduceLT, Int.reduceToNat]
      rw [wrap64 (by omega) (by omega)]
      refine ⟨_, t98 hC _ _ _ b1, ?_⟩
      simp only [push_cast, ↓ifB_true, ↓ifB_false, Nat.reduceBEq, Nat.reduceAdd, Nat.reduceSub, reduceCtorEq, Nat.reduceMul, Nat.reduceEqDiff, Nat.reduceLeDiff, reduceIte, Nat.reduceLT, Int.reduceLE, Int.reduceLT, Int.reduceToNat]
end
end Go.Proofs.YtlddjlchgibdfaaDoor.X
