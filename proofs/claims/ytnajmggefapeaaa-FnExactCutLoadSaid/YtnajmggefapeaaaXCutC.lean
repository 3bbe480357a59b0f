import Derived.Test.YtnajmggefapeaaaXCutB
set_option maxHeartbeats 4000000
set_option linter.unusedSimpArgs false
set_option linter.unusedVariables false
namespace Go.Proofs.Ytnajmggefapeaaa.X
open Go
attribute [local irreducible] Ev
section
variable {C : CT} (hC : Closed Try.prog G0 md0 C)
include hC
omit hC in
theorem arcsL_len {L : Lanes} (h : LOk L) : ∀ d, (arcsL L d).length ≤ 15 * d
  | 0 => by simp [arcsL]
  | d + 1 => by
    have := arcsL_len h d
    have h1 := laneArcs_len L d L.ls.length
    have := h.n
    simp only [arcsL, List.length_append]; omega
omit hC in
theorem arcsT_len (L : Lanes) : ∀ d, (arcsT L d).length ≤ L.st.length * d
  | 0 => by simp [arcsT]
  | d + 1 => by
    have := arcsT_len L d
    have h2 := storeArcs_len L d L.st.length
    simp only [arcsT, List.length_append, Nat.mul_add]; omega
theorem t63 (L : Lanes) (D : Nat) (hD : D ≤ 6) (hL : LOk L) : Ev C 63 [L.av, .int .i64 (-1), .int .i64 (-1), .int .i64 D] (.op [.int .i64 (((D : Int) + 1) * L.d), .ow 5 (ar5 (arcsL L D ++ arcsT L D))]) := by
  have hd := hL.d
  have hn15 := hL.n
  have hsn := hL.s
  have hdD := mul_ok (d := (D : Int) + 1) ⟨by omega, by omega⟩ hd
  simp only [Lanes.av]
  refine Ev.runT hC Try.func63 h63 nt63 r63 (by decide) (Nat.le_of_ble_eq_true rfl) (by simp only [ownR, ownRL, own_ar5, Bool.and_true]) ?_
  simp only [c63, push_cast, ↓ifB_true, ↓ifB_false, Nat.reduceBEq, Nat.reduceAdd, Nat.reduceSub, reduceCtorEq, Nat.reduceMul, Nat.reduceEqDiff, Nat.reduceLeDiff, reduceIte, Nat.reduceLT, Int.reduceLE, Int.reduceLT, Int.reduceToNat]
  rw [wrap64 (n := (D : Int) + 1) (by omega) (by omega), wrap64 (by omega) (by omega)]
  generalize ((D : Int) + 1) * L.d = P0
  generalize hR : arcsL L D ++ arcsT L D = Rr
  refine RL_count (fun d => net5 110 [(1, .int .i64 (-1)), (2, .int .i64 (-1)), (3, .int .i64 (D : Int)), (4, .ptr 0 none 0 0 0), (9, .ptr 1 none 0 0 0), (23, .int .i64 (D : Int)), (24, .int .i64 (d : Int))] P0 (.var [.int .i64 L.d, .sl (lns L.ls), .sl (ints L.st)]) (arcsL L d)) (fun _ => True) D 0 (by rw [show arcsL L 0 = [] from rfl]; exact (head_tb [(1, 1), (0, 0)] rfl (by simp only [keptV_cons, keptV_nil, tb_get, lk_same, lk_ne, lk_nil, ren, renL, lkp, Nat.reduceLT, Nat.reduceBEq, Nat.reduceEqDiff, reduceIte, and_true, true_and, Nat.not_lt_zero, if_false, if_true, Nat.add_zero, Nat.zero_add]; (try rw [wrap64 (by omega) (by omega)]); (first | done | (simp; done) | (simp [*]; done) | (simp; omega) | (and_intros <;> rfl))) (by simp only [canR, canB, renO, renL, ren, lkp, hget, Nat.reduceLT, Nat.reduceEqDiff, Nat.not_lt_zero, if_false, if_true, reduceIte, List.append_nil, List.nil_append]; (first | done | rfl)))) (by omega) trivial fun d hdl _ J hJ => ?_
  by_cases hdD2 : d < D
  · have hm0 := mul_ok (d := (d : Int)) ⟨by omega, by omega⟩ hd
    have hm1 := mul_ok (d := (d : Int) + 1) ⟨by omega, by omega⟩ hd
    have w1 : IntKind.i64.wrap ((d : Int) * L.d) = (d : Int) * L.d := wrap64 (by omega) (by omega)
    have w2 : IntKind.i64.wrap ((d : Int) + 1) = (d : Int) + 1 := wrap64 (by omega) (by omega)
    have w3 : IntKind.i64.wrap (((d : Int) + 1) * L.d) = ((d : Int) + 1) * L.d := wrap64 (by omega) (by omega)
    have hal := arcsL_len hL d
    rcases hA : arcsL L d with _ | ⟨a, r0⟩
    all_goals
      simp only [net5, decide_false, w1, w2, w3, lns_length, ints_length, ar5_take1, ar5_length, ar5_cells, push_cast, ↓ifB_true, ↓ifB_false, Nat.reduceBEq, Nat.reduceAdd, Nat.reduceSub, reduceCtorEq, Nat.reduceMul, Nat.reduceEqDiff, Nat.reduceLeDiff, reduceIte, Nat.reduceLT, Int.reduceLE, Int.reduceLT, Int.reduceToNat]
      refine ifB_intro (fun _ => ?_) (fun h => by simp at h; omega)
      refine RL_count (fun k => net5 110 [(1, .int .i64 (-1)), (2, .int .i64 (-1)), (3, .int .i64 (D : Int)), (4, .ptr 0 none 0 0 0), (9, .ptr 1 none 0 0 0), (23, .int .i64 (D : Int)), (24, .int .i64 (d : Int)), (10, .int .i64 (d : Int)), (28, .sl (lns L.ls)), (29, .int .i64 (L.ls.length : Int)), (30, .int .i64 (k : Int))] P0 (.var [.int .i64 L.d, .sl (lns L.ls), .sl (ints L.st)]) (arcsL L d ++ laneArcs L d k)) (fun _ => True) L.ls.length 0 (by rw [show laneArcs L d 0 = [] from rfl, List.append_nil, hA]; (first | exact head_tb [(1, 1), (0, 0)] rfl (by simp only [keptV_cons, keptV_nil, tb_get, lk_same, lk_ne, lk_nil, ren, renL, lkp, Nat.reduceLT, Nat.reduceBEq, Nat.reduceEqDiff, reduceIte, and_true, true_and, Nat.not_lt_zero, if_false, if_true, Nat.add_zero, Nat.zero_add]; (try rw [wrap64 (by omega) (by omega)]); (first | done | (simp; done) | (and_intros <;> rfl))) (by simp only [net5, canR, canB, renO, renL, ren, lkp, hget, Nat.reduceLT, Nat.reduceEqDiff, Nat.not_lt_zero, if_false, if_true, reduceIte, List.append_nil, List.nil_append]; (first | done | rfl | (rw [← ar5_snoc]; rfl))) | exact head_tb [(2, 2), (1, 1), (0, 0)] rfl (by simp only [keptV_cons, keptV_nil, tb_get, lk_same, lk_ne, lk_nil, ren, renL, lkp, Nat.reduceLT, Nat.reduceBEq, Nat.reduceEqDiff, reduceIte, and_true, true_and, Nat.not_lt_zero, if_false, if_true, Nat.add_zero, Nat.zero_add]; (try rw [wrap64 (by omega) (by omega)]); (first | done | (simp; done) | (and_intros <;> rfl))) (by simp only [net5, canR, canB, renO, renL, ren, lkp, hget, Nat.reduceLT, Nat.reduceEqDiff, Nat.not_lt_zero, if_false, if_true, reduceIte, List.append_nil, List.nil_append]; (first | done | rfl | (rw [← ar5_snoc]; rfl))))) (by omega) trivial fun k hk _ J1 hJ1 => ?_
      have hkl : (arcsL L d ++ laneArcs L d k).length ≤ 1000 := by
        have h1 := laneArcs_len L d k
        simp only [List.length_append]; omega
      by_cases h1 : k < L.ls.length
      · have hlk := hL.ls _ (List.getElem_mem h1)
        have w4 : IntKind.i64.wrap ((d : Int) * L.d + L.ls[k].a) = (d : Int) * L.d + L.ls[k].a := wrap64 (by omega) (by omega)
        have w5 : IntKind.i64.wrap (((d : Int) + 1) * L.d + L.ls[k].b) = ((d : Int) + 1) * L.d + L.ls[k].b := wrap64 (by omega) (by omega)
        have e1 : (lns L.ls)[k]? = some [.int .i64 L.ls[k].a, .int .i64 L.ls[k].b, .int .i64 L.ls[k].c] := by simp [lns, lnA, h1]
        rcases hB : arcsL L d ++ laneArcs L d k with _ | ⟨b, r⟩
        all_goals
          rw [hB] at hkl
          simp only [List.length_cons, List.length_nil] at hkl
          simp only [net5, Int.toNat_natCast, e1, w4, w5, decide_false, w1, w2, w3, lns_length, ints_length, ar5_take1, ar5_length, ar5_cells, push_cast, ↓ifB_true, ↓ifB_false, Nat.reduceBEq, Nat.reduceAdd, Nat.reduceSub, reduceCtorEq, Nat.reduceMul, Nat.reduceEqDiff, Nat.reduceLeDiff, reduceIte, Nat.reduceLT, Int.reduceLE, Int.reduceLT, Int.reduceToNat]
          refine ifB_intro (fun _ => ?_) (fun h => by simp at h; omega)
          repeat (refine ⟨by omega, ?_⟩)
          refine hJ1 h1 trivial _ ?_
          rw [laneArcs_succ h1, ← List.append_assoc, hB, net5_snoc]
          (first | exact head_tb [(4, 2), (1, 1), (0, 0)] rfl (by simp only [keptV_cons, keptV_nil, tb_get, lk_same, lk_ne, lk_nil, ren, renL, lkp, Nat.reduceLT, Nat.reduceBEq, Nat.reduceEqDiff, reduceIte, and_true, true_and, Nat.not_lt_zero, if_false, if_true, Nat.add_zero, Nat.zero_add]; (try rw [wrap64 (n := (k : Int) + 1) (by omega) (by omega)]); (first | done | (simp; done) | (and_intros <;> rfl))) (by simp only [net5, canR, canB, renO, renL, ren, lkp, hget, Nat.reduceLT, Nat.reduceEqDiff, Nat.not_lt_zero, if_false, if_true, reduceIte, List.append_nil, List.nil_append]; (first | done | rfl | (rw [← ar5_snoc]; rfl))) | exact head_tb [(5, 2), (1, 1), (0, 0)] rfl (by simp only [keptV_cons, keptV_nil, tb_get, lk_same, lk_ne, lk_nil, ren, renL, lkp, Nat.reduceLT, Nat.reduceBEq, Nat.reduceEqDiff, reduceIte, and_true, true_and, Nat.not_lt_zero, if_false, if_true, Nat.add_zero, Nat.zero_add]; (try rw [wrap64 (n := (k : Int) + 1) (by omega) (by omega)]); (first | done | (simp; done) | (and_intros <;> rfl))) (by simp only [net5, canR, canB, renO, renL, ren, lkp, hget, Nat.reduceLT, Nat.reduceEqDiff, Nat.not_lt_zero, if_false, if_true, reduceIte, List.append_nil, List.nil_append]; (first | done | rfl | (rw [← ar5_snoc]; rfl))))
      · obtain rfl : k = L.ls.length := by omega
        rcases hB : arcsL L d ++ laneArcs L d L.ls.length with _ | ⟨b, r⟩
        all_goals
          simp only [net5, decide_false, w1, w2, w3, lns_length, ints_length, ar5_take1, ar5_length, ar5_cells, push_cast, ↓ifB_true, ↓ifB_false, Nat.reduceBEq, Nat.reduceAdd, Nat.reduceSub, reduceCtorEq, Nat.reduceMul, Nat.reduceEqDiff, Nat.reduceLeDiff, reduceIte, Nat.reduceLT, Int.reduceLE, Int.reduceLT, Int.reduceToNat]
          refine ifB_intro (fun h => by simp at h) (fun h => ?_)
          refine hJ hdD2 trivial _ ?_
          rw [show arcsL L (d + 1) = arcsL L d ++ laneArcs L d L.ls.length from rfl, hB]
          (first | exact head_tb [(1, 1), (0, 0)] rfl (by simp only [keptV_cons, keptV_nil, tb_get, lk_same, lk_ne, lk_nil, ren, renL, lkp, Nat.reduceLT, Nat.reduceBEq, Nat.reduceEqDiff, reduceIte, and_true, true_and, Nat.not_lt_zero, if_false, if_true, Nat.add_zero, Nat.zero_add]; (try rw [wrap64 (n := (d : Int) + 1) (by omega) (by omega)]); (first | done | (simp; done) | (and_intros <;> rfl))) (by simp only [net5, canR, canB, renO, renL, ren, lkp, hget, Nat.reduceLT, Nat.reduceEqDiff, Nat.not_lt_zero, if_false, if_true, reduceIte, List.append_nil, List.nil_append]; (first | done | rfl | (rw [← ar5_snoc]; rfl))) | exact head_tb [(2, 2), (1, 1), (0, 0)] rfl (by simp only [keptV_cons, keptV_nil, tb_get, lk_same, lk_ne, lk_nil, ren, renL, lkp, Nat.reduceLT, Nat.reduceBEq, Nat.reduceEqDiff, reduceIte, and_true, true_and, Nat.not_lt_zero, if_false, if_true, Nat.add_zero, Nat.zero_add]; (try rw [wrap64 (n := (d : Int) + 1) (by omega) (by omega)]); (first | done | (simp; done) | (and_intros <;> rfl))) (by simp only [net5, canR, canB, renO, renL, ren, lkp, hget, Nat.reduceLT, Nat.reduceEqDiff, Nat.not_lt_zero, if_false, if_true, reduceIte, List.append_nil, List.nil_append]; (first | done | rfl | (rw [← ar5_snoc]; rfl))))
  · obtain rfl : D = d := by omega
    have hLl := arcsL_len hL D
    rcases hA : arcsL L D with _ | ⟨a, r0⟩
    all_goals
      simp only [net5, push_cast, ↓ifB_true, ↓ifB_false, Nat.reduceBEq, Nat.reduceAdd, Nat.reduceSub, reduceCtorEq, Nat.reduceMul, Nat.reduceEqDiff, Nat.reduceLeDiff, reduceIte, Nat.reduceLT, Int.reduceLE, Int.reduceLT, Int.reduceToNat]
      refine ifB_intro (fun h => by simp at h) (fun h => ?_)
      refine RL_count (fun d => net5 110 [(1, .int .i64 (-1)), (2, .int .i64 (-1)), (4, .ptr 0 none 0 0 0), (9, .ptr 1 none 0 0 0), (63, .int .i64 (D : Int)), (64, .int .i64 (d : Int))] P0 (.var [.int .i64 L.d, .sl (lns L.ls), .sl (ints L.st)]) (arcsL L D ++ arcsT L d)) (fun _ => True) D 0 (by rw [show arcsT L 0 = [] from rfl, List.append_nil, hA]; (first | exact head_tb [(1, 1), (0, 0)] rfl (by simp only [keptV_cons, keptV_nil, tb_get, lk_same, lk_ne, lk_nil, ren, renL, lkp, Nat.reduceLT, Nat.reduceBEq, Nat.reduceEqDiff, reduceIte, and_true, true_and, Nat.not_lt_zero, if_false, if_true, Nat.add_zero, Nat.zero_add]; (try rw [wrap64 (by omega) (by omega)]); (first | done | (simp; done) | (and_intros <;> rfl))) (by simp only [net5, canR, canB, renO, renL, ren, lkp, hget, Nat.reduceLT, Nat.reduceEqDiff, Nat.not_lt_zero, if_false, if_true, reduceIte, List.append_nil, List.nil_append]; (first | done | rfl | (rw [← ar5_snoc]; rfl))) | exact head_tb [(2, 2), (1, 1), (0, 0)] rfl (by simp only [keptV_cons, keptV_nil, tb_get, lk_same, lk_ne, lk_nil, ren, renL, lkp, Nat.reduceLT, Nat.reduceBEq, Nat.reduceEqDiff, reduceIte, and_true, true_and, Nat.not_lt_zero, if_false, if_true, Nat.add_zero, Nat.zero_add]; (try rw [wrap64 (by omega) (by omega)]); (first | done | (simp; done) | (and_intros <;> rfl))) (by simp only [net5, canR, canB, renO, renL, ren, lkp, hget, Nat.reduceLT, Nat.reduceEqDiff, Nat.not_lt_zero, if_false, if_true, reduceIte, List.append_nil, List.nil_append]; (first | done | rfl | (rw [← ar5_snoc]; rfl))))) (by omega) trivial fun d hdl2 _ J hJ => ?_
      by_cases hdD2 : d < D
      · have hm0 := mul_ok (d := (d : Int)) ⟨by omega, by omega⟩ hd
        have hm1 := mul_ok (d := (d : Int) + 1) ⟨by omega, by omega⟩ hd
        have w1 : IntKind.i64.wrap ((d : Int) * L.d) = (d : Int) * L.d := wrap64 (by omega) (by omega)
        have w2 : IntKind.i64.wrap ((d : Int) + 1) = (d : Int) + 1 := wrap64 (by omega) (by omega)
        have w3 : IntKind.i64.wrap (((d : Int) + 1) * L.d) = ((d : Int) + 1) * L.d := wrap64 (by omega) (by omega)
        have hal := arcsT_len L d
        rcases hA : arcsL L D ++ arcsT L d with _ | ⟨a, r0⟩
        all_goals
          simp only [net5, decide_false, w1, w2, w3, lns_length, ints_length, ar5_take1, ar5_length, ar5_cells, push_cast, ↓ifB_true, ↓ifB_false, Nat.reduceBEq, Nat.reduceAdd, Nat.reduceSub, reduceCtorEq, Nat.reduceMul, Nat.reduceEqDiff, Nat.reduceLeDiff, reduceIte, Nat.reduceLT, Int.reduceLE, Int.reduceLT, Int.reduceToNat]
          refine ifB_intro (fun _ => ?_) (fun h => by simp at h; omega)
          refine RL_count (fun k => net5 110 [(1, .int .i64 (-1)), (2, .int .i64 (-1)), (4, .ptr 0 none 0 0 0), (9, .ptr 1 none 0 0 0), (63, .int .i64 (D : Int)), (64, .int .i64 (d : Int)), (13, .int .i64 (d : Int)), (68, .sl (ints L.st)), (69, .int .i64 (L.st.length : Int)), (70, .int .i64 (k : Int))] P0 (.var [.int .i64 L.d, .sl (lns L.ls), .sl (ints L.st)]) (arcsL L D ++ arcsT L d ++ storeArcs L d k)) (fun _ => True) L.st.length 0 (by rw [show storeArcs L d 0 = [] from rfl, List.append_nil, hA]; (first | exact head_tb [(1, 1), (0, 0)] rfl (by simp only [keptV_cons, keptV_nil, tb_get, lk_same, lk_ne, lk_nil, ren, renL, lkp, Nat.reduceLT, Nat.reduceBEq, Nat.reduceEqDiff, reduceIte, and_true, true_and, Nat.not_lt_zero, if_false, if_true, Nat.add_zero, Nat.zero_add]; (try rw [wrap64 (by omega) (by omega)]); (first | done | (simp; done) | (and_intros <;> rfl))) (by simp only [net5, canR, canB, renO, renL, ren, lkp, hget, Nat.reduceLT, Nat.reduceEqDiff, Nat.not_lt_zero, if_false, if_true, reduceIte, List.append_nil, List.nil_append]; (first | done | rfl | (rw [← ar5_snoc]; rfl))) | exact head_tb [(2, 2), (1, 1), (0, 0)] rfl (by simp only [keptV_cons, keptV_nil, tb_get, lk_same, lk_ne, lk_nil, ren, renL, lkp, Nat.reduceLT, Nat.reduceBEq, Nat.reduceEqDiff, reduceIte, and_true, true_and, Nat.not_lt_zero, if_false, if_true, Nat.add_zero, Nat.zero_add]; (try rw [wrap64 (by omega) (by omega)]); (first | done | (simp; done) | (and_intros <;> rfl))) (by simp only [net5, canR, canB, renO, renL, ren, lkp, hget, Nat.reduceLT, Nat.reduceEqDiff, Nat.not_lt_zero, if_false, if_true, reduceIte, List.append_nil, List.nil_append]; (first | done | rfl | (rw [← ar5_snoc]; rfl))))) (by omega) trivial fun k hk _ J2 hJ2 => ?_
          have hkl : (arcsL L D ++ arcsT L d ++ storeArcs L d k).length ≤ 1000 := by
            have h2 := storeArcs_len L d k
            have h6 : L.st.length * d ≤ 6 * 6 := Nat.mul_le_mul (by omega) (by omega)
            simp only [List.length_append]; omega
          by_cases h2 : k < L.st.length
          · have hst := hL.st k h2
            have w4 : IntKind.i64.wrap ((d : Int) * L.d + k) = (d : Int) * L.d + k := wrap64 (by omega) (by omega)
            have w5 : IntKind.i64.wrap (((d : Int) + 1) * L.d + k) = ((d : Int) + 1) * L.d + k := wrap64 (by omega) (by omega)
            have e1 : (ints L.st)[k]? = some [.int .i64 (L.st.getD k 0)] := cut_ints_get h2
            have n1 : decide ((k : Int) = -1) = false := decide_eq_false (by omega)
            rcases hC2 : arcsL L D ++ arcsT L d ++ storeArcs L d k with _ | ⟨c, r2⟩
            all_goals
              rw [hC2] at hkl
              simp only [List.length_cons, List.length_nil] at hkl
              simp only [net5, Int.toNat_natCast, e1, w4, w5, n1, decide_false, w1, w2, w3, lns_length, ints_length, ar5_take1, ar5_length, ar5_cells, push_cast, ↓ifB_true, ↓ifB_false, Nat.reduceBEq, Nat.reduceAdd, Nat.reduceSub, reduceCtorEq, Nat.reduceMul, Nat.reduceEqDiff, Nat.reduceLeDiff, reduceIte, Nat.reduceLT, Int.reduceLE, Int.reduceLT, Int.reduceToNat]
              refine ifB_intro (fun _ => ?_) (fun h => by simp at h; omega)
              repeat (refine ⟨by omega, ?_⟩)
              refine hJ2 h2 trivial _ ?_
              rw [storeArcs_succ, ← List.append_assoc, hC2, net5_snoc]
              (first | exact head_tb [(3, 2), (1, 1), (0, 0)] rfl (by simp only [keptV_cons, keptV_nil, tb_get, lk_same, lk_ne, lk_nil, ren, renL, lkp, Nat.reduceLT, Nat.reduceBEq, Nat.reduceEqDiff, reduceIte, and_true, true_and, Nat.not_lt_zero, if_false, if_true, Nat.add_zero, Nat.zero_add]; (try rw [wrap64 (n := (k : Int) + 1) (by omega) (by omega)]); (first | done | (simp; done) | (and_intros <;> rfl))) (by simp only [net5, canR, canB, renO, renL, ren, lkp, hget, Nat.reduceLT, Nat.reduceEqDiff, Nat.not_lt_zero, if_false, if_true, reduceIte, List.append_nil, List.nil_append]; (first | done | rfl | (rw [← ar5_snoc]; rfl))) | exact head_tb [(4, 2), (1, 1), (0, 0)] rfl (by simp only [keptV_cons, keptV_nil, tb_get, lk_same, lk_ne, lk_nil, ren, renL, lkp, Nat.reduceLT, Nat.reduceBEq, Nat.reduceEqDiff, reduceIte, and_true, true_and, Nat.not_lt_zero, if_false, if_true, Nat.add_zero, Nat.zero_add]; (try rw [wrap64 (n := (k : Int) + 1) (by omega) (by omega)]); (first | done | (simp; done) | (and_intros <;> rfl))) (by simp only [net5, canR, canB, renO, renL, ren, lkp, hget, Nat.reduceLT, Nat.reduceEqDiff, Nat.not_lt_zero, if_false, if_true, reduceIte, List.append_nil, List.nil_append]; (first | done | rfl | (rw [← ar5_snoc]; rfl))))
          · obtain rfl : k = L.st.length := by omega
            rcases hC2 : arcsL L D ++ arcsT L d ++ storeArcs L d L.st.length with _ | ⟨c, r2⟩
            all_goals
              simp only [net5, push_cast, ↓ifB_true, ↓ifB_false, Nat.reduceBEq, Nat.reduceAdd, Nat.reduceSub, reduceCtorEq, Nat.reduceMul, Nat.reduceEqDiff, Nat.reduceLeDiff, reduceIte, Nat.reduceLT, Int.reduceLE, Int.reduceLT, Int.reduceToNat]
              refine ifB_intro (fun h => by simp at h) (fun h => ?_)
              refine hJ hdD2 trivial _ ?_
              rw [show arcsT L (d + 1) = arcsT L d ++ storeArcs L d L.st.length from rfl, ← List.append_assoc, hC2]
              (first | exact head_tb [(1, 1), (0, 0)] rfl (by simp only [keptV_cons, keptV_nil, tb_get, lk_same, lk_ne, lk_nil, ren, renL, lkp, Nat.reduceLT, Nat.reduceBEq, Nat.reduceEqDiff, reduceIte, and_true, true_and, Nat.not_lt_zero, if_false, if_true, Nat.add_zero, Nat.zero_add]; (try rw [wrap64 (n := (d : Int) + 1) (by omega) (by omega)]); (first | done | (simp; done) | (and_intros <;> rfl))) (by simp only [net5, canR, canB, renO, renL, ren, lkp, hget, Nat.reduceLT, Nat.reduceEqDiff, Nat.not_lt_zero, if_false, if_true, reduceIte, List.append_nil, List.nil_append]; (first | done | rfl | (rw [← ar5_snoc]; rfl))) | exact head_tb [(2, 2), (1, 1), (0, 0)] rfl (by simp only [keptV_cons, keptV_nil, tb_get, lk_same, lk_ne, lk_nil, ren, renL, lkp, Nat.reduceLT, Nat.reduceBEq, Nat.reduceEqDiff, reduceIte, and_true, true_and, Nat.not_lt_zero, if_false, if_true, Nat.add_zero, Nat.zero_add]; (try rw [wrap64 (n := (d : Int) + 1) (by omega) (by omega)]); (first | done | (simp; done) | (and_intros <;> rfl))) (by simp only [net5, canR, canB, renO, renL, ren, lkp, hget, Nat.reduceLT, Nat.reduceEqDiff, Nat.not_lt_zero, if_false, if_true, reduceIte, List.append_nil, List.nil_append]; (first | done | rfl | (rw [← ar5_snoc]; rfl))))
      · obtain rfl : D = d := by omega
        rcases hB : arcsL L D ++ arcsT L D with _ | ⟨a, r0⟩
        · rw [hB] at hR; subst hR
          simp only [net5, push_cast, ↓ifB_true, ↓ifB_false, Nat.reduceBEq, Nat.reduceAdd, Nat.reduceSub, reduceCtorEq, Nat.reduceMul, Nat.reduceEqDiff, Nat.reduceLeDiff, reduceIte, Nat.reduceLT, Int.reduceLE, Int.reduceLT, Int.reduceToNat]
          refine ifB_intro (fun h => by simp at h) (fun h => ?_)
          exact ⟨.op [.int .i64 P0, .nil], _, by simp only [conR, conRL, isF, hget, hdel, if_true, if_false, reduceIte, Nat.reduceEqDiff, reduceCtorEq]; rfl, by simp only [NilTo, NilToL]; exact ⟨_, rfl, _, _, rfl, rfl, _, _, rfl, .inr ⟨5, rfl⟩, rfl⟩⟩
        · rw [hB] at hR; subst hR
          simp only [net5, push_cast, ↓ifB_true, ↓ifB_false, Nat.reduceBEq, Nat.reduceAdd, Nat.reduceSub, reduceCtorEq, Nat.reduceMul, Nat.reduceEqDiff, Nat.reduceLeDiff, reduceIte, Nat.reduceLT, Int.reduceLE, Int.reduceLT, Int.reduceToNat]
          refine ifB_intro (fun h => by simp at h) (fun h => ?_)
          exact RetTo_of (by simp only [conR, conRL, isF, hget, hdel, List.drop_zero, ar5_take1, if_true, if_false, reduceIte, Nat.reduceEqDiff, reduceCtorEq]; rfl)
end
end Go.Proofs.Ytnajmggefapeaaa.X
