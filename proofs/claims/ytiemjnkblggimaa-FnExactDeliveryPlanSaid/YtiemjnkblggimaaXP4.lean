/- A part of the proof: lemmas on the machine or on the functions that the law reaches. No condition of its own. -/
import Derived.Test.YtiemjnkblggimaaXP3
set_option maxHeartbeats 4000000
set_option maxRecDepth 8000
set_option linter.unusedSimpArgs false
set_option linter.unusedVariables false
open Nat renaming reduceBEq → N1, reduceAdd → N2, reduceSub → N3, reduceMul → N4, reduceEqDiff → N5, reduceLeDiff → N6, reduceLT → N7
open Int renaming reduceLE → I1, reduceLT → I2, reduceToNat → I3
namespace Go.Proofs.Ytiemjnkblggimaa.X
open Go
attribute [local irreducible] Ev
section
variable {C : CT} (hC : Closed Try.prog G0 md0 C)
include hC
omit hC in
theorem arcsL_len {L : Lanes} (h : LOk L) : ∀ d, (arcsL L d).length ≤ 15 * d
  | 0 => by simp [arcsL]
  | d + 1 => by
    have := arcsL_len h d
    have h1 := laneArcs_len L d L.ls.length
    have := h.n
    simp only [arcsL, List.length_append]; omega
omit hC in
theorem arcsT_len {F T B : Int} (L : Lanes) : ∀ d, (arcsT F T B L d).length ≤ L.st.length * d
  | 0 => by simp [arcsT]
  | d + 1 => by
    have := arcsT_len (F := F) (T := T) (B := B) L d
    have h2 := storeArcs_len (F := F) (T := T) (B := B) L d L.st.length
    simp only [arcsT, List.length_append, Nat.mul_add]; omega
theorem t56 (L : Lanes) (F T : Int) (D : Nat) (hD : D ≤ 6) (hL : LOk L) : Ev C 56 [L.av, .int .i64 F, .int .i64 T, .int .i64 D] (.op [.int .i64 (((D : Int) + 1) * L.d), .ow 5 (ar5 (arcsL L D ++ arcsT F T 1000000000 L D))]) := by
  have hd := hL.d
  have hn15 := hL.n
  have hsn := hL.s
  have hdD := mul_ok (d := (D : Int) + 1) ⟨by omega, by omega⟩ hd
  simp only [Lanes.av]
  refine rT hC Q56 ?_ (by simp only [ownR, ownRL, own_ar5, Bool.and_true])
  simp only [c56, push_cast, ↓J1, ↓J2, N1, N2, N3, reduceCtorEq, N4, N5, N6, reduceIte, N7, I1, I2, I3]
  rw [wrap64 (n := (D : Int) + 1) (by omega) (by omega), wrap64 (by omega) (by omega)]
  generalize ((D : Int) + 1) * L.d = P0
  generalize hR : arcsL L D ++ arcsT F T 1000000000 L D = Rr
  refine RL_count (fun d => net5 110 [(1, .int .i64 F), (2, .int .i64 T), (3, .int .i64 (D : Int)), (4, .ptr 0 none 0 0 0), (9, .ptr 1 none 0 0 0), (23, .int .i64 (D : Int)), (24, .int .i64 (d : Int))] P0 (.var [.int .i64 L.d, .sl (lns L.ls), .sl (ints L.st)]) (arcsL L d)) (fun _ => True) D 0 (by rw [show arcsL L 0 = [] from rfl]; exact (hdA [(1, 1), (0, 0)])) (by omega) trivial fun d hdl _ J hJ => ?_
  by_cases hdD2 : d < D
  · have hm0 := mul_ok (d := (d : Int)) ⟨by omega, by omega⟩ hd
    have hm1 := mul_ok (d := (d : Int) + 1) ⟨by omega, by omega⟩ hd
    have w1 : IntKind.i64.wrap ((d : Int) * L.d) = (d : Int) * L.d := wrap64 (by omega) (by omega)
    have w2 : IntKind.i64.wrap ((d : Int) + 1) = (d : Int) + 1 := wrap64 (by omega) (by omega)
    have w3 : IntKind.i64.wrap (((d : Int) + 1) * L.d) = ((d : Int) + 1) * L.d := wrap64 (by omega) (by omega)
    have hal := arcsL_len hL d
    rcases hA : arcsL L d with _ | ⟨a, r0⟩
    all_goals
      simp only [net5, decide_false, w1, w2, w3, lns_length, ints_length, ar5_take1, ar5_length, ar5_cells, push_cast, ↓J1, ↓J2, N1, N2, N3, reduceCtorEq, N4, N5, N6, reduceIte, N7, I1, I2, I3]
      refine ifB_intro (fun _ => ?_) (fun h => by simp at h; omega)
      refine RL_count (fun k => net5 110 [(1, .int .i64 F), (2, .int .i64 T), (3, .int .i64 (D : Int)), (4, .ptr 0 none 0 0 0), (9, .ptr 1 none 0 0 0), (23, .int .i64 (D : Int)), (24, .int .i64 (d : Int)), (10, .int .i64 (d : Int)), (28, .sl (lns L.ls)), (29, .int .i64 (L.ls.length : Int)), (30, .int .i64 (k : Int))] P0 (.var [.int .i64 L.d, .sl (lns L.ls), .sl (ints L.st)]) (arcsL L d ++ laneArcs L d k)) (fun _ => True) L.ls.length 0 (by rw [show laneArcs L d 0 = [] from rfl, List.append_nil, hA]; (first | exact head_tb [(1, 1), (0, 0)] rfl (by simp only [keptV_cons, keptV_nil, tb_get, lk_same, lk_ne, lk_nil, ren, renL, lkp, N7, N1, N5, reduceIte, and_true, true_and, Nat.not_lt_zero, if_false, if_true, Nat.add_zero, Nat.zero_add]; (try rw [wrap64 (by omega) (by omega)]); (first | done | (simp; done) | (and_intros <;> rfl))) (by simp only [net5, canR, canB, renO, renL, ren, lkp, hget, N7, N5, Nat.not_lt_zero, if_false, if_true, reduceIte, List.append_nil, List.nil_append]; (first | done | rfl | (rw [← ar5_snoc]; rfl))) | exact head_tb [(2, 2), (1, 1), (0, 0)] rfl (by simp only [keptV_cons, keptV_nil, tb_get, lk_same, lk_ne, lk_nil, ren, renL, lkp, N7, N1, N5, reduceIte, and_true, true_and, Nat.not_lt_zero, if_false, if_true, Nat.add_zero, Nat.zero_add]; (try rw [wrap64 (by omega) (by omega)]); (first | done | (simp; done) | (and_intros <;> rfl))) (by simp only [net5, canR, canB, renO, renL, ren, lkp, hget, N7, N5, Nat.not_lt_zero, if_false, if_true, reduceIte, List.append_nil, List.nil_append]; (first | done | rfl | (rw [← ar5_snoc]; rfl))))) (by omega) trivial fun k hk _ Jx1 hJx1 => ?_
      have hkl : (arcsL L d ++ laneArcs L d k).length ≤ 1000 := by
        have h1 := laneArcs_len L d k
        simp only [List.length_append]; omega
      by_cases h1 : k < L.ls.length
      · have hlk := hL.ls _ (List.getElem_mem h1)
        have w4 : IntKind.i64.wrap ((d : Int) * L.d + L.ls[k].a) = (d : Int) * L.d + L.ls[k].a := wrap64 (by omega) (by omega)
        have w5 : IntKind.i64.wrap (((d : Int) + 1) * L.d + L.ls[k].b) = ((d : Int) + 1) * L.d + L.ls[k].b := wrap64 (by omega) (by omega)
        have e1 : (lns L.ls)[k]? = some [.int .i64 L.ls[k].a, .int .i64 L.ls[k].b, .int .i64 L.ls[k].c] := by simp [lns, lnA, h1]
        rcases hB : arcsL L d ++ laneArcs L d k with _ | ⟨b, r⟩
        all_goals
          rw [hB] at hkl
          simp only [List.length_cons, List.length_nil] at hkl
          simp only [net5, Int.toNat_natCast, e1, w4, w5, decide_false, w1, w2, w3, lns_length, ints_length, ar5_take1, ar5_length, ar5_cells, push_cast, ↓J1, ↓J2, N1, N2, N3, reduceCtorEq, N4, N5, N6, reduceIte, N7, I1, I2, I3]
          refine ifB_intro (fun _ => ?_) (fun h => by simp at h; omega)
          repeat (refine ⟨by omega, ?_⟩)
          refine hJx1 h1 trivial _ ?_
          rw [laneArcs_succ h1, ← List.append_assoc, hB, net5_snoc]
          (first | exact head_tb [(4, 2), (1, 1), (0, 0)] rfl (by simp only [keptV_cons, keptV_nil, tb_get, lk_same, lk_ne, lk_nil, ren, renL, lkp, N7, N1, N5, reduceIte, and_true, true_and, Nat.not_lt_zero, if_false, if_true, Nat.add_zero, Nat.zero_add]; (try rw [wrap64 (n := (k : Int) + 1) (by omega) (by omega)]); (first | done | (simp; done) | (and_intros <;> rfl))) (by simp only [net5, canR, canB, renO, renL, ren, lkp, hget, N7, N5, Nat.not_lt_zero, if_false, if_true, reduceIte, List.append_nil, List.nil_append]; (first | done | rfl | (rw [← ar5_snoc]; rfl))) | exact head_tb [(5, 2), (1, 1), (0, 0)] rfl (by simp only [keptV_cons, keptV_nil, tb_get, lk_same, lk_ne, lk_nil, ren, renL, lkp, N7, N1, N5, reduceIte, and_true, true_and, Nat.not_lt_zero, if_false, if_true, Nat.add_zero, Nat.zero_add]; (try rw [wrap64 (n := (k : Int) + 1) (by omega) (by omega)]); (first | done | (simp; done) | (and_intros <;> rfl))) (by simp only [net5, canR, canB, renO, renL, ren, lkp, hget, N7, N5, Nat.not_lt_zero, if_false, if_true, reduceIte, List.append_nil, List.nil_append]; (first | done | rfl | (rw [← ar5_snoc]; rfl))))
      · obtain rfl : k = L.ls.length := by omega
        rcases hB : arcsL L d ++ laneArcs L d L.ls.length with _ | ⟨b, r⟩
        all_goals
          simp only [net5, decide_false, w1, w2, w3, lns_length, ints_length, ar5_take1, ar5_length, ar5_cells, push_cast, ↓J1, ↓J2, N1, N2, N3, reduceCtorEq, N4, N5, N6, reduceIte, N7, I1, I2, I3]
          refine ifB_intro (fun h => by simp at h) (fun h => ?_)
          refine hJ hdD2 trivial _ ?_
          rw [show arcsL L (d + 1) = arcsL L d ++ laneArcs L d L.ls.length from rfl, hB]
          (first | exact head_tb [(1, 1), (0, 0)] rfl (by simp only [keptV_cons, keptV_nil, tb_get, lk_same, lk_ne, lk_nil, ren, renL, lkp, N7, N1, N5, reduceIte, and_true, true_and, Nat.not_lt_zero, if_false, if_true, Nat.add_zero, Nat.zero_add]; (try rw [wrap64 (n := (d : Int) + 1) (by omega) (by omega)]); (first | done | (simp; done) | (and_intros <;> rfl))) (by simp only [net5, canR, canB, renO, renL, ren, lkp, hget, N7, N5, Nat.not_lt_zero, if_false, if_true, reduceIte, List.append_nil, List.nil_append]; (first | done | rfl | (rw [← ar5_snoc]; rfl))) | exact head_tb [(2, 2), (1, 1), (0, 0)] rfl (by simp only [keptV_cons, keptV_nil, tb_get, lk_same, lk_ne, lk_nil, ren, renL, lkp, N7, N1, N5, reduceIte, and_true, true_and, Nat.not_lt_zero, if_false, if_true, Nat.add_zero, Nat.zero_add]; (try rw [wrap64 (n := (d : Int) + 1) (by omega) (by omega)]); (first | done | (simp; done) | (and_intros <;> rfl))) (by simp only [net5, canR, canB, renO, renL, ren, lkp, hget, N7, N5, Nat.not_lt_zero, if_false, if_true, reduceIte, List.append_nil, List.nil_append]; (first | done | rfl | (rw [← ar5_snoc]; rfl))))
  · obtain rfl : D = d := by omega
    have hLl := arcsL_len hL D
    rcases hA : arcsL L D with _ | ⟨a, r0⟩
    all_goals
      simp only [net5, push_cast, ↓J1, ↓J2, N1, N2, N3, reduceCtorEq, N4, N5, N6, reduceIte, N7, I1, I2, I3]
      refine ifB_intro (fun h => by simp at h) (fun h => ?_)
      refine RL_count (fun d => net5 110 [(1, .int .i64 F), (2, .int .i64 T), (4, .ptr 0 none 0 0 0), (9, .ptr 1 none 0 0 0), (63, .int .i64 (D : Int)), (64, .int .i64 (d : Int))] P0 (.var [.int .i64 L.d, .sl (lns L.ls), .sl (ints L.st)]) (arcsL L D ++ arcsT F T 1000000000 L d)) (fun _ => True) D 0 (by rw [show arcsT F T 1000000000 L 0 = [] from rfl, List.append_nil, hA]; (first | exact head_tb [(1, 1), (0, 0)] rfl (by simp only [keptV_cons, keptV_nil, tb_get, lk_same, lk_ne, lk_nil, ren, renL, lkp, N7, N1, N5, reduceIte, and_true, true_and, Nat.not_lt_zero, if_false, if_true, Nat.add_zero, Nat.zero_add]; (try rw [wrap64 (by omega) (by omega)]); (first | done | (simp; done) | (and_intros <;> rfl))) (by simp only [net5, canR, canB, renO, renL, ren, lkp, hget, N7, N5, Nat.not_lt_zero, if_false, if_true, reduceIte, List.append_nil, List.nil_append]; (first | done | rfl | (rw [← ar5_snoc]; rfl))) | exact head_tb [(2, 2), (1, 1), (0, 0)] rfl (by simp only [keptV_cons, keptV_nil, tb_get, lk_same, lk_ne, lk_nil, ren, renL, lkp, N7, N1, N5, reduceIte, and_true, true_and, Nat.not_lt_zero, if_false, if_true, Nat.add_zero, Nat.zero_add]; (try rw [wrap64 (by omega) (by omega)]); (first | done | (simp; done) | (and_intros <;> rfl))) (by simp only [net5, canR, canB, renO, renL, ren, lkp, hget, N7, N5, Nat.not_lt_zero, if_false, if_true, reduceIte, List.append_nil, List.nil_append]; (first | done | rfl | (rw [← ar5_snoc]; rfl))))) (by omega) trivial fun d hdl2 _ J hJ => ?_
      by_cases hdD2 : d < D
      · have hm0 := mul_ok (d := (d : Int)) ⟨by omega, by omega⟩ hd
        have hm1 := mul_ok (d := (d : Int) + 1) ⟨by omega, by omega⟩ hd
        have w1 : IntKind.i64.wrap ((d : Int) * L.d) = (d : Int) * L.d := wrap64 (by omega) (by omega)
        have w2 : IntKind.i64.wrap ((d : Int) + 1) = (d : Int) + 1 := wrap64 (by omega) (by omega)
        have w3 : IntKind.i64.wrap (((d : Int) + 1) * L.d) = ((d : Int) + 1) * L.d := wrap64 (by omega) (by omega)
        have hal := arcsT_len (F := F) (T := T) (B := 1000000000) L d
        rcases hA : arcsL L D ++ arcsT F T 1000000000 L d with _ | ⟨a, r0⟩
        all_goals
          simp only [net5, decide_false, w1, w2, w3, lns_length, ints_length, ar5_take1, ar5_length, ar5_cells, push_cast, ↓J1, ↓J2, N1, N2, N3, reduceCtorEq, N4, N5, N6, reduceIte, N7, I1, I2, I3]
          refine ifB_intro (fun _ => ?_) (fun h => by simp at h; omega)
          refine RL_count (fun k => net5 110 [(1, .int .i64 F), (2, .int .i64 T), (4, .ptr 0 none 0 0 0), (9, .ptr 1 none 0 0 0), (63, .int .i64 (D : Int)), (64, .int .i64 (d : Int)), (13, .int .i64 (d : Int)), (68, .sl (ints L.st)), (69, .int .i64 (L.st.length : Int)), (70, .int .i64 (k : Int))] P0 (.var [.int .i64 L.d, .sl (lns L.ls), .sl (ints L.st)]) (arcsL L D ++ arcsT F T 1000000000 L d ++ storeArcs F T 1000000000 L d k)) (fun _ => True) L.st.length 0 (by rw [show storeArcs F T 1000000000 L d 0 = [] from rfl, List.append_nil, hA]; (first | exact head_tb [(1, 1), (0, 0)] rfl (by simp only [keptV_cons, keptV_nil, tb_get, lk_same, lk_ne, lk_nil, ren, renL, lkp, N7, N1, N5, reduceIte, and_true, true_and, Nat.not_lt_zero, if_false, if_true, Nat.add_zero, Nat.zero_add]; (try rw [wrap64 (by omega) (by omega)]); (first | done | (simp; done) | (and_intros <;> rfl))) (by simp only [net5, canR, canB, renO, renL, ren, lkp, hget, N7, N5, Nat.not_lt_zero, if_false, if_true, reduceIte, List.append_nil, List.nil_append]; (first | done | rfl | (rw [← ar5_snoc]; rfl))) | exact head_tb [(2, 2), (1, 1), (0, 0)] rfl (by simp only [keptV_cons, keptV_nil, tb_get, lk_same, lk_ne, lk_nil, ren, renL, lkp, N7, N1, N5, reduceIte, and_true, true_and, Nat.not_lt_zero, if_false, if_true, Nat.add_zero, Nat.zero_add]; (try rw [wrap64 (by omega) (by omega)]); (first | done | (simp; done) | (and_intros <;> rfl))) (by simp only [net5, canR, canB, renO, renL, ren, lkp, hget, N7, N5, Nat.not_lt_zero, if_false, if_true, reduceIte, List.append_nil, List.nil_append]; (first | done | rfl | (rw [← ar5_snoc]; rfl))))) (by omega) trivial fun k hk _ Jx2 hJx2 => ?_
          have hkl : (arcsL L D ++ arcsT F T 1000000000 L d ++ storeArcs F T 1000000000 L d k).length ≤ 1000 := by
            have h2 := storeArcs_len (F := F) (T := T) (B := 1000000000) L d k
            have h6 : L.st.length * d ≤ 6 * 6 := Nat.mul_le_mul (by omega) (by omega)
            simp only [List.length_append]; omega
          by_cases h2 : k < L.st.length
          · have hst := hL.st k h2
            have w4 : IntKind.i64.wrap ((d : Int) * L.d + k) = (d : Int) * L.d + k := wrap64 (by omega) (by omega)
            have w5 : IntKind.i64.wrap (((d : Int) + 1) * L.d + k) = ((d : Int) + 1) * L.d + k := wrap64 (by omega) (by omega)
            have e1 : (ints L.st)[k]? = some [.int .i64 (L.st.getD k 0)] := cut_ints_get h2
            rcases hC2 : arcsL L D ++ arcsT F T 1000000000 L d ++ storeArcs F T 1000000000 L d k with _ | ⟨c, r2⟩
            all_goals
              rw [hC2] at hkl
              simp only [List.length_cons, List.length_nil] at hkl
              cases g1 : decide ((k : Int) = F) <;> cases g2 : decide ((k : Int) = T)
              all_goals
                have e9 : storeArc F T 1000000000 L.d d L.st k = ⟨(d : Int) * L.d + k, ((d : Int) + 1) * L.d + k, if decide ((k : Int) = F) || decide ((k : Int) = T) then 1000000000 else L.st.getD k 0⟩ := rfl
                simp only [g1, g2, Bool.or_self, Bool.or_true, Bool.true_or, Bool.or_false, Bool.false_or, Bool.false_eq_true, if_true, if_false] at e9
                simp only [net5, Int.toNat_natCast, e1, w4, w5, g1, g2, decide_false, w1, w2, w3, lns_length, ints_length, ar5_take1, ar5_length, ar5_cells, push_cast, ↓J1, ↓J2, N1, N2, N3, reduceCtorEq, N4, N5, N6, reduceIte, N7, I1, I2, I3]
                refine ifB_intro (fun _ => ?_) (fun h => by simp at h; omega)
                repeat (refine ⟨by omega, ?_⟩)
                refine hJx2 h2 trivial _ ?_
                rw [storeArcs_succ, e9, ← List.append_assoc, hC2, net5_snoc]
                (first | exact head_tb [(3, 2), (1, 1), (0, 0)] rfl (by simp only [keptV_cons, keptV_nil, tb_get, lk_same, lk_ne, lk_nil, ren, renL, lkp, N7, N1, N5, reduceIte, and_true, true_and, Nat.not_lt_zero, if_false, if_true, Nat.add_zero, Nat.zero_add]; (try rw [wrap64 (n := (k : Int) + 1) (by omega) (by omega)]); (first | done | (simp; done) | (and_intros <;> rfl))) (by simp only [net5, canR, canB, renO, renL, ren, lkp, hget, N7, N5, Nat.not_lt_zero, if_false, if_true, reduceIte, List.append_nil, List.nil_append]; (first | done | rfl | (rw [← ar5_snoc]; rfl))) | exact head_tb [(4, 2), (1, 1), (0, 0)] rfl (by simp only [keptV_cons, keptV_nil, tb_get, lk_same, lk_ne, lk_nil, ren, renL, lkp, N7, N1, N5, reduceIte, and_true, true_and, Nat.not_lt_zero, if_false, if_true, Nat.add_zero, Nat.zero_add]; (try rw [wrap64 (n := (k : Int) + 1) (by omega) (by omega)]); (first | done | (simp; done) | (and_intros <;> rfl))) (by simp only [net5, canR, canB, renO, renL, ren, lkp, hget, N7, N5, Nat.not_lt_zero, if_false, if_true, reduceIte, List.append_nil, List.nil_append]; (first | done | rfl | (rw [← ar5_snoc]; rfl))))
          · obtain rfl : k = L.st.length := by omega
            rcases hC2 : arcsL L D ++ arcsT F T 1000000000 L d ++ storeArcs F T 1000000000 L d L.st.length with _ | ⟨c, r2⟩
            all_goals
              simp only [net5, push_cast, ↓J1, ↓J2, N1, N2, N3, reduceCtorEq, N4, N5, N6, reduceIte, N7, I1, I2, I3]
              refine ifB_intro (fun h => by simp at h) (fun h => ?_)
              refine hJ hdD2 trivial _ ?_
              rw [show arcsT F T 1000000000 L (d + 1) = arcsT F T 1000000000 L d ++ storeArcs F T 1000000000 L d L.st.length from rfl, ← List.append_assoc, hC2]
              (first | exact head_tb [(1, 1), (0, 0)] rfl (by simp only [keptV_cons, keptV_nil, tb_get, lk_same, lk_ne, lk_nil, ren, renL, lkp, N7, N1, N5, reduceIte, and_true, true_and, Nat.not_lt_zero, if_false, if_true, Nat.add_zero, Nat.zero_add]; (try rw [wrap64 (n := (d : Int) + 1) (by omega) (by omega)]); (first | done | (simp; done) | (and_intros <;> rfl))) (by simp only [net5, canR, canB, renO, renL, ren, lkp, hget, N7, N5, Nat.not_lt_zero, if_false, if_true, reduceIte, List.append_nil, List.nil_append]; (first | done | rfl | (rw [← ar5_snoc]; rfl))) | exact head_tb [(2, 2), (1, 1), (0, 0)] rfl (by simp only [keptV_cons, keptV_nil, tb_get, lk_same, lk_ne, lk_nil, ren, renL, lkp, N7, N1, N5, reduceIte, and_true, true_and, Nat.not_lt_zero, if_false, if_true, Nat.add_zero, Nat.zero_add]; (try rw [wrap64 (n := (d : Int) + 1) (by omega) (by omega)]); (first | done | (simp; done) | (and_intros <;> rfl))) (by simp only [net5, canR, canB, renO, renL, ren, lkp, hget, N7, N5, Nat.not_lt_zero, if_false, if_true, reduceIte, List.append_nil, List.nil_append]; (first | done | rfl | (rw [← ar5_snoc]; rfl))))
      · obtain rfl : D = d := by omega
        rcases hB : arcsL L D ++ arcsT F T 1000000000 L D with _ | ⟨a, r0⟩
        · rw [hB] at hR; subst hR
          simp only [net5, push_cast, ↓J1, ↓J2, N1, N2, N3, reduceCtorEq, N4, N5, N6, reduceIte, N7, I1, I2, I3]
          refine ifB_intro (fun h => by simp at h) (fun h => ?_)
          exact ⟨.op [.int .i64 P0, .nil], _, by simp only [conR, conRL, isF, hget, hdel, if_true, if_false, reduceIte, Nat.reduceEqDiff, reduceCtorEq]; rfl, by simp only [NilTo, NilToL]; exact ⟨_, rfl, _, _, rfl, rfl, _, _, rfl, .inr ⟨5, rfl⟩, rfl⟩⟩
        · rw [hB] at hR; subst hR
          simp only [net5, push_cast, ↓J1, ↓J2, N1, N2, N3, reduceCtorEq, N4, N5, N6, reduceIte, N7, I1, I2, I3]
          refine ifB_intro (fun h => by simp at h) (fun h => ?_)
          exact RetTo_of (by simp only [conR, conRL, isF, hget, hdel, List.drop_zero, ar5_take1, if_true, if_false, reduceIte, Nat.reduceEqDiff, reduceCtorEq]; rfl)
end
end Go.Proofs.Ytiemjnkblggimaa.X
set_option maxHeartbeats 4000000
set_option maxRecDepth 8000
set_option linter.unusedSimpArgs false
set_option linter.unusedVariables false
open Nat renaming reduceBEq → N1, reduceAdd → N2, reduceSub → N3, reduceMul → N4, reduceEqDiff → N5, reduceLeDiff → N6, reduceLT → N7
open Int renaming reduceLE → I1, reduceLT → I2, reduceToNat → I3
namespace Go.Proofs.Ytiemjnkblggimaa.X
open Go
attribute [local irreducible] Ev
theorem nc_pf {cs : List AV} {K : AV → Prop} : ncT (.pf cs) K = K (.pf cs) := _root_.id rfl
attribute [push_cast] nc_pf
def fa4 (l : List Fa) : List (List AV) := l.map fun a => [.int .i64 a.f, .int .i64 a.t, .int .i64 a.m, .int .i64 a.g]
def fa5 (l : List Fa) : List (List AV) := l.map fun a => [.int .i64 a.f, .int .i64 a.t, .int .i64 a.m, .int .i64 a.g, .bool false]
theorem fa4_length (l : List Fa) : (fa4 l).length = l.length := by simp [fa4]
theorem fa5_length (l : List Fa) : (fa5 l).length = l.length := by simp [fa5]
theorem fa4_get {l : List Fa} {i : Nat} (h : i < l.length) : (fa4 l)[i]? = some [.int .i64 (arc l i).f, .int .i64 (arc l i).t, .int .i64 (arc l i).m, .int .i64 (arc l i).g] := by
  simp [fa4, arc, List.getD, h]
theorem fa5_get {l : List Fa} {i : Nat} (h : i < l.length) : (fa5 l)[i]? = some [.int .i64 (arc l i).f, .int .i64 (arc l i).t, .int .i64 (arc l i).m, .int .i64 (arc l i).g, .bool false] := by
  simp [fa5, arc, List.getD, h]
theorem fa4_set {l : List Fa} {i : Nat} {a : Fa} {x : List AV} (h : x = [.int .i64 a.f, .int .i64 a.t, .int .i64 a.m, .int .i64 a.g]) : (fa4 l).set i x = fa4 (l.set i a) := by
  subst h; simp [fa4, List.map_set]
theorem fa5_set {l : List Fa} {i : Nat} {a : Fa} {x : List AV} (h : x = [.int .i64 a.f, .int .i64 a.t, .int .i64 a.m, .int .i64 a.g, .bool false]) : (fa5 l).set i x = fa5 (l.set i a) := by
  subst h; simp [fa5, List.map_set]
theorem fa4_take {l : List Fa} : (fa4 l).take l.length = fa4 l := List.take_of_length_le (by rw [fa4_length]; omega)
theorem fa5_take {l : List Fa} : (fa5 l).take l.length = fa5 l := List.take_of_length_le (by rw [fa5_length]; omega)
theorem frz_fa4 (l : List Fa) : frzLL (fa4 l) = fa4 l := by
  unfold fa4
  induction l with
  | nil => rfl
  | cons x l ih => simp only [List.map_cons, frzLL, frzL, frzT, ih]
theorem frz_fa5 (l : List Fa) : frzLL (fa5 l) = fa5 l := by
  unfold fa5
  induction l with
  | nil => rfl
  | cons x l ih => simp only [List.map_cons, frzLL, frzL, frzT, ih]
def ni (q : List Nat) : List Int := q.map fun v : Nat => Int.ofNat v
theorem ni_length (q : List Nat) : (ni q).length = q.length := by simp [ni]
theorem ni_get {q : List Nat} {a : Nat} (h : a < q.length) : (ints (ni q))[a]? = some [.int .i64 (q.getD a 0 : Nat)] := by
  simp [ints, ni, List.getD, h]
theorem ni_sn (q : List Nat) (x : Nat) : ints (ni q) ++ [[.int .i64 (x : Int)]] = ints (ni (q ++ [x])) := by simp [ints, ni]
theorem mints_rep {n : Nat} : List.replicate n [AV.int .i64 0] = ints (List.replicate n 0) := by simp [ints]
theorem mints_set {v : List Int} {k : Nat} {y : Int} : (ints v).set k [.int .i64 y] = ints (v.set k y) := by simp [ints, List.map_set]
def rpT (j n : Nat) : List Int := List.replicate j (-1) ++ List.replicate (n - j) 0
theorem rpT_len {j n : Nat} (h : j ≤ n) : (rpT j n).length = n := by simp [rpT]; omega
theorem rpT_set {j n : Nat} (h : j < n) : (rpT j n).set j (-1) = rpT (j + 1) n := by
  simp only [rpT]
  obtain ⟨m, hm⟩ : ∃ m, n - j = m + 1 := ⟨n - j - 1, by omega⟩
  rw [hm, show n - (j + 1) = m by omega, List.replicate_succ, List.replicate_succ', List.set_append_right _ _ (by simp), List.length_replicate, Nat.sub_self, List.set_cons_zero, List.append_assoc]; rfl
theorem rpT_0 {n : Nat} : rpT 0 n = List.replicate n 0 := by simp [rpT]
theorem rpT_n {n : Nat} : rpT n n = List.replicate n (-1) := by simp [rpT]
/-! a round of filling -/
structure Rd (l : List Fa) (n s e : Nat) (r0 : Int) : Prop where
  st : pw l (mfB l n s) s e (pwK l (mfB l n s) n s e) = s
  at_ : ∀ k, k < pwK l (mfB l n s) n s e → pw l (mfB l n s) s e k ≠ s ∧ byAr (mfB l n s) (pw l (mfB l n s) s e k) < l.length ∧ (mfB l n s).getD (pw l (mfB l n s) s e k) 0 = (byAr (mfB l n s) (pw l (mfB l n s) s e k) : Int) ∧ pw l (mfB l n s) s e k < n ∧ res (arc l (byAr (mfB l n s) (pw l (mfB l n s) s e k))) (pw l (mfB l n s) s e k) ∧ pw l (mfB l n s) s e (k + 1) = oth (arc l (byAr (mfB l n s) (pw l (mfB l n s) s e k))) (pw l (mfB l n s) s e k)
  r : 1 ≤ fRm l n s e r0 ∧ fRm l n s e r0 ≤ r0
  up : ∀ k, k ≤ pwK l (mfB l n s) n s e → (upI l (mfB l n s) s e (fRm l n s e r0) k).length = l.length ∧ (∀ i, i < l.length → (arc (upI l (mfB l n s) s e (fRm l n s e r0) k) i).f = (arc l i).f ∧ (arc (upI l (mfB l n s) s e (fRm l n s e r0) k) i).t = (arc l i).t ∧ (arc (upI l (mfB l n s) s e (fRm l n s e r0) k) i).m = (arc l i).m ∧ 0 ≤ (arc (upI l (mfB l n s) s e (fRm l n s e r0) k) i).g ∧ (arc (upI l (mfB l n s) s e (fRm l n s e r0) k) i).g ≤ (arc l i).m)
  len : (mfB l n s).length = n
  rm : ∀ k, k ≤ pwK l (mfB l n s) n s e → 1 ≤ rmI l (mfB l n s) s e r0 k ∧ rmI l (mfB l n s) s e r0 k ≤ r0
theorem rd {n s e : Nat} {l : List Fa} {val r0 : Int} (hN : NetOk n l) (h : Flow n s e l val) (hs : s < n) (he : e < n) (hse : s ≠ e) (hsn : seen l n s e = true) (h0 : 1 ≤ r0) : Rd l n s e r0 := by
  have hp := (mfP_inv hN hs (mfN l n s)).1
  obtain ⟨xe, hxe, hxq⟩ := List.getElem_of_mem ((seen_q hN hs he).1 hsn)
  have hxe' : xe < (mfP l n s (mfN l n s)).2.length := hxe
  have hxq' : (mfP l n s (mfN l n s)).2.getD xe 0 = e := by simp only [List.getD, List.getElem?_eq_getElem hxe', Option.getD_some]; exact hxq
  have hend := pwK_end hN hp hxe' hxq'
  have hlt := fun k (hk : k < pwK l (mfB l n s) n s e) => pwK_lt hk
  have harc := fun k (hk : k < pwK l (mfB l n s) n s e) => pw_arc hN hp hxe' hxq' k fun j hj => hlt j (by omega)
  have hroom : ∀ j, j < pwK l (mfB l n s) n s e → 1 ≤ roomA (arc l (byAr (mfB l n s) (pw l (mfB l n s) s e j))) (pw l (mfB l n s) s e j) := fun j hj => by
    have := harc j hj
    exact res_room (hN.rng _ (arc_mem this.1)).2.2 this.2.1
  have hr1 : 1 ≤ fRm l n s e r0 := rmI_ge _ _ _ _ _ h0 _ hroom
  have hr2 : fRm l n s e r0 ≤ r0 := rmI_le0 _ _ _ _ _ _
  refine ⟨hend, fun k hk => ?_, ⟨hr1, hr2⟩, fun k hk => ?_, hp.len, fun k hk => ⟨rmI_ge _ _ _ _ _ h0 _ fun j hj => hroom j (by omega), rmI_le0 _ _ _ _ _ _⟩⟩
  · have := harc k hk
    refine ⟨hlt k hk, this.1, this.2.2.1, this.2.2.2, this.2.1, ?_⟩
    rw [pw, if_neg (hlt k hk)]
  · obtain ⟨u1, u2, _⟩ := upI_inv (r := fRm l n s e r0) hN hp h.bnd (by omega) hxe' hxq' k (fun j hj => hlt j (by omega)) fun j hj => rmI_le _ _ _ _ _ _ j (by omega)
    exact ⟨u1, u2⟩
theorem mfB_sign {n s e : Nat} {l : List Fa} (hN : NetOk n l) (hs : s < n) (he : e < n) (hse : s ≠ e) : decide ((mfB l n s).getD e 0 < 0) = !seen l n s e := by
  have hp := (mfP_inv hN hs (mfN l n s)).1
  cases g : seen l n s e
  · simp only [seen, Bool.not_eq_false', decide_eq_true_eq] at g
    rw [g]; rfl
  · obtain ⟨xe, hxe, hxq⟩ := List.getElem_of_mem ((seen_q hN hs he).1 g)
    have hxe' : xe < (mfP l n s (mfN l n s)).2.length := hxe
    have hxq' : (mfP l n s (mfN l n s)).2.getD xe 0 = e := by simp only [List.getD, List.getElem?_eq_getElem hxe', Option.getD_some]; exact hxq
    have h0 : 0 < xe := by
      rcases Nat.eq_zero_or_pos xe with h | h
      · subst h
        obtain ⟨r, hr⟩ := hp.q0
        rw [hr] at hxq'
        exact absurd hxq' (by simpa [List.getD] using hse)
      · exact h
    obtain ⟨i, hi, _⟩ := hp.ln xe h0 hxe'
    rw [hxq'] at hi
    change (mfB l n s).getD e 0 = _ at hi
    rw [hi, Bool.not_true, decide_eq_false_iff_not]
    omega
theorem mfP_next {l : List Fa} {n s a : Nat} (h : a < (mfP l n s a).2.length) : mfP l n s (a + 1) = mfR l ((mfP l n s a).2.getD a 0) (mfP l n s a) l.length := by
  rw [mfP, if_pos h]
section
variable {C : CT} (hC : Closed Try.prog G0 md0 C)
include hC
theorem t61 (l : List Fa) (n i v : Nat) (hi : i < l.length) (hl : l.length < 2^30) (hb : (arc l i).f < 2^40 ∧ (arc l i).t < 2^40) (hv : (arc l i).f = v ∨ (arc l i).t = v) : Ev C 61 [.pf [.sl (fa4 l), .int .i64 n], .int .i64 i, .int .i64 v] (.int .i64 (oth (arc l i) v)) := by
  have e1 := fa4_get hi
  have w1 : IntKind.i64.wrap (((arc l i).f : Int) + (arc l i).t) = ((arc l i).f : Int) + (arc l i).t := wrap64 (by omega) (by omega)
  have w2 : IntKind.i64.wrap (((arc l i).f : Int) + (arc l i).t - v) = oth (arc l i) v := by
    rw [wrap64 (by omega) (by omega)]
    simp only [oth]; split <;> omega
  refine rT hC Q61 ?_
  simp only [c61, push_cast, ↓J1, ↓J2, N1, N2, N3, reduceCtorEq, N4, N5, N6, reduceIte, N7, I1, I2, I3]
  simp only [Int.toNat_natCast, e1, fa4_length, w1, w2, push_cast, ↓J1, ↓J2, N1, N2, N3, reduceCtorEq, N4, N5, N6, reduceIte, N7, I1, I2, I3]
  repeat (refine ⟨by omega, ?_⟩)
  omega
theorem t63 (l : List Fa) (n i v : Nat) (hi : i < l.length) (hl : l.length < 2^30) (hb : 0 ≤ (arc l i).g ∧ (arc l i).g ≤ (arc l i).m ∧ (arc l i).m < 2^40) : Ev C 63 [.pf [.sl (fa4 l), .int .i64 n], .int .i64 i, .int .i64 v] (.int .i64 (roomA (arc l i) v)) := by
  have e1 := fa4_get hi
  have w1 : IntKind.i64.wrap ((arc l i).m - (arc l i).g) = (arc l i).m - (arc l i).g := wrap64 (by omega) (by omega)
  have d1 : decide (((arc l i).t : Int) = (v : Int)) = decide ((arc l i).t = v) := by rw [decide_eq_decide]; omega
  refine rT hC Q63 ?_
  simp only [c63, push_cast, ↓J1, ↓J2, N1, N2, N3, reduceCtorEq, N4, N5, N6, reduceIte, N7, I1, I2, I3]
  simp only [Int.toNat_natCast, e1, fa4_length, w1, d1, push_cast, ↓J1, ↓J2, N1, N2, N3, reduceCtorEq, N4, N5, N6, reduceIte, N7, I1, I2, I3]
  repeat (refine ⟨by omega, ?_⟩)
  refine ifB_intro (fun h => ?_) (fun h => ?_)
  · simp only [roomA, of_decide_eq_true h, if_true]
    repeat (refine ⟨by omega, ?_⟩)
    trivial
  · simp only [roomA, of_decide_eq_false h, if_false]
    repeat (refine ⟨by omega, ?_⟩)
    trivial
theorem t62 (a b : Int) : Ev C 62 [.int .i64 a, .int .i64 b] (.int .i64 (min a b)) := by
  refine rT hC Q62 ?_
  simp only [c62, push_cast, ↓J1, ↓J2, N1, N2, N3, reduceCtorEq, N4, N5, N6, reduceIte, N7, I1, I2, I3]
  refine ifB_intro (fun h => ?_) (fun h => ?_)
  · have := of_decide_eq_true h
    rw [Int.min_eq_left (by omega)]
  · have := of_decide_eq_false h
    rw [Int.min_eq_right (by omega)]
theorem t60 (l : List Fa) (n s : Nat) (hN : NetOk n l) (hs : s < n) (hn : n ≤ 1000) (hl : l.length < 2^30) : Ev C 60 [.pf [.sl (fa4 l), .int .i64 n], .int .i64 s] (.ow 1 (ints (mfB l n s))) := by
  refine rT hC Q60 ?_ (own_ints _)
  simp only [c60, push_cast, ↓J1, ↓J2, N1, N2, N3, reduceCtorEq, N4, N5, N6, reduceIte, N7, I1, I2, I3]
  simp only [Int.toNat_natCast, List.length_replicate, mints_rep, push_cast, ↓J1, ↓J2, N1, N2, N3, reduceCtorEq, N4, N5, N6, reduceIte, N7, I1, I2, I3]
  repeat (refine ⟨by omega, ?_⟩)
  refine RL_count (fun i => ⟨tb 109 .any [(0, .pf [.sl (fa4 l), .int .i64 (n : Int)]), (1, .int .i64 (s : Int)), (5, .ref 0 none 1 0 n), (18, .int .i64 (n : Int)), (19, .int .i64 (i : Int))], [(0, .slice 1 (ints (rpT i n)))], 1⟩) (fun _ => True) n 0 (by rw [rpT_0]; exact (hdA [(0, 0)])) (by omega) trivial fun i hi _ J hJ => ?_
  by_cases h1 : i < n
  · have hJ1 := hJ h1 trivial
    clear hJ
    have hlt : decide ((i : Int) < (n : Int)) = true := decide_eq_true (by omega)
    have hrl := rpT_len hi
    have e1 : (ints (rpT i n))[i]? = some [.int .i64 ((rpT i n).getD i 0)] := cut_ints_get (by omega)
    rw [← rpT_set h1] at hJ1
    simp only [hlt, Int.toNat_natCast, e1, mints_set, ints_length, hrl, push_cast, ↓J1, ↓J2, N1, N2, N3, reduceCtorEq, N4, N5, N6, reduceIte, N7, I1, I2, I3]
    repeat (refine ⟨by omega, ?_⟩)
    exact hJ1 _ (hdA [(0, 0)])
  obtain rfl : i = n := by omega
  clear hJ h1
  have hlt : decide ((i : Int) < (i : Int)) = false := decide_eq_false (by omega)
  have e0 : (ints (List.replicate i (-1)))[s]? = some [.int .i64 ((List.replicate i (-1 : Int)).getD s 0)] := cut_ints_get (by simpa using hs)
  rw [rpT_n]
  simp only [hlt, ints_length, Int.toNat_natCast, e0, mints_set, List.length_replicate, push_cast, ↓J1, ↓J2, N1, N2, N3, reduceCtorEq, N4, N5, N6, reduceIte, N7, I1, I2, I3]
  repeat (refine ⟨by omega, ?_⟩)
  have hNN : mfN l i s ≤ i + 1 := mfN_le
  refine RL_count (fun a => ⟨tb 109 .any [(0, .pf [.sl (fa4 l), .int .i64 (i : Int)]), (5, .ref 0 none 1 0 i), (7, .ref 1 none 1 0 (mfP l i s a).2.length), (8, .int .i64 (a : Int))], [(1, .slice 1 (ints (ni (mfP l i s a).2))), (0, .slice 1 (ints (mfP l i s a).1))], 2⟩) (fun _ => True) (mfN l i s) 0 (hdA [(1, 1), (0, 0)]) (by omega) trivial fun a ha _ J hJ => ?_
  have inv := (mfP_inv hN hs a).1
  by_cases h1 : a < mfN l i s
  rotate_left
  · obtain rfl : a = mfN l i s := by omega
    have hend := mfN_end hN hs
    have hlt : decide (((mfN l i s : Nat) : Int) < ((mfP l i s (mfN l i s)).2.length : Int)) = false := decide_eq_false (by omega)
    have i1 := inv.len
    simp only [hlt, push_cast, ↓J1, ↓J2, N1, N2, N3, reduceCtorEq, N4, N5, N6, reduceIte, N7, I1, I2, I3]
    exact RetTo_ow rfl (by rw [ints_length]; exact i1.symm)
  have hJ1 := hJ h1 trivial
  clear hJ
  have hal := mfN_lt h1
  rw [mfP_next hal] at hJ1
  have hv := getDn_mem hal
  have hlt : decide ((a : Int) < ((mfP l i s a).2.length : Int)) = true := decide_eq_true (by omega)
  generalize mfP l i s a = p at *
  have e0 := ni_get hal
  generalize p.2.getD a 0 = v at *
  have i0 := inv.cn
  simp only [hlt, Int.toNat_natCast, e0, ints_length, ni_length, fa4_length, push_cast, ↓J1, ↓J2, N1, N2, N3, reduceCtorEq, N4, N5, N6, reduceIte, N7, I1, I2, I3]
  repeat (refine ⟨by omega, ?_⟩)
  refine RL_count (fun j => ⟨tb 109 .any [(0, .pf [.sl (fa4 l), .int .i64 (i : Int)]), (5, .ref 0 none 1 0 i), (7, .ref 1 none 1 0 (mfR l v p j).2.length), (8, .int .i64 (a : Int)), (9, .int .i64 (v : Int)), (44, .sl (fa4 l)), (45, .int .i64 (l.length : Int)), (46, .int .i64 (j : Int))], [(1, .slice 1 (ints (ni (mfR l v p j).2))), (0, .slice 1 (ints (mfR l v p j).1))], 2⟩) (fun _ => True) l.length 0 (hdA [(1, 1), (0, 0)]) (by omega) trivial fun j hj _ JJ hJ2 => ?_
  have inv2 := (mfR_inv hN inv hv j hj).1
  by_cases h2 : j < l.length
  rotate_left
  · obtain rfl : j = l.length := by omega
    have hd : decide ((l.length : Int) < (l.length : Int)) = false := decide_eq_false (by omega)
    simp only [hd, push_cast, ↓J1, ↓J2, N1, N2, N3, reduceCtorEq, N4, N5, N6, reduceIte, N7, I1, I2, I3]
    exact hJ1 _ (hdA [(1, 1), (0, 0)])
  have hd : decide ((j : Int) < (l.length : Int)) = true := decide_eq_true (by omega)
  have hK := hJ2 h2 trivial
  clear hJ2 hJ1
  rw [mfR_succ] at hK
  have hrg := hN.rng _ (arc_mem h2)
  have e1 := fa4_get h2
  generalize mfR l v p j = r at *
  obtain ⟨o, q⟩ := r
  rcases hc : arc l j with ⟨f, t, m, g⟩
  simp only [mfS, mf1, mf2, hc] at hK
  rw [hc] at hrg e1
  have i1 := inv2.len
  have i2 := inv2.cn
  simp only at i1 i2 hrg e1 ⊢
  have e2 : (ints o)[t]? = some [.int .i64 (o.getD t 0)] := cut_ints_get (by omega)
  have e3 : (ints o)[f]? = some [.int .i64 (o.getD f 0)] := cut_ints_get (by omega)
  have tk : List.take q.length (ints (ni q)) = ints (ni q) := List.take_of_length_le (by rw [ints_length, ni_length]; omega)
  simp only [hd, Int.toNat_natCast, e1, fa4_length, push_cast, ↓J1, ↓J2, N1, N2, N3, reduceCtorEq, N4, N5, N6, reduceIte, N7, I1, I2, I3]
  repeat (refine ⟨by omega, ?_⟩)
  by_cases hf : f = v
  · have htv : ¬ t = v := by omega
    have d1 : decide ((f : Int) = (v : Int)) = true := decide_eq_true (by omega)
    have d2 : decide ((t : Int) = (v : Int)) = false := decide_eq_false (by omega)
    simp only [hf, htv, decide_true, decide_false, Bool.true_and, Bool.false_and, Bool.false_eq_true, if_false] at hK
    simp only [d1, d2, push_cast, ↓J1, ↓J2, N1, N2, N3, reduceCtorEq, N4, N5, N6, reduceIte, N7, I1, I2, I3]
    cases d3 : decide (g < m)
    · simp only [d3, Bool.false_and, Bool.false_eq_true, if_false, ite_self] at hK
      simp only [d3, d2, push_cast, ↓J1, ↓J2, N1, N2, N3, reduceCtorEq, N4, N5, N6, reduceIte, N7, I1, I2, I3]
      exact hK _ (hdA [(1, 1), (0, 0)])
    simp only [d3, Int.toNat_natCast, e2, ints_length, i1, push_cast, ↓J1, ↓J2, N1, N2, N3, reduceCtorEq, N4, N5, N6, reduceIte, N7, I1, I2, I3]
    repeat (refine ⟨by omega, ?_⟩)
    cases d4 : decide (o.getD t 0 = -1)
    · simp only [d3, d4, Bool.true_and, Bool.false_eq_true, if_false] at hK
      simp only [d4, d2, push_cast, ↓J1, ↓J2, N1, N2, N3, reduceCtorEq, N4, N5, N6, reduceIte, N7, I1, I2, I3]
      exact hK _ (hdA [(1, 1), (0, 0)])
    simp only [d3, d4, Bool.true_and, if_true, List.length_append, List.length_singleton] at hK
    simp only [d4, d2, Int.toNat_natCast, e2, mints_set, tk, i1, ints_length, ni_length, allScs, apYR_sc, push_cast, ↓J1, ↓J2, N1, N2, N3, reduceCtorEq, N4, N5, N6, reduceIte, N7, I1, I2, I3]
    repeat (refine ⟨by omega, ?_⟩)
    refine hK _ (hdA [(4, 1), (0, 0)] (hh := ?_))
    simp only [canR, canB, renO, renL, ren, lkp, hget, N7, N5, Nat.not_lt_zero, if_false, if_true, reduceIte, List.append_nil, List.nil_append, ni_sn]
    all_goals rfl
  · have d1 : decide ((f : Int) = (v : Int)) = false := decide_eq_false (by omega)
    simp only [hf, decide_false, Bool.false_and, Bool.false_eq_true, if_false] at hK
    simp only [d1, push_cast, ↓J1, ↓J2, N1, N2, N3, reduceCtorEq, N4, N5, N6, reduceIte, N7, I1, I2, I3]
    by_cases htv : t = v
    rotate_left
    · have d2 : decide ((t : Int) = (v : Int)) = false := decide_eq_false (by omega)
      simp only [htv, decide_false, Bool.false_and, Bool.false_eq_true, if_false] at hK
      simp only [d2, push_cast, ↓J1, ↓J2, N1, N2, N3, reduceCtorEq, N4, N5, N6, reduceIte, N7, I1, I2, I3]
      exact hK _ (hdA [(1, 1), (0, 0)])
    have d2 : decide ((t : Int) = (v : Int)) = true := decide_eq_true (by omega)
    simp only [htv, decide_true, Bool.true_and] at hK
    simp only [d2, push_cast, ↓J1, ↓J2, N1, N2, N3, reduceCtorEq, N4, N5, N6, reduceIte, N7, I1, I2, I3]
    cases d3 : decide (0 < g)
    · simp only [d3, Bool.false_and, Bool.false_eq_true, if_false] at hK
      simp only [d3, push_cast, ↓J1, ↓J2, N1, N2, N3, reduceCtorEq, N4, N5, N6, reduceIte, N7, I1, I2, I3]
      exact hK _ (hdA [(1, 1), (0, 0)])
    simp only [d3, Int.toNat_natCast, e3, ints_length, i1, push_cast, ↓J1, ↓J2, N1, N2, N3, reduceCtorEq, N4, N5, N6, reduceIte, N7, I1, I2, I3]
    repeat (refine ⟨by omega, ?_⟩)
    cases d4 : decide (o.getD f 0 = -1)
    · simp only [d3, d4, Bool.true_and, Bool.false_eq_true, if_false] at hK
      simp only [d4, push_cast, ↓J1, ↓J2, N1, N2, N3, reduceCtorEq, N4, N5, N6, reduceIte, N7, I1, I2, I3]
      exact hK _ (hdA [(1, 1), (0, 0)])
    simp only [d3, d4, Bool.true_and, if_true, List.length_append, List.length_singleton] at hK
    simp only [d4, Int.toNat_natCast, e3, mints_set, tk, i1, ints_length, ni_length, allScs, apYR_sc, push_cast, ↓J1, ↓J2, N1, N2, N3, reduceCtorEq, N4, N5, N6, reduceIte, N7, I1, I2, I3]
    repeat (refine ⟨by omega, ?_⟩)
    refine hK _ (hdA [(4, 1), (0, 0)] (hh := ?_))
    simp only [canR, canB, renO, renL, ren, lkp, hget, N7, N5, Nat.not_lt_zero, if_false, if_true, reduceIte, List.append_nil, List.nil_append, ni_sn]
    all_goals rfl
end
end Go.Proofs.Ytiemjnkblggimaa.X
set_option maxHeartbeats 4000000
set_option maxRecDepth 8000
set_option linter.unusedSimpArgs false
set_option linter.unusedVariables false
open Nat renaming reduceBEq → N1, reduceAdd → N2, reduceSub → N3, reduceMul → N4, reduceEqDiff → N5, reduceLeDiff → N6, reduceLT → N7
open Int renaming reduceLE → I1, reduceLT → I2, reduceToNat → I3
namespace Go.Proofs.Ytiemjnkblggimaa.X
open Go
attribute [local irreducible] Ev
theorem fI_next {l : List Fa} {n s e : Nat} {lim : Int} {k : Nat} (h : fGo n s e lim (fI l n s e lim k) = true) : fI l n s e lim (k + 1) = (fUp (fI l n s e lim k).1 n s e (fRm (fI l n s e lim k).1 n s e (lim - (fI l n s e lim k).2)), (fI l n s e lim k).2 + fRm (fI l n s e lim k).1 n s e (lim - (fI l n s e lim k).2)) := by
  rw [fI, if_pos h]
section
variable {C : CT} (hC : Closed Try.prog G0 md0 C)
include hC
theorem t55 (L : Lanes) (l : List Fa) (n s e : Nat) (lim : Int) (hN : NetOk n l) (hF : Flow n s e l 0) (hs : s < n) (he : e < n) (hse : s ≠ e) (hn : n ≤ 1000) (hl : l.length < 2^30) (hm : ∀ a ∈ l, a.m < 2^32) (hlim : 1 ≤ lim ∧ lim < 2^40) (hv : (fE l n s e lim).2 < lim) : C 55 [.ptr 2 none 0 0 0, .int .i64 s, .int .i64 e, .int .i64 lim] [(2, .var [.ref 1 none 4 0 l.length, .int .i64 n]), (1, .slice 4 (fa4 l)), (0, .var [.int .i64 L.d, .sl (lns L.ls), .sl (ints L.st)])] 3 (fun v h' n' => v = .int .i64 (fE l n s e lim).2 ∧ n' = 4 ∧ h' = [(3, .slice 1 (ints (mfB (fE l n s e lim).1 n s))), (2, .var [.ref 1 none 4 0 l.length, .int .i64 n]), (1, .slice 4 (fa4 (fE l n s e lim).1)), (0, .var [.int .i64 L.d, .sl (lns L.ls), .sl (ints L.st)])]) := by
  have hend := fN_end (lim := lim) hN hF hs he hse
  refine Closed.rT hC Q55 ?_
  simp only [c55, push_cast, ↓J1, ↓J2, N1, N2, N3, reduceCtorEq, N4, N5, N6, reduceIte, N7, I1, I2, I3]
  refine RL_count (fun k => ⟨tb 98 .any [(0, .ptr 2 none 0 0 0), (1, .int .i64 (s : Int)), (2, .int .i64 (e : Int)), (3, .int .i64 lim), (9, .int .i64 (fI l n s e lim k).2)], [(2, .var [.ref 1 none 4 0 l.length, .int .i64 (n : Int)]), (1, .slice 4 (fa4 (fI l n s e lim k).1)), (0, .var [.int .i64 L.d, .sl (lns L.ls), .sl (ints L.st)])], 3⟩) (fun _ => True) (fN l n s e lim) 0 (hdA []) (by omega) trivial fun k hk _ J hJ => ?_
  obtain ⟨⟨i1, i2⟩, i3, _⟩ := fI_inv (lim := lim) hN hF hs he hse k
  have hNk := net_shp i2 hN
  have hlk : (fI l n s e lim k).1.length = l.length := shp_len i2
  have hmk : ∀ a ∈ (fI l n s e lim k).1, a.m < 2^32 := fun a ha => by
    obtain ⟨i, hi, ea⟩ := arc_of ha
    have h3 := (shp_arc i2 i).2.2
    have h4 := hm _ (arc_mem (l := l) (i := i) (by omega))
    rw [← ea, h3]; exact h4
  have hgo : k < fN l n s e lim → fGo n s e lim (fI l n s e lim k) = true := fun h => fN_lt h
  have hlt : decide ((fI l n s e lim k).2 < lim) = true := by
    by_cases h1 : k < fN l n s e lim
    · have := hgo h1
      simp only [fGo, Bool.and_eq_true] at this
      exact this.1
    · obtain rfl : k = fN l n s e lim := by omega
      exact decide_eq_true hv
  have hltv := of_decide_eq_true hlt
  have c1 := t60 hC (fI l n s e lim k).1 n s hNk hs hn (by omega)
  have hsg := mfB_sign hNk hs he hse
  have hBl : (mfB (fI l n s e lim k).1 n s).length = n := (mfP_inv hNk hs _).1.len
  have e1 : (ints (mfB (fI l n s e lim k).1 n s))[e]? = some [.int .i64 ((mfB (fI l n s e lim k).1 n s).getD e 0)] := cut_ints_get (by omega)
  have fz := frz_fa4 (fI l n s e lim k).1
  have tk : List.take l.length (fa4 (fI l n s e lim k).1) = fa4 (fI l n s e lim k).1 := by rw [← hlk]; exact fa4_take
  simp only [hlt, fz, tk, push_cast, ↓J1, ↓J2, N1, N2, N3, reduceCtorEq, N4, N5, N6, reduceIte, N7, I1, I2, I3]
  refine ⟨_, c1, ?_⟩
  simp only [Int.toNat_natCast, e1, ints_length, hBl, hsg, push_cast, ↓J1, ↓J2, N1, N2, N3, reduceCtorEq, N4, N5, N6, reduceIte, N7, I1, I2, I3]
  repeat (refine ⟨by omega, ?_⟩)
  by_cases h1 : k < fN l n s e lim
  rotate_left
  · obtain rfl : k = fN l n s e lim := by omega
    have hse' : seen (fI l n s e lim (fN l n s e lim)).1 n s e = false := by
      have := hend
      simp only [fGo, hlt, Bool.true_and] at this
      exact this
    simp only [hse', Bool.not_false, push_cast, ↓J1, ↓J2, N1, N2, N3, reduceCtorEq, N4, N5, N6, reduceIte, N7, I1, I2, I3]
    exact ⟨rfl, rfl⟩
  have hJ1 := hJ h1 trivial
  clear hJ hend
  rw [fI_next (hgo h1)] at hJ1
  have hsn : seen (fI l n s e lim k).1 n s e = true := by
    have := hgo h1
    simp only [fGo, hlt, Bool.true_and] at this
    exact this
  clear hgo hv e1 c1
  have hr := rd (r0 := lim - (fI l n s e lim k).2) hNk i1 hs he hse hsn (by omega)
  have w0 : IntKind.i64.wrap (lim - (fI l n s e lim k).2) = lim - (fI l n s e lim k).2 := wrap64 (by omega) (by omega)
  have hbk := i1.bnd
  generalize hp : fI l n s e lim k = p at *
  obtain ⟨m, x⟩ := p
  simp only at hsn hr w0 hJ1 hlk hNk hmk hbk i3 hltv hBl fz ⊢
  simp only [hsn, Bool.not_true, w0, push_cast, ↓J1, ↓J2, N1, N2, N3, reduceCtorEq, N4, N5, N6, reduceIte, N7, I1, I2, I3]
  have hmr : ∀ i, i < m.length → (arc m i).f < n ∧ (arc m i).t < n ∧ 0 ≤ (arc m i).g ∧ (arc m i).g ≤ (arc m i).m ∧ (arc m i).m < 2^32 := fun i hi => by
    have h1 := hNk.rng _ (arc_mem hi)
    have h2 := hbk _ (arc_mem hi)
    exact ⟨h1.1, h1.2.1, h2.1, h2.2, hmk _ (arc_mem hi)⟩
  refine RL_count (fun j => ⟨tb 98 .any [(0, .ptr 2 none 0 0 0), (1, .int .i64 (s : Int)), (2, .int .i64 (e : Int)), (3, .int .i64 lim), (9, .int .i64 x), (10, .ref 3 none 1 0 n), (11, .int .i64 (rmI m (mfB m n s) s e (lim - x) j)), (12, .int .i64 (pw m (mfB m n s) s e j : Nat))], [(3, .slice 1 (ints (mfB m n s))), (2, .var [.ref 1 none 4 0 l.length, .int .i64 (n : Int)]), (1, .slice 4 (fa4 m)), (0, .var [.int .i64 L.d, .sl (lns L.ls), .sl (ints L.st)])], 4⟩) (fun _ => True) (pwK m (mfB m n s) n s e) 0 (hdA [(3, 3)]) (by omega) trivial fun j hj _ Ja hJ2 => ?_
  by_cases h2 : j < pwK m (mfB m n s) n s e
  · have hK := hJ2 h2 trivial
    clear hJ2 hJ1
    obtain ⟨a1, a2, a3, a4, a5, a6⟩ := hr.at_ j h2
    have b1 := hr.rm j (by omega)
    simp only [rmI] at hK
    rw [a6] at hK
    generalize rmI m (mfB m n s) s e (lim - x) j = y at *
    generalize pw m (mfB m n s) s e j = v at *
    have e2 : (ints (mfB m n s))[v]? = some [.int .i64 ((mfB m n s).getD v 0)] := cut_ints_get (by omega)
    rw [a3] at e2
    generalize byAr (mfB m n s) v = i at *
    have c2 := hmr i a2
    have c3 := t63 hC m n i v a2 (by omega) ⟨c2.2.2.1, c2.2.2.2.1, by omega⟩
    have c4 := t62 hC y (roomA (arc m i) v)
    have c5 := t61 hC m n i v a2 (by omega) ⟨by omega, by omega⟩ (a5.elim (fun h => .inr h.1) fun h => .inl h.1)
    have d1 : decide ((v : Int) = (s : Int)) = false := decide_eq_false (by omega)
    simp only [d1, Int.toNat_natCast, e2, ints_length, hBl, fz, tk, push_cast, ↓J1, ↓J2, N1, N2, N3, reduceCtorEq, N4, N5, N6, reduceIte, N7, I1, I2, I3]
    repeat (refine ⟨by omega, ?_⟩)
    refine ⟨_, c3, ?_⟩
    simp only [push_cast, ↓J1, ↓J2, N1, N2, N3, reduceCtorEq, N4, N5, N6, reduceIte, N7, I1, I2, I3]
    refine ⟨_, c4, ?_⟩
    simp only [Int.toNat_natCast, e2, ints_length, hBl, fz, tk, push_cast, ↓J1, ↓J2, N1, N2, N3, reduceCtorEq, N4, N5, N6, reduceIte, N7, I1, I2, I3]
    repeat (refine ⟨by omega, ?_⟩)
    refine ⟨_, c5, ?_⟩
    simp only [push_cast, ↓J1, ↓J2, N1, N2, N3, reduceCtorEq, N4, N5, N6, reduceIte, N7, I1, I2, I3]
    exact hK _ (hdA [(3, 3)])
  obtain rfl : j = pwK m (mfB m n s) n s e := by omega
  clear hJ2 h2
  rw [hr.st, show rmI m (mfB m n s) s e (lim - x) (pwK m (mfB m n s) n s e) = fRm m n s e (lim - x) from rfl]
  have d1 : decide ((s : Int) = (s : Int)) = true := decide_eq_true rfl
  simp only [d1, Bool.not_true, push_cast, ↓J1, ↓J2, N1, N2, N3, reduceCtorEq, N4, N5, N6, reduceIte, N7, I1, I2, I3]
  have hr1 := hr.r
  have hup := hr.up
  rw [show fUp m n s e (fRm m n s e (lim - x)) = upI m (mfB m n s) s e (fRm m n s e (lim - x)) (pwK m (mfB m n s) n s e) from rfl] at hJ1
  generalize fRm m n s e (lim - x) = y at *
  refine RL_count (fun j => ⟨tb 98 .any [(0, .ptr 2 none 0 0 0), (1, .int .i64 (s : Int)), (2, .int .i64 (e : Int)), (3, .int .i64 lim), (9, .int .i64 x), (10, .ref 3 none 1 0 n), (11, .int .i64 y), (13, .int .i64 (pw m (mfB m n s) s e j : Nat))], [(3, .slice 1 (ints (mfB m n s))), (2, .var [.ref 1 none 4 0 l.length, .int .i64 (n : Int)]), (1, .slice 4 (fa4 (upI m (mfB m n s) s e y j))), (0, .var [.int .i64 L.d, .sl (lns L.ls), .sl (ints L.st)])], 4⟩) (fun _ => True) (pwK m (mfB m n s) n s e) 0 (hdA [(3, 3)]) (by omega) trivial fun j hj _ Ja hJ2 => ?_
  by_cases h2 : j < pwK m (mfB m n s) n s e
  · have hK := hJ2 h2 trivial
    clear hJ2 hJ1
    obtain ⟨a1, a2, a3, a4, a5, a6⟩ := hr.at_ j h2
    obtain ⟨u1, u2⟩ := hup j (by omega)
    simp only [upI] at hK
    rw [a6] at hK
    generalize upI m (mfB m n s) s e y j = u at *
    generalize pw m (mfB m n s) s e j = v at *
    have e2 : (ints (mfB m n s))[v]? = some [.int .i64 ((mfB m n s).getD v 0)] := cut_ints_get (by omega)
    rw [a3] at e2
    generalize byAr (mfB m n s) v = i at *
    have c2 := hmr i a2
    have u3 := u2 i a2
    have e3 := fa4_get (l := u) (i := i) (by omega)
    have fzu := frz_fa4 u
    have tku : List.take l.length (fa4 u) = fa4 u := by rw [← hlk, ← u1]; exact fa4_take
    have ho : oth (arc u i) v = oth (arc m i) v := by simp only [oth, u3.1, u3.2.1]
    have c5 := t61 hC u n i v (by omega) (by omega) ⟨by omega, by omega⟩ (by rw [u3.1, u3.2.1]; exact a5.elim (fun h => .inr h.1) fun h => .inl h.1)
    rw [ho] at c5
    rw [← ho] at hK
    rw [← ho] at c5
    have w5 : IntKind.i64.wrap ((arc u i).g + y) = (arc u i).g + y := wrap64 (by omega) (by omega)
    have w6 : IntKind.i64.wrap ((arc u i).g - y) = (arc u i).g - y := wrap64 (by omega) (by omega)
    have d2 : decide ((v : Int) = (s : Int)) = false := decide_eq_false (by omega)
    have d3 : decide (((arc u i).t : Int) = (v : Int)) = decide ((arc u i).t = v) := by rw [decide_eq_decide]; omega
    have s1 := fa4_set (l := u) (i := i) (a := ⟨(arc u i).f, (arc u i).t, (arc u i).m, (arc u i).g + y⟩) rfl
    have s2 := fa4_set (l := u) (i := i) (a := ⟨(arc u i).f, (arc u i).t, (arc u i).m, (arc u i).g - y⟩) rfl
    simp only at s1 s2
    simp only [d2, Int.toNat_natCast, e2, ints_length, hBl, fzu, tku, push_cast, ↓J1, ↓J2, N1, N2, N3, reduceCtorEq, N4, N5, N6, reduceIte, N7, I1, I2, I3]
    repeat (refine ⟨by omega, ?_⟩)
    refine ⟨_, c5, ?_⟩
    simp only [Int.toNat_natCast, e3, d3, fa4_length, push_cast, ↓J1, ↓J2, N1, N2, N3, reduceCtorEq, N4, N5, N6, reduceIte, N7, I1, I2, I3]
    repeat (refine ⟨by omega, ?_⟩)
    by_cases ht : (arc u i).t = v
    · simp only [mv, if_pos ht] at hK
      have ht' : decide ((arc u i).t = v) = true := decide_eq_true ht
      simp only [ht', Int.toNat_natCast, e3, w5, s1, push_cast, ↓J1, ↓J2, N1, N2, N3, reduceCtorEq, N4, N5, N6, reduceIte, N7, I1, I2, I3]
      repeat (refine ⟨by omega, ?_⟩)
      exact hK _ (hdA [(3, 3)])
    · simp only [mv, if_neg ht] at hK
      have ht' : decide ((arc u i).t = v) = false := decide_eq_false ht
      simp only [ht', Int.toNat_natCast, e3, w6, s2, push_cast, ↓J1, ↓J2, N1, N2, N3, reduceCtorEq, N4, N5, N6, reduceIte, N7, I1, I2, I3]
      repeat (refine ⟨by omega, ?_⟩)
      exact hK _ (hdA [(3, 3)])
  obtain rfl : j = pwK m (mfB m n s) n s e := by omega
  clear hJ2 h2
  rw [hr.st]
  have w7 : IntKind.i64.wrap (x + y) = x + y := wrap64 (by omega) (by omega)
  simp only [d1, w7, Bool.not_true, push_cast, ↓J1, ↓J2, N1, N2, N3, reduceCtorEq, N4, N5, N6, reduceIte, N7, I1, I2, I3]
  exact hJ1 _ (hdA [])
end
end Go.Proofs.Ytiemjnkblggimaa.X
