/- A part of the proof: lemmas on the machine or on the functions that the law reaches. No condition of its own. -/
import Derived.Test.YtjaccjeejeiphaaGreatDoorXP10
import Derived.Test.YtjaccjeejeiphaaGreatDoorXP9
import Derived.Test.YtjaccjeejeiphaaGreatDoorXP4
import Derived.Test.YtjaccjeejeiphaaGreatDoorXP6
set_option maxHeartbeats 4000000
set_option maxRecDepth 8000
set_option linter.unusedSimpArgs false
set_option linter.unusedVariables false
open Nat renaming reduceBEq → N1, reduceAdd → N2, reduceSub → N3, reduceMul → N4, reduceEqDiff → N5, reduceLeDiff → N6, reduceLT → N7
open Int renaming reduceLE → I1, reduceLT → I2, reduceToNat → I3
namespace Go.Proofs.YtjaccjeejeiphaaGreatDoor.X
open Go
attribute [local irreducible] Ev
attribute [-push_cast] R_fork
section
variable {C : CT} (hC : Closed Tryz.prog G1 md0 C)
include hC
theorem t42 (b : Brd) (s : Sta) (x : Wk) (c n : Int) (hb : BrdB (2^50) b) (hl : s.us.length < 2^40) (hq : x.q.length < 2^50) : Ev C 42 [brdF b, .agg (staF s), .agg (wkF x), .int .i64 c, .int .i64 n] (.tup [.agg (staO (psS b s x c n)), .agg (wkO (psX b s x c n)), .int .i64 (psN b s x c n), .bool (psOk b s x c n)]) := by
  have c1 := t61 hC b s x hb hl hq
  have c2 := tIn hC c 0 50
  have c3 := tIn hC n 0 30
  have o1 := t90 hC s hl
  have o2 := fun h => t91 hC x h
  have ct := fun s' x' g h => t106 hC b s' x' c g h hb
  simp only [brdF, rulF, mpF, List.cons_append, List.nil_append, staF, staO, wkF, wkO] at c1 c2 c3 o1 o2 ct ⊢
  refine rT hC Q42 ?_ (own_swb _ _ _ _)
  simp only [c42, push_cast, ↓J1, ↓J2, N1, N2, N3, reduceCtorEq, N4, N5, N6, reduceIte, N7, I1, I2, I3]
  refine ⟨_, c1, ?_⟩
  cases g1 : prOk b s x
  · have hno : psOk b s x c n = false := by simp only [psOk, g1, Bool.false_and]
    simp only [psS, psX, psN, hno, Bool.false_eq_true, if_false, push_cast, ↓J1, ↓J2, N1, N2, N3, reduceCtorEq, N4, N5, N6, reduceIte, N7, I1, I2, I3]
    exact RetTo_nil (h2 := _) (by simp only [conR, conRL, isF, hget, hdel, List.drop_zero, List.take_length, if_true, if_false, reduceIte, N5, reduceCtorEq]; rfl) (NilTo_tup (NilToL_cons (NilTo_agg nil_sta) (NilToL_cons (NilTo_agg nil_wk) (NilToL_cons (NilTo.refl _) (NilToL_cons (NilTo.refl _) NilToL_nil)))))
  simp only [push_cast, ↓J1, ↓J2, N1, N2, N3, reduceCtorEq, N4, N5, N6, reduceIte, N7, I1, I2, I3]
  refine ⟨_, c2, ?_⟩
  cases g2 : inR 0 50 c
  · have hno : psOk b s x c n = false := by simp only [psOk, g2, Bool.and_false, Bool.false_and]
    simp only [psS, psX, psN, hno, Bool.false_eq_true, if_false, push_cast, ↓J1, ↓J2, N1, N2, N3, reduceCtorEq, N4, N5, N6, reduceIte, N7, I1, I2, I3]
    exact RetTo_nil (h2 := _) (by simp only [conR, conRL, isF, hget, hdel, List.drop_zero, List.take_length, if_true, if_false, reduceIte, N5, reduceCtorEq]; rfl) (NilTo_tup (NilToL_cons (NilTo_agg nil_sta) (NilToL_cons (NilTo_agg nil_wk) (NilToL_cons (NilTo.refl _) (NilToL_cons (NilTo.refl _) NilToL_nil)))))
  simp only [push_cast, ↓J1, ↓J2, N1, N2, N3, reduceCtorEq, N4, N5, N6, reduceIte, N7, I1, I2, I3]
  refine ⟨_, c3, ?_⟩
  cases g3 : inR 0 30 n
  · have hno : psOk b s x c n = false := by simp only [psOk, g3, Bool.and_false]
    simp only [psS, psX, psN, hno, Bool.false_eq_true, if_false, push_cast, ↓J1, ↓J2, N1, N2, N3, reduceCtorEq, N4, N5, N6, reduceIte, N7, I1, I2, I3]
    exact RetTo_nil (h2 := _) (by simp only [conR, conRL, isF, hget, hdel, List.drop_zero, List.take_length, if_true, if_false, reduceIte, N5, reduceCtorEq]; rfl) (NilTo_tup (NilToL_cons (NilTo_agg nil_sta) (NilToL_cons (NilTo_agg nil_wk) (NilToL_cons (NilTo.refl _) (NilToL_cons (NilTo.refl _) NilToL_nil)))))
  have hok : psOk b s x c n = true := by simp only [psOk, g1, g2, g3, Bool.and_self]
  have hc : 0 ≤ c ∧ c ≤ 50 := by simpa only [inR, Bool.and_eq_true, decide_eq_true_eq] using g2
  have hn : 0 ≤ n ∧ n ≤ 30 := by simpa only [inR, Bool.and_eq_true, decide_eq_true_eq] using g3
  obtain ⟨N, rfl⟩ : ∃ m : Nat, n = m := ⟨n.toNat, by omega⟩
  simp only [psS, psX, psN, hok, if_true, Int.toNat_natCast, push_cast, ↓J1, ↓J2, N1, N2, N3, reduceCtorEq, N4, N5, N6, reduceIte, N7, I1, I2, I3]
  have hx8 : x.q.length < 2^30 := by
    simp only [prOk, wkR, Bool.and_eq_true, decide_eq_true_eq] at g1
    omega
  have o2 := o2 (by omega)
  refine cutF (fun s' => ∃ l h m ρ, s' = ⟨tb 63 (.con undef) l, h, m⟩ ∧ rhoOk 0 ρ [] 7 = true ∧ keptV 0 ρ (tb 63 (.con undef) l) [(3, .int .i64 c), (4, .int .i64 (N : Int)), (5, .ptr 0 none 0 0 0), (10, .ptr 1 none 0 0 0), (11, .ptr 2 none 0 0 0), (14, .ptr 3 none 0 0 0), (15, .ptr 5 none 0 0 0)] ∧ canR 0 ρ h ρ ++ canB 0 ρ h = [(6, .slice 1 (ints x.q)), (5, .var [.int .i64 x.sd, .int .i64 x.at_, .int .i64 x.pt, .ref 6 none 1 0 x.q.length]), (4, .slice 4 (uns s.us)), (3, .var [.int .i64 s.t, .int .i64 s.w, .ref 4 none 4 0 s.us.length]), (2, .var [.int .i64 0, .int .i64 0, .int .i64 0, .nil]), (1, .var [.int .i64 0, .int .i64 0, .nil]), (0, .var (rulF b.r ++ mpF b.m))] ∧ lk (.con undef) l 4 = .int .i64 (N : Int)) (fun K F hK => ?_) ?_
  · repeat' (first
    | simp only [R_fork, frzLL_ints, frzLL_uns, push_cast, ↓J1, ↓J2, N1, N2, N3, reduceCtorEq, N4, N5, N6, reduceIte, N7, I1, I2, I3]
    | refine ⟨_, o1, ?_⟩
    | refine ⟨_, o2, ?_⟩
    | refine ifB_intro (fun h => ?_) (fun h => ?_)
    | refine And.intro ?_ ?_)
    all_goals
      first
        | (refine hK _ ⟨_, _, _, [(6, 6), (8, 5), (5, 4), (7, 3), (4, 2), (3, 1), (0, 0)], rfl, rfl, ?_, ?_, rfl⟩
           · simp only [keptV_cons, keptV_nil, tb_get, lk_same, lk_ne, lk_nil, ren, renL, lkp, N7, N1, N5, reduceIte, and_true, true_and, Nat.not_lt_zero, if_false, if_true, Nat.add_zero, Nat.zero_add]; done
           · simp only [canR, canB, renO, renL, ren, lkp, hget, N7, N5, Nat.not_lt_zero, if_false, if_true, reduceIte, List.append_nil, List.nil_append, uns_length, ints_length]; rfl)
        | (refine hK _ ⟨_, _, _, [(6, 6), (7, 5), (5, 4), (8, 3), (4, 2), (3, 1), (0, 0)], rfl, rfl, ?_, ?_, rfl⟩
           · simp only [keptV_cons, keptV_nil, tb_get, lk_same, lk_ne, lk_nil, ren, renL, lkp, N7, N1, N5, reduceIte, and_true, true_and, Nat.not_lt_zero, if_false, if_true, Nat.add_zero, Nat.zero_add]; done
           · simp only [canR, canB, renO, renL, ren, lkp, hget, N7, N5, Nat.not_lt_zero, if_false, if_true, reduceIte, List.append_nil, List.nil_append, uns_length, ints_length]; rfl)
        | (refine hK _ ⟨_, _, _, [(7, 6), (8, 5), (5, 4), (6, 3), (4, 2), (3, 1), (0, 0)], rfl, rfl, ?_, ?_, rfl⟩
           · simp only [keptV_cons, keptV_nil, tb_get, lk_same, lk_ne, lk_nil, ren, renL, lkp, N7, N1, N5, reduceIte, and_true, true_and, Nat.not_lt_zero, if_false, if_true, Nat.add_zero, Nat.zero_add]; done
           · simp only [canR, canB, renO, renL, ren, lkp, hget, N7, N5, Nat.not_lt_zero, if_false, if_true, reduceIte, List.append_nil, List.nil_append, uns_length, ints_length]; rfl)
        | (refine hK _ ⟨_, _, _, [(8, 6), (7, 5), (5, 4), (6, 3), (4, 2), (3, 1), (0, 0)], rfl, rfl, ?_, ?_, rfl⟩
           · simp only [keptV_cons, keptV_nil, tb_get, lk_same, lk_ne, lk_nil, ren, renL, lkp, N7, N1, N5, reduceIte, and_true, true_and, Nat.not_lt_zero, if_false, if_true, Nat.add_zero, Nat.zero_add]; done
           · simp only [canR, canB, renO, renL, ren, lkp, hget, N7, N5, Nat.not_lt_zero, if_false, if_true, reduceIte, List.append_nil, List.nil_append, uns_length, ints_length]; rfl)
        | (refine hK _ ⟨_, _, _, [(7, 6), (6, 5), (5, 4), (8, 3), (4, 2), (3, 1), (0, 0)], rfl, rfl, ?_, ?_, rfl⟩
           · simp only [keptV_cons, keptV_nil, tb_get, lk_same, lk_ne, lk_nil, ren, renL, lkp, N7, N1, N5, reduceIte, and_true, true_and, Nat.not_lt_zero, if_false, if_true, Nat.add_zero, Nat.zero_add]; done
           · simp only [canR, canB, renO, renL, ren, lkp, hget, N7, N5, Nat.not_lt_zero, if_false, if_true, reduceIte, List.append_nil, List.nil_append, uns_length, ints_length]; rfl)
        | (refine hK _ ⟨_, _, _, [(8, 6), (6, 5), (5, 4), (7, 3), (4, 2), (3, 1), (0, 0)], rfl, rfl, ?_, ?_, rfl⟩
           · simp only [keptV_cons, keptV_nil, tb_get, lk_same, lk_ne, lk_nil, ren, renL, lkp, N7, N1, N5, reduceIte, and_true, true_and, Nat.not_lt_zero, if_false, if_true, Nat.add_zero, Nat.zero_add]; done
           · simp only [canR, canB, renO, renL, ren, lkp, hget, N7, N5, Nat.not_lt_zero, if_false, if_true, reduceIte, List.append_nil, List.nil_append, uns_length, ints_length]; rfl)
        | (refine hK _ ⟨_, _, _, [(7, 6), (8, 5), (6, 4), (5, 3), (4, 2), (3, 1), (0, 0)], rfl, rfl, ?_, ?_, rfl⟩
           · simp only [keptV_cons, keptV_nil, tb_get, lk_same, lk_ne, lk_nil, ren, renL, lkp, N7, N1, N5, reduceIte, and_true, true_and, Nat.not_lt_zero, if_false, if_true, Nat.add_zero, Nat.zero_add]; done
           · simp only [canR, canB, renO, renL, ren, lkp, hget, N7, N5, Nat.not_lt_zero, if_false, if_true, reduceIte, List.append_nil, List.nil_append, uns_length, ints_length]; rfl)
        | (refine hK _ ⟨_, _, _, [(8, 6), (7, 5), (6, 4), (5, 3), (4, 2), (3, 1), (0, 0)], rfl, rfl, ?_, ?_, rfl⟩
           · simp only [keptV_cons, keptV_nil, tb_get, lk_same, lk_ne, lk_nil, ren, renL, lkp, N7, N1, N5, reduceIte, and_true, true_and, Nat.not_lt_zero, if_false, if_true, Nat.add_zero, Nat.zero_add]; done
           · simp only [canR, canB, renO, renL, ren, lkp, hget, N7, N5, Nat.not_lt_zero, if_false, if_true, reduceIte, List.append_nil, List.nil_append, uns_length, ints_length]; rfl)
        | (refine hK _ ⟨_, _, _, [(8, 6), (6, 5), (7, 4), (5, 3), (4, 2), (3, 1), (0, 0)], rfl, rfl, ?_, ?_, rfl⟩
           · simp only [keptV_cons, keptV_nil, tb_get, lk_same, lk_ne, lk_nil, ren, renL, lkp, N7, N1, N5, reduceIte, and_true, true_and, Nat.not_lt_zero, if_false, if_true, Nat.add_zero, Nat.zero_add]; done
           · simp only [canR, canB, renO, renL, ren, lkp, hget, N7, N5, Nat.not_lt_zero, if_false, if_true, reduceIte, List.append_nil, List.nil_append, uns_length, ints_length]; rfl)
        | (refine hK _ ⟨_, _, _, [(7, 6), (5, 5), (6, 4), (8, 3), (4, 2), (3, 1), (0, 0)], rfl, rfl, ?_, ?_, rfl⟩
           · simp only [keptV_cons, keptV_nil, tb_get, lk_same, lk_ne, lk_nil, ren, renL, lkp, N7, N1, N5, reduceIte, and_true, true_and, Nat.not_lt_zero, if_false, if_true, Nat.add_zero, Nat.zero_add]; done
           · simp only [canR, canB, renO, renL, ren, lkp, hget, N7, N5, Nat.not_lt_zero, if_false, if_true, reduceIte, List.append_nil, List.nil_append, uns_length, ints_length]; rfl)
        | (refine hK _ ⟨_, _, _, [(8, 6), (5, 5), (6, 4), (7, 3), (4, 2), (3, 1), (0, 0)], rfl, rfl, ?_, ?_, rfl⟩
           · simp only [keptV_cons, keptV_nil, tb_get, lk_same, lk_ne, lk_nil, ren, renL, lkp, N7, N1, N5, reduceIte, and_true, true_and, Nat.not_lt_zero, if_false, if_true, Nat.add_zero, Nat.zero_add]; done
           · simp only [canR, canB, renO, renL, ren, lkp, hget, N7, N5, Nat.not_lt_zero, if_false, if_true, reduceIte, List.append_nil, List.nil_append, uns_length, ints_length]; rfl)
        | (refine hK _ ⟨_, _, _, [(8, 6), (5, 5), (7, 4), (6, 3), (4, 2), (3, 1), (0, 0)], rfl, rfl, ?_, ?_, rfl⟩
           · simp only [keptV_cons, keptV_nil, tb_get, lk_same, lk_ne, lk_nil, ren, renL, lkp, N7, N1, N5, reduceIte, and_true, true_and, Nat.not_lt_zero, if_false, if_true, Nat.add_zero, Nat.zero_add]; done
           · simp only [canR, canB, renO, renL, ren, lkp, hget, N7, N5, Nat.not_lt_zero, if_false, if_true, reduceIte, List.append_nil, List.nil_append, uns_length, ints_length]; rfl)
  rintro _ ⟨l, h, m, ρ, rfl, R1, R2, R3, L4⟩
  simp only [keptV_cons, keptV_nil, tb_get, N7, if_true, reduceIte, and_true] at R2
  simp only [rulF, mpF, List.cons_append, List.nil_append] at R3
  obtain ⟨R2_0, R2_1, R2_2, R2_3, R2_4, R2_5, R2_6⟩ := R2
  simp only [L4, push_cast, ↓J1, ↓J2, N1, N2, N3, reduceCtorEq, N4, N5, N6, reduceIte, N7, I1, I2, I3]
  refine RL_count (fun i => ⟨tb 63 .any [(3, .int .i64 c), (4, .int .i64 ((N : Int) - (i : Int))), (5, .ptr 0 none 0 0 0), (10, .ptr 1 none 0 0 0), (11, .ptr 2 none 0 0 0), (14, .ptr 3 none 0 0 0), (15, .ptr 5 none 0 0 0), (16, .int .i64 (prI b c s x i).2.2)], [(6, .slice 1 (ints (prI b c s x i).2.1.q)), (5, .var [.int .i64 (prI b c s x i).2.1.sd, .int .i64 (prI b c s x i).2.1.at_, .int .i64 (prI b c s x i).2.1.pt, .ref 6 none 1 0 (prI b c s x i).2.1.q.length]), (4, .slice 4 (uns (prI b c s x i).1.us)), (3, .var [.int .i64 (prI b c s x i).1.t, .int .i64 (prI b c s x i).1.w, .ref 4 none 4 0 (prI b c s x i).1.us.length]), (2, .var [.int .i64 0, .int .i64 0, .int .i64 0, .nil]), (1, .var [.int .i64 0, .int .i64 0, .nil]), (0, .var (rulF b.r ++ mpF b.m))], 7⟩) (fun _ => True) N 0 (head_tb ρ R1 (by
    simp only [keptV_cons, keptV_nil, tb_get, lk_same, lk_ne, lk_nil, R2_0, R2_1, R2_2, R2_3, R2_4, R2_5, R2_6, N7, N1, N5, reduceIte, and_true, true_and]
    simp [prI, ren]) (by simp only [rulF, mpF, List.cons_append, List.nil_append, prI]; exact R3)) (by omega) trivial fun i hi _ J hJ => ?_
  have gi := prI_ok (c := c) g1 hc i
  have gS : prI b c s x (i + 1) = _ := rfl
  conv at gS => rhs; rw [prI]
  by_cases h1 : i < N
  · have hJ1 := hJ h1 trivial
    clear hJ
    rw [gS] at hJ1
    clear gS
    generalize (prI b c s x i) = p at *
    obtain ⟨s', x', k⟩ := p
    simp only at gi hJ1 ⊢
    have hp := gi.1
    simp only [prOk, wkR, Bool.and_eq_true, decide_eq_true_eq] at hp
    have hlen := sta_len hp.1
    have hxq := hp.2.1.2
    have ct := ct s' x' gi.1 hc
    have tku : List.take s'.us.length (uns s'.us) = uns s'.us := List.take_of_length_le (by rw [uns_length]; omega)
    have tkq : List.take x'.q.length (ints x'.q) = ints x'.q := List.take_of_length_le (by rw [ints_length]; omega)
    have hlt : decide (0 < ((N : Int) - (i : Int))) = true := decide_eq_true (by omega)
    simp only [hlt, tku, tkq, uns_length, ints_length, frzLL_ints, frzLL_uns, rulF, mpF, List.cons_append, List.nil_append, push_cast, ↓J1, ↓J2, N1, N2, N3, reduceCtorEq, N4, N5, N6, reduceIte, N7, I1, I2, I3]
    refine ⟨_, ct, ?_⟩
    generalize tS b s' (incW x' c) = s2 at *
    generalize tX b s' (incW x' c) = x2 at *
    have wk1 : IntKind.i64.wrap (k + 1) = k + 1 := wrap64 (by omega) (by omega)
    have wdec : IntKind.i64.wrap ((N : Int) - (i : Int) - 1) = (N : Int) - ((i + 1 : Nat) : Int) := by rw [wrap64 (by omega) (by omega)]; omega
    by_cases hd : pcode b s' (incW x' c) = 0
    · have hd' : decide (pcode b s' (incW x' c) = 0) = true := decide_eq_true hd
      simp only [hd, if_true] at hJ1
      repeat' (first
    | simp only [R_fork, hd', hd, wk1, wdec, uns_length, ints_length, push_cast, ↓J1, ↓J2, N1, N2, N3, reduceCtorEq, N4, N5, N6, reduceIte, N7, I1, I2, I3]
    | refine ifB_intro (fun h => ?_) (fun h => ?_)
    | refine And.intro ?_ ?_)
      all_goals exact hJ1 _ (hdA [(8, 6), (5, 5), (7, 4), (3, 3), (2, 2), (1, 1), (0, 0)])
    · have hd' : decide (pcode b s' (incW x' c) = 0) = false := decide_eq_false hd
      simp only [hd, if_false, Int.add_zero] at hJ1
      repeat' (first
    | simp only [R_fork, hd', wdec, uns_length, ints_length, push_cast, ↓J1, ↓J2, N1, N2, N3, reduceCtorEq, N4, N5, N6, reduceIte, N7, I1, I2, I3]
    | refine ifB_intro (fun h => ?_) (fun h => ?_)
    | refine And.intro ?_ ?_)
      all_goals exact hJ1 _ (hdA [(8, 6), (5, 5), (7, 4), (3, 3), (2, 2), (1, 1), (0, 0)])
  · obtain rfl : i = N := by omega
    clear hJ gS
    generalize (prI b c s x i) = p at *
    obtain ⟨s', x', k⟩ := p
    simp only at gi ⊢
    have hp := gi.1
    simp only [prOk, wkR, Bool.and_eq_true, decide_eq_true_eq] at hp
    have hlen := sta_len hp.1
    have hxq := hp.2.1.2
    have tku : List.take s'.us.length (uns s'.us) = uns s'.us := List.take_of_length_le (by rw [uns_length]; omega)
    have tkq : List.take x'.q.length (ints x'.q) = ints x'.q := List.take_of_length_le (by rw [ints_length]; omega)
    have hlt : decide (0 < ((i : Int) - (i : Int))) = false := decide_eq_false (by omega)
    repeat' (first
    | simp only [R_fork, hlt, uns_length, ints_length, push_cast, ↓J1, ↓J2, N1, N2, N3, reduceCtorEq, N4, N5, N6, reduceIte, N7, I1, I2, I3]
    | refine ifB_intro (fun h => ?_) (fun h => ?_)
    | refine And.intro ?_ ?_)
    all_goals exact RetTo_of (by simp only [conR, conRL, isF, hget, hdel, List.drop_zero, List.take_length, if_true, if_false, reduceIte, N5, reduceCtorEq, tku, tkq, uns_length, ints_length]; rfl)
theorem t43 (b : Brd) (s : Sta) (x : Wk) (c n : Int) (hb : BrdB (2^50) b) (hl : s.us.length < 2^40) (hq : x.q.length < 2^50) : Ev C 43 [brdF b, .agg (staF s), .agg (wkF x), .int .i64 c, .int .i64 n] (.tup [.agg (staO (psS b s x c n)), .agg (wkO (psX b s x c n)), .int .i64 (psN b s x c n), .bool (psOk b s x c n)]) := by
  have c1 := t67 hC b s x hb hl hq
  have c2 := t107 hC c
  have c3 : Ev C 109 [.int .i64 n, .int .i64 0, .int .i64 30] (.bool (inR 0 30 n)) := t109 hC n 0 30
  have o1 := t97 hC s hl
  have o2 := fun h => t98 hC x h
  have ct := fun s' x' g h => t108 hC b s' x' c g h hb
  simp only [brdF, rulF, mpF, List.cons_append, List.nil_append, staF, staO, wkF, wkO] at c1 c2 c3 o1 o2 ct ⊢
  refine rT hC Q43 ?_ (own_swb _ _ _ _)
  simp only [c43, push_cast, ↓J1, ↓J2, N1, N2, N3, reduceCtorEq, N4, N5, N6, reduceIte, N7, I1, I2, I3]
  refine ⟨_, c1, ?_⟩
  cases g1 : prOk b s x
  · have hno : psOk b s x c n = false := by simp only [psOk, g1, Bool.false_and]
    simp only [psS, psX, psN, hno, Bool.false_eq_true, if_false, push_cast, ↓J1, ↓J2, N1, N2, N3, reduceCtorEq, N4, N5, N6, reduceIte, N7, I1, I2, I3]
    exact RetTo_nil (h2 := _) (by simp only [conR, conRL, isF, hget, hdel, List.drop_zero, List.take_length, if_true, if_false, reduceIte, N5, reduceCtorEq]; rfl) (NilTo_tup (NilToL_cons (NilTo_agg nil_sta) (NilToL_cons (NilTo_agg nil_wk) (NilToL_cons (NilTo.refl _) (NilToL_cons (NilTo.refl _) NilToL_nil)))))
  simp only [push_cast, ↓J1, ↓J2, N1, N2, N3, reduceCtorEq, N4, N5, N6, reduceIte, N7, I1, I2, I3]
  refine ⟨_, c2, ?_⟩
  cases g2 : inR 0 50 c
  · have hno : psOk b s x c n = false := by simp only [psOk, g2, Bool.and_false, Bool.false_and]
    simp only [psS, psX, psN, hno, Bool.false_eq_true, if_false, push_cast, ↓J1, ↓J2, N1, N2, N3, reduceCtorEq, N4, N5, N6, reduceIte, N7, I1, I2, I3]
    exact RetTo_nil (h2 := _) (by simp only [conR, conRL, isF, hget, hdel, List.drop_zero, List.take_length, if_true, if_false, reduceIte, N5, reduceCtorEq]; rfl) (NilTo_tup (NilToL_cons (NilTo_agg nil_sta) (NilToL_cons (NilTo_agg nil_wk) (NilToL_cons (NilTo.refl _) (NilToL_cons (NilTo.refl _) NilToL_nil)))))
  simp only [push_cast, ↓J1, ↓J2, N1, N2, N3, reduceCtorEq, N4, N5, N6, reduceIte, N7, I1, I2, I3]
  refine ⟨_, c3, ?_⟩
  cases g3 : inR 0 30 n
  · have hno : psOk b s x c n = false := by simp only [psOk, g3, Bool.and_false]
    simp only [psS, psX, psN, hno, Bool.false_eq_true, if_false, push_cast, ↓J1, ↓J2, N1, N2, N3, reduceCtorEq, N4, N5, N6, reduceIte, N7, I1, I2, I3]
    exact RetTo_nil (h2 := _) (by simp only [conR, conRL, isF, hget, hdel, List.drop_zero, List.take_length, if_true, if_false, reduceIte, N5, reduceCtorEq]; rfl) (NilTo_tup (NilToL_cons (NilTo_agg nil_sta) (NilToL_cons (NilTo_agg nil_wk) (NilToL_cons (NilTo.refl _) (NilToL_cons (NilTo.refl _) NilToL_nil)))))
  have hok : psOk b s x c n = true := by simp only [psOk, g1, g2, g3, Bool.and_self]
  have hc : 0 ≤ c ∧ c ≤ 50 := by simpa only [inR, Bool.and_eq_true, decide_eq_true_eq] using g2
  have hn : 0 ≤ n ∧ n ≤ 30 := by simpa only [inR, Bool.and_eq_true, decide_eq_true_eq] using g3
  obtain ⟨N, rfl⟩ : ∃ m : Nat, n = m := ⟨n.toNat, by omega⟩
  simp only [psS, psX, psN, hok, if_true, Int.toNat_natCast, push_cast, ↓J1, ↓J2, N1, N2, N3, reduceCtorEq, N4, N5, N6, reduceIte, N7, I1, I2, I3]
  have hx8 : x.q.length < 2^30 := by
    simp only [prOk, wkR, Bool.and_eq_true, decide_eq_true_eq] at g1
    omega
  have o2 := o2 (by omega)
  refine cutF (fun s' => ∃ l h m ρ, s' = ⟨tb 63 (.con undef) l, h, m⟩ ∧ rhoOk 0 ρ [] 7 = true ∧ keptV 0 ρ (tb 63 (.con undef) l) [(3, .int .i64 c), (4, .int .i64 (N : Int)), (5, .ptr 0 none 0 0 0), (10, .ptr 1 none 0 0 0), (11, .ptr 2 none 0 0 0), (14, .ptr 3 none 0 0 0), (15, .ptr 5 none 0 0 0), (16, .int .i64 0)] ∧ canR 0 ρ h ρ ++ canB 0 ρ h = [(6, .slice 1 (ints x.q)), (5, .var [.int .i64 x.sd, .int .i64 x.at_, .int .i64 x.pt, .ref 6 none 1 0 x.q.length]), (4, .slice 4 (uns s.us)), (3, .var [.int .i64 s.t, .int .i64 s.w, .ref 4 none 4 0 s.us.length]), (2, .var [.int .i64 0, .int .i64 0, .int .i64 0, .nil]), (1, .var [.int .i64 0, .int .i64 0, .nil]), (0, .var (rulF b.r ++ mpF b.m))] ∧ lk (.con undef) l 4 = .int .i64 (N : Int)) (fun K F hK => ?_) ?_
  · repeat' (first
    | simp only [R_fork, frzLL_ints, frzLL_uns, push_cast, ↓J1, ↓J2, N1, N2, N3, reduceCtorEq, N4, N5, N6, reduceIte, N7, I1, I2, I3]
    | refine ⟨_, o1, ?_⟩
    | refine ⟨_, o2, ?_⟩
    | refine ifB_intro (fun h => ?_) (fun h => ?_)
    | refine And.intro ?_ ?_)
    all_goals
      first
        | (refine hK _ ⟨_, _, _, [(6, 6), (8, 5), (5, 4), (7, 3), (4, 2), (3, 1), (0, 0)], rfl, rfl, ?_, ?_, rfl⟩
           · simp only [keptV_cons, keptV_nil, tb_get, lk_same, lk_ne, lk_nil, ren, renL, lkp, N7, N1, N5, reduceIte, and_true, true_and, Nat.not_lt_zero, if_false, if_true, Nat.add_zero, Nat.zero_add]; done
           · simp only [canR, canB, renO, renL, ren, lkp, hget, N7, N5, Nat.not_lt_zero, if_false, if_true, reduceIte, List.append_nil, List.nil_append, uns_length, ints_length]; rfl)
        | (refine hK _ ⟨_, _, _, [(6, 6), (7, 5), (5, 4), (8, 3), (4, 2), (3, 1), (0, 0)], rfl, rfl, ?_, ?_, rfl⟩
           · simp only [keptV_cons, keptV_nil, tb_get, lk_same, lk_ne, lk_nil, ren, renL, lkp, N7, N1, N5, reduceIte, and_true, true_and, Nat.not_lt_zero, if_false, if_true, Nat.add_zero, Nat.zero_add]; done
           · simp only [canR, canB, renO, renL, ren, lkp, hget, N7, N5, Nat.not_lt_zero, if_false, if_true, reduceIte, List.append_nil, List.nil_append, uns_length, ints_length]; rfl)
        | (refine hK _ ⟨_, _, _, [(7, 6), (8, 5), (5, 4), (6, 3), (4, 2), (3, 1), (0, 0)], rfl, rfl, ?_, ?_, rfl⟩
           · simp only [keptV_cons, keptV_nil, tb_get, lk_same, lk_ne, lk_nil, ren, renL, lkp, N7, N1, N5, reduceIte, and_true, true_and, Nat.not_lt_zero, if_false, if_true, Nat.add_zero, Nat.zero_add]; done
           · simp only [canR, canB, renO, renL, ren, lkp, hget, N7, N5, Nat.not_lt_zero, if_false, if_true, reduceIte, List.append_nil, List.nil_append, uns_length, ints_length]; rfl)
        | (refine hK _ ⟨_, _, _, [(8, 6), (7, 5), (5, 4), (6, 3), (4, 2), (3, 1), (0, 0)], rfl, rfl, ?_, ?_, rfl⟩
           · simp only [keptV_cons, keptV_nil, tb_get, lk_same, lk_ne, lk_nil, ren, renL, lkp, N7, N1, N5, reduceIte, and_true, true_and, Nat.not_lt_zero, if_false, if_true, Nat.add_zero, Nat.zero_add]; done
           · simp only [canR, canB, renO, renL, ren, lkp, hget, N7, N5, Nat.not_lt_zero, if_false, if_true, reduceIte, List.append_nil, List.nil_append, uns_length, ints_length]; rfl)
        | (refine hK _ ⟨_, _, _, [(7, 6), (6, 5), (5, 4), (8, 3), (4, 2), (3, 1), (0, 0)], rfl, rfl, ?_, ?_, rfl⟩
           · simp only [keptV_cons, keptV_nil, tb_get, lk_same, lk_ne, lk_nil, ren, renL, lkp, N7, N1, N5, reduceIte, and_true, true_and, Nat.not_lt_zero, if_false, if_true, Nat.add_zero, Nat.zero_add]; done
           · simp only [canR, canB, renO, renL, ren, lkp, hget, N7, N5, Nat.not_lt_zero, if_false, if_true, reduceIte, List.append_nil, List.nil_append, uns_length, ints_length]; rfl)
        | (refine hK _ ⟨_, _, _, [(8, 6), (6, 5), (5, 4), (7, 3), (4, 2), (3, 1), (0, 0)], rfl, rfl, ?_, ?_, rfl⟩
           · simp only [keptV_cons, keptV_nil, tb_get, lk_same, lk_ne, lk_nil, ren, renL, lkp, N7, N1, N5, reduceIte, and_true, true_and, Nat.not_lt_zero, if_false, if_true, Nat.add_zero, Nat.zero_add]; done
           · simp only [canR, canB, renO, renL, ren, lkp, hget, N7, N5, Nat.not_lt_zero, if_false, if_true, reduceIte, List.append_nil, List.nil_append, uns_length, ints_length]; rfl)
        | (refine hK _ ⟨_, _, _, [(7, 6), (8, 5), (6, 4), (5, 3), (4, 2), (3, 1), (0, 0)], rfl, rfl, ?_, ?_, rfl⟩
           · simp only [keptV_cons, keptV_nil, tb_get, lk_same, lk_ne, lk_nil, ren, renL, lkp, N7, N1, N5, reduceIte, and_true, true_and, Nat.not_lt_zero, if_false, if_true, Nat.add_zero, Nat.zero_add]; done
           · simp only [canR, canB, renO, renL, ren, lkp, hget, N7, N5, Nat.not_lt_zero, if_false, if_true, reduceIte, List.append_nil, List.nil_append, uns_length, ints_length]; rfl)
        | (refine hK _ ⟨_, _, _, [(8, 6), (7, 5), (6, 4), (5, 3), (4, 2), (3, 1), (0, 0)], rfl, rfl, ?_, ?_, rfl⟩
           · simp only [keptV_cons, keptV_nil, tb_get, lk_same, lk_ne, lk_nil, ren, renL, lkp, N7, N1, N5, reduceIte, and_true, true_and, Nat.not_lt_zero, if_false, if_true, Nat.add_zero, Nat.zero_add]; done
           · simp only [canR, canB, renO, renL, ren, lkp, hget, N7, N5, Nat.not_lt_zero, if_false, if_true, reduceIte, List.append_nil, List.nil_append, uns_length, ints_length]; rfl)
        | (refine hK _ ⟨_, _, _, [(8, 6), (6, 5), (7, 4), (5, 3), (4, 2), (3, 1), (0, 0)], rfl, rfl, ?_, ?_, rfl⟩
           · simp only [keptV_cons, keptV_nil, tb_get, lk_same, lk_ne, lk_nil, ren, renL, lkp, N7, N1, N5, reduceIte, and_true, true_and, Nat.not_lt_zero, if_false, if_true, Nat.add_zero, Nat.zero_add]; done
           · simp only [canR, canB, renO, renL, ren, lkp, hget, N7, N5, Nat.not_lt_zero, if_false, if_true, reduceIte, List.append_nil, List.nil_append, uns_length, ints_length]; rfl)
        | (refine hK _ ⟨_, _, _, [(7, 6), (5, 5), (6, 4), (8, 3), (4, 2), (3, 1), (0, 0)], rfl, rfl, ?_, ?_, rfl⟩
           · simp only [keptV_cons, keptV_nil, tb_get, lk_same, lk_ne, lk_nil, ren, renL, lkp, N7, N1, N5, reduceIte, and_true, true_and, Nat.not_lt_zero, if_false, if_true, Nat.add_zero, Nat.zero_add]; done
           · simp only [canR, canB, renO, renL, ren, lkp, hget, N7, N5, Nat.not_lt_zero, if_false, if_true, reduceIte, List.append_nil, List.nil_append, uns_length, ints_length]; rfl)
        | (refine hK _ ⟨_, _, _, [(8, 6), (5, 5), (6, 4), (7, 3), (4, 2), (3, 1), (0, 0)], rfl, rfl, ?_, ?_, rfl⟩
           · simp only [keptV_cons, keptV_nil, tb_get, lk_same, lk_ne, lk_nil, ren, renL, lkp, N7, N1, N5, reduceIte, and_true, true_and, Nat.not_lt_zero, if_false, if_true, Nat.add_zero, Nat.zero_add]; done
           · simp only [canR, canB, renO, renL, ren, lkp, hget, N7, N5, Nat.not_lt_zero, if_false, if_true, reduceIte, List.append_nil, List.nil_append, uns_length, ints_length]; rfl)
        | (refine hK _ ⟨_, _, _, [(8, 6), (5, 5), (7, 4), (6, 3), (4, 2), (3, 1), (0, 0)], rfl, rfl, ?_, ?_, rfl⟩
           · simp only [keptV_cons, keptV_nil, tb_get, lk_same, lk_ne, lk_nil, ren, renL, lkp, N7, N1, N5, reduceIte, and_true, true_and, Nat.not_lt_zero, if_false, if_true, Nat.add_zero, Nat.zero_add]; done
           · simp only [canR, canB, renO, renL, ren, lkp, hget, N7, N5, Nat.not_lt_zero, if_false, if_true, reduceIte, List.append_nil, List.nil_append, uns_length, ints_length]; rfl)
  rintro _ ⟨l, h, m, ρ, rfl, R1, R2, R3, L4⟩
  simp only [keptV_cons, keptV_nil, tb_get, N7, if_true, reduceIte, and_true] at R2
  simp only [rulF, mpF, List.cons_append, List.nil_append] at R3
  obtain ⟨R2_0, R2_1, R2_2, R2_3, R2_4, R2_5, R2_6, R2_7⟩ := R2
  simp only [L4, push_cast, ↓J1, ↓J2, N1, N2, N3, reduceCtorEq, N4, N5, N6, reduceIte, N7, I1, I2, I3]
  refine RL_count (fun i => ⟨tb 63 .any [(3, .int .i64 c), (5, .ptr 0 none 0 0 0), (10, .ptr 1 none 0 0 0), (11, .ptr 2 none 0 0 0), (14, .ptr 3 none 0 0 0), (15, .ptr 5 none 0 0 0), (16, .int .i64 (prI b c s x i).2.2), (41, .int .i64 (N : Int)), (42, .int .i64 (i : Int))], [(6, .slice 1 (ints (prI b c s x i).2.1.q)), (5, .var [.int .i64 (prI b c s x i).2.1.sd, .int .i64 (prI b c s x i).2.1.at_, .int .i64 (prI b c s x i).2.1.pt, .ref 6 none 1 0 (prI b c s x i).2.1.q.length]), (4, .slice 4 (uns (prI b c s x i).1.us)), (3, .var [.int .i64 (prI b c s x i).1.t, .int .i64 (prI b c s x i).1.w, .ref 4 none 4 0 (prI b c s x i).1.us.length]), (2, .var [.int .i64 0, .int .i64 0, .int .i64 0, .nil]), (1, .var [.int .i64 0, .int .i64 0, .nil]), (0, .var (rulF b.r ++ mpF b.m))], 7⟩) (fun _ => True) N 0 (head_tb ρ R1 (by
    simp only [keptV_cons, keptV_nil, tb_get, lk_same, lk_ne, lk_nil, R2_0, R2_1, R2_2, R2_3, R2_4, R2_5, R2_6, R2_7, N7, N1, N5, reduceIte, and_true, true_and]
    simp [prI, ren]) (by simp only [rulF, mpF, List.cons_append, List.nil_append, prI]; exact R3)) (by omega) trivial fun i hi _ J hJ => ?_
  have gi := prI_ok (c := c) g1 hc i
  have gS : prI b c s x (i + 1) = _ := rfl
  conv at gS => rhs; rw [prI]
  by_cases h1 : i < N
  · have hJ1 := hJ h1 trivial
    clear hJ
    rw [gS] at hJ1
    clear gS
    generalize (prI b c s x i) = p at *
    obtain ⟨s', x', k⟩ := p
    simp only at gi hJ1 ⊢
    have hp := gi.1
    simp only [prOk, wkR, Bool.and_eq_true, decide_eq_true_eq] at hp
    have hlen := sta_len hp.1
    have hxq := hp.2.1.2
    have ct := ct s' x' gi.1 hc
    have tku : List.take s'.us.length (uns s'.us) = uns s'.us := List.take_of_length_le (by rw [uns_length]; omega)
    have tkq : List.take x'.q.length (ints x'.q) = ints x'.q := List.take_of_length_le (by rw [ints_length]; omega)
    have hlt : decide ((i : Int) < (N : Int)) = true := decide_eq_true (by omega)
    simp only [hlt, tku, tkq, uns_length, ints_length, frzLL_ints, frzLL_uns, rulF, mpF, List.cons_append, List.nil_append, push_cast, ↓J1, ↓J2, N1, N2, N3, reduceCtorEq, N4, N5, N6, reduceIte, N7, I1, I2, I3]
    refine ⟨_, ct, ?_⟩
    generalize tS b s' (incW x' c) = s2 at *
    generalize tX b s' (incW x' c) = x2 at *
    have wk1 : IntKind.i64.wrap (k + 1) = k + 1 := wrap64 (by omega) (by omega)
    have wdec : IntKind.i64.wrap ((i : Int) + 1) = ((i + 1 : Nat) : Int) := by rw [wrap64 (by omega) (by omega)]; omega
    by_cases hd : pcode b s' (incW x' c) = 0
    · have hd' : decide (pcode b s' (incW x' c) = 0) = true := decide_eq_true hd
      simp only [hd, if_true] at hJ1
      repeat' (first
    | simp only [R_fork, hd', hd, wk1, wdec, uns_length, ints_length, push_cast, ↓J1, ↓J2, N1, N2, N3, reduceCtorEq, N4, N5, N6, reduceIte, N7, I1, I2, I3]
    | refine ifB_intro (fun h => ?_) (fun h => ?_)
    | refine And.intro ?_ ?_)
      all_goals exact hJ1 _ (hdA [(8, 6), (5, 5), (7, 4), (3, 3), (2, 2), (1, 1), (0, 0)])
    · have hd' : decide (pcode b s' (incW x' c) = 0) = false := decide_eq_false hd
      simp only [hd, if_false, Int.add_zero] at hJ1
      repeat' (first
    | simp only [R_fork, hd', wdec, uns_length, ints_length, push_cast, ↓J1, ↓J2, N1, N2, N3, reduceCtorEq, N4, N5, N6, reduceIte, N7, I1, I2, I3]
    | refine ifB_intro (fun h => ?_) (fun h => ?_)
    | refine And.intro ?_ ?_)
      all_goals exact hJ1 _ (hdA [(8, 6), (5, 5), (7, 4), (3, 3), (2, 2), (1, 1), (0, 0)])
  · obtain rfl : i = N := by omega
    clear hJ gS
    generalize (prI b c s x i) = p at *
    obtain ⟨s', x', k⟩ := p
    simp only at gi ⊢
    have hp := gi.1
    simp only [prOk, wkR, Bool.and_eq_true, decide_eq_true_eq] at hp
    have hlen := sta_len hp.1
    have hxq := hp.2.1.2
    have tku : List.take s'.us.length (uns s'.us) = uns s'.us := List.take_of_length_le (by rw [uns_length]; omega)
    have tkq : List.take x'.q.length (ints x'.q) = ints x'.q := List.take_of_length_le (by rw [ints_length]; omega)
    have hlt : decide ((i : Int) < (i : Int)) = false := decide_eq_false (by omega)
    repeat' (first
    | simp only [R_fork, hlt, uns_length, ints_length, push_cast, ↓J1, ↓J2, N1, N2, N3, reduceCtorEq, N4, N5, N6, reduceIte, N7, I1, I2, I3]
    | refine ifB_intro (fun h => ?_) (fun h => ?_)
    | refine And.intro ?_ ?_)
    all_goals exact RetTo_of (by simp only [conR, conRL, isF, hget, hdel, List.drop_zero, List.take_length, if_true, if_false, reduceIte, N5, reduceCtorEq, tku, tkq, uns_length, ints_length]; rfl)
end
end Go.Proofs.YtjaccjeejeiphaaGreatDoor.X
set_option maxHeartbeats 4000000
set_option maxRecDepth 8000
set_option linter.unusedSimpArgs false
set_option linter.unusedVariables false
open Nat renaming reduceBEq → N1, reduceAdd → N2, reduceSub → N3, reduceMul → N4, reduceEqDiff → N5, reduceLeDiff → N6, reduceLT → N7
open Int renaming reduceLE → I1, reduceLT → I2, reduceToNat → I3
namespace Go.Proofs.YtjaccjeejeiphaaGreatDoor.X
open Go
attribute [local irreducible] Ev
def FrH (ids : List Nat) (n : Nat) (h h' : Heap) : Prop := ∀ j, j < n → j ∉ ids → hget h' j = hget h j
structure MP (ids : List Nat) (h : Heap) (n c : Nat) (k W : Int) (v : AV) (h' : Heap) (n' : Nat) : Prop where
  v : ∃ m, v = .int .i64 m ∧ k ≤ m ∧ m ≤ k + W
  nn : n' = n + c
  f : FrH ids n h h'
  b : below n' h'
  s : solid h'
theorem FrH.set {n id : Nat} {h : Heap} {o : Ob} : FrH [id] n h (hset h id o) := by
  intro j _ hj
  rw [hget_set, if_neg (by simp at hj; omega)]
theorem FrH.trans {a b : List Nat} {n n' : Nat} {h h' h2 : Heap} (h1 : FrH a n h h') (h3 : FrH b n' h' h2) (hn : n ≤ n') : FrH (a ++ b) n h h2 := by
  intro j hj hm
  simp only [List.mem_append, not_or] at hm
  rw [h3 j (by omega) hm.2, h1 j hj hm.1]
theorem FrH.box {n : Nat} {h : Heap} {o : Ob} : FrH [] n h ((n, o) :: h) := by
  intro j hj _
  simp only [hget, if_neg (show ¬ n = j by omega)]
theorem solid_box {n : Nat} {h : Heap} {cs : List AV} (hs : solid h) (hk : killL cs = cs) : solid ((n, .var cs) :: h) := by
  unfold solid at *
  simp only [killH, hk, hs]
theorem below_box {n : Nat} {h : Heap} {cs : List AV} (hb : below n h) (hk : renL (n + 1) [] cs = cs) : below (n + 1) ((n, .var cs) :: h) :=
  below_mk (by omega) (by simp only [renO, hk]) (below_succ hb)
theorem hget_box {n j : Nat} {h : Heap} {o u : Ob} (hb : below n h) (hg : hget h j = some u) : hget ((n, o) :: h) j = some u := by
  have := below_lt hb hg
  simp only [hget, if_neg (show ¬ n = j by omega), hg]
def dig (k : Int) : UInt8 := UInt8.ofNat (IntKind.u8.wrap (IntKind.i64.wrap (48 + k.tmod 10))).toNat
def mtx : Nat → Int → ByteArray → ByteArray
  | 0, _, a => a
  | f + 1, k, a => if 0 < k then mtx f (k.tdiv 10) (⟨#[dig k]⟩ ++ a) else a
theorem mtx_stop {f : Nat} {k : Int} {a : ByteArray} (h : k ≤ 0) : mtx f k a = a := by
  cases f with
  | zero => rfl
  | succ f => simp only [mtx, if_neg (show ¬ 0 < k by omega)]
def mText (k : Int) : ByteArray := if k ≤ 0 then ⟨#[109, 48]⟩ else ⟨#[109]⟩ ++ mtx k.toNat k ByteArray.empty
theorem tdiv10 {k : Int} (h : 0 < k) : 0 ≤ k.tdiv 10 ∧ k.tdiv 10 ≤ k - 1 := by
  rw [Int.tdiv_eq_ediv_of_nonneg (by omega)]
  omega
def mkUns (k : Int) (n : Nat) : List Un := (List.range n).map fun i : Nat => ⟨k + 4 * (i : Int), k + 4 * (i : Int) + 1, k + 4 * (i : Int) + 2, k + 4 * (i : Int) + 3⟩
theorem mkUns_length {k : Int} {n : Nat} : (mkUns k n).length = n := by simp [mkUns]
theorem mkUns_get {k : Int} {n i : Nat} (h : i < n) : (uns (mkUns k n))[i]? = some (unA ⟨k + 4 * (i : Int), k + 4 * (i : Int) + 1, k + 4 * (i : Int) + 2, k + 4 * (i : Int) + 3⟩) := by
  simp [uns, mkUns, h]
theorem mkUns_succ {us : List Un} {k : Int} {i : Nat} (h : i < us.length) : (uns (mkUns k i ++ us.drop i)).set i (unA ⟨k + 4 * (i : Int), k + 4 * (i : Int) + 1, k + 4 * (i : Int) + 2, k + 4 * (i : Int) + 3⟩) = uns (mkUns k (i + 1) ++ us.drop (i + 1)) := by
  have e : us.drop i = us[i] :: us.drop (i + 1) := List.drop_eq_getElem_cons h
  have e2 : mkUns k (i + 1) = mkUns k i ++ [⟨k + 4 * (i : Int), k + 4 * (i : Int) + 1, k + 4 * (i : Int) + 2, k + 4 * (i : Int) + 3⟩] := by simp [mkUns, List.range_succ]
  rw [e, e2]
  simp only [uns, List.map_append, List.map_cons, List.map_nil, List.append_assoc, List.cons_append, List.nil_append]
  rw [mid_set (by simp [mkUns])]
section
variable {C : CT} (hC : Closed Tryz.prog G1 md0 C)
include hC
theorem t226 (k : Int) (hk : k ≤ 2^50) : Ev C 226 [.int .i64 k] (.str (mText k)) := by
  refine rT hC Q226 ?_
  simp only [c226, push_cast, ↓J1, ↓J2, N1, N2, N3, reduceCtorEq, N4, N5, N6, reduceIte, N7, I1, I2, I3]
  refine ifB_intro (fun h => ?_) (fun h => ?_)
  · have h' := of_decide_eq_true h
    simp only [mText, if_pos h', push_cast, ↓J1, ↓J2, N1, N2, N3, reduceCtorEq, N4, N5, N6, reduceIte, N7, I1, I2, I3]
  have h' := of_decide_eq_false h
  simp only [mText, if_neg h']
  refine RL_ind (fun m s' => ∃ (x : Int) (a : ByteArray), x ≤ m ∧ (a.size : Int) + x ≤ k ∧ x ≤ k ∧ 0 ≤ x ∧ mtx k.toNat k ByteArray.empty = mtx m x a ∧ s' = ⟨tb 20 .any [(0, .int .i64 x), (3, .str a)], [], 0⟩) k.toNat ⟨tb 20 .any [(0, .int .i64 k), (3, .str ByteArray.empty)], [], 0⟩ (hdA []) ⟨k, _, by omega, by show (0 : Int) + k ≤ k; omega, by omega, by omega, rfl, rfl⟩ ?_
  rintro m s' ⟨x, a, h1, h2, h3, h4, h5, rfl⟩ J hJ
  simp only [push_cast, ↓J1, ↓J2, N1, N2, N3, reduceCtorEq, N4, N5, N6, reduceIte, N7, I1, I2, I3]
  refine ifB_intro (fun h => ?_) (fun h => ?_)
  · have hx := of_decide_eq_true h
    have hd := tdiv10 hx
    cases m with
    | zero => omega
    | succ m =>
      rw [mtx, if_pos hx] at h5
      have w1 : IntKind.i64.wrap (x.tdiv 10) = x.tdiv 10 := wrap64 (by omega) (by omega)
      have t1 : List.take 1 [[AV.int .u8 (IntKind.u8.wrap (IntKind.i64.wrap (48 + x.tmod 10)))]] = [[AV.int .u8 (IntKind.u8.wrap (IntKind.i64.wrap (48 + x.tmod 10)))]] := rfl
      simp only [byteL, w1, t1, bytesV_one, show (10 : Int) ≠ 0 by decide, push_cast, ↓J1, ↓J2, N1, N2, N3, reduceCtorEq, N4, N5, N6, reduceIte, N7, I1, I2, I3]
      have s1 : (⟨#[dig x]⟩ : ByteArray).size = 1 := rfl
      and_intros
      all_goals first | (show (((⟨#[dig x]⟩ : ByteArray).size + a.size : Nat) : Int) ≤ _; rw [s1]; omega) | skip
      refine hJ m _ _ (by omega) ⟨x.tdiv 10, ⟨#[dig x]⟩ ++ a, by omega, ?_, by omega, by omega, h5, rfl⟩ (hdA [])
      rw [ByteArray.size_append, s1]; omega
  · have hx := of_decide_eq_false h
    rw [h5, mtx_stop (by omega)]
    simp only [push_cast, ↓J1, ↓J2, N1, N2, N3, reduceCtorEq, N4, N5, N6, reduceIte, N7, I1, I2, I3]
    and_intros
    all_goals first | (show (((⟨#[109]⟩ : ByteArray).size + a.size : Nat) : Int) ≤ _; rw [show (⟨#[109]⟩ : ByteArray).size = 1 from rfl]; omega) | skip
theorem t102p (l : List Int) (k : Int) (h : Heap) (id n i0 szo c : Nat) (es : List (List AV)) (e : List AV) (hg : hget h id = some (.slice szo es)) (he : es[i0]? = some e) (hc : e[c]? = some (.ow 1 (ints l))) (hb : below n h) (hk : 0 ≤ k ∧ k < 2^50) (hl : l.length < 2^50) : C 102 [.ref id (some (szo, i0, c)) 1 0 l.length, .int .i64 k] h n (fun v h' n' => v = .int .i64 (k + l.length) ∧ n' = n ∧ h' = hset h id (.slice szo (es.set i0 (e.set c (.ow 1 (ints (mk l k l.length))))))) := by
  have hid := below_lt hb hg
  have hi0 : i0 < es.length := (List.getElem?_eq_some_iff.1 he).1
  have hc0 : c < e.length := (List.getElem?_eq_some_iff.1 hc).1
  refine Closed.rT hC Q102 ?_
  simp only [c102, push_cast, ↓J1, ↓J2, N1, N2, N3, reduceCtorEq, N4, N5, N6, reduceIte, N7, I1, I2, I3]
  refine RL_count (fun i => ⟨tb 19 .any [(0, .ref id (some (szo, i0, c)) 1 0 l.length), (1, .int .i64 (k + i)), (5, .int .i64 (i : Int))], hset h id (.slice szo (es.set i0 (e.set c (.ow 1 (ints (mk l k i)))))), n⟩) (fun _ => True) l.length 0 (head_tb [] (by simp [rhoOk, objIds]) (by simp only [hid, keptV_cons, keptV_nil, tb_get, lk_same, lk_ne, lk_nil, ren, renL, lkp, N7, N1, N5, reduceIte, and_true, true_and, Nat.not_lt_zero, if_false, if_true, Nat.add_zero, Nat.zero_add]; simp) ?_) (by omega) trivial fun i hi _ J hJ => ?_
  · rw [mk_zero]
    have e2 : e.set c (.ow 1 (ints l)) = e := by
      apply List.ext_getElem?
      intro j
      rw [List.getElem?_set]
      split
      · rename_i q; subst q; rw [hc]; try simp [hc0]
      · rfl
    have e3 : es.set i0 e = es := by
      apply List.ext_getElem?
      intro j
      rw [List.getElem?_set]
      split
      · rename_i q; subst q; rw [he]; try simp [hi0]
      · rfl
    rw [e2, e3, hset_get hg]; exact hb
  have hgi : hget (hset h id (.slice szo (es.set i0 (e.set c (.ow 1 (ints (mk l k i))))))) id = some (.slice szo (es.set i0 (e.set c (.ow 1 (ints (mk l k i)))))) := hget_same hg
  have hei : (es.set i0 (e.set c (.ow 1 (ints (mk l k i)))))[i0]? = some (e.set c (.ow 1 (ints (mk l k i)))) := by simp [hi0]
  have hci : (e.set c (.ow 1 (ints (mk l k i))))[c]? = some (.ow 1 (ints (mk l k i))) := by simp [hc0]
  by_cases h1 : i < l.length
  · have e1 : (ints (mk l k i))[i]? = some [.int .i64 ((mk l k i).getD i 0)] := ints_get (by rw [mk_length hi]; exact h1)
    simp only [Int.toNat_natCast, hgi, hei, hci, e1, push_cast, ↓J1, ↓J2, N1, N2, N3, reduceCtorEq, N4, N5, N6, reduceIte, N7, I1, I2, I3]
    refine ifB_intro (fun _ => ?_) (fun h => by simp at h; omega)
    repeat (refine ⟨by omega, ?_⟩)
    refine hJ h1 trivial _ (head_tb [] (by simp [rhoOk, objIds]) ?_ ?_)
    · simp only [hid, keptV_cons, keptV_nil, tb_get, lk_same, lk_ne, lk_nil, ren, renL, lkp, N7, N1, N5, reduceIte, and_true, true_and, Nat.not_lt_zero, if_false, if_true, Nat.add_zero, Nat.zero_add]
      rw [wrap64 (by omega) (by omega), wrap64 (by omega) (by omega)]
      simp; omega
    · rw [ints_set, mk_succ h1, List.set_set, List.set_set, hset_hset]
      exact below_set hb
  · obtain rfl : i = l.length := by omega
    simp only [push_cast, ↓J1, ↓J2, N1, N2, N3, reduceCtorEq, N4, N5, N6, reduceIte, N7, I1, I2, I3]
    refine ifB_intro (fun h => by simp at h) (fun h => ?_)
    trivial
theorem t181 (l : List Od) (k : Int) (h : Heap) (id n : Nat) (hg : hget h id = some (.slice 2 (ods l))) (hb : below n h) (hs : solid h) (hk : 0 ≤ k ∧ k ≤ 2^47) (hl : l.length < 2^21) : C 181 [.ref id none 2 0 l.length, .int .i64 k] h n (MP [id] h n 0 k (2^43)) := by
  have hid := below_lt hb hg
  refine Closed.rT hC Q181 ?_
  simp only [c181, push_cast, ↓J1, ↓J2, N1, N2, N3, reduceCtorEq, N4, N5, N6, reduceIte, N7, I1, I2, I3]
  have hgi : ∀ es : List (List AV), hget (hset h id (.slice 2 es)) id = some (.slice 2 es) := fun es => hget_same hg
  refine RL_ind (fun m s' => ∃ (i : Nat) (l' : List Od) (k' : Int), i + m = l.length ∧ l'.length = l.length ∧ k ≤ k' ∧ k' ≤ k + i * 2 ∧ s' = ⟨tb 27 .any [(0, .ref id none 2 0 l.length), (1, .int .i64 k'), (5, .int .i64 (i : Int))], hset h id (.slice 2 (ods l')), n⟩) l.length ⟨tb 27 .any [(0, .ref id none 2 0 l.length), (1, .int .i64 k), (5, .int .i64 0)], hset h id (.slice 2 (ods l)), n⟩ (head_tb [] (by simp [rhoOk, objIds]) (by simp only [hid, keptV_cons, keptV_nil, tb_get, lk_same, lk_ne, lk_nil, ren, renL, lkp, N7, N1, N5, reduceIte, and_true, true_and, Nat.not_lt_zero, if_false, if_true, Nat.add_zero, Nat.zero_add]; all_goals simp) (by rw [hset_get hg]; exact hb)) ⟨0, l, k, by omega, rfl, by omega, by omega, rfl⟩ ?_
  rintro m s' ⟨i, l', k', h1, h2, h3, h4, rfl⟩ J hJ
  by_cases hi : i < l.length
  · have e1 : (ods l')[i]? = some (odA (l'[i]'(by omega))) := by simp [ods, h2, hi]
    have gs : ∀ e : List AV, ((ods l').set i e)[i]? = some e := by intro e; simp [ods, h2, hi]
    have ls : ∀ u : Od, (ods l').set i (odA u) = ods (l'.set i u) := by intro u; simp [ods, List.map_set]
    generalize (l'[i]'(by omega)) = t at *
    have w0 : IntKind.i64.wrap (k' + 1) = k' + 1 := wrap64 (by omega) (by omega)
    have w1 : IntKind.i64.wrap (k' + 1 + 1) = k' + 1 + 1 := wrap64 (by omega) (by omega)
    simp only [Int.toNat_natCast, hgi, e1, odA, push_cast, ↓J1, ↓J2, N1, N2, N3, reduceCtorEq, N4, N5, N6, reduceIte, N7, I1, I2, I3]
    refine ifB_intro (fun _ => ?_) (fun h => by simp at h; omega)
    repeat (refine ⟨by omega, ?_⟩)
    repeat' (first | refine ⟨by omega, ?_⟩ | simp only [Int.toNat_natCast, hgi, e1, gs, hset_hset, List.set_set, setsA, List.set_cons_zero, List.set_cons_succ, odA, w0, w1, push_cast, ↓J1, ↓J2, N1, N2, N3, reduceCtorEq, N4, N5, N6, reduceIte, N7, I1, I2, I3])
    refine hJ (m - 1) _ _ (by omega) ⟨i + 1, l'.set i ⟨k', k' + 1⟩, k' + 1 + 1, by omega, by simp [h2], ?_, ?_, rfl⟩ (head_tb [] (by simp [rhoOk, objIds]) ?_ ?_)
    rotate_left 2
    · simp only [hid, keptV_cons, keptV_nil, tb_get, lk_same, lk_ne, lk_nil, ren, renL, lkp, N7, N1, N5, reduceIte, and_true, true_and, Nat.not_lt_zero, if_false, if_true, Nat.add_zero, Nat.zero_add]
      rw [wrap64 (n := (i : Int) + 1) (by omega) (by omega)]
      and_intros <;> first | rfl | (simp; done) | omega
    · rw [← ls]
      simp only [odA]
      exact below_set hb
    all_goals omega
  · simp only [push_cast, ↓J1, ↓J2, N1, N2, N3, reduceCtorEq, N4, N5, N6, reduceIte, N7, I1, I2, I3]
    refine ifB_intro (fun h => by simp at h; omega) (fun h => ?_)
    exact ⟨⟨k', rfl, by omega, by omega⟩, rfl, FrH.set, below_set hb, solid_set hs⟩
theorem t175 (l : List Kin) (k : Int) (h : Heap) (id n : Nat) (hg : hget h id = some (.slice 6 (kins l))) (hb : below n h) (hs : solid h) (hk : 0 ≤ k ∧ k ≤ 2^47) (hl : l.length < 2^21) : C 175 [.ref id none 6 0 l.length, .int .i64 k] h n (MP [id] h n 0 k (2^43)) := by
  have hid := below_lt hb hg
  refine Closed.rT hC Q175 ?_
  simp only [c175, push_cast, ↓J1, ↓J2, N1, N2, N3, reduceCtorEq, N4, N5, N6, reduceIte, N7, I1, I2, I3]
  have hgi : ∀ es : List (List AV), hget (hset h id (.slice 6 es)) id = some (.slice 6 es) := fun es => hget_same hg
  refine RL_ind (fun m s' => ∃ (i : Nat) (l' : List Kin) (k' : Int), i + m = l.length ∧ l'.length = l.length ∧ k ≤ k' ∧ k' ≤ k + i * 6 ∧ s' = ⟨tb 58 .any [(0, .ref id none 6 0 l.length), (1, .int .i64 k'), (5, .int .i64 (i : Int))], hset h id (.slice 6 (kins l')), n⟩) l.length ⟨tb 58 .any [(0, .ref id none 6 0 l.length), (1, .int .i64 k), (5, .int .i64 0)], hset h id (.slice 6 (kins l)), n⟩ (head_tb [] (by simp [rhoOk, objIds]) (by simp only [hid, keptV_cons, keptV_nil, tb_get, lk_same, lk_ne, lk_nil, ren, renL, lkp, N7, N1, N5, reduceIte, and_true, true_and, Nat.not_lt_zero, if_false, if_true, Nat.add_zero, Nat.zero_add]; all_goals simp) (by rw [hset_get hg]; exact hb)) ⟨0, l, k, by omega, rfl, by omega, by omega, rfl⟩ ?_
  rintro m s' ⟨i, l', k', h1, h2, h3, h4, rfl⟩ J hJ
  by_cases hi : i < l.length
  · have e1 : (kins l')[i]? = some (kinA (l'[i]'(by omega))) := by simp [kins, h2, hi]
    have gs : ∀ e : List AV, ((kins l').set i e)[i]? = some e := by intro e; simp [kins, h2, hi]
    have ls : ∀ u : Kin, (kins l').set i (kinA u) = kins (l'.set i u) := by intro u; simp [kins, List.map_set]
    generalize (l'[i]'(by omega)) = t at *
    have w0 : IntKind.i64.wrap (k' + 1) = k' + 1 := wrap64 (by omega) (by omega)
    have w1 : IntKind.i64.wrap (k' + 1 + 1) = k' + 1 + 1 := wrap64 (by omega) (by omega)
    have w2 : IntKind.i64.wrap (k' + 1 + 1 + 1) = k' + 1 + 1 + 1 := wrap64 (by omega) (by omega)
    have w3 : IntKind.i64.wrap (k' + 1 + 1 + 1 + 1) = k' + 1 + 1 + 1 + 1 := wrap64 (by omega) (by omega)
    have w4 : IntKind.i64.wrap (k' + 1 + 1 + 1 + 1 + 1) = k' + 1 + 1 + 1 + 1 + 1 := wrap64 (by omega) (by omega)
    have w5 : IntKind.i64.wrap (k' + 1 + 1 + 1 + 1 + 1 + 1) = k' + 1 + 1 + 1 + 1 + 1 + 1 := wrap64 (by omega) (by omega)
    have hT := t226 hC k' (by omega)
    simp only [Int.toNat_natCast, hgi, e1, kinA, push_cast, ↓J1, ↓J2, N1, N2, N3, reduceCtorEq, N4, N5, N6, reduceIte, N7, I1, I2, I3]
    refine ifB_intro (fun _ => ?_) (fun h => by simp at h; omega)
    repeat (refine ⟨by omega, ?_⟩)
    refine ⟨_, hT, ?_⟩
    repeat' (first | refine ⟨by omega, ?_⟩ | simp only [Int.toNat_natCast, hgi, e1, gs, hset_hset, List.set_set, setsA, List.set_cons_zero, List.set_cons_succ, kinA, w0, w1, w2, w3, w4, w5, push_cast, ↓J1, ↓J2, N1, N2, N3, reduceCtorEq, N4, N5, N6, reduceIte, N7, I1, I2, I3])
    refine hJ (m - 1) _ _ (by omega) ⟨i + 1, l'.set i ⟨mText k', k' + 1, k' + 1 + 1, k' + 1 + 1 + 1, decide ((k' + 1 + 1 + 1 + 1).tmod 3 = 0), k' + 1 + 1 + 1 + 1 + 1⟩, k' + 1 + 1 + 1 + 1 + 1 + 1, by omega, by simp [h2], ?_, ?_, rfl⟩ (head_tb [] (by simp [rhoOk, objIds]) ?_ ?_)
    rotate_left 2
    · simp only [hid, keptV_cons, keptV_nil, tb_get, lk_same, lk_ne, lk_nil, ren, renL, lkp, N7, N1, N5, reduceIte, and_true, true_and, Nat.not_lt_zero, if_false, if_true, Nat.add_zero, Nat.zero_add]
      rw [wrap64 (n := (i : Int) + 1) (by omega) (by omega)]
      and_intros <;> first | rfl | (simp; done) | omega
    · rw [← ls]
      simp only [kinA]
      exact below_set hb
    all_goals omega
  · simp only [push_cast, ↓J1, ↓J2, N1, N2, N3, reduceCtorEq, N4, N5, N6, reduceIte, N7, I1, I2, I3]
    refine ifB_intro (fun h => by simp at h; omega) (fun h => ?_)
    exact ⟨⟨k', rfl, by omega, by omega⟩, rfl, FrH.set, below_set hb, solid_set hs⟩
theorem t174 (l : List Ter) (k : Int) (h : Heap) (id n : Nat) (hg : hget h id = some (.slice 5 (tersO l))) (hb : below n h) (hs : solid h) (hk : 0 ≤ k ∧ k ≤ 2^47) (hl : l.length < 2^21) (hc : ∀ t ∈ l, t.c.length < 2^21) : C 174 [.ref id none 5 0 l.length, .int .i64 k] h n (MP [id] h n 0 k (2^43)) := by
  have hid := below_lt hb hg
  refine Closed.rT hC Q174 ?_
  simp only [c174, push_cast, ↓J1, ↓J2, N1, N2, N3, reduceCtorEq, N4, N5, N6, reduceIte, N7, I1, I2, I3]
  have hgi : ∀ es : List (List AV), hget (hset h id (.slice 5 es)) id = some (.slice 5 es) := fun es => hget_same hg
  refine RL_ind (fun m s' => ∃ (i : Nat) (l' : List Ter) (k' : Int), i + m = l.length ∧ l'.length = l.length ∧ (∀ t ∈ l', t.c.length < 2^21) ∧ k ≤ k' ∧ k' ≤ k + i * 2097156 ∧ s' = ⟨tb 51 .any [(0, .ref id none 5 0 l.length), (1, .int .i64 k'), (5, .int .i64 (i : Int))], hset h id (.slice 5 (tersO l')), n⟩) l.length ⟨tb 51 .any [(0, .ref id none 5 0 l.length), (1, .int .i64 k), (5, .int .i64 0)], hset h id (.slice 5 (tersO l)), n⟩ (head_tb [] (by simp [rhoOk, objIds]) (by simp only [hid, keptV_cons, keptV_nil, tb_get, lk_same, lk_ne, lk_nil, ren, renL, lkp, N7, N1, N5, reduceIte, and_true, true_and, Nat.not_lt_zero, if_false, if_true, Nat.add_zero, Nat.zero_add]; all_goals simp) (by rw [hset_get hg]; exact hb)) ⟨0, l, k, by omega, rfl, hc, by omega, by omega, rfl⟩ ?_
  rintro m s' ⟨i, l', k', h1, h2, hI, h3, h4, rfl⟩ J hJ
  by_cases hi : i < l.length
  · have e1 : (tersO l')[i]? = some (terO (l'[i]'(by omega))) := by simp [tersO, h2, hi]
    have gs : ∀ e : List AV, ((tersO l').set i e)[i]? = some e := by intro e; simp [tersO, h2, hi]
    have ls : ∀ u : Ter, (tersO l').set i (terO u) = tersO (l'.set i u) := by intro u; simp [tersO, List.map_set]
    have hin := hI _ (List.getElem_mem (show i < l'.length by omega))
    generalize (l'[i]'(by omega)) = t at *
    have w0 : IntKind.i64.wrap (k' + 1) = k' + 1 := wrap64 (by omega) (by omega)
    have hT := t226 hC k' (by omega)
    have hL : t.c.length < 2^21 := hin
    have w1 : IntKind.i64.wrap (k' + 1 + (t.c.length : Int) + 1) = k' + 1 + (t.c.length : Int) + 1 := wrap64 (by omega) (by omega)
    have w2 : IntKind.i64.wrap (k' + 1 + (t.c.length : Int) + 1 + 1) = k' + 1 + (t.c.length : Int) + 1 + 1 := wrap64 (by omega) (by omega)
    have w3 : IntKind.i64.wrap (k' + 1 + (t.c.length : Int) + 1 + 1 + 1) = k' + 1 + (t.c.length : Int) + 1 + 1 + 1 := wrap64 (by omega) (by omega)
    simp only [Int.toNat_natCast, hgi, e1, terO, push_cast, ↓J1, ↓J2, N1, N2, N3, reduceCtorEq, N4, N5, N6, reduceIte, N7, I1, I2, I3]
    refine ifB_intro (fun _ => ?_) (fun h => by simp at h; omega)
    repeat (refine ⟨by omega, ?_⟩)
    refine ⟨_, hT, ?_⟩
    repeat' (first | refine ⟨by omega, ?_⟩ | simp only [Int.toNat_natCast, hgi, e1, gs, hset_hset, ints_length, List.set_set, setsA, List.set_cons_zero, List.set_cons_succ, terO, w0, push_cast, ↓J1, ↓J2, N1, N2, N3, reduceCtorEq, N4, N5, N6, reduceIte, N7, I1, I2, I3])
    refine ⟨_, t102p hC t.c (k' + 1) _ id n i 5 1 _ _ (hgi _) (gs _) rfl (below_set hb) (by omega) (by omega), ?_⟩
    rintro v hh nn ⟨rfl, rfl, rfl⟩ _
    have hs2 := solid_set (id := id) (sz := 5) (es := ((tersO l').set i (terO ⟨mText k', mk t.c (k' + 1) t.c.length, t.s, t.h, t.b⟩))) hs
    unfold solid at hs2
    simp only [terO] at hs2
    simp only [hs2, hset_hset, List.set_set, List.set_cons_zero, List.set_cons_succ, push_cast, ↓J1, ↓J2, N1, N2, N3, reduceCtorEq, N4, N5, N6, reduceIte, N7, I1, I2, I3]
    repeat' (first | refine ⟨by omega, ?_⟩ | simp only [Int.toNat_natCast, hgi, e1, gs, hset_hset, List.set_set, setsA, List.set_cons_zero, List.set_cons_succ, terO, w1, w2, w3, push_cast, ↓J1, ↓J2, N1, N2, N3, reduceCtorEq, N4, N5, N6, reduceIte, N7, I1, I2, I3])
    refine hJ (m - 1) _ _ (by omega) ⟨i + 1, l'.set i ⟨mText k', mk t.c (k' + 1) t.c.length, k' + 1 + t.c.length, k' + 1 + t.c.length + 1, decide ((k' + 1 + t.c.length + 1 + 1).tmod 3 = 0)⟩, k' + 1 + t.c.length + 1 + 1 + 1, by omega, by simp [h2], ?_, ?_, ?_, rfl⟩ (head_tb [] (by simp [rhoOk, objIds]) ?_ ?_)
    rotate_left 3
    · simp only [hid, keptV_cons, keptV_nil, tb_get, lk_same, lk_ne, lk_nil, ren, renL, lkp, N7, N1, N5, reduceIte, and_true, true_and, Nat.not_lt_zero, if_false, if_true, Nat.add_zero, Nat.zero_add]
      rw [wrap64 (n := (i : Int) + 1) (by omega) (by omega)]
      and_intros <;> first | rfl | (simp; done) | omega
    · rw [← ls]
      simp only [terO]
      exact below_set hb
    · intro u hu
      rcases List.mem_or_eq_of_mem_set hu with hu | rfl
      · exact hI u hu
      · show (mk t.c (k' + 1) t.c.length).length < _
        rw [mk_length (Nat.le_refl _)]; exact hL
    all_goals omega
  · simp only [push_cast, ↓J1, ↓J2, N1, N2, N3, reduceCtorEq, N4, N5, N6, reduceIte, N7, I1, I2, I3]
    refine ifB_intro (fun h => by simp at h; omega) (fun h => ?_)
    exact ⟨⟨k', rfl, by omega, by omega⟩, rfl, FrH.set, below_set hb, solid_set hs⟩
end
end Go.Proofs.YtjaccjeejeiphaaGreatDoor.X
