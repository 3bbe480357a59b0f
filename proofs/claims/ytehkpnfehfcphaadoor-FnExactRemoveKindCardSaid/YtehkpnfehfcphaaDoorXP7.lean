/- A part of the proof: lemmas on the machine or on the functions that the law reaches. No condition of its own. -/
import Derived.Test.YtehkpnfehfcphaaDoorXP5
import Derived.Test.YtehkpnfehfcphaaDoorXP6
import Derived.Test.YtehkpnfehfcphaaDoorXP4
set_option maxHeartbeats 4000000
set_option maxRecDepth 8000
set_option linter.unusedSimpArgs false
set_option linter.unusedVariables false
open Nat renaming reduceBEq → N1, reduceAdd → N2, reduceSub → N3, reduceMul → N4, reduceEqDiff → N5, reduceLeDiff → N6, reduceLT → N7
open Int renaming reduceLE → I1, reduceLT → I2, reduceToNat → I3
namespace Go.Proofs.YtehkpnfehfcphaaDoor.X
open Go
attribute [local irreducible] Ev
def rkOk (b : Brd) (x : Wk) (k : Int) : Bool := wkOk b x && inR 0 ((x.q.length : Int) - 1) k
def rkX (b : Brd) (x : Wk) (k : Int) : Wk := if rkOk b x k then ⟨x.sd, x.at_, x.pt, x.q.eraseIdx k.toNat⟩ else wk0
theorem rkX_len (b : Brd) (x : Wk) (k : Int) : (rkX b x k).q.length ≤ x.q.length := by
  simp only [rkX]
  split
  · exact List.length_eraseIdx_le _ _
  · simp [wk0]
theorem own_wb (x : Wk) (w : Bool) : ownR (.tup [.agg (wkO x), .bool w]) = true := by
  have h := own_ints x.q
  simp only [ownR] at h
  simp only [wkO, ownR, ownRL, h, Bool.and_true]
def DelI (C : CT) : Prop := ∀ (l : List Int) (i j : Nat) (h : Heap) (id nx : Nat), hget h id = some (.slice 1 (ints l)) → i < j → j ≤ l.length → C 27 [.ref id none 1 0 l.length, .int .i64 i, .int .i64 j] h nx fun v h' n' => v = .ref id none 1 0 (i + (l.length - j)) ∧ h' = hset h id (.slice 1 (ints (l.take i ++ l.drop j ++ List.replicate (j - i) 0))) ∧ n' = nx
theorem rk_take {l : List Int} {i : Nat} (h : i < l.length) : List.take (i + (l.length - (i + 1))) (ints (l.take i ++ l.drop (i + 1) ++ List.replicate (i + 1 - i) 0)) = ints (l.eraseIdx i) := by
  rw [List.eraseIdx_eq_take_drop_succ]
  simp only [ints, ← List.map_take]
  rw [List.take_append_of_le_length (by simp; omega), List.take_of_length_le (by simp; omega)]
def rkF (l : List Int) (i k : Nat) : List Int := (l.take k).eraseIdx i
theorem rkF_zero {l : List Int} {i : Nat} : rkF l i 0 = [] := by simp [rkF]
theorem rkF_end {l : List Int} {i : Nat} : rkF l i l.length = l.eraseIdx i := by simp [rkF]
theorem rkF_le {l : List Int} {i k : Nat} : (rkF l i k).length ≤ k := by
  have := List.length_eraseIdx_le (l.take k) i
  simp only [List.length_take] at this
  simp only [rkF]; omega
theorem rkF_same {l : List Int} {i : Nat} (h : i < l.length) : rkF l i (i + 1) = rkF l i i := by
  simp only [rkF]
  rw [List.eraseIdx_eq_take_drop_succ, List.eraseIdx_of_length_le (by simp; omega), List.take_take, List.drop_eq_nil_of_le (by simp; omega), List.append_nil, Nat.min_eq_left (by omega)]
theorem rkF_succ {l : List Int} {i k : Nat} (h : k < l.length) (hn : k ≠ i) : rkF l i (k + 1) = rkF l i k ++ [l[k]] := by
  simp only [rkF]
  rw [List.take_succ_eq_append_getElem h]
  rcases Nat.lt_or_ge i k with h1 | h1
  · rw [List.eraseIdx_append_of_lt_length (by simp; omega)]
  · rw [List.eraseIdx_of_length_le (by simp; omega), List.eraseIdx_of_length_le (by simp; omega)]
def rkS (V : List (Nat × AV)) (a b c : Int) (L0 R0 : Ob) : List Int → St
  | [] => ⟨tb 34 .any V, [(2, .var [.int .i64 a, .int .i64 b, .int .i64 c, .nil]), (1, R0), (0, L0)], 3⟩
  | x :: r => ⟨tb 34 .any V, [(3, .slice 1 (ints (x :: r))), (2, .var [.int .i64 a, .int .i64 b, .int .i64 c, .ref 3 none 1 0 (r.length + 1)]), (1, R0), (0, L0)], 4⟩
theorem rkS_snoc {V : List (Nat × AV)} {a b c : Int} {L0 R0 : Ob} {l : List Int} {x : Int} : rkS V a b c L0 R0 (l ++ [x]) = ⟨tb 34 .any V, [(3, .slice 1 (ints (l ++ [x]))), (2, .var [.int .i64 a, .int .i64 b, .int .i64 c, .ref 3 none 1 0 (l.length + 1)]), (1, R0), (0, L0)], 4⟩ := by
  cases l with
  | nil => rfl
  | cons y l => simp only [List.cons_append, rkS, List.length_append, List.length_cons, List.length_nil]
theorem rk_take1 (a : Int) (r : List Int) : List.take (r.length + 1) (ints (a :: r)) = ints (a :: r) := List.take_of_length_le (by simp [ints])
section
variable {C : CT} (hC : Closed Tryd.prog G1 md0 C)
include hC
theorem t20 (x : Wk) (i : Nat) (hi : i < x.q.length) (hq : x.q.length < 2^30) : Ev C 20 [.agg (wkF x), .int .i64 i] (.agg (wkO ⟨x.sd, x.at_, x.pt, x.q.eraseIdx i⟩)) := by
  have ho : ownR (.agg (wkO ⟨x.sd, x.at_, x.pt, x.q.eraseIdx i⟩)) = true := by
    have h := own_ints (x.q.eraseIdx i)
    simp only [ownR] at h
    simp only [wkO, ownR, ownRL, h, Bool.and_true]
  simp only [wkF, wkO] at *
  refine rT hC Q20 ?_ (ho)
  simp only [c20, ints_length, push_cast, ↓J1, ↓J2, N1, N2, N3, reduceCtorEq, N4, N5, N6, reduceIte, N7, I1, I2, I3]
  refine RL_count (fun k => rkS [(1, .int .i64 (i : Int)), (4, .ptr 1 none 0 0 0), (5, .ptr 2 none 0 0 0), (16, .sl (ints x.q)), (17, .int .i64 (x.q.length : Int)), (18, .int .i64 (k : Int))] x.sd x.at_ x.pt (.var [.int .i64 x.sd, .int .i64 x.at_, .int .i64 x.pt, .sl (ints x.q)]) (.var [.int .i64 0, .int .i64 0, .int .i64 0, .nil]) (rkF x.q i k)) (fun _ => True) x.q.length 0 (by rw [rkF_zero]; exact (hdA [(2, 2), (1, 1), (0, 0)])) (by omega) trivial fun k hk _ J hJ => ?_
  have hkl : (rkF x.q i k).length ≤ k := rkF_le
  by_cases h3 : k < x.q.length
  · have e1 : (ints x.q)[k]? = some [.int .i64 x.q[k]] := by simp [ints, h3]
    have w3 : IntKind.i64.wrap ((k : Int) + 1) = (k : Int) + 1 := wrap64 (by omega) (by omega)
    rcases hA : rkF x.q i k with _ | ⟨a, r⟩
    all_goals
      rw [hA] at hkl
      simp only [List.length_cons, List.length_nil] at hkl
      simp only [rkS, e1, Int.toNat_natCast, w3, rk_take1, ints_length, allScs, apYR_sc, List.length_cons, push_cast, ↓J1, ↓J2, N1, N2, N3, reduceCtorEq, N4, N5, N6, reduceIte, N7, I1, I2, I3]
      refine ifB_intro (fun _ => ?_) (fun h => by simp at h; omega)
      cases g : decide ((k : Int) = (i : Int))
      · have hn : k ≠ i := by have := of_decide_eq_false g; omega
        simp only [Bool.not_false, push_cast, ↓J1, ↓J2, N1, N2, N3, reduceCtorEq, N4, N5, N6, reduceIte, N7, I1, I2, I3]
        repeat (refine ⟨by omega, ?_⟩)
        refine hJ h3 trivial _ ?_
        rw [rkF_succ h3 hn, hA, rkS_snoc]
        (first | exact head_tb [(4, 3), (2, 2), (1, 1), (0, 0)] rfl (by simp only [keptV_cons, keptV_nil, tb_get, lk_same, lk_ne, lk_nil, ren, renL, lkp, N7, N1, N5, reduceIte, and_true, true_and, Nat.not_lt_zero, if_false, if_true, Nat.add_zero, Nat.zero_add]; (first | done | (simp; done) | (and_intros <;> rfl))) (by simp only [canR, canB, renO, renL, ren, lkp, hget, N7, N5, Nat.not_lt_zero, if_false, if_true, reduceIte, List.append_nil, List.nil_append]; (first | done | rfl | (rw [← ints_sn]; rfl))) | exact head_tb [(5, 3), (2, 2), (1, 1), (0, 0)] rfl (by simp only [keptV_cons, keptV_nil, tb_get, lk_same, lk_ne, lk_nil, ren, renL, lkp, N7, N1, N5, reduceIte, and_true, true_and, Nat.not_lt_zero, if_false, if_true, Nat.add_zero, Nat.zero_add]; (first | done | (simp; done) | (and_intros <;> rfl))) (by simp only [canR, canB, renO, renL, ren, lkp, hget, N7, N5, Nat.not_lt_zero, if_false, if_true, reduceIte, List.append_nil, List.nil_append]; (first | done | rfl | (rw [← ints_sn]; rfl))))
      · obtain rfl : k = i := by have := of_decide_eq_true g; omega
        simp only [Bool.not_true, push_cast, ↓J1, ↓J2, N1, N2, N3, reduceCtorEq, N4, N5, N6, reduceIte, N7, I1, I2, I3]
        repeat (refine ⟨by omega, ?_⟩)
        refine hJ h3 trivial _ ?_
        rw [rkF_same hi, hA]
        (first | exact (hdA [(2, 2), (1, 1), (0, 0)]) | exact (hdA [(3, 3), (2, 2), (1, 1), (0, 0)]))
  · obtain rfl : k = x.q.length := by omega
    rw [rkF_end] at hkl ⊢
    rcases hA : x.q.eraseIdx i with _ | ⟨a, r⟩
    · simp only [rkS, ints_length, push_cast, ↓J1, ↓J2, N1, N2, N3, reduceCtorEq, N4, N5, N6, reduceIte, N7, I1, I2, I3]
      refine ifB_intro (fun h => by simp at h) (fun h => ?_)
      exact RetTo_nil (r0 := .agg [.int .i64 x.sd, .int .i64 x.at_, .int .i64 x.pt, .nil]) (by simp only [conR, conRL, isF, hget, hdel, List.drop_zero, if_true, if_false, reduceIte, N5, reduceCtorEq]; rfl) (NilTo_agg (NilToL_cons (NilTo.refl _) (NilToL_cons (NilTo.refl _) (NilToL_cons (NilTo.refl _) (NilToL_cons NilTo_nl NilToL_nil)))))
    · simp only [rkS, rk_take1, ints_length, push_cast, ↓J1, ↓J2, N1, N2, N3, reduceCtorEq, N4, N5, N6, reduceIte, N7, I1, I2, I3]
      refine ifB_intro (fun h => by simp at h) (fun h => ?_)
      have tk3 : List.take (r.length + 1) (ints (a :: r)) = ints (a :: r) := rk_take1 a r
      exact RetTo_of (by simp only [conR, conRL, isF, hget, hdel, List.drop_zero, List.take_length, if_true, if_false, reduceIte, N5, reduceCtorEq, tk3]; rfl)
theorem t6 (b : Brd) (x : Wk) (k : Int) (hb : BrdB (2^50) b) (hq : x.q.length < 2^50) : Ev C 6 [brdF b, .agg (wkF x), .int .i64 k] (.tup [.agg (wkO (rkX b x k)), .bool (rkOk b x k)]) := by
  have c1 := t18 hC b x hb hq
  have o1 := fun i h1 h2 => t20 hC x i h1 h2
  simp only [brdF, rulF, mpF, List.cons_append, List.nil_append, wkF, wkO] at c1 o1 ⊢
  refine rT hC Q6 ?_ (own_wb _ _)
  simp only [c6, push_cast, ↓J1, ↓J2, N1, N2, N3, reduceCtorEq, N4, N5, N6, reduceIte, N7, I1, I2, I3]
  refine ⟨_, c1, ?_⟩
  cases g1 : wkOk b x
  · have hno : rkOk b x k = false := by simp only [rkOk, g1, Bool.false_and]
    simp only [rkX, hno, Bool.false_eq_true, if_false, push_cast, ↓J1, ↓J2, N1, N2, N3, reduceCtorEq, N4, N5, N6, reduceIte, N7, I1, I2, I3]
    exact RetTo_nil (h2 := _) (by simp only [conR, conRL, isF, hget, hdel, List.drop_zero, List.take_length, if_true, if_false, reduceIte, N5, reduceCtorEq]; rfl) (NilTo_tup (NilToL_cons (NilTo_agg nil_wk) (NilToL_cons (NilTo.refl _) NilToL_nil)))
  have hq8 : x.q.length ≤ 8 := by
    have h := g1
    simp only [wkOk, Bool.and_eq_true] at h
    exact (wk_in h.2).2.2.1
  have w1 : IntKind.i64.wrap ((x.q.length : Int) - 1) = (x.q.length : Int) - 1 := wrap64 (by omega) (by omega)
  simp only [ints_length, w1, Bool.not_true, push_cast, ↓J1, ↓J2, N1, N2, N3, reduceCtorEq, N4, N5, N6, reduceIte, N7, I1, I2, I3]
  refine ⟨_, t19 hC _ _ _, ?_⟩
  rw [show (decide (0 ≤ k) && decide (k ≤ (x.q.length : Int) - 1)) = inR 0 ((x.q.length : Int) - 1) k from rfl]
  cases g2 : inR 0 ((x.q.length : Int) - 1) k
  · have hno : rkOk b x k = false := by simp only [rkOk, g2, Bool.and_false]
    simp only [rkX, hno, Bool.false_eq_true, if_false, push_cast, ↓J1, ↓J2, N1, N2, N3, reduceCtorEq, N4, N5, N6, reduceIte, N7, I1, I2, I3]
    exact RetTo_nil (h2 := _) (by simp only [conR, conRL, isF, hget, hdel, List.drop_zero, List.take_length, if_true, if_false, reduceIte, N5, reduceCtorEq]; rfl) (NilTo_tup (NilToL_cons (NilTo_agg nil_wk) (NilToL_cons (NilTo.refl _) NilToL_nil)))
  have hok : rkOk b x k = true := by simp only [rkOk, g1, g2, Bool.and_self]
  simp only [inR, Bool.and_eq_true, decide_eq_true_eq] at g2
  obtain ⟨i, rfl⟩ : ∃ i : Nat, k = i := ⟨k.toNat, by omega⟩
  simp only [rkX, hok, if_true, Int.toNat_natCast, push_cast, ↓J1, ↓J2, N1, N2, N3, reduceCtorEq, N4, N5, N6, reduceIte, N7, I1, I2, I3]
  refine ⟨_, o1 i (by omega) (by omega), ?_⟩
  have tk2 : List.take (x.q.eraseIdx i).length (ints (x.q.eraseIdx i)) = ints (x.q.eraseIdx i) := List.take_of_length_le (by rw [ints_length]; omega)
  simp only [ints_length, tk2, push_cast, ↓J1, ↓J2, N1, N2, N3, reduceCtorEq, N4, N5, N6, reduceIte, N7, I1, I2, I3]
  exact RetTo_of (by simp only [conR, conRL, isF, hget, hdel, List.drop_zero, List.take_length, if_true, if_false, reduceIte, N5, reduceCtorEq, tk2]; rfl)
theorem t9 (hD : DelI C) (b : Brd) (x : Wk) (k : Int) (hb : BrdB (2^50) b) (hq : x.q.length < 2^50) : Ev C 9 [brdF b, .agg (wkF x), .int .i64 k] (.tup [.agg (wkO (rkX b x k)), .bool (rkOk b x k)]) := by
  have c1 := t24 hC b x hb hq
  have o1 := fun h => t26 hC x h
  simp only [brdF, rulF, mpF, List.cons_append, List.nil_append, wkF, wkO] at c1 o1 ⊢
  refine rT hC Q9 ?_ (own_wb _ _)
  simp only [c9, push_cast, ↓J1, ↓J2, N1, N2, N3, reduceCtorEq, N4, N5, N6, reduceIte, N7, I1, I2, I3]
  refine ⟨_, c1, ?_⟩
  cases g1 : wkOk b x
  · have hno : rkOk b x k = false := by simp only [rkOk, g1, Bool.false_and]
    simp only [rkX, hno, Bool.false_eq_true, if_false, push_cast, ↓J1, ↓J2, N1, N2, N3, reduceCtorEq, N4, N5, N6, reduceIte, N7, I1, I2, I3]
    exact RetTo_nil (h2 := _) (by simp only [conR, conRL, isF, hget, hdel, List.drop_zero, List.take_length, if_true, if_false, reduceIte, N5, reduceCtorEq]; rfl) (NilTo_tup (NilToL_cons (NilTo_agg nil_wk) (NilToL_cons (NilTo.refl _) NilToL_nil)))
  have hq8 : x.q.length ≤ 8 := by
    have h := g1
    simp only [wkOk, Bool.and_eq_true] at h
    exact (wk_in h.2).2.2.1
  simp only [ints_length, Bool.not_true, push_cast, ↓J1, ↓J2, N1, N2, N3, reduceCtorEq, N4, N5, N6, reduceIte, N7, I1, I2, I3]
  refine ⟨_, tIdx hC k (x.q.length : Int) (by omega), ?_⟩
  cases g2 : inR 0 ((x.q.length : Int) - 1) k
  · have hno : rkOk b x k = false := by simp only [rkOk, g2, Bool.and_false]
    simp only [rkX, hno, Bool.false_eq_true, if_false, push_cast, ↓J1, ↓J2, N1, N2, N3, reduceCtorEq, N4, N5, N6, reduceIte, N7, I1, I2, I3]
    exact RetTo_nil (h2 := _) (by simp only [conR, conRL, isF, hget, hdel, List.drop_zero, List.take_length, if_true, if_false, reduceIte, N5, reduceCtorEq]; rfl) (NilTo_tup (NilToL_cons (NilTo_agg nil_wk) (NilToL_cons (NilTo.refl _) NilToL_nil)))
  have hok : rkOk b x k = true := by simp only [rkOk, g1, g2, Bool.and_self]
  simp only [inR, Bool.and_eq_true, decide_eq_true_eq] at g2
  obtain ⟨i, rfl⟩ : ∃ i : Nat, k = i := ⟨k.toNat, by omega⟩
  simp only [rkX, hok, if_true, Int.toNat_natCast, push_cast, ↓J1, ↓J2, N1, N2, N3, reduceCtorEq, N4, N5, N6, reduceIte, N7, I1, I2, I3]
  have c3 : ∀ h id nx, hget h id = some (.slice 1 (ints x.q)) → _ := fun h id nx hg => hD x.q i (i + 1) h id nx hg (by omega) (by omega)
  simp only [Int.natCast_add, Int.cast_ofNat_Int] at c3
  have w1 : IntKind.i64.wrap ((i : Int) + 1) = (i : Int) + 1 := wrap64 (by omega) (by omega)
  have tk := rk_take (l := x.q) (i := i) (by omega)
  refine ⟨_, o1 (by omega), ?_⟩
  simp only [ints_length, w1, push_cast, ↓J1, ↓J2, N1, N2, N3, reduceCtorEq, N4, N5, N6, reduceIte, N7, I1, I2, I3]
  refine ⟨_, c3 _ _ _ rfl, ?_⟩
  rintro v h' n' ⟨rfl, rfl, rfl⟩ _
  simp only [ints_length, push_cast, ↓J1, ↓J2, N1, N2, N3, reduceCtorEq, N4, N5, N6, reduceIte, N7, I1, I2, I3]
  exact RetTo_of (by simp only [conR, conRL, isF, hget, hdel, List.drop_zero, List.take_length, if_true, if_false, reduceIte, N5, reduceCtorEq, tk]; rfl)
end
section
variable {C : CT} (hC : Closed Tryd.prog G1 md0 C)
include hC
theorem t3 (hD : DelI C) (b : Brd) (x : Wk) (d : Int) (hb : BrdB (2^50) b) (hx : x.q.length < 2^50) : Ev C 3 [brdF b, .agg (wkF x), .int .i64 d] (.bool true) := by
  have z0 := fun p => t4 hC b 1048576 p hb
  have z1 := fun p => t5 hC x (szBrd b 1048576) p hx
  have d0 := fun Hb => t7 hC b Hb
  have e0 := t11 hC b b hb hb
  have d1 := fun Hx => t8 hC x Hx
  have e1 := t10 hC x x hx hx
  have f1 := fun (Hb : BrdB (2^30) b) (Hx : x.q.length < 2^30) => t6 hC b x d hb (by omega)
  have f2 := fun (Hb : BrdB (2^30) b) (Hx : x.q.length < 2^30) => t9 hC hD b x d hb (by omega)
  have hq := True.intro
  have bQ : (BrdB (2^30) b) → (x.q.length < 2^30) → ((rkX b x d)).q.length < 2^40 := by intros; (have := rkX_len b x d; omega)
  generalize (rkX b x d) = Q at *
  simp only [brdO, rulO, mpO, brdF, rulF, mpF, szWk, wkF, wkO, List.cons_append, List.nil_append, List.append_assoc, decide_true] at *
  refine rT hC Q3 ?_
  simp only [X.c3, push_cast, ↓J1, ↓J2, N1, N2, N3, reduceCtorEq, N4, N5, N6, reduceIte, N7, I1, I2, I3]
  refine ⟨_, z0 (by omega), ?_⟩
  simp only [push_cast, ↓J1, ↓J2, N1, N2, N3, reduceCtorEq, N4, N5, N6, reduceIte, N7, I1, I2, I3]
  refine ifB_intro (fun h => trivial) (fun h => ?_)
  have n0 := of_decide_eq_false h
  clear h
  have l0 := szBrd_le (b := b) (v := 1048576) (by omega) (by omega)
  have Hb : BrdB (2^30) b := (szBrd_pos (by omega)).mono (by omega)
  have Gb : BrdB (2^21) b := szBrd_pos (by omega)
  refine ⟨_, z1 (by omega), ?_⟩
  simp only [push_cast, ↓J1, ↓J2, N1, N2, N3, reduceCtorEq, N4, N5, N6, reduceIte, N7, I1, I2, I3]
  refine ifB_intro (fun h => trivial) (fun h => ?_)
  have n1 := of_decide_eq_false h
  clear h
  have l1 := sub1_le (v := (szBrd b 1048576)) (n := x.q.length) (by omega)
  have Hx : x.q.length < 2^30 := by have := sub1_pos (v := (szBrd b 1048576)) (n := x.q.length) (by omega); omega
  have d0 := d0 Hb
  have d1 := d1 Hx
  have bQ := bQ Hb Hx
  have hQ : Q.q.length < 2^50 := by omega
  have f1 := f1 Hb Hx
  have f2 := f2 Hb Hx
  have r0 := t10 hC Q Q hQ hQ
  have tkQ0 : List.take Q.q.length (ints Q.q) = ints Q.q := List.take_of_length_le (by rw [ints_length]; omega)
  have tkQ1 : ∀ k, List.take Q.q.length (ints (run k Q.q.length)) = ints (run k Q.q.length) := fun k => List.take_of_length_le (by rw [ints_length, run_length]; omega)
  simp only [brdO, rulO, mpO, brdF, rulF, mpF, szWk, wkF, wkO, List.cons_append, List.nil_append, List.append_assoc, decide_true] at r0
  have q0 := t14 hC Q.sd Q.at_ Q.pt 1 Q.q.length (by omega) (by omega)
  have w0 : decide (1 + (Q.q.length : Int) < 0) = false := decide_eq_false (by omega)
  repeat' (first
    | simp only [frzLL_ints, frzLL_ters, frzLL_kins, push_cast, ↓J1, ↓J2, N1, N2, N3, reduceCtorEq, N4, N5, N6, reduceIte, N7, I1, I2, I3]
    | refine ⟨_, d0, ?_⟩
    | refine ⟨_, e0, ?_⟩
    | refine ⟨_, d1, ?_⟩
    | refine ⟨_, e1, ?_⟩
    | refine ⟨_, r0, ?_⟩
    | refine ⟨_, q0, ?_⟩
    | refine ⟨_, f1, ?_⟩
    | refine ⟨_, f2, ?_⟩
    | refine ifB_intro (fun h => ?_) (fun h => ?_)
    | refine And.intro ?_ ?_)
  all_goals
    try simp only [tersO_length, kins_length, ints_length]
    refine ⟨_, t12 hC b _ _ _ _ _ 1 _ _ ?_ ?_ ?_ ?_ ?_ ?_ ?_ ?_ ?_ ?_ ?_ ?_ ?_ ?_ ?_ Gb ?_ ?_ ?_, ?_⟩
    any_goals (first | rfl | assumption | decide | omega | (simp only [tkQ0, tkQ1, hget, N5, N7, reduceIte]; done))
    rintro v0 a0 m0 p0 _
    obtain ⟨⟨k0, rfl, u0, o0⟩, rfl, y0, B0, S0⟩ := p0
    have K0 : killH a0 = a0 := S0
    unfold FrH at y0
    have nn0 : decide (k0 < 0) = false := decide_eq_false (by omega)
    repeat' (first
    | simp only [frzLL_ints, frzLL_ters, frzLL_kins, tkQ0, tkQ1, K0, y0, nn0, List.mem_cons, List.not_mem_nil, or_false, not_false_eq_true, not_or, and_true, and_self, push_cast, ↓J1, ↓J2, N1, N2, N3, reduceCtorEq, N4, N5, N6, reduceIte, N7, I1, I2, I3]
    | refine ⟨_, d0, ?_⟩
    | refine ⟨_, e0, ?_⟩
    | refine ⟨_, d1, ?_⟩
    | refine ⟨_, e1, ?_⟩
    | refine ⟨_, r0, ?_⟩
    | refine ⟨_, q0, ?_⟩
    | refine ⟨_, f1, ?_⟩
    | refine ⟨_, f2, ?_⟩
    | refine ifB_intro (fun h => ?_) (fun h => ?_)
    | refine And.intro ?_ ?_)
  all_goals
    try simp only [tersO_length, kins_length, ints_length]
    refine ⟨_, t13 hC x.sd x.at_ x.pt x.q _ (k0) _ _ ?_ ?_ ?_ ?_ (by omega), ?_⟩
    any_goals (first | rfl | assumption | decide | omega | (simp only [tkQ0, tkQ1, K0, y0, nn0, List.mem_cons, List.not_mem_nil, or_false, not_false_eq_true, not_or, and_true, and_self, hget, N5, N7, reduceIte]; done))
    rintro v1 a1 m1 p1 _
    obtain ⟨rfl, rfl, -, y1, B1, S1⟩ := p1
    have K1 : killH a1 = a1 := S1
    unfold FrH at y1
    have nn1 : decide (k0 + (x.q.length : Int) < 0) = false := decide_eq_false (by omega)
    repeat' (first
    | simp only [frzLL_ints, frzLL_ters, frzLL_kins, tkQ0, tkQ1, K0, y0, nn0, List.mem_cons, List.not_mem_nil, or_false, not_false_eq_true, not_or, and_true, and_self, K1, y1, nn1, push_cast, ↓J1, ↓J2, N1, N2, N3, reduceCtorEq, N4, N5, N6, reduceIte, N7, I1, I2, I3]
    | refine ⟨_, d0, ?_⟩
    | refine ⟨_, e0, ?_⟩
    | refine ⟨_, d1, ?_⟩
    | refine ⟨_, e1, ?_⟩
    | refine ⟨_, r0, ?_⟩
    | refine ⟨_, q0, ?_⟩
    | refine ⟨_, f1, ?_⟩
    | refine ⟨_, f2, ?_⟩
    | refine ifB_intro (fun h => ?_) (fun h => ?_)
    | refine And.intro ?_ ?_)
  all_goals
    try simp only [tersO_length, kins_length, ints_length]
    refine ⟨_, t13 hC Q.sd Q.at_ Q.pt Q.q _ 1 _ _ ?_ ?_ ?_ ?_ (by omega), ?_⟩
    any_goals (first | rfl | assumption | decide | omega | (simp only [tkQ0, tkQ1, K0, y0, nn0, List.mem_cons, List.not_mem_nil, or_false, not_false_eq_true, not_or, and_true, and_self, K1, y1, nn1, hget, N5, N7, reduceIte]; done))
    rintro v2 a2 m2 p2 _
    obtain ⟨rfl, rfl, g2, y2, B2, S2⟩ := p2
    have K2 : killH a2 = a2 := S2
    unfold FrH at y2
    repeat' (first
    | simp only [frzLL_ints, frzLL_ters, frzLL_kins, tkQ0, tkQ1, K0, y0, nn0, List.mem_cons, List.not_mem_nil, or_false, not_false_eq_true, not_or, and_true, and_self, K1, y1, nn1, K2, y2, g2, w0, push_cast, ↓J1, ↓J2, N1, N2, N3, reduceCtorEq, N4, N5, N6, reduceIte, N7, I1, I2, I3]
    | refine ⟨_, d0, ?_⟩
    | refine ⟨_, e0, ?_⟩
    | refine ⟨_, d1, ?_⟩
    | refine ⟨_, e1, ?_⟩
    | refine ⟨_, r0, ?_⟩
    | refine ⟨_, q0, ?_⟩
    | refine ⟨_, f1, ?_⟩
    | refine ⟨_, f2, ?_⟩
    | refine ifB_intro (fun h => ?_) (fun h => ?_)
    | refine And.intro ?_ ?_)
end
end Go.Proofs.YtehkpnfehfcphaaDoor.X
set_option maxHeartbeats 4000000
set_option maxRecDepth 8000
set_option linter.unusedSimpArgs false
set_option linter.unusedVariables false
open Nat renaming reduceBEq → N1, reduceAdd → N2, reduceSub → N3, reduceMul → N4, reduceEqDiff → N5, reduceLeDiff → N6, reduceLT → N7
open Int renaming reduceLE → I1, reduceLT → I2, reduceToNat → I3
namespace Go.Proofs.YtehkpnfehfcphaaDoor.X
open Go
theorem has_ints {k : Nat} {xs : List AV} (h : Has Tryd.prog (k + 2) 26 xs) : ∃ l, xs = [.sl (ints l)] ∧ l.length < 2 ^ 50 := by
  obtain ⟨es, rfl, _, hb, he⟩ := has_slice tk_26 h
  rw [bo_3] at hb
  obtain ⟨l, rfl⟩ := all_map (f := fun n : Int => [AV.int .i64 n]) (es := es) fun e hx => by
    obtain ⟨n, hn, _⟩ := has_int tk_3 (he e hx).2
    exact ⟨n, hn⟩
  simp only [reachBytes, List.length_map] at hb
  exact ⟨l, rfl, by omega⟩
theorem all_map2 {α : Type} {f : α → List AV} {p : α → Prop} {es : List (List AV)} (h : ∀ e ∈ es, ∃ x, e = f x ∧ p x) : ∃ l : List α, es = l.map f ∧ ∀ x ∈ l, p x := by
  induction es with
  | nil => exact ⟨[], rfl, by simp⟩
  | cons e es ih =>
    obtain ⟨l, hl, hp⟩ := ih fun x hx => h x (by simp [hx])
    obtain ⟨x, hx, px⟩ := h e (by simp)
    exact ⟨x :: l, by rw [hl, hx]; rfl, by simp only [List.mem_cons, forall_eq_or_imp]; exact ⟨px, hp⟩⟩
theorem has_ter {k : Nat} {xs : List AV} (h : Has Tryd.prog (k + 9) 82 xs) : ∃ t : Ter, xs = terF t ∧ t.n.size < 2 ^ 50 ∧ t.c.length < 2 ^ 50 := by
  have h := has_struct sty_82 h
  obtain ⟨x0, r, rfl, _, h0, h⟩ := hasE_cons h
  obtain ⟨x1, r, rfl, _, h1, h⟩ := hasE_cons h
  obtain ⟨x2, r, rfl, _, h2, h⟩ := hasE_cons h
  obtain ⟨x3, r, rfl, _, h3, h⟩ := hasE_cons h
  obtain ⟨x4, r, rfl, _, h4, h⟩ := hasE_cons h
  obtain rfl := hasE_nil h
  obtain ⟨n, rfl, hn⟩ := has_str tk_9 h0
  obtain ⟨c, rfl, hc⟩ := has_ints h1
  obtain ⟨s, rfl, _⟩ := has_int tk_3 h2
  obtain ⟨e, rfl, _⟩ := has_int tk_3 h3
  obtain ⟨b, rfl⟩ := has_bool tk_4 h4
  simp only [reachBytes] at hn
  exact ⟨⟨n, c, s, e, b⟩, rfl, by show n.size < _; omega, hc⟩
theorem has_kin {k : Nat} {xs : List AV} (h : Has Tryd.prog (k + 9) 85 xs) : ∃ t : Kin, xs = kinA t ∧ t.n.size < 2 ^ 50 := by
  have h := has_struct sty_85 h
  obtain ⟨x0, r, rfl, _, h0, h⟩ := hasE_cons h
  obtain ⟨x1, r, rfl, _, h1, h⟩ := hasE_cons h
  obtain ⟨x2, r, rfl, _, h2, h⟩ := hasE_cons h
  obtain ⟨x3, r, rfl, _, h3, h⟩ := hasE_cons h
  obtain ⟨x4, r, rfl, _, h4, h⟩ := hasE_cons h
  obtain ⟨x5, r, rfl, _, h5, h⟩ := hasE_cons h
  obtain rfl := hasE_nil h
  obtain ⟨n, rfl, hn⟩ := has_str tk_9 h0
  obtain ⟨s, rfl, _⟩ := has_int tk_3 h1
  obtain ⟨m, rfl, _⟩ := has_int tk_3 h2
  obtain ⟨p, rfl, _⟩ := has_int tk_3 h3
  obtain ⟨z, rfl⟩ := has_bool tk_4 h4
  obtain ⟨v, rfl, _⟩ := has_int tk_3 h5
  simp only [reachBytes] at hn
  exact ⟨⟨n, s, m, p, z, v⟩, rfl, by show n.size < _; omega⟩
theorem has_rul {k : Nat} {xs : List AV} (h : Has Tryd.prog (k + 16) 25 xs) : ∃ r : Rul, xs = rulF r ∧ RulB (2 ^ 50) r := by
  have h := has_struct sty_25 h
  obtain ⟨x0, r, rfl, _, h0, h⟩ := hasE_cons h
  obtain ⟨x1, r, rfl, _, h1, h⟩ := hasE_cons h
  obtain ⟨x2, r, rfl, _, h2, h⟩ := hasE_cons h
  obtain ⟨x3, r, rfl, _, h3, h⟩ := hasE_cons h
  obtain ⟨x4, r, rfl, _, h4, h⟩ := hasE_cons h
  obtain ⟨x5, r, rfl, _, h5, h⟩ := hasE_cons h
  obtain ⟨x6, r, rfl, _, h6, h⟩ := hasE_cons h
  obtain rfl := hasE_nil h
  obtain ⟨es, rfl, _, hb, he⟩ := has_slice tk_22 h0
  obtain ⟨ts, rfl, ht⟩ := all_map2 (f := terF) (es := es) fun e hx => has_ter (he e hx).2
  obtain ⟨fs, rfl, _, hc, hf⟩ := has_slice tk_23 h1
  obtain ⟨ks, rfl, hk⟩ := all_map2 (f := kinA) (es := fs) fun e hx => has_kin (hf e hx).2
  obtain ⟨a, rfl, _⟩ := has_int tk_3 h2
  obtain ⟨b, rfl, _⟩ := has_int tk_3 h3
  obtain ⟨c, rfl, _⟩ := has_int tk_3 h4
  obtain ⟨d, rfl, _⟩ := has_int tk_3 h5
  obtain ⟨e, rfl, _⟩ := has_int tk_3 h6
  rw [bo_82] at hb
  rw [bo_85] at hc
  simp only [reachBytes, List.length_map] at hb hc
  exact ⟨⟨ts, ks, a, b, c, d, e⟩, rfl, ⟨by show ts.length < _; omega, by show ks.length < _; omega, ht, hk⟩⟩
theorem has_mp {k : Nat} {xs : List AV} (h : Has Tryd.prog (k + 16) 28 xs) : ∃ m : Mp, xs = mpF m ∧ MpB (2 ^ 50) m := by
  have h := has_struct sty_28 h
  obtain ⟨x0, r, rfl, _, h0, h⟩ := hasE_cons h
  obtain ⟨x1, r, rfl, _, h1, h⟩ := hasE_cons h
  obtain ⟨x2, r, rfl, _, h2, h⟩ := hasE_cons h
  obtain ⟨x3, r, rfl, _, h3, h⟩ := hasE_cons h
  obtain ⟨x4, r, rfl, _, h4, h⟩ := hasE_cons h
  obtain rfl := hasE_nil h
  obtain ⟨w, rfl, _⟩ := has_int tk_3 h0
  obtain ⟨e, rfl, _⟩ := has_int tk_3 h1
  obtain ⟨t, rfl, ht⟩ := has_ints h2
  obtain ⟨ri, rfl, hri⟩ := has_ints h3
  obtain ⟨ro, rfl, hro⟩ := has_ints h4
  exact ⟨⟨w, e, t, ri, ro⟩, rfl, ⟨ht, hri, hro⟩⟩
theorem has_brd {k : Nat} {xs : List AV} (h : Has Tryd.prog (k + 20) 30 xs) : ∃ b : Brd, xs = rulF b.r ++ mpF b.m ∧ BrdB (2 ^ 50) b := by
  have h := has_struct sty_30 h
  obtain ⟨x0, r, rfl, _, h0, h⟩ := hasE_cons h
  obtain ⟨x1, r, rfl, _, h1, h⟩ := hasE_cons h
  obtain rfl := hasE_nil h
  obtain ⟨r, rfl, hr⟩ := has_rul h0
  obtain ⟨m, rfl, hm⟩ := has_mp h1
  exact ⟨⟨r, m⟩, by simp only [List.append_nil], ⟨hr, hm⟩⟩
theorem hasV_brd {k : Nat} {x : AV} (hv : HasV Tryd.prog (k + 20) 30 x) : ∃ b : Brd, x = brdF b ∧ BrdB (2 ^ 50) b := by
  obtain ⟨ys, rfl, h⟩ := hasV_struct sty_30 hv
  obtain ⟨x0, r, rfl, _, h0, h⟩ := hasE_cons h
  obtain ⟨x1, r, rfl, _, h1, h⟩ := hasE_cons h
  obtain rfl := hasE_nil h
  obtain ⟨r, rfl, hr⟩ := has_rul h0
  obtain ⟨m, rfl, hm⟩ := has_mp h1
  exact ⟨⟨r, m⟩, by simp only [brdF, List.append_nil], ⟨hr, hm⟩⟩
end Go.Proofs.YtehkpnfehfcphaaDoor.X
set_option maxHeartbeats 1000000
set_option maxRecDepth 8000
set_option linter.unusedSimpArgs false
set_option linter.unusedVariables false
open Nat renaming reduceBEq → N1, reduceAdd → N2, reduceSub → N3, reduceMul → N4, reduceEqDiff → N5, reduceLeDiff → N6, reduceLT → N7
open Int renaming reduceLE → I1, reduceLT → I2, reduceToNat → I3
namespace Go.Proofs.YtehkpnfehfcphaaDoor.X
open Go
theorem hasV_wk {k : Nat} {x : AV} (hv : HasV Tryd.prog (k + 20) 32 x) : ∃ w : Wk, x = .agg (wkF w) ∧ w.q.length < 2 ^ 50 := by
  obtain ⟨ys, rfl, h⟩ := hasV_struct sty_32 hv
  obtain ⟨x0, r, rfl, _, h0, h⟩ := hasE_cons h
  obtain ⟨x1, r, rfl, _, h1, h⟩ := hasE_cons h
  obtain ⟨x2, r, rfl, _, h2, h⟩ := hasE_cons h
  obtain ⟨x3, r, rfl, _, h3, h⟩ := hasE_cons h
  obtain rfl := hasE_nil h
  obtain ⟨a, rfl, _⟩ := has_int tk_3 h0
  obtain ⟨b, rfl, _⟩ := has_int tk_3 h1
  obtain ⟨c, rfl, _⟩ := has_int tk_3 h2
  obtain ⟨q, rfl, hq⟩ := has_ints h3
  exact ⟨⟨a, b, c, q⟩, rfl, hq⟩
end Go.Proofs.YtehkpnfehfcphaaDoor.X
set_option maxHeartbeats 1000000
set_option maxRecDepth 8000
set_option linter.unusedSimpArgs false
set_option linter.unusedVariables false
open Nat renaming reduceBEq → N1, reduceAdd → N2, reduceSub → N3, reduceMul → N4, reduceEqDiff → N5, reduceLeDiff → N6, reduceLT → N7
open Int renaming reduceLE → I1, reduceLT → I2, reduceToNat → I3
namespace Go.Proofs.YtehkpnfehfcphaaDoor.X
open Go
theorem lawRemoveKind_C {C : CT} (hC : Closed Tryd.prog G1 md0 C) (hD : DelI C) : ∀ xs, HasVs Tryd.prog 30 [30, 32, 3] xs → Ev C 3 xs (.bool true) := by
  rintro xs ⟨x0, r0, rfl, h0, x1, r1, rfl, h1, x2, r2, rfl, h2, rfl⟩
  obtain ⟨b, rfl, hb⟩ := hasV_brd h0
  obtain ⟨x, rfl, hx⟩ := hasV_wk h1
  obtain ⟨d, rfl, _⟩ := hasV_int tk_3 h2
  exact t3 hC hD b x d hb hx
theorem lawRemoveKind : ∀ xs, HasVs Tryd.prog 30 [30, 32, 3] xs → Ev (CS Tryd.prog G1) 3 xs (.bool true) := lawRemoveKind_C (CS_closed (by kernel_rfl)) delInt_cs
end Go.Proofs.YtehkpnfehfcphaaDoor.X
