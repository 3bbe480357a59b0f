import Derived.Test.YtlddjlchgibdfaaDoorXCBdA
import Derived.Test.YtlddjlchgibdfaaDoorXCBdB
import Derived.Test.YtlddjlchgibdfaaDoorXCBdC
set_option maxHeartbeats 4000000
set_option maxRecDepth 8000
set_option linter.unusedSimpArgs false
set_option linter.unusedVariables false
namespace Go.Proofs.YtlddjlchgibdfaaDoor.X
open Go
attribute [local irreducible] Ev
section
variable {C : CT} (hC : Closed Tryd.prog G1 md0 C)
include hC
theorem t55 (r : Rul) (v : Int) (hv : 0 ≤ v ∧ v < 2^50) (hb : RulB (2^50) r) : Ev C 55 [.agg (rulF r), .int .i64 v] (.int .i64 (szRul r v)) := by
  simp only [rulF]
  refine Ev.runT hC Tryd.func55 h55 nt55 r55 (by decide) (Nat.le_of_ble_eq_true rfl) (rfl) ?_
  simp only [c55, push_cast, ↓ifB_true, ↓ifB_false, Nat.reduceBEq, Nat.reduceAdd, Nat.reduceSub, reduceCtorEq, Nat.reduceMul, Nat.reduceEqDiff, Nat.reduceLeDiff, reduceIte, Nat.reduceLT, Int.reduceLE, Int.reduceLT, Int.reduceToNat]
  refine ⟨_, t105 hC r.ts v hv hb.ts hb.t, ?_⟩
  simp only [push_cast, ↓ifB_true, ↓ifB_false, Nat.reduceBEq, Nat.reduceAdd, Nat.reduceSub, reduceCtorEq, Nat.reduceMul, Nat.reduceEqDiff, Nat.reduceLeDiff, reduceIte, Nat.reduceLT, Int.reduceLE, Int.reduceLT, Int.reduceToNat]
  refine ifB_intro (fun h => ?_) (fun h => ?_)
  · simp only [szRul, andThen, if_pos (of_decide_eq_true h)]
  · have hn := of_decide_eq_false h
    refine ⟨_, t106 hC r.ks _ ⟨by omega, by have := szTers_le (l := r.ts) hv.1 (by omega); omega⟩ hb.ks hb.k, ?_⟩
    simp only [push_cast, ↓ifB_true, ↓ifB_false, Nat.reduceBEq, Nat.reduceAdd, Nat.reduceSub, reduceCtorEq, Nat.reduceMul, Nat.reduceEqDiff, Nat.reduceLeDiff, reduceIte, Nat.reduceLT, Int.reduceLE, Int.reduceLT, Int.reduceToNat]
    refine ifB_intro (fun h => ?_) (fun h => ?_)
    · simp only [szRul, andThen, if_neg hn] at *
      simp only [if_pos (of_decide_eq_true h)]
    · simp only [szRul, andThen, if_neg hn] at *
      simp only [if_neg (of_decide_eq_false h)]
theorem t56 (m : Mp) (v : Int) (hv : 0 ≤ v ∧ v < 2^50) (hb : MpB (2^50) m) : Ev C 56 [.agg (mpF m), .int .i64 v] (.int .i64 (szMp m v)) := by
  have h1 := sub1_le (n := m.t.length) hv.1
  simp only [mpF]
  refine Ev.runT hC Tryd.func56 h56 nt56 r56 (by decide) (Nat.le_of_ble_eq_true rfl) (rfl) ?_
  simp only [c56, push_cast, ↓ifB_true, ↓ifB_false, Nat.reduceBEq, Nat.reduceAdd, Nat.reduceSub, reduceCtorEq, Nat.reduceMul, Nat.reduceEqDiff, Nat.reduceLeDiff, reduceIte, Nat.reduceLT, Int.reduceLE, Int.reduceLT, Int.reduceToNat]
  refine ⟨_, t65 hC _ _ (by omega) (by rw [ints_length]; exact hb.t), ?_⟩
  rw [ints_length, if_sub]
  simp only [push_cast, ↓ifB_true, ↓ifB_false, Nat.reduceBEq, Nat.reduceAdd, Nat.reduceSub, reduceCtorEq, Nat.reduceMul, Nat.reduceEqDiff, Nat.reduceLeDiff, reduceIte, Nat.reduceLT, Int.reduceLE, Int.reduceLT, Int.reduceToNat]
  refine ifB_intro (fun h => ?_) (fun h => ?_)
  · simp only [szMp, if_pos (of_decide_eq_true h)]
  · have hn := of_decide_eq_false h
    have h2 := sub1_le (v := sub1 v m.t.length) (n := m.ri.length) (by omega)
    refine ⟨_, t65 hC _ _ (by omega) (by rw [ints_length]; exact hb.ri), ?_⟩
    rw [ints_length, if_sub]
    simp only [push_cast, ↓ifB_true, ↓ifB_false, Nat.reduceBEq, Nat.reduceAdd, Nat.reduceSub, reduceCtorEq, Nat.reduceMul, Nat.reduceEqDiff, Nat.reduceLeDiff, reduceIte, Nat.reduceLT, Int.reduceLE, Int.reduceLT, Int.reduceToNat]
    refine ifB_intro (fun h => ?_) (fun h => ?_)
    · simp only [szMp, if_neg hn, if_pos (of_decide_eq_true h)]
    · have hn2 := of_decide_eq_false h
      refine ⟨_, t65 hC _ _ (by omega) (by rw [ints_length]; exact hb.ro), ?_⟩
      rw [ints_length, if_sub]
      simp only [push_cast, ↓ifB_true, ↓ifB_false, Nat.reduceBEq, Nat.reduceAdd, Nat.reduceSub, reduceCtorEq, Nat.reduceMul, Nat.reduceEqDiff, Nat.reduceLeDiff, reduceIte, Nat.reduceLT, Int.reduceLE, Int.reduceLT, Int.reduceToNat]
      refine ifB_intro (fun h => ?_) (fun h => ?_)
      · simp only [szMp, if_neg hn, if_neg hn2, if_pos (of_decide_eq_true h)]
      · simp only [szMp, if_neg hn, if_neg hn2, if_neg (of_decide_eq_false h)]
theorem t17 (b : Brd) (v : Int) (hv : 0 ≤ v ∧ v < 2^50) (hb : BrdB (2^50) b) : Ev C 17 [brdF b, .int .i64 v] (.int .i64 (szBrd b v)) := by
  simp only [brdF, rulF, mpF, List.cons_append, List.nil_append]
  refine Ev.runT hC Tryd.func17 h17 nt17 r17 (by decide) (Nat.le_of_ble_eq_true rfl) (rfl) ?_
  simp only [c17, push_cast, ↓ifB_true, ↓ifB_false, Nat.reduceBEq, Nat.reduceAdd, Nat.reduceSub, reduceCtorEq, Nat.reduceMul, Nat.reduceEqDiff, Nat.reduceLeDiff, reduceIte, Nat.reduceLT, Int.reduceLE, Int.reduceLT, Int.reduceToNat]
  refine ⟨_, t55 hC b.r v hv hb.r, ?_⟩
  simp only [push_cast, ↓ifB_true, ↓ifB_false, Nat.reduceBEq, Nat.reduceAdd, Nat.reduceSub, reduceCtorEq, Nat.reduceMul, Nat.reduceEqDiff, Nat.reduceLeDiff, reduceIte, Nat.reduceLT, Int.reduceLE, Int.reduceLT, Int.reduceToNat]
  refine ifB_intro (fun h => ?_) (fun h => ?_)
  · simp only [szBrd, andThen, if_pos (of_decide_eq_true h)]
  · have hn := of_decide_eq_false h
    refine ⟨_, t56 hC b.m _ ⟨by omega, by have := szRul_le (r := b.r) hv.1 (by omega); omega⟩ hb.m, ?_⟩
    simp only [push_cast, ↓ifB_true, ↓ifB_false, Nat.reduceBEq, Nat.reduceAdd, Nat.reduceSub, reduceCtorEq, Nat.reduceMul, Nat.reduceEqDiff, Nat.reduceLeDiff, reduceIte, Nat.reduceLT, Int.reduceLE, Int.reduceLT, Int.reduceToNat]
    refine ifB_intro (fun h => ?_) (fun h => ?_)
    · simp only [szBrd, andThen, if_neg hn] at *
      simp only [if_pos (of_decide_eq_true h)]
    · simp only [szBrd, andThen, if_neg hn] at *
      simp only [if_neg (of_decide_eq_false h)]
theorem t59 (r : Rul) (hb : RulB (2^30) r) : Ev C 59 [.agg (rulF r)] (.agg (rulO r)) := by
  simp only [rulF, rulO]
  refine Ev.runT hC Tryd.func59 h59 nt59 r59 (by decide) (Nat.le_of_ble_eq_true rfl) (by simp only [ownR, ownRL, own_ters, own_kins, Bool.and_true]) ?_
  simp only [c59, push_cast, ↓ifB_true, ↓ifB_false, Nat.reduceBEq, Nat.reduceAdd, Nat.reduceSub, reduceCtorEq, Nat.reduceMul, Nat.reduceEqDiff, Nat.reduceLeDiff, reduceIte, Nat.reduceLT, Int.reduceLE, Int.reduceLT, Int.reduceToNat]
  refine ⟨_, t108 hC _ hb.ts (fun x hx => (hb.t x hx).2), ?_⟩
  simp only [push_cast, ↓ifB_true, ↓ifB_false, Nat.reduceBEq, Nat.reduceAdd, Nat.reduceSub, reduceCtorEq, Nat.reduceMul, Nat.reduceEqDiff, Nat.reduceLeDiff, reduceIte, Nat.reduceLT, Int.reduceLE, Int.reduceLT, Int.reduceToNat]
  refine ⟨_, t109 hC _ hb.ks, ?_⟩
  simp only [push_cast, ↓ifB_true, ↓ifB_false, Nat.reduceBEq, Nat.reduceAdd, Nat.reduceSub, reduceCtorEq, Nat.reduceMul, Nat.reduceEqDiff, Nat.reduceLeDiff, reduceIte, Nat.reduceLT, Int.reduceLE, Int.reduceLT, Int.reduceToNat]
  exact RetTo_of (by simp only [conR, conRL, isF, hget, hdel, List.drop_zero, List.take_length, if_true, if_false, reduceIte, Nat.reduceEqDiff, reduceCtorEq]; rfl)
theorem t60 (m : Mp) (hb : MpB (2^30) m) : Ev C 60 [.agg (mpF m)] (.agg (mpO m)) := by
  simp only [mpF, mpO]
  refine Ev.runT hC Tryd.func60 h60 nt60 r60 (by decide) (Nat.le_of_ble_eq_true rfl) (by simp only [ownR, ownRL, own_ints1, Bool.and_true]) ?_
  simp only [c60, push_cast, ↓ifB_true, ↓ifB_false, Nat.reduceBEq, Nat.reduceAdd, Nat.reduceSub, reduceCtorEq, Nat.reduceMul, Nat.reduceEqDiff, Nat.reduceLeDiff, reduceIte, Nat.reduceLT, Int.reduceLE, Int.reduceLT, Int.reduceToNat]
  refine ⟨_, t68 hC _ hb.t, ?_⟩
  simp only [push_cast, ↓ifB_true, ↓ifB_false, Nat.reduceBEq, Nat.reduceAdd, Nat.reduceSub, reduceCtorEq, Nat.reduceMul, Nat.reduceEqDiff, Nat.reduceLeDiff, reduceIte, Nat.reduceLT, Int.reduceLE, Int.reduceLT, Int.reduceToNat]
  refine ⟨_, t68 hC _ hb.ri, ?_⟩
  simp only [push_cast, ↓ifB_true, ↓ifB_false, Nat.reduceBEq, Nat.reduceAdd, Nat.reduceSub, reduceCtorEq, Nat.reduceMul, Nat.reduceEqDiff, Nat.reduceLeDiff, reduceIte, Nat.reduceLT, Int.reduceLE, Int.reduceLT, Int.reduceToNat]
  refine ⟨_, t68 hC _ hb.ro, ?_⟩
  simp only [push_cast, ↓ifB_true, ↓ifB_false, Nat.reduceBEq, Nat.reduceAdd, Nat.reduceSub, reduceCtorEq, Nat.reduceMul, Nat.reduceEqDiff, Nat.reduceLeDiff, reduceIte, Nat.reduceLT, Int.reduceLE, Int.reduceLT, Int.reduceToNat]
  exact RetTo_of (by simp only [conR, conRL, isF, hget, hdel, List.drop_zero, List.take_length, if_true, if_false, reduceIte, Nat.reduceEqDiff, reduceCtorEq]; rfl)
theorem t19 (b : Brd) (hb : BrdB (2^30) b) : Ev C 19 [brdF b] (brdO b) := by
  have c1 := t59 hC b.r hb.r
  have c2 := t60 hC b.m hb.m
  simp only [brdF, brdO, rulF, mpF, rulO, mpO, List.cons_append, List.nil_append] at *
  refine Ev.runT hC Tryd.func19 h19 nt19 r19 (by decide) (Nat.le_of_ble_eq_true rfl) (by simp only [ownR, ownRL, own_ters, own_kins, own_ints1, Bool.and_true]) ?_
  simp only [c19, push_cast, ↓ifB_true, ↓ifB_false, Nat.reduceBEq, Nat.reduceAdd, Nat.reduceSub, reduceCtorEq, Nat.reduceMul, Nat.reduceEqDiff, Nat.reduceLeDiff, reduceIte, Nat.reduceLT, Int.reduceLE, Int.reduceLT, Int.reduceToNat]
  refine ⟨_, c1, ?_⟩
  simp only [push_cast, ↓ifB_true, ↓ifB_false, Nat.reduceBEq, Nat.reduceAdd, Nat.reduceSub, reduceCtorEq, Nat.reduceMul, Nat.reduceEqDiff, Nat.reduceLeDiff, reduceIte, Nat.reduceLT, Int.reduceLE, Int.reduceLT, Int.reduceToNat]
  refine ⟨_, c2, ?_⟩
  simp only [push_cast, ↓ifB_true, ↓ifB_false, Nat.reduceBEq, Nat.reduceAdd, Nat.reduceSub, reduceCtorEq, Nat.reduceMul, Nat.reduceEqDiff, Nat.reduceLeDiff, reduceIte, Nat.reduceLT, Int.reduceLE, Int.reduceLT, Int.reduceToNat]
  exact RetTo_of (by simp only [conR, conRL, isF, hget, hdel, List.drop_zero, List.take_length, if_true, if_false, reduceIte, Nat.reduceEqDiff, reduceCtorEq]; rfl)
theorem t63 (r q : Rul) (h1 : RulB (2^50) r) (h2 : RulB (2^50) q) : Ev C 63 [.agg (rulF r), .agg (rulF q)] (.bool (decide (r = q))) := by
  have c1 := t110 hC r.ts q.ts h1.ts h2.ts (fun x hx => (h1.t x hx).2) (fun x hx => (h2.t x hx).2)
  have c2 := t111 hC r.ks q.ks h1.ks h2.ks
  clear h1 h2
  obtain ⟨a1, a2, a3, a4, a5, a6, a7⟩ := r
  obtain ⟨b1, b2, b3, b4, b5, b6, b7⟩ := q
  simp only [rulF] at *
  refine Ev.runT hC Tryd.func63 h63 nt63 r63 (by decide) (Nat.le_of_ble_eq_true rfl) (rfl) ?_
  simp only [c63, push_cast, ↓ifB_true, ↓ifB_false, Nat.reduceBEq, Nat.reduceAdd, Nat.reduceSub, reduceCtorEq, Nat.reduceMul, Nat.reduceEqDiff, Nat.reduceLeDiff, reduceIte, Nat.reduceLT, Int.reduceLE, Int.reduceLT, Int.reduceToNat]
  repeat' (first
    | refine ⟨_, c1, ?_⟩
    | refine ⟨_, c2, ?_⟩
    | refine ifB_intro (fun h => ?_) (fun h => ?_)
    | simp only [push_cast, ↓ifB_true, ↓ifB_false, Nat.reduceBEq, Nat.reduceAdd, Nat.reduceSub, reduceCtorEq, Nat.reduceMul, Nat.reduceEqDiff, Nat.reduceLeDiff, reduceIte, Nat.reduceLT, Int.reduceLE, Int.reduceLT, Int.reduceToNat])
  all_goals (clear c1 c2; simp_all)
theorem t64 (r q : Mp) (h1 : MpB (2^50) r) (h2 : MpB (2^50) q) : Ev C 64 [.agg (mpF r), .agg (mpF q)] (.bool (decide (r = q))) := by
  have c1 := t71 hC r.t q.t h1.t h2.t
  have c2 := t71 hC r.ri q.ri h1.ri h2.ri
  have c3 := t71 hC r.ro q.ro h1.ro h2.ro
  clear h1 h2
  obtain ⟨a1, a2, a3, a4, a5⟩ := r
  obtain ⟨b1, b2, b3, b4, b5⟩ := q
  simp only [mpF] at *
  refine Ev.runT hC Tryd.func64 h64 nt64 r64 (by decide) (Nat.le_of_ble_eq_true rfl) (rfl) ?_
  simp only [c64, push_cast, ↓ifB_true, ↓ifB_false, Nat.reduceBEq, Nat.reduceAdd, Nat.reduceSub, reduceCtorEq, Nat.reduceMul, Nat.reduceEqDiff, Nat.reduceLeDiff, reduceIte, Nat.reduceLT, Int.reduceLE, Int.reduceLT, Int.reduceToNat]
  repeat' (first
    | refine ⟨_, c1, ?_⟩
    | refine ⟨_, c2, ?_⟩
    | refine ⟨_, c3, ?_⟩
    | refine ifB_intro (fun h => ?_) (fun h => ?_)
    | simp only [push_cast, ↓ifB_true, ↓ifB_false, Nat.reduceBEq, Nat.reduceAdd, Nat.reduceSub, reduceCtorEq, Nat.reduceMul, Nat.reduceEqDiff, Nat.reduceLeDiff, reduceIte, Nat.reduceLT, Int.reduceLE, Int.reduceLT, Int.reduceToNat])
  all_goals (clear c1 c2 c3; simp_all)
theorem t21 (a b : Brd) (h1 : BrdB (2^50) a) (h2 : BrdB (2^50) b) : Ev C 21 [brdF a, brdF b] (.bool (decide (a = b))) := by
  have c1 := t63 hC a.r b.r h1.r h2.r
  have c2 := t64 hC a.m b.m h1.m h2.m
  clear h1 h2
  obtain ⟨r, m⟩ := a
  obtain ⟨q, o⟩ := b
  simp only [brdF, rulF, mpF, List.cons_append, List.nil_append] at *
  refine Ev.runT hC Tryd.func21 h21 nt21 r21 (by decide) (Nat.le_of_ble_eq_true rfl) (rfl) ?_
  simp only [c21, push_cast, ↓ifB_true, ↓ifB_false, Nat.reduceBEq, Nat.reduceAdd, Nat.reduceSub, reduceCtorEq, Nat.reduceMul, Nat.reduceEqDiff, Nat.reduceLeDiff, reduceIte, Nat.reduceLT, Int.reduceLE, Int.reduceLT, Int.reduceToNat]
  repeat' (first
    | refine ⟨_, c1, ?_⟩
    | refine ⟨_, c2, ?_⟩
    | refine ifB_intro (fun h => ?_) (fun h => ?_)
    | simp only [push_cast, ↓ifB_true, ↓ifB_false, Nat.reduceBEq, Nat.reduceAdd, Nat.reduceSub, reduceCtorEq, Nat.reduceMul, Nat.reduceEqDiff, Nat.reduceLeDiff, reduceIte, Nat.reduceLT, Int.reduceLE, Int.reduceLT, Int.reduceToNat])
  all_goals (clear c1 c2; simp_all)
end
end Go.Proofs.YtlddjlchgibdfaaDoor.X
