import Derived.Test.YtlddjlchgibdfaaDoorXCBdZ
import Derived.Test.YtlddjlchgibdfaaDoorXCCodeB
set_option maxHeartbeats 4000000
set_option maxRecDepth 8000
set_option linter.unusedSimpArgs false
set_option linter.unusedVariables false
namespace Go.Proofs.YtlddjlchgibdfaaDoor.X
open Go
attribute [local irreducible] Ev
structure Wk where
  sd : Int
  at_ : Int
  pt : Int
  q : List Int
  deriving DecidableEq
def wkF (w : Wk) : List AV := [.int .i64 w.sd, .int .i64 w.at_, .int .i64 w.pt, .sl (ints w.q)]
def wkO (w : Wk) : List AV := [.int .i64 w.sd, .int .i64 w.at_, .int .i64 w.pt, .ow 1 (ints w.q)]
def szWk (w : Wk) (v : Int) : Int := sub1 v w.q.length
/-- What is asked of works, on a board that is good. -/
def wkR (b : Brd) (w : Wk) : Bool := inR 0 1 w.sd && inR 0 (b.m.w * b.m.h - 1) w.at_ && inR 0 200 w.pt && decide ((w.q.length : Int) ≤ 8) && w.q.all (inR 0 (b.r.ks.length - 1))
def wkOk (b : Brd) (w : Wk) : Bool := brdOk b && wkR b w
section
variable {C : CT} (hC : Closed Tryd.prog G1 md0 C)
include hC
omit hC in
theorem brd_wh {b : Brd} (h : brdOk b = true) : (b.m.t.length : Int) = b.m.w * b.m.h ∧ 1 ≤ b.m.w * b.m.h ∧ b.m.w * b.m.h ≤ 100 := by
  have h1 := brd_mp h
  have h2 := mp_wh h1
  simp only [mpOk, Bool.and_eq_true, decide_eq_true_eq] at h1
  exact ⟨h1.1.1.1.2, wh_le h2.1 h2.2⟩
theorem t22 (w : Wk) (v : Int) (hv : 0 ≤ v ∧ v < 2^50) (hq : w.q.length < 2^50) : Ev C 22 [.agg (wkF w), .int .i64 v] (.int .i64 (szWk w v)) := by
  simp only [wkF]
  refine Ev.runT hC Tryd.func22 h22 nt22 r22 (by decide) (Nat.le_of_ble_eq_true rfl) (rfl) ?_
  simp only [c22, push_cast, ↓ifB_true, ↓ifB_false, Nat.reduceBEq, Nat.reduceAdd, Nat.reduceSub, reduceCtorEq, Nat.reduceMul, Nat.reduceEqDiff, Nat.reduceLeDiff, reduceIte, Nat.reduceLT, Int.reduceLE, Int.reduceLT, Int.reduceToNat]
  refine ⟨_, t65 hC _ _ (by omega) (by rw [ints_length]; exact hq), ?_⟩
  rw [ints_length, if_sub]
  simp only [push_cast, ↓ifB_true, ↓ifB_false, Nat.reduceBEq, Nat.reduceAdd, Nat.reduceSub, reduceCtorEq, Nat.reduceMul, Nat.reduceEqDiff, Nat.reduceLeDiff, reduceIte, Nat.reduceLT, Int.reduceLE, Int.reduceLT, Int.reduceToNat]
  have h1 := sub1_le (n := w.q.length) hv.1
  refine ifB_intro (fun h => ?_) (fun h => ?_)
  · have := of_decide_eq_true h; simp only [szWk]; omega
  · rfl
theorem t24 (w : Wk) (hq : w.q.length < 2^30) : Ev C 24 [.agg (wkF w)] (.agg (wkO w)) := by
  simp only [wkF, wkO]
  refine Ev.runT hC Tryd.func24 h24 nt24 r24 (by decide) (Nat.le_of_ble_eq_true rfl) (by simp only [ownR, ownRL, own_ints1, Bool.and_true]) ?_
  simp only [c24, push_cast, ↓ifB_true, ↓ifB_false, Nat.reduceBEq, Nat.reduceAdd, Nat.reduceSub, reduceCtorEq, Nat.reduceMul, Nat.reduceEqDiff, Nat.reduceLeDiff, reduceIte, Nat.reduceLT, Int.reduceLE, Int.reduceLT, Int.reduceToNat]
  refine ⟨_, t68 hC _ hq, ?_⟩
  simp only [push_cast, ↓ifB_true, ↓ifB_false, Nat.reduceBEq, Nat.reduceAdd, Nat.reduceSub, reduceCtorEq, Nat.reduceMul, Nat.reduceEqDiff, Nat.reduceLeDiff, reduceIte, Nat.reduceLT, Int.reduceLE, Int.reduceLT, Int.reduceToNat]
  exact RetTo_of (by simp only [conR, conRL, isF, hget, hdel, List.drop_zero, List.take_length, if_true, if_false, reduceIte, Nat.reduceEqDiff, reduceCtorEq]; rfl)
theorem t26 (w x : Wk) (h1 : w.q.length < 2^50) (h2 : x.q.length < 2^50) : Ev C 26 [.agg (wkF w), .agg (wkF x)] (.bool (decide (w = x))) := by
  obtain ⟨a1, a2, a3, a4⟩ := w
  obtain ⟨b1, b2, b3, b4⟩ := x
  simp only [wkF]
  refine Ev.runT hC Tryd.func26 h26 nt26 r26 (by decide) (Nat.le_of_ble_eq_true rfl) (rfl) ?_
  simp only [c26, push_cast, ↓ifB_true, ↓ifB_false, Nat.reduceBEq, Nat.reduceAdd, Nat.reduceSub, reduceCtorEq, Nat.reduceMul, Nat.reduceEqDiff, Nat.reduceLeDiff, reduceIte, Nat.reduceLT, Int.reduceLE, Int.reduceLT, Int.reduceToNat]
  repeat' (first
    | refine ⟨_, t71 hC _ _ h1 h2, ?_⟩
    | refine ifB_intro (fun h => ?_) (fun h => ?_)
    | simp only [push_cast, ↓ifB_true, ↓ifB_false, Nat.reduceBEq, Nat.reduceAdd, Nat.reduceSub, reduceCtorEq, Nat.reduceMul, Nat.reduceEqDiff, Nat.reduceLeDiff, reduceIte, Nat.reduceLT, Int.reduceLE, Int.reduceLT, Int.reduceToNat])
  all_goals simp_all
theorem t67 (b : Brd) (w : Wk) (hb : BrdB (2^50) b) (hq : w.q.length < 2^50) : Ev C 67 [brdF b, .agg (wkF w)] (.bool (wkOk b w)) := by
  have c1 := t66 hC b hb
  have b2 := hb.r.ks
  simp only [brdF, rulF, mpF, List.cons_append, List.nil_append, wkF, wkOk] at *
  refine Ev.runT hC Tryd.func67 h67 nt67 r67 (by decide) (Nat.le_of_ble_eq_true rfl) (rfl) ?_
  simp only [c67, push_cast, ↓ifB_true, ↓ifB_false, Nat.reduceBEq, Nat.reduceAdd, Nat.reduceSub, reduceCtorEq, Nat.reduceMul, Nat.reduceEqDiff, Nat.reduceLeDiff, reduceIte, Nat.reduceLT, Int.reduceLE, Int.reduceLT, Int.reduceToNat]
  refine ⟨_, c1, ?_⟩
  cases g1 : brdOk b
  · simp only [push_cast, ↓ifB_true, ↓ifB_false, Nat.reduceBEq, Nat.reduceAdd, Nat.reduceSub, reduceCtorEq, Nat.reduceMul, Nat.reduceEqDiff, Nat.reduceLeDiff, reduceIte, Nat.reduceLT, Int.reduceLE, Int.reduceLT, Int.reduceToNat]
  have hwh := brd_wh g1
  have hm := mp_wh (brd_mp g1)
  have c2 := t107 hC b.m hm.1 hm.2
  simp only [mpF, wkR] at *
  simp only [push_cast, ↓ifB_true, ↓ifB_false, Nat.reduceBEq, Nat.reduceAdd, Nat.reduceSub, reduceCtorEq, Nat.reduceMul, Nat.reduceEqDiff, Nat.reduceLeDiff, reduceIte, Nat.reduceLT, Int.reduceLE, Int.reduceLT, Int.reduceToNat]
  refine ⟨_, tIn hC _ _ _, ?_⟩
  cases inR 0 1 w.sd
  · simp only [push_cast, ↓ifB_true, ↓ifB_false, Nat.reduceBEq, Nat.reduceAdd, Nat.reduceSub, reduceCtorEq, Nat.reduceMul, Nat.reduceEqDiff, Nat.reduceLeDiff, reduceIte, Nat.reduceLT, Int.reduceLE, Int.reduceLT, Int.reduceToNat]
  simp only [push_cast, ↓ifB_true, ↓ifB_false, Nat.reduceBEq, Nat.reduceAdd, Nat.reduceSub, reduceCtorEq, Nat.reduceMul, Nat.reduceEqDiff, Nat.reduceLeDiff, reduceIte, Nat.reduceLT, Int.reduceLE, Int.reduceLT, Int.reduceToNat]
  refine ⟨_, c2, ?_⟩
  simp only [push_cast, ↓ifB_true, ↓ifB_false, Nat.reduceBEq, Nat.reduceAdd, Nat.reduceSub, reduceCtorEq, Nat.reduceMul, Nat.reduceEqDiff, Nat.reduceLeDiff, reduceIte, Nat.reduceLT, Int.reduceLE, Int.reduceLT, Int.reduceToNat]
  rw [wrap64 (n := b.m.w * b.m.h - 1) (by omega) (by omega)]
  refine ⟨_, tIn hC _ _ _, ?_⟩
  cases inR 0 (b.m.w * b.m.h - 1) w.at_
  · simp only [push_cast, ↓ifB_true, ↓ifB_false, Nat.reduceBEq, Nat.reduceAdd, Nat.reduceSub, reduceCtorEq, Nat.reduceMul, Nat.reduceEqDiff, Nat.reduceLeDiff, reduceIte, Nat.reduceLT, Int.reduceLE, Int.reduceLT, Int.reduceToNat]
  simp only [push_cast, ↓ifB_true, ↓ifB_false, Nat.reduceBEq, Nat.reduceAdd, Nat.reduceSub, reduceCtorEq, Nat.reduceMul, Nat.reduceEqDiff, Nat.reduceLeDiff, reduceIte, Nat.reduceLT, Int.reduceLE, Int.reduceLT, Int.reduceToNat]
  refine ⟨_, tIn hC _ _ _, ?_⟩
  cases inR 0 200 w.pt
  · simp only [push_cast, ↓ifB_true, ↓ifB_false, Nat.reduceBEq, Nat.reduceAdd, Nat.reduceSub, reduceCtorEq, Nat.reduceMul, Nat.reduceEqDiff, Nat.reduceLeDiff, reduceIte, Nat.reduceLT, Int.reduceLE, Int.reduceLT, Int.reduceToNat]
  simp only [ints_length, push_cast, ↓ifB_true, ↓ifB_false, Nat.reduceBEq, Nat.reduceAdd, Nat.reduceSub, reduceCtorEq, Nat.reduceMul, Nat.reduceEqDiff, Nat.reduceLeDiff, reduceIte, Nat.reduceLT, Int.reduceLE, Int.reduceLT, Int.reduceToNat]
  cases decide ((w.q.length : Int) ≤ 8)
  · simp only [push_cast, ↓ifB_true, ↓ifB_false, Nat.reduceBEq, Nat.reduceAdd, Nat.reduceSub, reduceCtorEq, Nat.reduceMul, Nat.reduceEqDiff, Nat.reduceLeDiff, reduceIte, Nat.reduceLT, Int.reduceLE, Int.reduceLT, Int.reduceToNat]
  simp only [kins_length, push_cast, ↓ifB_true, ↓ifB_false, Nat.reduceBEq, Nat.reduceAdd, Nat.reduceSub, reduceCtorEq, Nat.reduceMul, Nat.reduceEqDiff, Nat.reduceLeDiff, reduceIte, Nat.reduceLT, Int.reduceLE, Int.reduceLT, Int.reduceToNat]
  rw [wrap64 (n := (b.r.ks.length : Int) - 1) (by omega) (by omega)]
  refine ⟨_, t98 hC _ _ _ hq, ?_⟩
  simp only [push_cast, ↓ifB_true, ↓ifB_false, Nat.reduceBEq, Nat.reduceAdd, Nat.reduceSub, reduceCtorEq, Nat.reduceMul, Nat.reduceEqDiff, Nat.reduceLeDiff, reduceIte, Nat.reduceLT, Int.reduceLE, Int.reduceLT, Int.reduceToNat]
theorem t118 (x : Int) : Ev C 118 [.int .i64 x] (.bool (inR 0 1 x)) := by
  refine Ev.runT hC Tryd.func118 h118 nt118 r118 (by decide) (Nat.le_of_ble_eq_true rfl) (rfl) ?_
  simp only [c118, push_cast, ↓ifB_true, ↓ifB_false, Nat.reduceBEq, Nat.reduceAdd, Nat.reduceSub, reduceCtorEq, Nat.reduceMul, Nat.reduceEqDiff, Nat.reduceLeDiff, reduceIte, Nat.reduceLT, Int.reduceLE, Int.reduceLT, Int.reduceToNat]
  refine ⟨_, tRange hC _ _ _, ?_⟩
  simp only [push_cast, ↓ifB_true, ↓ifB_false, Nat.reduceBEq, Nat.reduceAdd, Nat.reduceSub, reduceCtorEq, Nat.reduceMul, Nat.reduceEqDiff, Nat.reduceLeDiff, reduceIte, Nat.reduceLT, Int.reduceLE, Int.reduceLT, Int.reduceToNat]
theorem t119 (b : Brd) : Ev C 119 [brdF b] (.int .i64 (b.m.t.length : Int)) := by
  simp only [brdF, rulF, mpF, List.cons_append, List.nil_append]
  refine Ev.runT hC Tryd.func119 h119 nt119 r119 (by decide) (Nat.le_of_ble_eq_true rfl) (rfl) ?_
  simp only [c119, ints_length, push_cast, ↓ifB_true, ↓ifB_false, Nat.reduceBEq, Nat.reduceAdd, Nat.reduceSub, reduceCtorEq, Nat.reduceMul, Nat.reduceEqDiff, Nat.reduceLeDiff, reduceIte, Nat.reduceLT, Int.reduceLE, Int.reduceLT, Int.reduceToNat]
theorem t120 (x : Int) (b : Brd) (hb : b.r.ks.length < 2^50) : Ev C 120 [.int .i64 x, .pf (rulF b.r ++ mpF b.m)] (.bool (!inR 0 (b.r.ks.length - 1) x)) := by
  simp only [brdF, rulF, mpF, List.cons_append, List.nil_append]
  refine Ev.runT hC Tryd.func120 h120 nt120 r120 (by decide) (Nat.le_of_ble_eq_true rfl) (rfl) ?_
  simp only [c120, kins_length, push_cast, ↓ifB_true, ↓ifB_false, Nat.reduceBEq, Nat.reduceAdd, Nat.reduceSub, reduceCtorEq, Nat.reduceMul, Nat.reduceEqDiff, Nat.reduceLeDiff, reduceIte, Nat.reduceLT, Int.reduceLE, Int.reduceLT, Int.reduceToNat]
  refine ⟨_, tIdx hC _ _ (by omega), ?_⟩
  simp only [push_cast, ↓ifB_true, ↓ifB_false, Nat.reduceBEq, Nat.reduceAdd, Nat.reduceSub, reduceCtorEq, Nat.reduceMul, Nat.reduceEqDiff, Nat.reduceLeDiff, reduceIte, Nat.reduceLT, Int.reduceLE, Int.reduceLT, Int.reduceToNat]
theorem t70 (b : Brd) (w : Wk) (g : brdOk b = true) (hb : BrdB (2^50) b) (hq : w.q.length < 2^50) : Ev C 70 [brdF b, .agg (wkF w)] (.bool (wkR b w)) := by
  have hwh := brd_wh g
  have c1 := t119 hC b
  have c3 := t116 hC w.q 120 [.pf (rulF b.r ++ mpF b.m)] _ hq rfl rfl fun x _ => t120 hC x b hb.r.ks
  rw [hwh.1] at c1
  simp only [brdF, rulF, mpF, List.cons_append, List.nil_append, wkF, wkR] at *
  refine Ev.runT hC Tryd.func70 h70 nt70 r70 (by decide) (Nat.le_of_ble_eq_true rfl) (rfl) ?_
  simp only [c70, push_cast, ↓ifB_true, ↓ifB_false, Nat.reduceBEq, Nat.reduceAdd, Nat.reduceSub, reduceCtorEq, Nat.reduceMul, Nat.reduceEqDiff, Nat.reduceLeDiff, reduceIte, Nat.reduceLT, Int.reduceLE, Int.reduceLT, Int.reduceToNat]
  refine ⟨_, t118 hC _, ?_⟩
  cases inR 0 1 w.sd
  · simp only [push_cast, ↓ifB_true, ↓ifB_false, Nat.reduceBEq, Nat.reduceAdd, Nat.reduceSub, reduceCtorEq, Nat.reduceMul, Nat.reduceEqDiff, Nat.reduceLeDiff, reduceIte, Nat.reduceLT, Int.reduceLE, Int.reduceLT, Int.reduceToNat]
  simp only [push_cast, ↓ifB_true, ↓ifB_false, Nat.reduceBEq, Nat.reduceAdd, Nat.reduceSub, reduceCtorEq, Nat.reduceMul, Nat.reduceEqDiff, Nat.reduceLeDiff, reduceIte, Nat.reduceLT, Int.reduceLE, Int.reduceLT, Int.reduceToNat]
  refine ⟨_, c1, ?_⟩
  simp only [push_cast, ↓ifB_true, ↓ifB_false, Nat.reduceBEq, Nat.reduceAdd, Nat.reduceSub, reduceCtorEq, Nat.reduceMul, Nat.reduceEqDiff, Nat.reduceLeDiff, reduceIte, Nat.reduceLT, Int.reduceLE, Int.reduceLT, Int.reduceToNat]
  refine ⟨_, tIdx hC _ _ (by omega), ?_⟩
  cases inR 0 (b.m.w * b.m.h - 1) w.at_
  · simp only [push_cast, ↓ifB_true, ↓ifB_false, Nat.reduceBEq, Nat.reduceAdd, Nat.reduceSub, reduceCtorEq, Nat.reduceMul, Nat.reduceEqDiff, Nat.reduceLeDiff, reduceIte, Nat.reduceLT, Int.reduceLE, Int.reduceLT, Int.reduceToNat]
  simp only [push_cast, ↓ifB_true, ↓ifB_false, Nat.reduceBEq, Nat.reduceAdd, Nat.reduceSub, reduceCtorEq, Nat.reduceMul, Nat.reduceEqDiff, Nat.reduceLeDiff, reduceIte, Nat.reduceLT, Int.reduceLE, Int.reduceLT, Int.reduceToNat]
  refine ⟨_, tRange hC _ _ _, ?_⟩
  cases inR 0 200 w.pt
  · simp only [push_cast, ↓ifB_true, ↓ifB_false, Nat.reduceBEq, Nat.reduceAdd, Nat.reduceSub, reduceCtorEq, Nat.reduceMul, Nat.reduceEqDiff, Nat.reduceLeDiff, reduceIte, Nat.reduceLT, Int.reduceLE, Int.reduceLT, Int.reduceToNat]
  simp only [ints_length, push_cast, ↓ifB_true, ↓ifB_false, Nat.reduceBEq, Nat.reduceAdd, Nat.reduceSub, reduceCtorEq, Nat.reduceMul, Nat.reduceEqDiff, Nat.reduceLeDiff, reduceIte, Nat.reduceLT, Int.reduceLE, Int.reduceLT, Int.reduceToNat]
  have e8 : decide (8 < (w.q.length : Int)) = !decide ((w.q.length : Int) ≤ 8) := by
    rw [Bool.eq_iff_iff]; simp
  rw [e8]
  cases decide ((w.q.length : Int) ≤ 8)
  · simp only [push_cast, ↓ifB_true, ↓ifB_false, Nat.reduceBEq, Nat.reduceAdd, Nat.reduceSub, reduceCtorEq, Nat.reduceMul, Nat.reduceEqDiff, Nat.reduceLeDiff, reduceIte, Nat.reduceLT, Int.reduceLE, Int.reduceLT, Int.reduceToNat]
  simp only [push_cast, ↓ifB_true, ↓ifB_false, Nat.reduceBEq, Nat.reduceAdd, Nat.reduceSub, reduceCtorEq, Nat.reduceMul, Nat.reduceEqDiff, Nat.reduceLeDiff, reduceIte, Nat.reduceLT, Int.reduceLE, Int.reduceLT, Int.reduceToNat]
  refine ⟨_, c3, ?_⟩
  simp only [all_not, push_cast, ↓ifB_true, ↓ifB_false, Nat.reduceBEq, Nat.reduceAdd, Nat.reduceSub, reduceCtorEq, Nat.reduceMul, Nat.reduceEqDiff, Nat.reduceLeDiff, reduceIte, Nat.reduceLT, Int.reduceLE, Int.reduceLT, Int.reduceToNat]
theorem t73 (b : Brd) (w : Wk) (hb : BrdB (2^50) b) (hq : w.q.length < 2^50) : Ev C 73 [brdF b, .agg (wkF w)] (.bool (wkOk b w)) := by
  have c1 := t69 hC b hb
  have c2 := fun g => t70 hC b w g hb hq
  simp only [brdF, rulF, mpF, List.cons_append, List.nil_append, wkF, wkOk] at *
  refine Ev.runT hC Tryd.func73 h73 nt73 r73 (by decide) (Nat.le_of_ble_eq_true rfl) (rfl) ?_
  simp only [c73, push_cast, ↓ifB_true, ↓ifB_false, Nat.reduceBEq, Nat.reduceAdd, Nat.reduceSub, reduceCtorEq, Nat.reduceMul, Nat.reduceEqDiff, Nat.reduceLeDiff, reduceIte, Nat.reduceLT, Int.reduceLE, Int.reduceLT, Int.reduceToNat]
  refine ⟨_, c1, ?_⟩
  cases g1 : brdOk b
  · simp only [push_cast, ↓ifB_true, ↓ifB_false, Nat.reduceBEq, Nat.reduceAdd, Nat.reduceSub, reduceCtorEq, Nat.reduceMul, Nat.reduceEqDiff, Nat.reduceLeDiff, reduceIte, Nat.reduceLT, Int.reduceLE, Int.reduceLT, Int.reduceToNat]
  simp only [push_cast, ↓ifB_true, ↓ifB_false, Nat.reduceBEq, Nat.reduceAdd, Nat.reduceSub, reduceCtorEq, Nat.reduceMul, Nat.reduceEqDiff, Nat.reduceLeDiff, reduceIte, Nat.reduceLT, Int.reduceLE, Int.reduceLT, Int.reduceToNat]
  refine ⟨_, c2 g1, ?_⟩
  simp only [push_cast, ↓ifB_true, ↓ifB_false, Nat.reduceBEq, Nat.reduceAdd, Nat.reduceSub, reduceCtorEq, Nat.reduceMul, Nat.reduceEqDiff, Nat.reduceLeDiff, reduceIte, Nat.reduceLT, Int.reduceLE, Int.reduceLT, Int.reduceToNat]
theorem t23 (b : Brd) (w : Wk) (hb : BrdB (2^50) b) (hq : w.q.length < 2^50) : Ev C 23 [brdF b, .agg (wkF w)] (.tup [.bool (wkOk b w), .bool (brdOk b)]) := by
  have c1 := t66 hC b hb
  have c2 := t67 hC b w hb hq
  simp only [brdF, rulF, mpF, List.cons_append, List.nil_append, wkF] at *
  refine Ev.runT hC Tryd.func23 h23 nt23 r23 (by decide) (Nat.le_of_ble_eq_true rfl) (rfl) ?_
  simp only [c23, push_cast, ↓ifB_true, ↓ifB_false, Nat.reduceBEq, Nat.reduceAdd, Nat.reduceSub, reduceCtorEq, Nat.reduceMul, Nat.reduceEqDiff, Nat.reduceLeDiff, reduceIte, Nat.reduceLT, Int.reduceLE, Int.reduceLT, Int.reduceToNat]
  refine ⟨_, c1, ?_⟩
  cases g1 : brdOk b
  · have : wkOk b w = false := by simp only [wkOk, g1, Bool.false_and]
    simp only [this, push_cast, ↓ifB_true, ↓ifB_false, Nat.reduceBEq, Nat.reduceAdd, Nat.reduceSub, reduceCtorEq, Nat.reduceMul, Nat.reduceEqDiff, Nat.reduceLeDiff, reduceIte, Nat.reduceLT, Int.reduceLE, Int.reduceLT, Int.reduceToNat]
    first | done | rfl | exact RetTo_sc rfl
  simp only [push_cast, ↓ifB_true, ↓ifB_false, Nat.reduceBEq, Nat.reduceAdd, Nat.reduceSub, reduceCtorEq, Nat.reduceMul, Nat.reduceEqDiff, Nat.reduceLeDiff, reduceIte, Nat.reduceLT, Int.reduceLE, Int.reduceLT, Int.reduceToNat]
  refine ⟨_, c2, ?_⟩
  simp only [wkOk, g1, push_cast, ↓ifB_true, ↓ifB_false, Nat.reduceBEq, Nat.reduceAdd, Nat.reduceSub, reduceCtorEq, Nat.reduceMul, Nat.reduceEqDiff, Nat.reduceLeDiff, reduceIte, Nat.reduceLT, Int.reduceLE, Int.reduceLT, Int.reduceToNat]
  first | done | rfl | exact RetTo_sc rfl
theorem t25 (b : Brd) (w : Wk) (hb : BrdB (2^50) b) (hq : w.q.length < 2^50) : Ev C 25 [brdF b, .agg (wkF w)] (.tup [.bool (wkOk b w), .bool (brdOk b)]) := by
  have c1 := t69 hC b hb
  have c2 := fun g => t70 hC b w g hb hq
  simp only [brdF, rulF, mpF, List.cons_append, List.nil_append, wkF] at *
  refine Ev.runT hC Tryd.func25 h25 nt25 r25 (by decide) (Nat.le_of_ble_eq_true rfl) (rfl) ?_
  simp only [c25, push_cast, ↓ifB_true, ↓ifB_false, Nat.reduceBEq, Nat.reduceAdd, Nat.reduceSub, reduceCtorEq, Nat.reduceMul, Nat.reduceEqDiff, Nat.reduceLeDiff, reduceIte, Nat.reduceLT, Int.reduceLE, Int.reduceLT, Int.reduceToNat]
  refine ⟨_, c1, ?_⟩
  cases g1 : brdOk b
  · have : wkOk b w = false := by simp only [wkOk, g1, Bool.false_and]
    simp only [this, push_cast, ↓ifB_true, ↓ifB_false, Nat.reduceBEq, Nat.reduceAdd, Nat.reduceSub, reduceCtorEq, Nat.reduceMul, Nat.reduceEqDiff, Nat.reduceLeDiff, reduceIte, Nat.reduceLT, Int.reduceLE, Int.reduceLT, Int.reduceToNat]
    first | done | rfl | exact RetTo_sc rfl
  simp only [push_cast, ↓ifB_true, ↓ifB_false, Nat.reduceBEq, Nat.reduceAdd, Nat.reduceSub, reduceCtorEq, Nat.reduceMul, Nat.reduceEqDiff, Nat.reduceLeDiff, reduceIte, Nat.reduceLT, Int.reduceLE, Int.reduceLT, Int.reduceToNat]
  refine ⟨_, c2 g1, ?_⟩
  simp only [wkOk, g1, push_cast, ↓ifB_true, ↓ifB_false, Nat.reduceBEq, Nat.reduceAdd, Nat.reduceSub, reduceCtorEq, Nat.reduceMul, Nat.reduceEqDiff, Nat.reduceLeDiff, reduceIte, Nat.reduceLT, Int.reduceLE, Int.reduceLT, Int.reduceToNat]
  first | done | rfl | exact RetTo_sc rfl
omit hC in
theorem szBrd_le {b : Brd} {v : Int} (h0 : 0 ≤ v) (hB : v ≤ 2 ^ 50) : -1 ≤ szBrd b v ∧ szBrd b v ≤ v := by
  have h1 := szRul_le (r := b.r) h0 hB
  simp only [szBrd, andThen]
  split
  · omega
  · have h2 := szMp_le (m := b.m) (v := szRul b.r v) (by omega)
    split <;> omega
theorem t5 (b : Brd) (w : Wk) (hb : BrdB (2^50) b) (hq : w.q.length < 2^50) : Ev C 5 [brdF b, .agg (wkF w)] (.bool true) := by
  have q1 := t17 hC b 1048576 (by omega) hb
  have q1' := fun h => t22 hC w (szBrd b 1048576) h hq
  have q2 := fun h => t19 hC b h
  have q2' := fun h => t24 hC w h
  have q3 := t23 hC b w hb hq
  have q4 := t25 hC b w hb hq
  have q5 := t21 hC b b hb hb
  have q5' := t26 hC w w hq hq
  have hu := szBrd_le (b := b) (v := 1048576) (by omega) (by omega)
  simp only [brdO, rulO, mpO, brdF, rulF, mpF, List.cons_append, List.nil_append, wkF, wkO] at *
  refine Ev.runT hC Tryd.func5 h5 nt5 r5 (by decide) (Nat.le_of_ble_eq_true rfl) (rfl) ?_
  simp only [c5, push_cast, ↓ifB_true, ↓ifB_false, Nat.reduceBEq, Nat.reduceAdd, Nat.reduceSub, reduceCtorEq, Nat.reduceMul, Nat.reduceEqDiff, Nat.reduceLeDiff, reduceIte, Nat.reduceLT, Int.reduceLE, Int.reduceLT, Int.reduceToNat]
  refine ⟨_, q1, ?_⟩
  simp only [push_cast, ↓ifB_true, ↓ifB_false, Nat.reduceBEq, Nat.reduceAdd, Nat.reduceSub, reduceCtorEq, Nat.reduceMul, Nat.reduceEqDiff, Nat.reduceLeDiff, reduceIte, Nat.reduceLT, Int.reduceLE, Int.reduceLT, Int.reduceToNat]
  refine ifB_intro (fun h => trivial) (fun h => ?_)
  have hs := of_decide_eq_false h
  have hB : BrdB (2^30) b := (szBrd_pos (by omega)).mono (by omega)
  refine ⟨_, q1' ⟨by omega, by omega⟩, ?_⟩
  simp only [push_cast, ↓ifB_true, ↓ifB_false, Nat.reduceBEq, Nat.reduceAdd, Nat.reduceSub, reduceCtorEq, Nat.reduceMul, Nat.reduceEqDiff, Nat.reduceLeDiff, reduceIte, Nat.reduceLT, Int.reduceLE, Int.reduceLT, Int.reduceToNat]
  refine ifB_intro (fun h => trivial) (fun h => ?_)
  have hs' := of_decide_eq_false h
  have hQ : w.q.length < 2^30 := by have := sub1_pos (v := szBrd b 1048576) (n := w.q.length) (by simp only [szWk] at hs'; omega); omega
  refine ⟨_, q2 hB, ?_⟩
  simp only [frzLL_ints, frzLL_ters, frzLL_kins, push_cast, ↓ifB_true, ↓ifB_false, Nat.reduceBEq, Nat.reduceAdd, Nat.reduceSub, reduceCtorEq, Nat.reduceMul, Nat.reduceEqDiff, Nat.reduceLeDiff, reduceIte, Nat.reduceLT, Int.reduceLE, Int.reduceLT, Int.reduceToNat]
  refine ⟨_, q2' hQ, ?_⟩
  simp only [frzLL_ints, frzLL_ters, frzLL_kins, push_cast, ↓ifB_true, ↓ifB_false, Nat.reduceBEq, Nat.reduceAdd, Nat.reduceSub, reduceCtorEq, Nat.reduceMul, Nat.reduceEqDiff, Nat.reduceLeDiff, reduceIte, Nat.reduceLT, Int.reduceLE, Int.reduceLT, Int.reduceToNat]
  refine ⟨_, q3, ?_⟩
  simp only [push_cast, ↓ifB_true, ↓ifB_false, Nat.reduceBEq, Nat.reduceAdd, Nat.reduceSub, reduceCtorEq, Nat.reduceMul, Nat.reduceEqDiff, Nat.reduceLeDiff, reduceIte, Nat.reduceLT, Int.reduceLE, Int.reduceLT, Int.reduceToNat]
  refine ⟨_, q2 hB, ?_⟩
  simp only [frzLL_ints, frzLL_ters, frzLL_kins, push_cast, ↓ifB_true, ↓ifB_false, Nat.reduceBEq, Nat.reduceAdd, Nat.reduceSub, reduceCtorEq, Nat.reduceMul, Nat.reduceEqDiff, Nat.reduceLeDiff, reduceIte, Nat.reduceLT, Int.reduceLE, Int.reduceLT, Int.reduceToNat]
  refine ⟨_, q2' hQ, ?_⟩
  simp only [frzLL_ints, frzLL_ters, frzLL_kins, push_cast, ↓ifB_true, ↓ifB_false, Nat.reduceBEq, Nat.reduceAdd, Nat.reduceSub, reduceCtorEq, Nat.reduceMul, Nat.reduceEqDiff, Nat.reduceLeDiff, reduceIte, Nat.reduceLT, Int.reduceLE, Int.reduceLT, Int.reduceToNat]
  refine ⟨_, q4, ?_⟩
  simp only [push_cast, ↓ifB_true, ↓ifB_false, Nat.reduceBEq, Nat.reduceAdd, Nat.reduceSub, reduceCtorEq, Nat.reduceMul, Nat.reduceEqDiff, Nat.reduceLeDiff, reduceIte, Nat.reduceLT, Int.reduceLE, Int.reduceLT, Int.reduceToNat]
  refine ⟨_, q2 hB, ?_⟩
  simp only [frzLL_ints, frzLL_ters, frzLL_kins, push_cast, ↓ifB_true, ↓ifB_false, Nat.reduceBEq, Nat.reduceAdd, Nat.reduceSub, reduceCtorEq, Nat.reduceMul, Nat.reduceEqDiff, Nat.reduceLeDiff, reduceIte, Nat.reduceLT, Int.reduceLE, Int.reduceLT, Int.reduceToNat]
  refine ⟨_, q5, ?_⟩
  simp only [push_cast, ↓ifB_true, ↓ifB_false, Nat.reduceBEq, Nat.reduceAdd, Nat.reduceSub, reduceCtorEq, Nat.reduceMul, Nat.reduceEqDiff, Nat.reduceLeDiff, reduceIte, Nat.reduceLT, Int.reduceLE, Int.reduceLT, Int.reduceToNat]
  refine ⟨_, q2' hQ, ?_⟩
  simp only [frzLL_ints, frzLL_ters, frzLL_kins, push_cast, ↓ifB_true, ↓ifB_false, Nat.reduceBEq, Nat.reduceAdd, Nat.reduceSub, reduceCtorEq, Nat.reduceMul, Nat.reduceEqDiff, Nat.reduceLeDiff, reduceIte, Nat.reduceLT, Int.reduceLE, Int.reduceLT, Int.reduceToNat]
  refine ⟨_, q5', ?_⟩
  simp only [push_cast, ↓ifB_true, ↓ifB_false, Nat.reduceBEq, Nat.reduceAdd, Nat.reduceSub, reduceCtorEq, Nat.reduceMul, Nat.reduceEqDiff, Nat.reduceLeDiff, reduceIte, Nat.reduceLT, Int.reduceLE, Int.reduceLT, Int.reduceToNat]
end
end Go.Proofs.YtlddjlchgibdfaaDoor.X
