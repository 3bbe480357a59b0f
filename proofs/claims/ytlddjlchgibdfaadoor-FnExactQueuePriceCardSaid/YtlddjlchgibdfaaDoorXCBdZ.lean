import Derived.Test.YtlddjlchgibdfaaDoorXCBdY
set_option maxHeartbeats 4000000
set_option maxRecDepth 8000
set_option linter.unusedSimpArgs false
set_option linter.unusedVariables false
namespace Go.Proofs.YtlddjlchgibdfaaDoor.X
open Go
attribute [local irreducible] Ev
section
variable {C : CT} (hC : Closed Tryd.prog G1 md0 C)
include hC
omit hC in
theorem RulB.mono {A B : Nat} {r : Rul} (h : A ≤ B) (hb : RulB A r) : RulB B r := ⟨by have := hb.ts; omega, by have := hb.ks; omega, fun x hx => by have := hb.t x hx; omega, fun x hx => by have := hb.k x hx; omega⟩
omit hC in
theorem MpB.mono {A B : Nat} {m : Mp} (h : A ≤ B) (hb : MpB A m) : MpB B m := ⟨by have := hb.t; omega, by have := hb.ri; omega, by have := hb.ro; omega⟩
omit hC in
theorem BrdB.mono {A B : Nat} {b : Brd} (h : A ≤ B) (hb : BrdB A b) : BrdB B b := ⟨hb.r.mono h, hb.m.mono h⟩
omit hC in
theorem mp_wh {m : Mp} (h : mpOk m = true) : (1 ≤ m.w ∧ m.w ≤ 10) ∧ 1 ≤ m.h ∧ m.h ≤ 10 := by
  simp only [mpOk, inR, Bool.and_eq_true, decide_eq_true_eq] at h
  exact ⟨h.1.1.1.1.1, h.1.1.1.1.2⟩
omit hC in
theorem brd_mp {b : Brd} (h : brdOk b = true) : mpOk b.m = true := by
  simp only [brdOk, Bool.and_eq_true] at h; exact h.1.2
omit hC in
theorem brd_ru {b : Brd} (h : brdOk b = true) : rulOk b.r = true := by
  simp only [brdOk, Bool.and_eq_true] at h; exact h.1.1
def kindAsk (b : Brd) (k : Int) : Bool := brdOk b && inR 0 (b.r.ks.length - 1) k
def k0 : Kin := ⟨ByteArray.empty, 0, 0, 0, false, 0⟩
def kindOf (b : Brd) (k : Int) : Kin := b.r.ks.getD k.toNat k0
def priceOf (b : Brd) (k : Int) : Int := (kindOf b k).st * (kindOf b k).sp
omit hC in
theorem kins_get {b : Brd} {k : Nat} (h : k < b.r.ks.length) : (kins b.r.ks)[k]? = some (kinA (kindOf b k)) := by
  simp [kins, kindOf, List.getD, h]
omit hC in
theorem kin_bnd {b : Brd} {k : Int} (h : kindAsk b k = true) : okName (kindOf b k).n = true ∧ (1 ≤ (kindOf b k).st ∧ (kindOf b k).st ≤ 9) ∧ (0 ≤ (kindOf b k).mv ∧ (kindOf b k).mv ≤ 9) ∧ (1 ≤ (kindOf b k).sp ∧ (kindOf b k).sp ≤ 4) ∧ 0 ≤ (kindOf b k).v ∧ (kindOf b k).v ≤ 4 := by
  simp only [kindAsk, Bool.and_eq_true] at h
  have hr := brd_ru h.1
  have hk := h.2
  simp only [rulOk, Bool.and_eq_true] at hr
  simp only [inR, Bool.and_eq_true, decide_eq_true_eq] at hk
  have h1 : k.toNat < b.r.ks.length := by omega
  have := allI_get hr.1.2 k.toNat h1
  simp only [kinOk, Bool.and_eq_true] at this
  have e : kindOf b k = b.r.ks[k.toNat] := by simp [kindOf, List.getD, h1]
  rw [e]
  simp only [inR, Bool.and_eq_true, decide_eq_true_eq] at this
  simp only [this, and_self]
omit hC in
theorem price_bnd {b : Brd} {k : Int} (h : kindAsk b k = true) : 1 ≤ priceOf b k ∧ priceOf b k ≤ 36 := by
  obtain ⟨_, h1, _, h2, _⟩ := kin_bnd h
  constructor
  · have := Int.mul_le_mul h1.1 h2.1 (by omega) (by omega); simp only [priceOf]; omega
  · have := Int.mul_le_mul h1.2 h2.2 (by omega) (by omega); simp only [priceOf]; omega
omit hC in
theorem kind_at {b : Brd} {k : Int} (h : kindAsk b k = true) : 0 ≤ k ∧ k < b.r.ks.length := by
  simp only [kindAsk, inR, Bool.and_eq_true, decide_eq_true_eq] at h
  omega
theorem t57 (b : Brd) (k a : Int) (hb : BrdB (2^50) b) : Ev C 57 [brdF b, .int .i64 k, .int .i64 a] (.bool (kindAsk b k && inR 0 (b.m.w * b.m.h - 1) a)) := by
  have c1 := t66 hC b hb
  have b2 := hb.r.ks
  simp only [brdF, rulF, mpF, List.cons_append, List.nil_append, kindAsk] at *
  refine Ev.runT hC Tryd.func57 h57 nt57 r57 (by decide) (Nat.le_of_ble_eq_true rfl) (rfl) ?_
  simp only [c57, push_cast, ↓ifB_true, ↓ifB_false, Nat.reduceBEq, Nat.reduceAdd, Nat.reduceSub, reduceCtorEq, Nat.reduceMul, Nat.reduceEqDiff, Nat.reduceLeDiff, reduceIte, Nat.reduceLT, Int.reduceLE, Int.reduceLT, Int.reduceToNat]
  refine ⟨_, c1, ?_⟩
  cases g1 : brdOk b
  · simp only [push_cast, ↓ifB_true, ↓ifB_false, Nat.reduceBEq, Nat.reduceAdd, Nat.reduceSub, reduceCtorEq, Nat.reduceMul, Nat.reduceEqDiff, Nat.reduceLeDiff, reduceIte, Nat.reduceLT, Int.reduceLE, Int.reduceLT, Int.reduceToNat]
  have hm := mp_wh (brd_mp g1)
  have hwh := wh_le hm.1 hm.2
  have c2 := t107 hC b.m hm.1 hm.2
  simp only [mpF] at c2
  simp only [kins_length, push_cast, ↓ifB_true, ↓ifB_false, Nat.reduceBEq, Nat.reduceAdd, Nat.reduceSub, reduceCtorEq, Nat.reduceMul, Nat.reduceEqDiff, Nat.reduceLeDiff, reduceIte, Nat.reduceLT, Int.reduceLE, Int.reduceLT, Int.reduceToNat]
  rw [wrap64 (n := (b.r.ks.length : Int) - 1) (by omega) (by omega)]
  refine ⟨_, tIn hC _ _ _, ?_⟩
  cases g2 : inR 0 ((b.r.ks.length : Int) - 1) k
  · simp only [push_cast, ↓ifB_true, ↓ifB_false, Nat.reduceBEq, Nat.reduceAdd, Nat.reduceSub, reduceCtorEq, Nat.reduceMul, Nat.reduceEqDiff, Nat.reduceLeDiff, reduceIte, Nat.reduceLT, Int.reduceLE, Int.reduceLT, Int.reduceToNat]
  simp only [push_cast, ↓ifB_true, ↓ifB_false, Nat.reduceBEq, Nat.reduceAdd, Nat.reduceSub, reduceCtorEq, Nat.reduceMul, Nat.reduceEqDiff, Nat.reduceLeDiff, reduceIte, Nat.reduceLT, Int.reduceLE, Int.reduceLT, Int.reduceToNat]
  refine ⟨_, c2, ?_⟩
  simp only [push_cast, ↓ifB_true, ↓ifB_false, Nat.reduceBEq, Nat.reduceAdd, Nat.reduceSub, reduceCtorEq, Nat.reduceMul, Nat.reduceEqDiff, Nat.reduceLeDiff, reduceIte, Nat.reduceLT, Int.reduceLE, Int.reduceLT, Int.reduceToNat]
  rw [wrap64 (n := b.m.w * b.m.h - 1) (by omega) (by omega)]
  refine ⟨_, tIn hC _ _ _, ?_⟩
  simp only [push_cast, ↓ifB_true, ↓ifB_false, Nat.reduceBEq, Nat.reduceAdd, Nat.reduceSub, reduceCtorEq, Nat.reduceMul, Nat.reduceEqDiff, Nat.reduceLeDiff, reduceIte, Nat.reduceLT, Int.reduceLE, Int.reduceLT, Int.reduceToNat]
theorem t61 (b : Brd) (k : Int) (hb : BrdB (2^50) b) : Ev C 61 [brdF b, .int .i64 k] (.bool (kindAsk b k)) := by
  have c1 := t69 hC b hb
  have b2 := hb.r.ks
  simp only [brdF, rulF, mpF, List.cons_append, List.nil_append, kindAsk] at *
  refine Ev.runT hC Tryd.func61 h61 nt61 r61 (by decide) (Nat.le_of_ble_eq_true rfl) (rfl) ?_
  simp only [c61, push_cast, ↓ifB_true, ↓ifB_false, Nat.reduceBEq, Nat.reduceAdd, Nat.reduceSub, reduceCtorEq, Nat.reduceMul, Nat.reduceEqDiff, Nat.reduceLeDiff, reduceIte, Nat.reduceLT, Int.reduceLE, Int.reduceLT, Int.reduceToNat]
  refine ⟨_, c1, ?_⟩
  cases g1 : brdOk b
  · simp only [push_cast, ↓ifB_true, ↓ifB_false, Nat.reduceBEq, Nat.reduceAdd, Nat.reduceSub, reduceCtorEq, Nat.reduceMul, Nat.reduceEqDiff, Nat.reduceLeDiff, reduceIte, Nat.reduceLT, Int.reduceLE, Int.reduceLT, Int.reduceToNat]
  simp only [kins_length, push_cast, ↓ifB_true, ↓ifB_false, Nat.reduceBEq, Nat.reduceAdd, Nat.reduceSub, reduceCtorEq, Nat.reduceMul, Nat.reduceEqDiff, Nat.reduceLeDiff, reduceIte, Nat.reduceLT, Int.reduceLE, Int.reduceLT, Int.reduceToNat]
  refine ⟨_, tIdx hC _ _ (by omega), ?_⟩
  simp only [push_cast, ↓ifB_true, ↓ifB_false, Nat.reduceBEq, Nat.reduceAdd, Nat.reduceSub, reduceCtorEq, Nat.reduceMul, Nat.reduceEqDiff, Nat.reduceLeDiff, reduceIte, Nat.reduceLT, Int.reduceLE, Int.reduceLT, Int.reduceToNat]
theorem t58 (b : Brd) (k : Int) (h : kindAsk b k = true) (hb : BrdB (2^50) b) : Ev C 58 [brdF b, .int .i64 k] (.int .i64 (priceOf b k)) := by
  have hk := kind_at h
  have hp := price_bnd h
  have b2 := hb.r.ks
  obtain ⟨k, rfl⟩ : ∃ n : Nat, k = n := ⟨k.toNat, by omega⟩
  have e1 := kins_get (b := b) (k := k) (by omega)
  simp only [brdF, rulF, mpF, List.cons_append, List.nil_append] at *
  refine Ev.runT hC Tryd.func58 h58 nt58 r58 (by decide) (Nat.le_of_ble_eq_true rfl) (rfl) ?_
  simp only [c58, push_cast, ↓ifB_true, ↓ifB_false, Nat.reduceBEq, Nat.reduceAdd, Nat.reduceSub, reduceCtorEq, Nat.reduceMul, Nat.reduceEqDiff, Nat.reduceLeDiff, reduceIte, Nat.reduceLT, Int.reduceLE, Int.reduceLT, Int.reduceToNat]
  simp only [Int.toNat_natCast, e1, kinA, kins_length, push_cast, ↓ifB_true, ↓ifB_false, Nat.reduceBEq, Nat.reduceAdd, Nat.reduceSub, reduceCtorEq, Nat.reduceMul, Nat.reduceEqDiff, Nat.reduceLeDiff, reduceIte, Nat.reduceLT, Int.reduceLE, Int.reduceLT, Int.reduceToNat]
  repeat (refine ⟨by omega, ?_⟩)
  simp only [priceOf] at *
  rw [wrap64 (by omega) (by omega)]
theorem t62 (b : Brd) (k : Int) (h : kindAsk b k = true) (hb : BrdB (2^50) b) : Ev C 62 [brdF b, .int .i64 k] (.int .i64 (priceOf b k)) := by
  have hk := kind_at h
  have hp := price_bnd h
  have b2 := hb.r.ks
  obtain ⟨k, rfl⟩ : ∃ n : Nat, k = n := ⟨k.toNat, by omega⟩
  have e1 := kins_get (b := b) (k := k) (by omega)
  simp only [brdF, rulF, mpF, List.cons_append, List.nil_append] at *
  refine Ev.runT hC Tryd.func62 h62 nt62 r62 (by decide) (Nat.le_of_ble_eq_true rfl) (rfl) ?_
  simp only [c62, push_cast, ↓ifB_true, ↓ifB_false, Nat.reduceBEq, Nat.reduceAdd, Nat.reduceSub, reduceCtorEq, Nat.reduceMul, Nat.reduceEqDiff, Nat.reduceLeDiff, reduceIte, Nat.reduceLT, Int.reduceLE, Int.reduceLT, Int.reduceToNat]
  simp only [Int.toNat_natCast, e1, kinA, kins_length, push_cast, ↓ifB_true, ↓ifB_false, Nat.reduceBEq, Nat.reduceAdd, Nat.reduceSub, reduceCtorEq, Nat.reduceMul, Nat.reduceEqDiff, Nat.reduceLeDiff, reduceIte, Nat.reduceLT, Int.reduceLE, Int.reduceLT, Int.reduceToNat]
  repeat (refine ⟨by omega, ?_⟩)
  simp only [priceOf] at *
  rw [wrap64 (by omega) (by omega)]
theorem t18 (b : Brd) (k : Int) (hb : BrdB (2^50) b) : Ev C 18 [brdF b, .int .i64 k] (.tup [.int .i64 (if kindAsk b k then priceOf b k else 0), .bool (kindAsk b k)]) := by
  have c1 := t57 hC b k 0 hb
  have c2 := fun h => t58 hC b k h hb
  have w1 : kindAsk b k = true → inR 0 (b.m.w * b.m.h - 1) 0 = true := fun h => by
    have hm := mp_wh (brd_mp (show brdOk b = true by simp only [kindAsk, Bool.and_eq_true] at h; exact h.1))
    have hwh := wh_le hm.1 hm.2
    simp only [inR, Bool.and_eq_true, decide_eq_true_eq]; omega
  simp only [brdF, rulF, mpF, List.cons_append, List.nil_append] at *
  refine Ev.runT hC Tryd.func18 h18 nt18 r18 (by decide) (Nat.le_of_ble_eq_true rfl) (rfl) ?_
  simp only [c18, push_cast, ↓ifB_true, ↓ifB_false, Nat.reduceBEq, Nat.reduceAdd, Nat.reduceSub, reduceCtorEq, Nat.reduceMul, Nat.reduceEqDiff, Nat.reduceLeDiff, reduceIte, Nat.reduceLT, Int.reduceLE, Int.reduceLT, Int.reduceToNat]
  refine ⟨_, c1, ?_⟩
  cases g1 : kindAsk b k
  · simp only [push_cast, ↓ifB_true, ↓ifB_false, Nat.reduceBEq, Nat.reduceAdd, Nat.reduceSub, reduceCtorEq, Nat.reduceMul, Nat.reduceEqDiff, Nat.reduceLeDiff, reduceIte, Nat.reduceLT, Int.reduceLE, Int.reduceLT, Int.reduceToNat]
  simp only [w1 g1, push_cast, ↓ifB_true, ↓ifB_false, Nat.reduceBEq, Nat.reduceAdd, Nat.reduceSub, reduceCtorEq, Nat.reduceMul, Nat.reduceEqDiff, Nat.reduceLeDiff, reduceIte, Nat.reduceLT, Int.reduceLE, Int.reduceLT, Int.reduceToNat]
  refine ⟨_, c2 g1, ?_⟩
  simp only [push_cast, ↓ifB_true, ↓ifB_false, Nat.reduceBEq, Nat.reduceAdd, Nat.reduceSub, reduceCtorEq, Nat.reduceMul, Nat.reduceEqDiff, Nat.reduceLeDiff, reduceIte, Nat.reduceLT, Int.reduceLE, Int.reduceLT, Int.reduceToNat]
theorem t20 (b : Brd) (k : Int) (hb : BrdB (2^50) b) : Ev C 20 [brdF b, .int .i64 k] (.tup [.int .i64 (if kindAsk b k then priceOf b k else 0), .bool (kindAsk b k)]) := by
  have c1 := t61 hC b k hb
  have c2 := fun h => t62 hC b k h hb
  have w1 : kindAsk b k = true → inR 0 (b.m.w * b.m.h - 1) 0 = true := fun h => by
    have hm := mp_wh (brd_mp (show brdOk b = true by simp only [kindAsk, Bool.and_eq_true] at h; exact h.1))
    have hwh := wh_le hm.1 hm.2
    simp only [inR, Bool.and_eq_true, decide_eq_true_eq]; omega
  simp only [brdF, rulF, mpF, List.cons_append, List.nil_append] at *
  refine Ev.runT hC Tryd.func20 h20 nt20 r20 (by decide) (Nat.le_of_ble_eq_true rfl) (rfl) ?_
  simp only [c20, push_cast, ↓ifB_true, ↓ifB_false, Nat.reduceBEq, Nat.reduceAdd, Nat.reduceSub, reduceCtorEq, Nat.reduceMul, Nat.reduceEqDiff, Nat.reduceLeDiff, reduceIte, Nat.reduceLT, Int.reduceLE, Int.reduceLT, Int.reduceToNat]
  refine ⟨_, c1, ?_⟩
  cases g1 : kindAsk b k
  · simp only [push_cast, ↓ifB_true, ↓ifB_false, Nat.reduceBEq, Nat.reduceAdd, Nat.reduceSub, reduceCtorEq, Nat.reduceMul, Nat.reduceEqDiff, Nat.reduceLeDiff, reduceIte, Nat.reduceLT, Int.reduceLE, Int.reduceLT, Int.reduceToNat]
  simp only [push_cast, ↓ifB_true, ↓ifB_false, Nat.reduceBEq, Nat.reduceAdd, Nat.reduceSub, reduceCtorEq, Nat.reduceMul, Nat.reduceEqDiff, Nat.reduceLeDiff, reduceIte, Nat.reduceLT, Int.reduceLE, Int.reduceLT, Int.reduceToNat]
  refine ⟨_, c2 g1, ?_⟩
  simp only [push_cast, ↓ifB_true, ↓ifB_false, Nat.reduceBEq, Nat.reduceAdd, Nat.reduceSub, reduceCtorEq, Nat.reduceMul, Nat.reduceEqDiff, Nat.reduceLeDiff, reduceIte, Nat.reduceLT, Int.reduceLE, Int.reduceLT, Int.reduceToNat]
theorem t4 (b : Brd) (k : Int) (hb : BrdB (2^50) b) : Ev C 4 [brdF b, .int .i64 k] (.bool true) := by
  have q1 := t17 hC b 1048576 (by omega) hb
  have q2 := fun h => t19 hC b h
  have q3 := t18 hC b k hb
  have q4 := t20 hC b k hb
  have q5 := t21 hC b b hb hb
  simp only [brdO, rulO, mpO, brdF, rulF, mpF, List.cons_append, List.nil_append] at *
  refine Ev.runT hC Tryd.func4 h4 nt4 r4 (by decide) (Nat.le_of_ble_eq_true rfl) (rfl) ?_
  simp only [c4, push_cast, ↓ifB_true, ↓ifB_false, Nat.reduceBEq, Nat.reduceAdd, Nat.reduceSub, reduceCtorEq, Nat.reduceMul, Nat.reduceEqDiff, Nat.reduceLeDiff, reduceIte, Nat.reduceLT, Int.reduceLE, Int.reduceLT, Int.reduceToNat]
  refine ⟨_, q1, ?_⟩
  simp only [push_cast, ↓ifB_true, ↓ifB_false, Nat.reduceBEq, Nat.reduceAdd, Nat.reduceSub, reduceCtorEq, Nat.reduceMul, Nat.reduceEqDiff, Nat.reduceLeDiff, reduceIte, Nat.reduceLT, Int.reduceLE, Int.reduceLT, Int.reduceToNat]
  refine ifB_intro (fun h => trivial) (fun h => ?_)
  have hB : BrdB (2^30) b := (szBrd_pos (by have := of_decide_eq_false h; omega)).mono (by omega)
  refine ⟨_, q2 hB, ?_⟩
  simp only [push_cast, ↓ifB_true, ↓ifB_false, Nat.reduceBEq, Nat.reduceAdd, Nat.reduceSub, reduceCtorEq, Nat.reduceMul, Nat.reduceEqDiff, Nat.reduceLeDiff, reduceIte, Nat.reduceLT, Int.reduceLE, Int.reduceLT, Int.reduceToNat]
  simp only [frzLL_ints, frzLL_ters, frzLL_kins, push_cast, ↓ifB_true, ↓ifB_false, Nat.reduceBEq, Nat.reduceAdd, Nat.reduceSub, reduceCtorEq, Nat.reduceMul, Nat.reduceEqDiff, Nat.reduceLeDiff, reduceIte, Nat.reduceLT, Int.reduceLE, Int.reduceLT, Int.reduceToNat]
  refine ⟨_, q3, ?_⟩
  simp only [push_cast, ↓ifB_true, ↓ifB_false, Nat.reduceBEq, Nat.reduceAdd, Nat.reduceSub, reduceCtorEq, Nat.reduceMul, Nat.reduceEqDiff, Nat.reduceLeDiff, reduceIte, Nat.reduceLT, Int.reduceLE, Int.reduceLT, Int.reduceToNat]
  refine ⟨_, q2 hB, ?_⟩
  simp only [frzLL_ints, frzLL_ters, frzLL_kins, push_cast, ↓ifB_true, ↓ifB_false, Nat.reduceBEq, Nat.reduceAdd, Nat.reduceSub, reduceCtorEq, Nat.reduceMul, Nat.reduceEqDiff, Nat.reduceLeDiff, reduceIte, Nat.reduceLT, Int.reduceLE, Int.reduceLT, Int.reduceToNat]
  refine ⟨_, q4, ?_⟩
  simp only [push_cast, ↓ifB_true, ↓ifB_false, Nat.reduceBEq, Nat.reduceAdd, Nat.reduceSub, reduceCtorEq, Nat.reduceMul, Nat.reduceEqDiff, Nat.reduceLeDiff, reduceIte, Nat.reduceLT, Int.reduceLE, Int.reduceLT, Int.reduceToNat]
  refine ⟨_, q2 hB, ?_⟩
  simp only [frzLL_ints, frzLL_ters, frzLL_kins, push_cast, ↓ifB_true, ↓ifB_false, Nat.reduceBEq, Nat.reduceAdd, Nat.reduceSub, reduceCtorEq, Nat.reduceMul, Nat.reduceEqDiff, Nat.reduceLeDiff, reduceIte, Nat.reduceLT, Int.reduceLE, Int.reduceLT, Int.reduceToNat]
  refine ⟨_, q5, ?_⟩
  simp only [push_cast, ↓ifB_true, ↓ifB_false, Nat.reduceBEq, Nat.reduceAdd, Nat.reduceSub, reduceCtorEq, Nat.reduceMul, Nat.reduceEqDiff, Nat.reduceLeDiff, reduceIte, Nat.reduceLT, Int.reduceLE, Int.reduceLT, Int.reduceToNat]
end
end Go.Proofs.YtlddjlchgibdfaaDoor.X
