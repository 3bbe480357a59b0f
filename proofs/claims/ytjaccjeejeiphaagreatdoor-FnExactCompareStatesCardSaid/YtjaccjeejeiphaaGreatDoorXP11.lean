/- A part of the proof: lemmas on the machine or on the functions that the law reaches. No condition of its own. -/
import Derived.Test.YtjaccjeejeiphaaGreatDoorXP10
import Derived.Test.YtjaccjeejeiphaaGreatDoorXP4
import Derived.Test.YtjaccjeejeiphaaGreatDoorXP8
set_option maxHeartbeats 4000000
set_option maxRecDepth 8000
set_option linter.unusedSimpArgs false
set_option linter.unusedVariables false
open Nat renaming reduceBEq → N1, reduceAdd → N2, reduceSub → N3, reduceMul → N4, reduceEqDiff → N5, reduceLeDiff → N6, reduceLT → N7
open Int renaming reduceLE → I1, reduceLT → I2, reduceToNat → I3
namespace Go.Proofs.YtjaccjeejeiphaaGreatDoor.X
open Go
attribute [local irreducible] Ev
section
variable {C : CT} (hC : Closed Tryz.prog G1 md0 C)
include hC
theorem t120 (n : Int) : Ev C 120 [.int .i64 n] (.int .i64 (sgnI n)) := by
  refine rT hC Q120 ?_
  simp only [c120, push_cast, ↓J1, ↓J2, N1, N2, N3, reduceCtorEq, N4, N5, N6, reduceIte, N7, I1, I2, I3]
  simp only [sgnI]
  by_cases h1 : 0 < n
  · have g1 : decide (0 < n) = true := decide_eq_true h1
    simp only [g1, if_pos h1, push_cast, ↓J1, ↓J2, N1, N2, N3, reduceCtorEq, N4, N5, N6, reduceIte, N7, I1, I2, I3]
  have g1 : decide (0 < n) = false := decide_eq_false h1
  by_cases h2 : n < 0
  · have g2 : decide (n < 0) = true := decide_eq_true h2
    simp only [g1, g2, if_neg h1, if_pos h2, push_cast, ↓J1, ↓J2, N1, N2, N3, reduceCtorEq, N4, N5, N6, reduceIte, N7, I1, I2, I3]
  have g2 : decide (n < 0) = false := decide_eq_false h2
  simp only [g1, g2, if_neg h1, if_neg h2, push_cast, ↓J1, ↓J2, N1, N2, N3, reduceCtorEq, N4, N5, N6, reduceIte, N7, I1, I2, I3]
theorem t49 (x : Se) (s t : Sta) (sd : Int) (hb : SeB (2^50) x) (hl : s.us.length < 2^40) (hl2 : t.us.length < 2^40) : Ev C 49 [seF x, .agg (staF s), .agg (staF t), .int .i64 sd] (.tup [.int .i64 (cmpRes x s t sd), .bool (cmpOk x s t sd)]) := by
  have c1 := t76 hC x s 0 hb hl
  rw [show (gaOk x s && inR 0 4611686016279904236 0) = gaOk x s by rw [show inR 0 4611686016279904236 0 = true by rfl, Bool.and_true]] at c1
  have c2 : Ev C 105 [.int .i64 sd, .int .i64 0, .int .i64 1] (.bool (inR 0 1 sd)) := tIn hC sd 0 1
  have c4 := t119 hC x.b t hb.b hl2
  have c3 := fun s g1 g2 h => t116 hC x s sd g1 g2 h hb
  have c5 := fun n => t120 hC n
  simp only [seF, brdF, rulF, mpF, ctF, clA, List.cons_append, List.nil_append, staF] at *
  refine rT hC Q49 ?_ (by simp only [ownR, ownRL, Bool.and_true])
  simp only [c49, push_cast, ↓J1, ↓J2, N1, N2, N3, reduceCtorEq, N4, N5, N6, reduceIte, N7, I1, I2, I3]
  refine ⟨_, c1, ?_⟩
  cases g1 : gaOk x s
  · simp only [cmpRes, cmpOk, g1, Bool.false_and, Bool.false_eq_true, if_false, push_cast, ↓J1, ↓J2, N1, N2, N3, reduceCtorEq, N4, N5, N6, reduceIte, N7, I1, I2, I3]
  have gg := g1
  simp only [gaOk, Bool.and_eq_true] at gg
  have gb := se_brd gg.1
  simp only [push_cast, ↓J1, ↓J2, N1, N2, N3, reduceCtorEq, N4, N5, N6, reduceIte, N7, I1, I2, I3]
  refine ⟨_, c4, ?_⟩
  skip
  skip
  cases g3 : staOk x.b t
  · simp only [cmpRes, cmpOk, g1, g3, Bool.false_and, Bool.and_false, Bool.false_eq_true, if_false, push_cast, ↓J1, ↓J2, N1, N2, N3, reduceCtorEq, N4, N5, N6, reduceIte, N7, I1, I2, I3]
  simp only [push_cast, ↓J1, ↓J2, N1, N2, N3, reduceCtorEq, N4, N5, N6, reduceIte, N7, I1, I2, I3]
  refine ⟨_, c2, ?_⟩
  cases g2 : inR 0 1 sd
  · simp only [cmpRes, cmpOk, g1, g2, g3, Bool.and_false, Bool.false_eq_true, if_false, push_cast, ↓J1, ↓J2, N1, N2, N3, reduceCtorEq, N4, N5, N6, reduceIte, N7, I1, I2, I3]
  have hs : sd = 0 ∨ sd = 1 := by simp only [inR, Bool.and_eq_true, decide_eq_true_eq] at g2; omega
  simp only [cmpRes, cmpOk, g1, g2, g3, Bool.and_self, if_true, push_cast, ↓J1, ↓J2, N1, N2, N3, reduceCtorEq, N4, N5, N6, reduceIte, N7, I1, I2, I3]
  have b1 := val_bnd (x := x) (s := s) (sd := sd) gg.2
  have b2 := val_bnd (x := x) (s := t) (sd := sd) g3
  refine ⟨_, c3 s gg.1 gg.2 hs, ?_⟩
  simp only [push_cast, ↓J1, ↓J2, N1, N2, N3, reduceCtorEq, N4, N5, N6, reduceIte, N7, I1, I2, I3]
  refine ⟨_, c3 t gg.1 g3 hs, ?_⟩
  generalize valS x s sd = v at *
  generalize valS x t sd = w at *
  have w1 : IntKind.i64.wrap (v - w) = v - w := wrap64 (by omega) (by omega)
  simp only [w1, push_cast, ↓J1, ↓J2, N1, N2, N3, reduceCtorEq, N4, N5, N6, reduceIte, N7, I1, I2, I3]
  refine ⟨_, c5 _, ?_⟩
  simp only [push_cast, ↓J1, ↓J2, N1, N2, N3, reduceCtorEq, N4, N5, N6, reduceIte, N7, I1, I2, I3]
theorem t50 (x : Se) (s t : Sta) (sd : Int) (hb : SeB (2^50) x) (hl : s.us.length < 2^40) (hl2 : t.us.length < 2^40) : Ev C 50 [seF x, .agg (staF s), .agg (staF t), .int .i64 sd] (.tup [.int .i64 (cmpRes x s t sd), .bool (cmpOk x s t sd)]) := by
  have c1 := t81 hC x s hb hl

  have c2 : Ev C 117 [.int .i64 sd] (.bool (inR 0 1 sd)) := t117 hC sd
  have c4 := fun g => t121 hC x.b t g hb.b hl2
  have c3 := fun s g1 g2 h => t118 hC x s sd g1 g2 h hb
  skip
  simp only [seF, brdF, rulF, mpF, ctF, clA, List.cons_append, List.nil_append, staF] at *
  refine rT hC Q50 ?_ (by simp only [ownR, ownRL, Bool.and_true])
  simp only [c50, push_cast, ↓J1, ↓J2, N1, N2, N3, reduceCtorEq, N4, N5, N6, reduceIte, N7, I1, I2, I3]
  refine ⟨_, c1, ?_⟩
  cases g1 : gaOk x s
  · simp only [cmpRes, cmpOk, g1, Bool.false_and, Bool.false_eq_true, if_false, push_cast, ↓J1, ↓J2, N1, N2, N3, reduceCtorEq, N4, N5, N6, reduceIte, N7, I1, I2, I3]
  have gg := g1
  simp only [gaOk, Bool.and_eq_true] at gg
  have gb := se_brd gg.1
  simp only [push_cast, ↓J1, ↓J2, N1, N2, N3, reduceCtorEq, N4, N5, N6, reduceIte, N7, I1, I2, I3]
  refine ⟨_, c4 gb, ?_⟩
  have e4 : staOk x.b t = staOk0 x.b t := by simp only [staOk, gb, Bool.true_and]
  rw [← e4]
  cases g3 : staOk x.b t
  · simp only [cmpRes, cmpOk, g1, g3, Bool.false_and, Bool.and_false, Bool.false_eq_true, if_false, push_cast, ↓J1, ↓J2, N1, N2, N3, reduceCtorEq, N4, N5, N6, reduceIte, N7, I1, I2, I3]
  simp only [push_cast, ↓J1, ↓J2, N1, N2, N3, reduceCtorEq, N4, N5, N6, reduceIte, N7, I1, I2, I3]
  refine ⟨_, c2, ?_⟩
  cases g2 : inR 0 1 sd
  · simp only [cmpRes, cmpOk, g1, g2, g3, Bool.and_false, Bool.false_eq_true, if_false, push_cast, ↓J1, ↓J2, N1, N2, N3, reduceCtorEq, N4, N5, N6, reduceIte, N7, I1, I2, I3]
  have hs : sd = 0 ∨ sd = 1 := by simp only [inR, Bool.and_eq_true, decide_eq_true_eq] at g2; omega
  simp only [cmpRes, cmpOk, g1, g2, g3, Bool.and_self, if_true, push_cast, ↓J1, ↓J2, N1, N2, N3, reduceCtorEq, N4, N5, N6, reduceIte, N7, I1, I2, I3]
  have b1 := val_bnd (x := x) (s := s) (sd := sd) gg.2
  have b2 := val_bnd (x := x) (s := t) (sd := sd) g3
  refine ⟨_, c3 s gg.1 gg.2 hs, ?_⟩
  simp only [push_cast, ↓J1, ↓J2, N1, N2, N3, reduceCtorEq, N4, N5, N6, reduceIte, N7, I1, I2, I3]
  refine ⟨_, c3 t gg.1 g3 hs, ?_⟩
  generalize valS x s sd = v at *
  generalize valS x t sd = w at *
  simp only [sgnI]
  by_cases h1 : 0 < v - w
  · have k1 : decide (w < v) = true := decide_eq_true (by omega)
    simp only [k1, if_pos h1, push_cast, ↓J1, ↓J2, N1, N2, N3, reduceCtorEq, N4, N5, N6, reduceIte, N7, I1, I2, I3]
  have k1 : decide (w < v) = false := decide_eq_false (by omega)
  by_cases h2 : v - w < 0
  · have k2 : decide (v < w) = true := decide_eq_true (by omega)
    simp only [k1, k2, if_neg h1, if_pos h2, push_cast, ↓J1, ↓J2, N1, N2, N3, reduceCtorEq, N4, N5, N6, reduceIte, N7, I1, I2, I3]
  have k2 : decide (v < w) = false := decide_eq_false (by omega)
  simp only [k1, k2, if_neg h1, if_neg h2, push_cast, ↓J1, ↓J2, N1, N2, N3, reduceCtorEq, N4, N5, N6, reduceIte, N7, I1, I2, I3]
theorem t10 (x : Se) (s : Sta) (d : Int) (hx : SeB (2^50) x) (hs : s.us.length < 2^50) : Ev C 10 [seF x, .agg (staF s), .int .i64 d] (.bool true) := by
  have z0 := fun p => t26 hC x 1048576 p hx
  have z1 := fun p => t16 hC s (szSe x 1048576) p hs
  have d0 := fun Hx => t28 hC x Hx
  have e0 := t30 hC x x hx hx
  have d1 := fun Hs => t20 hC s Hs
  have e1 := t24 hC s s hs hs
  have f1 := fun (Hx : SeB (2^30) x) (Hs : s.us.length < 2^30) => t47 hC x s d hx (by omega)
  have f2 := fun (Hx : SeB (2^30) x) (Hs : s.us.length < 2^30) => t48 hC x s d hx (by omega)
  simp only [brdO, rulO, mpO, brdF, rulF, mpF, seF, seO, ctF, ctO, szSta, staF, staO, List.cons_append, List.nil_append, List.append_assoc, decide_true] at *
  refine rT hC Q10 ?_
  simp only [c10, push_cast, ↓J1, ↓J2, N1, N2, N3, reduceCtorEq, N4, N5, N6, reduceIte, N7, I1, I2, I3]
  refine ⟨_, z0 (by omega), ?_⟩
  simp only [push_cast, ↓J1, ↓J2, N1, N2, N3, reduceCtorEq, N4, N5, N6, reduceIte, N7, I1, I2, I3]
  refine ifB_intro (fun h => trivial) (fun h => ?_)
  have n0 := of_decide_eq_false h
  clear h
  have l0 := szSe_le (s := x) (v := 1048576) (by omega) (by omega)
  have Hx : SeB (2^30) x := (szSe_pos (by omega)).mono (by omega)
  refine ⟨_, z1 (by omega), ?_⟩
  simp only [push_cast, ↓J1, ↓J2, N1, N2, N3, reduceCtorEq, N4, N5, N6, reduceIte, N7, I1, I2, I3]
  refine ifB_intro (fun h => trivial) (fun h => ?_)
  have n1 := of_decide_eq_false h
  clear h
  have l1 := sub1_le (v := (szSe x 1048576)) (n := s.us.length) (by omega)
  have Hs : s.us.length < 2^30 := by have := sub1_pos (v := (szSe x 1048576)) (n := s.us.length) (by omega); omega
  repeat' (first
    | simp only [frzLL_ints, frzLL_ters, frzLL_kins, frzLL_owss, frzLL_ods, frzLL_uns, push_cast, ↓J1, ↓J2, N1, N2, N3, reduceCtorEq, N4, N5, N6, reduceIte, N7, I1, I2, I3]
    | refine ⟨_, d0 Hx, ?_⟩
    | refine ⟨_, e0, ?_⟩
    | refine ⟨_, d1 Hs, ?_⟩
    | refine ⟨_, e1, ?_⟩
    | refine ⟨_, f1 Hx Hs, ?_⟩
    | refine ⟨_, f2 Hx Hs, ?_⟩
    | refine ifB_intro (fun h => ?_) (fun h => ?_))
theorem t11 (x : Se) (s : Sta) (t : Sta) (d : Int) (hx : SeB (2^50) x) (hs : s.us.length < 2^50) (ht : t.us.length < 2^50) : Ev C 11 [seF x, .agg (staF s), .agg (staF t), .int .i64 d] (.bool true) := by
  have z0 := fun p => t26 hC x 1048576 p hx
  have z1 := fun p => t16 hC s (szSe x 1048576) p hs
  have z2 := fun p => t16 hC t (sub1 (szSe x 1048576) s.us.length) p ht
  have d0 := fun Hx => t28 hC x Hx
  have e0 := t30 hC x x hx hx
  have d1 := fun Hs => t20 hC s Hs
  have e1 := t24 hC s s hs hs
  have d2 := fun Ht => t20 hC t Ht
  have e2 := t24 hC t t ht ht
  have f1 := fun (Hx : SeB (2^30) x) (Hs : s.us.length < 2^30) (Ht : t.us.length < 2^30) => t49 hC x s t d hx (by omega) (by omega)
  have f2 := fun (Hx : SeB (2^30) x) (Hs : s.us.length < 2^30) (Ht : t.us.length < 2^30) => t50 hC x s t d hx (by omega) (by omega)
  simp only [brdO, rulO, mpO, brdF, rulF, mpF, seF, seO, ctF, ctO, szSta, staF, staO, List.cons_append, List.nil_append, List.append_assoc, decide_true] at *
  refine rT hC Q11 ?_
  simp only [c11, push_cast, ↓J1, ↓J2, N1, N2, N3, reduceCtorEq, N4, N5, N6, reduceIte, N7, I1, I2, I3]
  refine ⟨_, z0 (by omega), ?_⟩
  simp only [push_cast, ↓J1, ↓J2, N1, N2, N3, reduceCtorEq, N4, N5, N6, reduceIte, N7, I1, I2, I3]
  refine ifB_intro (fun h => trivial) (fun h => ?_)
  have n0 := of_decide_eq_false h
  clear h
  have l0 := szSe_le (s := x) (v := 1048576) (by omega) (by omega)
  have Hx : SeB (2^30) x := (szSe_pos (by omega)).mono (by omega)
  refine ⟨_, z1 (by omega), ?_⟩
  simp only [push_cast, ↓J1, ↓J2, N1, N2, N3, reduceCtorEq, N4, N5, N6, reduceIte, N7, I1, I2, I3]
  refine ifB_intro (fun h => trivial) (fun h => ?_)
  have n1 := of_decide_eq_false h
  clear h
  have l1 := sub1_le (v := (szSe x 1048576)) (n := s.us.length) (by omega)
  have Hs : s.us.length < 2^30 := by have := sub1_pos (v := (szSe x 1048576)) (n := s.us.length) (by omega); omega
  refine ⟨_, z2 (by omega), ?_⟩
  simp only [push_cast, ↓J1, ↓J2, N1, N2, N3, reduceCtorEq, N4, N5, N6, reduceIte, N7, I1, I2, I3]
  refine ifB_intro (fun h => trivial) (fun h => ?_)
  have n2 := of_decide_eq_false h
  clear h
  have l2 := sub1_le (v := (sub1 (szSe x 1048576) s.us.length)) (n := t.us.length) (by omega)
  have Ht : t.us.length < 2^30 := by have := sub1_pos (v := (sub1 (szSe x 1048576) s.us.length)) (n := t.us.length) (by omega); omega
  repeat' (first
    | simp only [frzLL_ints, frzLL_ters, frzLL_kins, frzLL_owss, frzLL_ods, frzLL_uns, push_cast, ↓J1, ↓J2, N1, N2, N3, reduceCtorEq, N4, N5, N6, reduceIte, N7, I1, I2, I3]
    | refine ⟨_, d0 Hx, ?_⟩
    | refine ⟨_, e0, ?_⟩
    | refine ⟨_, d1 Hs, ?_⟩
    | refine ⟨_, e1, ?_⟩
    | refine ⟨_, d2 Ht, ?_⟩
    | refine ⟨_, e2, ?_⟩
    | refine ⟨_, f1 Hx Hs Ht, ?_⟩
    | refine ⟨_, f2 Hx Hs Ht, ?_⟩
    | refine ifB_intro (fun h => ?_) (fun h => ?_))
end
end Go.Proofs.YtjaccjeejeiphaaGreatDoor.X
set_option maxHeartbeats 4000000
set_option maxRecDepth 8000
set_option linter.unusedSimpArgs false
set_option linter.unusedVariables false
open Nat renaming reduceBEq → N1, reduceAdd → N2, reduceSub → N3, reduceMul → N4, reduceEqDiff → N5, reduceLeDiff → N6, reduceLT → N7
open Int renaming reduceLE → I1, reduceLT → I2, reduceToNat → I3
namespace Go.Proofs.YtjaccjeejeiphaaGreatDoor.X
open Go
theorem has_ints {k : Nat} {xs : List AV} (h : Has Tryz.prog (k + 2) 26 xs) : ∃ l, xs = [.sl (ints l)] ∧ l.length < 2 ^ 50 := by
  obtain ⟨es, rfl, _, hb, he⟩ := has_slice tk_26 h
  rw [bo_3] at hb
  obtain ⟨l, rfl⟩ := all_map (f := fun n : Int => [AV.int .i64 n]) (es := es) fun e hx => by
    obtain ⟨n, hn, _⟩ := has_int tk_3 (he e hx).2
    exact ⟨n, hn⟩
  simp only [reachBytes, List.length_map] at hb
  exact ⟨l, rfl, by omega⟩
theorem all_map2 {α : Type} {f : α → List AV} {p : α → Prop} {es : List (List AV)} (h : ∀ e ∈ es, ∃ x, e = f x ∧ p x) : ∃ l : List α, es = l.map f ∧ ∀ x ∈ l, p x := by
  induction es with
  | nil => exact ⟨[], rfl, by simp⟩
  | cons e es ih =>
    obtain ⟨l, hl, hp⟩ := ih fun x hx => h x (by simp [hx])
    obtain ⟨x, hx, px⟩ := h e (by simp)
    exact ⟨x :: l, by rw [hl, hx]; rfl, by simp only [List.mem_cons, forall_eq_or_imp]; exact ⟨px, hp⟩⟩
theorem has_ter {k : Nat} {xs : List AV} (h : Has Tryz.prog (k + 9) 213 xs) : ∃ t : Ter, xs = terF t ∧ t.n.size < 2 ^ 50 ∧ t.c.length < 2 ^ 50 := by
  have h := has_struct sty_213 h
  obtain ⟨x0, r, rfl, _, h0, h⟩ := hasE_cons h
  obtain ⟨x1, r, rfl, _, h1, h⟩ := hasE_cons h
  obtain ⟨x2, r, rfl, _, h2, h⟩ := hasE_cons h
  obtain ⟨x3, r, rfl, _, h3, h⟩ := hasE_cons h
  obtain ⟨x4, r, rfl, _, h4, h⟩ := hasE_cons h
  obtain rfl := hasE_nil h
  obtain ⟨n, rfl, hn⟩ := has_str tk_9 h0
  obtain ⟨c, rfl, hc⟩ := has_ints h1
  obtain ⟨s, rfl, _⟩ := has_int tk_3 h2
  obtain ⟨e, rfl, _⟩ := has_int tk_3 h3
  obtain ⟨b, rfl⟩ := has_bool tk_4 h4
  simp only [reachBytes] at hn
  exact ⟨⟨n, c, s, e, b⟩, rfl, by show n.size < _; omega, hc⟩
theorem has_kin {k : Nat} {xs : List AV} (h : Has Tryz.prog (k + 9) 215 xs) : ∃ t : Kin, xs = kinA t ∧ t.n.size < 2 ^ 50 := by
  have h := has_struct sty_215 h
  obtain ⟨x0, r, rfl, _, h0, h⟩ := hasE_cons h
  obtain ⟨x1, r, rfl, _, h1, h⟩ := hasE_cons h
  obtain ⟨x2, r, rfl, _, h2, h⟩ := hasE_cons h
  obtain ⟨x3, r, rfl, _, h3, h⟩ := hasE_cons h
  obtain ⟨x4, r, rfl, _, h4, h⟩ := hasE_cons h
  obtain ⟨x5, r, rfl, _, h5, h⟩ := hasE_cons h
  obtain rfl := hasE_nil h
  obtain ⟨n, rfl, hn⟩ := has_str tk_9 h0
  obtain ⟨s, rfl, _⟩ := has_int tk_3 h1
  obtain ⟨m, rfl, _⟩ := has_int tk_3 h2
  obtain ⟨p, rfl, _⟩ := has_int tk_3 h3
  obtain ⟨z, rfl⟩ := has_bool tk_4 h4
  obtain ⟨v, rfl, _⟩ := has_int tk_3 h5
  simp only [reachBytes] at hn
  exact ⟨⟨n, s, m, p, z, v⟩, rfl, by show n.size < _; omega⟩
theorem has_rul {k : Nat} {xs : List AV} (h : Has Tryz.prog (k + 16) 25 xs) : ∃ r : Rul, xs = rulF r ∧ RulB (2 ^ 50) r := by
  have h := has_struct sty_25 h
  obtain ⟨x0, r, rfl, _, h0, h⟩ := hasE_cons h
  obtain ⟨x1, r, rfl, _, h1, h⟩ := hasE_cons h
  obtain ⟨x2, r, rfl, _, h2, h⟩ := hasE_cons h
  obtain ⟨x3, r, rfl, _, h3, h⟩ := hasE_cons h
  obtain ⟨x4, r, rfl, _, h4, h⟩ := hasE_cons h
  obtain ⟨x5, r, rfl, _, h5, h⟩ := hasE_cons h
  obtain ⟨x6, r, rfl, _, h6, h⟩ := hasE_cons h
  obtain rfl := hasE_nil h
  obtain ⟨es, rfl, _, hb, he⟩ := has_slice tk_22 h0
  obtain ⟨ts, rfl, ht⟩ := all_map2 (f := terF) (es := es) fun e hx => has_ter (he e hx).2
  obtain ⟨fs, rfl, _, hc, hf⟩ := has_slice tk_23 h1
  obtain ⟨ks, rfl, hk⟩ := all_map2 (f := kinA) (es := fs) fun e hx => has_kin (hf e hx).2
  obtain ⟨a, rfl, _⟩ := has_int tk_3 h2
  obtain ⟨b, rfl, _⟩ := has_int tk_3 h3
  obtain ⟨c, rfl, _⟩ := has_int tk_3 h4
  obtain ⟨d, rfl, _⟩ := has_int tk_3 h5
  obtain ⟨e, rfl, _⟩ := has_int tk_3 h6
  rw [bo_213] at hb
  rw [bo_215] at hc
  simp only [reachBytes, List.length_map] at hb hc
  exact ⟨⟨ts, ks, a, b, c, d, e⟩, rfl, ⟨by show ts.length < _; omega, by show ks.length < _; omega, ht, hk⟩⟩
theorem has_mp {k : Nat} {xs : List AV} (h : Has Tryz.prog (k + 16) 28 xs) : ∃ m : Mp, xs = mpF m ∧ MpB (2 ^ 50) m := by
  have h := has_struct sty_28 h
  obtain ⟨x0, r, rfl, _, h0, h⟩ := hasE_cons h
  obtain ⟨x1, r, rfl, _, h1, h⟩ := hasE_cons h
  obtain ⟨x2, r, rfl, _, h2, h⟩ := hasE_cons h
  obtain ⟨x3, r, rfl, _, h3, h⟩ := hasE_cons h
  obtain ⟨x4, r, rfl, _, h4, h⟩ := hasE_cons h
  obtain rfl := hasE_nil h
  obtain ⟨w, rfl, _⟩ := has_int tk_3 h0
  obtain ⟨e, rfl, _⟩ := has_int tk_3 h1
  obtain ⟨t, rfl, ht⟩ := has_ints h2
  obtain ⟨ri, rfl, hri⟩ := has_ints h3
  obtain ⟨ro, rfl, hro⟩ := has_ints h4
  exact ⟨⟨w, e, t, ri, ro⟩, rfl, ⟨ht, hri, hro⟩⟩
theorem has_brd {k : Nat} {xs : List AV} (h : Has Tryz.prog (k + 20) 30 xs) : ∃ b : Brd, xs = rulF b.r ++ mpF b.m ∧ BrdB (2 ^ 50) b := by
  have h := has_struct sty_30 h
  obtain ⟨x0, r, rfl, _, h0, h⟩ := hasE_cons h
  obtain ⟨x1, r, rfl, _, h1, h⟩ := hasE_cons h
  obtain rfl := hasE_nil h
  obtain ⟨r, rfl, hr⟩ := has_rul h0
  obtain ⟨m, rfl, hm⟩ := has_mp h1
  exact ⟨⟨r, m⟩, by simp only [List.append_nil], ⟨hr, hm⟩⟩
theorem hasV_brd {k : Nat} {x : AV} (hv : HasV Tryz.prog (k + 20) 30 x) : ∃ b : Brd, x = brdF b ∧ BrdB (2 ^ 50) b := by
  obtain ⟨ys, rfl, h⟩ := hasV_struct sty_30 hv
  obtain ⟨x0, r, rfl, _, h0, h⟩ := hasE_cons h
  obtain ⟨x1, r, rfl, _, h1, h⟩ := hasE_cons h
  obtain rfl := hasE_nil h
  obtain ⟨r, rfl, hr⟩ := has_rul h0
  obtain ⟨m, rfl, hm⟩ := has_mp h1
  exact ⟨⟨r, m⟩, by simp only [brdF, List.append_nil], ⟨hr, hm⟩⟩
end Go.Proofs.YtjaccjeejeiphaaGreatDoor.X
set_option maxHeartbeats 1000000
set_option maxRecDepth 8000
set_option linter.unusedSimpArgs false
set_option linter.unusedVariables false
open Nat renaming reduceBEq → N1, reduceAdd → N2, reduceSub → N3, reduceMul → N4, reduceEqDiff → N5, reduceLeDiff → N6, reduceLT → N7
open Int renaming reduceLE → I1, reduceLT → I2, reduceToNat → I3
namespace Go.Proofs.YtjaccjeejeiphaaGreatDoor.X
open Go
theorem hasV_sta {k : Nat} {x : AV} (hv : HasV Tryz.prog (k + 20) 33 x) : ∃ s : Sta, x = .agg (staF s) ∧ s.us.length < 2 ^ 50 := by
  obtain ⟨ys, rfl, h⟩ := hasV_struct sty_33 hv
  obtain ⟨x0, r, rfl, _, h0, h⟩ := hasE_cons h
  obtain ⟨x1, r, rfl, _, h1, h⟩ := hasE_cons h
  obtain ⟨x2, r, rfl, _, h2, h⟩ := hasE_cons h
  obtain rfl := hasE_nil h
  obtain ⟨a, rfl, _⟩ := has_int tk_3 h0
  obtain ⟨b, rfl, _⟩ := has_int tk_3 h1
  obtain ⟨es, rfl, _, hb, he⟩ := has_slice tk_31 h2
  obtain ⟨us, rfl⟩ := all_map (f := unA) (es := es) fun e hx => by
    have h := has_struct sty_170 (he e hx).2
    obtain ⟨x0, r, rfl, _, h0, h⟩ := hasE_cons h
    obtain ⟨x1, r, rfl, _, h1, h⟩ := hasE_cons h
    obtain ⟨x2, r, rfl, _, h2, h⟩ := hasE_cons h
    obtain ⟨x3, r, rfl, _, h3, h⟩ := hasE_cons h
    obtain rfl := hasE_nil h
    obtain ⟨a, rfl, _⟩ := has_int tk_3 h0
    obtain ⟨b, rfl, _⟩ := has_int tk_3 h1
    obtain ⟨c, rfl, _⟩ := has_int tk_3 h2
    obtain ⟨d, rfl, _⟩ := has_int tk_3 h3
    exact ⟨⟨a, b, c, d⟩, rfl⟩
  rw [bo_170] at hb
  simp only [reachBytes, List.length_map] at hb
  exact ⟨⟨a, b, us⟩, rfl, by show us.length < _; omega⟩
end Go.Proofs.YtjaccjeejeiphaaGreatDoor.X
set_option maxHeartbeats 1000000
set_option maxRecDepth 8000
set_option linter.unusedSimpArgs false
set_option linter.unusedVariables false
open Nat renaming reduceBEq → N1, reduceAdd → N2, reduceSub → N3, reduceMul → N4, reduceEqDiff → N5, reduceLeDiff → N6, reduceLT → N7
open Int renaming reduceLE → I1, reduceLT → I2, reduceToNat → I3
namespace Go.Proofs.YtjaccjeejeiphaaGreatDoor.X
open Go
theorem has_intss {k : Nat} {xs : List AV} (h : Has Tryz.prog (k + 3) 60 xs) : ∃ W, xs = [.sl (intss W)] ∧ SSB (2 ^ 50) W := by
  obtain ⟨es, rfl, _, hb, he⟩ := has_slice tk_60 h
  rw [bo_26] at hb
  obtain ⟨W, rfl, hr⟩ := all_map2 (f := fun r : List Int => [AV.sl (ints r)]) (p := fun r => r.length < 2 ^ 50) (es := es) fun e hx => by
    obtain ⟨l, rfl, hl⟩ := has_ints (he e hx).2
    exact ⟨l, rfl, hl⟩
  simp only [reachBytes, List.length_map] at hb
  exact ⟨W, rfl, ⟨by omega, hr⟩⟩
theorem has_od {k : Nat} {xs : List AV} (h : Has Tryz.prog (k + 6) 229 xs) : ∃ p : Od, xs = odA p := by
  have h := has_struct sty_229 h
  obtain ⟨x1, r, rfl, _, h1, h⟩ := hasE_cons h
  obtain ⟨x2, r, rfl, _, h2, h⟩ := hasE_cons h
  obtain rfl := hasE_nil h
  obtain ⟨a, rfl, _⟩ := has_int tk_3 h1
  obtain ⟨b, rfl, _⟩ := has_int tk_3 h2
  exact ⟨⟨a, b⟩, rfl⟩
theorem has_ct {k : Nat} {xs : List AV} (h : Has Tryz.prog (k + 12) 62 xs) : ∃ t : Ct, xs = ctF t ∧ CtB (2 ^ 50) t := by
  have h := has_struct sty_62 h
  obtain ⟨x0, r, rfl, _, h0, h⟩ := hasE_cons h
  obtain ⟨x1, r, rfl, _, h1, h⟩ := hasE_cons h
  obtain ⟨x2, r, rfl, _, h2, h⟩ := hasE_cons h
  obtain rfl := hasE_nil h
  obtain ⟨es, rfl, _, hb, he⟩ := has_slice tk_59 h0
  obtain ⟨cs, rfl⟩ := all_map (f := odA) (es := es) fun e hx => has_od (he e hx).2
  obtain ⟨d, rfl, _⟩ := has_int tk_3 h1
  obtain ⟨rs, rfl, hr⟩ := has_intss h2
  rw [bo_229] at hb
  simp only [reachBytes, List.length_map] at hb
  exact ⟨⟨cs, d, rs⟩, rfl, ⟨by show cs.length < _; omega, hr⟩⟩
theorem has_cl {k : Nat} {xs : List AV} (h : Has Tryz.prog (k + 8) 64 xs) : ∃ W, xs = [.sl (intss W)] ∧ SSB (2 ^ 50) W := by
  have h := has_struct sty_64 h
  obtain ⟨x0, r, rfl, _, h0, h⟩ := hasE_cons h
  obtain rfl := hasE_nil h
  obtain ⟨W, rfl, hr⟩ := has_intss h0
  exact ⟨W, rfl, hr⟩
theorem hasV_se {k : Nat} {x : AV} (hv : HasV Tryz.prog (k + 26) 66 x) : ∃ s : Se, x = seF s ∧ SeB (2 ^ 50) s := by
  obtain ⟨ys, rfl, h⟩ := hasV_struct sty_66 hv
  obtain ⟨x0, r, rfl, _, h0, h⟩ := hasE_cons h
  obtain ⟨x1, r, rfl, _, h1, h⟩ := hasE_cons h
  obtain ⟨x2, r, rfl, _, h2, h⟩ := hasE_cons h
  obtain ⟨x3, r, rfl, _, h3, h⟩ := hasE_cons h
  obtain rfl := hasE_nil h
  obtain ⟨b, rfl, hb⟩ := has_brd h0
  obtain ⟨t, rfl, ht⟩ := has_ct h1
  obtain ⟨c, rfl, hc⟩ := has_cl h2
  obtain ⟨w, rfl, hw⟩ := has_intss h3
  exact ⟨⟨b, t, c, w⟩, by simp only [seF, List.append_nil, List.append_assoc, List.cons_append, List.nil_append], ⟨hb, ht, hc, hw⟩⟩
end Go.Proofs.YtjaccjeejeiphaaGreatDoor.X
set_option maxHeartbeats 1000000
set_option maxRecDepth 8000
set_option linter.unusedSimpArgs false
set_option linter.unusedVariables false
open Nat renaming reduceBEq → N1, reduceAdd → N2, reduceSub → N3, reduceMul → N4, reduceEqDiff → N5, reduceLeDiff → N6, reduceLT → N7
open Int renaming reduceLE → I1, reduceLT → I2, reduceToNat → I3
namespace Go.Proofs.YtjaccjeejeiphaaGreatDoor.X
open Go
theorem lawValueOf_C {C : CT} (hC : Closed Tryz.prog G1 md0 C) : ∀ xs, HasVs Tryz.prog 30 [66, 33, 3] xs → Ev C 10 xs (.bool true) := by
  rintro xs ⟨x0, r0, rfl, h0, x1, r1, rfl, h1, x2, r2, rfl, h2, rfl⟩
  obtain ⟨x, rfl, hx⟩ := hasV_se h0
  obtain ⟨s, rfl, hs⟩ := hasV_sta h1
  obtain ⟨d, rfl, _⟩ := hasV_int tk_3 h2
  exact t10 hC x s d hx hs
theorem lawValueOf : ∀ xs, HasVs Tryz.prog 30 [66, 33, 3] xs → Ev (CS Tryz.prog G1) 10 xs (.bool true) := lawValueOf_C (CS_closed (by kernel_rfl))
theorem lawCompareStates_C {C : CT} (hC : Closed Tryz.prog G1 md0 C) : ∀ xs, HasVs Tryz.prog 30 [66, 33, 33, 3] xs → Ev C 11 xs (.bool true) := by
  rintro xs ⟨x0, r0, rfl, h0, x1, r1, rfl, h1, x2, r2, rfl, h2, x3, r3, rfl, h3, rfl⟩
  obtain ⟨x, rfl, hx⟩ := hasV_se h0
  obtain ⟨s, rfl, hs⟩ := hasV_sta h1
  obtain ⟨t, rfl, ht⟩ := hasV_sta h2
  obtain ⟨d, rfl, _⟩ := hasV_int tk_3 h3
  exact t11 hC x s t d hx hs ht
theorem lawCompareStates : ∀ xs, HasVs Tryz.prog 30 [66, 33, 33, 3] xs → Ev (CS Tryz.prog G1) 11 xs (.bool true) := lawCompareStates_C (CS_closed (by kernel_rfl))
end Go.Proofs.YtjaccjeejeiphaaGreatDoor.X
