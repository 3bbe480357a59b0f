/- A part of the proof: lemmas on the machine or on the functions that the law reaches. No condition of its own. -/
import Derived.Test.YtjaccjeejeiphaaGreatDoorXP9
import Derived.Test.YtjaccjeejeiphaaGreatDoorXP12
import Derived.Test.YtjaccjeejeiphaaGreatDoorXP4
import Derived.Test.YtjaccjeejeiphaaGreatDoorXP6
import Derived.Test.YtjaccjeejeiphaaGreatDoorXP13
import Derived.Test.YtjaccjeejeiphaaGreatDoorXP5
import Derived.Test.YtjaccjeejeiphaaGreatDoorXP3
import Derived.Test.YtjaccjeejeiphaaGreatDoorXP11
set_option maxHeartbeats 1000000
set_option maxRecDepth 8000
set_option linter.unusedSimpArgs false
set_option linter.unusedVariables false
open Nat renaming reduceBEq → N1, reduceAdd → N2, reduceSub → N3, reduceMul → N4, reduceEqDiff → N5, reduceLeDiff → N6, reduceLT → N7
open Int renaming reduceLE → I1, reduceLT → I2, reduceToNat → I3
namespace Go.Proofs.YtjaccjeejeiphaaGreatDoor.X
open Go
attribute [local irreducible] Ev
theorem NilToL_nil : NilToL [] [] := by simp only [NilToL]
theorem NilToL_cons {x y : AV} {xs ys : List AV} (h : NilTo x y) (h' : NilToL xs ys) : NilToL (x :: xs) (y :: ys) := by
  simp only [NilToL]; exact ⟨y, ys, rfl, h, h'⟩
theorem NilTo_agg {xs ys : List AV} (h : NilToL xs ys) : NilTo (.agg xs) (.agg ys) := by
  simp only [NilTo]; exact ⟨ys, rfl, h⟩
theorem NilTo_tup {xs ys : List AV} (h : NilToL xs ys) : NilTo (.tup xs) (.tup ys) := by
  simp only [NilTo]; exact ⟨ys, rfl, h⟩
theorem NilTo_nl {sz : Nat} : NilTo .nil (.ow sz []) := by
  simp only [NilTo]; exact .inr ⟨sz, rfl⟩
def sta0 : Sta := ⟨0, 0, []⟩
theorem nil_sta : NilToL [.int .i64 0, .int .i64 0, .nil] (staO sta0) := NilToL_cons (NilTo.refl _) (NilToL_cons (NilTo.refl _) (NilToL_cons NilTo_nl NilToL_nil))
theorem RetTo_nil {h h2 : Heap} {v r0 r : AV} (hc : conR 8 h v = some (r0, h2)) (hn : NilTo r0 r) : RetTo h v r := ⟨r0, h2, hc, hn⟩
def absI (n : Int) : Int := if n < 0 then -n else n
def distI (q1 r1 q2 r2 : Int) : Int := (absI (q2 - q1) + absI (r2 - r1) + absI (q2 - q1 + (r2 - r1))).tdiv 2
theorem absI_bnd {n B : Int} (h : -B ≤ n ∧ n ≤ B) : 0 ≤ absI n ∧ absI n ≤ B := by
  simp only [absI]; split <;> omega
def wSta (x : Se) (s : Sta) (seed : Int) : Sta := ⟨s.t, nextS (rowAt x.c s.w) (belowOf seed s.t 36) 0, s.us⟩
section
variable {C : CT} (hC : Closed Tryz.prog G1 md0 C)
include hC
theorem t173 (l : List Un) (hl : l.length < 2^40) : Ev C 173 [.sl (uns l)] (.ow 4 (uns l)) := by
  have ha : ∀ e ∈ uns l, (e.length == 4) = true := by simp [uns, unA]
  have hb : (uns l).all (fun e => e.length == 4) = true := List.all_eq_true.2 ha
  refine rT hC Q173 ?_ (by simp only [ownR, own_uns])
  simp only [c173, uns_length, push_cast, ↓J1, ↓J2, N1, N2, N3, reduceCtorEq, N4, N5, N6, reduceIte, N7, I1, I2, I3]
  intro b hb0
  cases b
  · simp only [hb, if_true, uns_length, push_cast, ↓J1, ↓J2, N1, N2, N3, reduceCtorEq, N4, N5, N6, reduceIte, N7, I1, I2, I3]
    repeat (refine ⟨by omega, ?_⟩)
    exact RetTo_ow rfl (by rw [uns_length])
  · have := hb0 rfl
    simp only [push_cast, ↓J1, ↓J2, N1, N2, N3, reduceCtorEq, N4, N5, N6, reduceIte, N7, I1, I2, I3]
    exact RetTo_nil (r0 := .nil) (h2 := []) (by simp [conR, isF]) (by rw [this]; exact NilTo_nl)
theorem t97 (s : Sta) (hl : s.us.length < 2^40) : Ev C 97 [.agg (staF s)] (.agg (staO s)) := by
  have c1 := t173 hC s.us hl
  simp only [staF, staO]
  refine rT hC Q97 ?_ (by simp only [ownR, ownRL, own_uns, Bool.and_true])
  simp only [c97, push_cast, ↓J1, ↓J2, N1, N2, N3, reduceCtorEq, N4, N5, N6, reduceIte, N7, I1, I2, I3]
  refine ⟨_, c1, ?_⟩
  simp only [push_cast, ↓J1, ↓J2, N1, N2, N3, reduceCtorEq, N4, N5, N6, reduceIte, N7, I1, I2, I3]
  exact rtA
theorem t90 (s : Sta) (hl : s.us.length < 2^40) : Ev C 90 [.agg (staF s)] (.agg (staO s)) := by
  have hb : (uns s.us).all (fun e => e.length == 4) = true := List.all_eq_true.2 (by simp [uns, unA])
  simp only [staF, staO]
  refine rT hC Q90 ?_ (by simp only [ownR, ownRL, own_uns, Bool.and_true])
  simp only [c90, uns_length, hb, push_cast, ↓J1, ↓J2, N1, N2, N3, reduceCtorEq, N4, N5, N6, reduceIte, N7, I1, I2, I3]
  have tku : List.take s.us.length (uns s.us) = uns s.us := List.take_of_length_le (by rw [uns_length]; omega)
  and_intros
  all_goals first
    | omega
    | skip
  all_goals exact RetTo_of (by simp only [conR, conRL, isF, hget, hdel, List.drop_zero, List.take_length, if_true, if_false, reduceIte, N5, reduceCtorEq, tku]; rfl)
theorem t112 (x : Se) (s : Sta) (seed : Int) (g : gaOk x s = true) : Ev C 112 [seF x, .agg (staF s), .int .i64 seed] (.agg (staO (wSta x s seed))) := by
  have g' := ga_turn g
  have hc : goodW x.c = true := by simp only [gaOk, seOk, Bool.and_eq_true] at g; exact g.1.1.1.1.2
  have hw : inR 0 2 s.w = true := by simp only [gaOk, staOk, staOk0, Bool.and_eq_true] at g; exact g.2.2.1.1.1.2
  have c1 := t97 hC s (by omega)
  have c2 := t180 hC x.c s.w seed s.t hc hw
  simp only [seF, brdF, rulF, mpF, ctF, clA, List.cons_append, List.nil_append, staF, staO, wSta] at *
  refine rT hC Q112 ?_ (by simp only [ownR, ownRL, own_uns, Bool.and_true])
  simp only [c112, push_cast, ↓J1, ↓J2, N1, N2, N3, reduceCtorEq, N4, N5, N6, reduceIte, N7, I1, I2, I3]
  refine ⟨_, c1, ?_⟩
  simp only [push_cast, ↓J1, ↓J2, N1, N2, N3, reduceCtorEq, N4, N5, N6, reduceIte, N7, I1, I2, I3]
  refine ⟨_, c2, ?_⟩
  simp only [push_cast, ↓J1, ↓J2, N1, N2, N3, reduceCtorEq, N4, N5, N6, reduceIte, N7, I1, I2, I3]
  exact rtA
theorem t178n (s : Sta) (hl : s.us.length < 2^40) : Ev C 178 [.agg (staF s), .nil] (.agg (staO s)) := by
  have hb : (uns s.us).all (fun e => e.length == 4) = true := List.all_eq_true.2 (by simp [uns, unA])
  simp only [staF, staO]
  refine rT hC Q178 ?_ (by simp only [ownR, ownRL, own_uns, Bool.and_true])
  simp only [c178, uns_length, hb, push_cast, ↓J1, ↓J2, N1, N2, N3, reduceCtorEq, N4, N5, N6, reduceIte, N7, I1, I2, I3]
  have tku : List.take s.us.length (uns s.us) = uns s.us := List.take_of_length_le (by rw [uns_length]; omega)
  and_intros
  all_goals first
    | omega
    | skip
  all_goals
    refine RL_count (fun i => ⟨tb 33 .any [(4, .ptr 0 none 0 0 0), (5, .ptr 1 none 0 0 0), (17, .nil), (18, .int .i64 0), (19, .int .i64 (i : Int))], [(2, .slice 4 (uns s.us)), (1, .var [.int .i64 s.t, .int .i64 s.w, .ref 2 none 4 0 s.us.length]), (0, .var [.int .i64 0, .int .i64 0, .nil])], 3⟩) (fun _ => True) 0 0 ?_ (by omega) trivial ?_
    · first | exact (hdA [(4, 2), (2, 1), (1, 0)]) | exact (hdA [(4, 2), (3, 1), (1, 0)]) | exact (hdA [(3, 2), (4, 1), (1, 0)])
    intro i hi _ J hJ
    obtain rfl : i = 0 := by omega
    simp only [decide_false, push_cast, ↓J1, ↓J2, N1, N2, N3, reduceCtorEq, N4, N5, N6, reduceIte, N7, I1, I2, I3]
    exact RetTo_of (by simp only [conR, conRL, isF, hget, hdel, List.drop_zero, List.take_length, if_true, if_false, reduceIte, N5, reduceCtorEq, tku]; rfl)
theorem t110 (x : Se) (s : Sta) (seed : Int) (g : gaOk x s = true) : Ev C 110 [seF x, .agg (staF s), .int .i64 seed] (.agg (staO (wSta x s seed))) := by
  have g' := ga_turn g
  have hc : goodW x.c = true := by simp only [gaOk, seOk, Bool.and_eq_true] at g; exact g.1.1.1.1.2
  have hw : inR 0 2 s.w = true := by simp only [gaOk, staOk, staOk0, Bool.and_eq_true] at g; exact g.2.2.1.1.1.2
  have c1 := t178n hC s (by omega)
  have c2 := t179 hC x.c s.w seed s.t hc hw
  simp only [seF, brdF, rulF, mpF, ctF, clA, List.cons_append, List.nil_append, staF, staO, wSta] at *
  refine rT hC Q110 ?_ (by simp only [ownR, ownRL, own_uns, Bool.and_true])
  simp only [c110, push_cast, ↓J1, ↓J2, N1, N2, N3, reduceCtorEq, N4, N5, N6, reduceIte, N7, I1, I2, I3]
  refine ⟨_, c1, ?_⟩
  simp only [push_cast, ↓J1, ↓J2, N1, N2, N3, reduceCtorEq, N4, N5, N6, reduceIte, N7, I1, I2, I3]
  refine ⟨_, c2, ?_⟩
  simp only [push_cast, ↓J1, ↓J2, N1, N2, N3, reduceCtorEq, N4, N5, N6, reduceIte, N7, I1, I2, I3]
  exact rtA
theorem t45 (x : Se) (s : Sta) (seed : Int) (hb : SeB (2^50) x) (hl : s.us.length < 2^40) : Ev C 45 [seF x, .agg (staF s), .int .i64 seed] (.tup [.agg (staO (if gaOk x s && inR 0 4611686016279904236 seed then wSta x s seed else sta0)), .bool (gaOk x s && inR 0 4611686016279904236 seed)]) := by
  have c1 := t81 hC x s hb hl
  have c3 := t111 hC seed
  have c2 := fun g => t112 hC x s seed g
  simp only [seF, brdF, rulF, mpF, ctF, clA, List.cons_append, List.nil_append, staF, staO, wSta] at *
  refine rT hC Q45 ?_ (by simp only [ownR, ownRL, own_uns, Bool.and_true])
  simp only [c45, push_cast, ↓J1, ↓J2, N1, N2, N3, reduceCtorEq, N4, N5, N6, reduceIte, N7, I1, I2, I3]
  refine ⟨_, c1, ?_⟩
  cases g1 : gaOk x s
  · simp only [Bool.false_and, Bool.false_eq_true, if_false, push_cast, ↓J1, ↓J2, N1, N2, N3, reduceCtorEq, N4, N5, N6, reduceIte, N7, I1, I2, I3]
    exact RetTo_nil (h2 := _) (by simp only [conR, conRL, isF, hget, hdel, List.drop_zero, List.take_length, if_true, if_false, reduceIte, N5, reduceCtorEq]; rfl) (NilTo_tup (NilToL_cons (NilTo_agg nil_sta) (NilToL_cons (NilTo.refl _) NilToL_nil)))
  simp only [push_cast, ↓J1, ↓J2, N1, N2, N3, reduceCtorEq, N4, N5, N6, reduceIte, N7, I1, I2, I3]
  refine ⟨_, c3, ?_⟩
  cases g2 : inR 0 4611686016279904236 seed
  · simp only [Bool.and_false, Bool.false_eq_true, if_false, push_cast, ↓J1, ↓J2, N1, N2, N3, reduceCtorEq, N4, N5, N6, reduceIte, N7, I1, I2, I3]
    exact RetTo_nil (h2 := _) (by simp only [conR, conRL, isF, hget, hdel, List.drop_zero, List.take_length, if_true, if_false, reduceIte, N5, reduceCtorEq]; rfl) (NilTo_tup (NilToL_cons (NilTo_agg nil_sta) (NilToL_cons (NilTo.refl _) NilToL_nil)))
  simp only [push_cast, ↓J1, ↓J2, N1, N2, N3, reduceCtorEq, N4, N5, N6, reduceIte, N7, I1, I2, I3]
  refine ⟨_, c2 g1, ?_⟩
  simp only [Bool.and_self, if_true, push_cast, ↓J1, ↓J2, N1, N2, N3, reduceCtorEq, N4, N5, N6, reduceIte, N7, I1, I2, I3]
  exact rtA
theorem t44 (x : Se) (s : Sta) (seed : Int) (hb : SeB (2^50) x) (hl : s.us.length < 2^40) : Ev C 44 [seF x, .agg (staF s), .int .i64 seed] (.tup [.agg (staO (if gaOk x s && inR 0 4611686016279904236 seed then wSta x s seed else sta0)), .bool (gaOk x s && inR 0 4611686016279904236 seed)]) := by
  have c1 := t76 hC x s seed hb hl
  have c2 := fun g => t110 hC x s seed g
  simp only [seF, brdF, rulF, mpF, ctF, clA, List.cons_append, List.nil_append, staF, staO, wSta] at *
  refine rT hC Q44 ?_ (by simp only [ownR, ownRL, own_uns, Bool.and_true])
  simp only [c44, push_cast, ↓J1, ↓J2, N1, N2, N3, reduceCtorEq, N4, N5, N6, reduceIte, N7, I1, I2, I3]
  refine ⟨_, c1, ?_⟩
  cases g1 : gaOk x s && inR 0 4611686016279904236 seed
  · simp only [Bool.false_eq_true, if_false, push_cast, ↓J1, ↓J2, N1, N2, N3, reduceCtorEq, N4, N5, N6, reduceIte, N7, I1, I2, I3]
    exact RetTo_nil (h2 := _) (by simp only [conR, conRL, isF, hget, hdel, List.drop_zero, List.take_length, if_true, if_false, reduceIte, N5, reduceCtorEq]; rfl) (NilTo_tup (NilToL_cons (NilTo_agg nil_sta) (NilToL_cons (NilTo.refl _) NilToL_nil)))
  simp only [push_cast, ↓J1, ↓J2, N1, N2, N3, reduceCtorEq, N4, N5, N6, reduceIte, N7, I1, I2, I3]
  refine ⟨_, c2 (by simp only [Bool.and_eq_true] at g1; exact g1.1), ?_⟩
  simp only [if_true, push_cast, ↓J1, ↓J2, N1, N2, N3, reduceCtorEq, N4, N5, N6, reduceIte, N7, I1, I2, I3]
  exact rtA
end
end Go.Proofs.YtjaccjeejeiphaaGreatDoor.X
set_option maxHeartbeats 4000000
set_option maxRecDepth 8000
set_option linter.unusedSimpArgs false
set_option linter.unusedVariables false
open Nat renaming reduceBEq → N1, reduceAdd → N2, reduceSub → N3, reduceMul → N4, reduceEqDiff → N5, reduceLeDiff → N6, reduceLT → N7
open Int renaming reduceLE → I1, reduceLT → I2, reduceToNat → I3
namespace Go.Proofs.YtjaccjeejeiphaaGreatDoor.X
open Go
attribute [local irreducible] Ev
section
variable {C : CT} (hC : Closed Tryz.prog G1 md0 C)
include hC
theorem t3 (b : Brd) (s : Sta) (x : Wk) (hb : BrdB (2^50) b) (hs : s.us.length < 2^50) (hx : x.q.length < 2^50) : Ev C 3 [brdF b, .agg (staF s), .agg (wkF x)] (.bool true) := by
  have z0 := fun p => t15 hC b 1048576 p hb
  have z1 := fun p => t16 hC s (szBrd b 1048576) p hs
  have z2 := fun p => t17 hC x (sub1 (szBrd b 1048576) s.us.length) p hx
  have d0 := fun Hb => t19 hC b Hb
  have e0 := t23 hC b b hb hb
  have d1 := fun Hs => t20 hC s Hs
  have e1 := t24 hC s s hs hs
  have d2 := fun Hx => t21 hC x Hx
  have e2 := t25 hC x x hx hx
  have f1 := fun (Hb : BrdB (2^30) b) (Hs : s.us.length < 2^30) (Hx : x.q.length < 2^30) => t18 hC b s x hb (by omega) hx
  have f2 := fun (Hb : BrdB (2^30) b) (Hs : s.us.length < 2^30) (Hx : x.q.length < 2^30) => t22 hC b s x hb (by omega) hx
  simp only [brdO, rulO, mpO, brdF, rulF, mpF, szSta, staF, staO, szWk, wkF, wkO, List.cons_append, List.nil_append, List.append_assoc, decide_true] at *
  refine rT hC Q3 ?_
  simp only [c3, push_cast, ↓J1, ↓J2, N1, N2, N3, reduceCtorEq, N4, N5, N6, reduceIte, N7, I1, I2, I3]
  refine ⟨_, z0 (by omega), ?_⟩
  simp only [push_cast, ↓J1, ↓J2, N1, N2, N3, reduceCtorEq, N4, N5, N6, reduceIte, N7, I1, I2, I3]
  refine ifB_intro (fun h => trivial) (fun h => ?_)
  have n0 := of_decide_eq_false h
  clear h
  have l0 := szBrd_le (b := b) (v := 1048576) (by omega) (by omega)
  have Hb : BrdB (2^30) b := (szBrd_pos (by omega)).mono (by omega)
  refine ⟨_, z1 (by omega), ?_⟩
  simp only [push_cast, ↓J1, ↓J2, N1, N2, N3, reduceCtorEq, N4, N5, N6, reduceIte, N7, I1, I2, I3]
  refine ifB_intro (fun h => trivial) (fun h => ?_)
  have n1 := of_decide_eq_false h
  clear h
  have l1 := sub1_le (v := (szBrd b 1048576)) (n := s.us.length) (by omega)
  have Hs : s.us.length < 2^30 := by have := sub1_pos (v := (szBrd b 1048576)) (n := s.us.length) (by omega); omega
  refine ⟨_, z2 (by omega), ?_⟩
  simp only [push_cast, ↓J1, ↓J2, N1, N2, N3, reduceCtorEq, N4, N5, N6, reduceIte, N7, I1, I2, I3]
  refine ifB_intro (fun h => trivial) (fun h => ?_)
  have n2 := of_decide_eq_false h
  clear h
  have l2 := sub1_le (v := (sub1 (szBrd b 1048576) s.us.length)) (n := x.q.length) (by omega)
  have Hx : x.q.length < 2^30 := by have := sub1_pos (v := (sub1 (szBrd b 1048576) s.us.length)) (n := x.q.length) (by omega); omega
  repeat' (first
    | simp only [frzLL_ints, frzLL_ters, frzLL_kins, frzLL_uns, push_cast, ↓J1, ↓J2, N1, N2, N3, reduceCtorEq, N4, N5, N6, reduceIte, N7, I1, I2, I3]
    | refine ⟨_, d0 Hb, ?_⟩
    | refine ⟨_, e0, ?_⟩
    | refine ⟨_, d1 Hs, ?_⟩
    | refine ⟨_, e1, ?_⟩
    | refine ⟨_, d2 Hx, ?_⟩
    | refine ⟨_, e2, ?_⟩
    | refine ⟨_, f1 Hb Hs Hx, ?_⟩
    | refine ⟨_, f2 Hb Hs Hx, ?_⟩
    | refine ifB_intro (fun h => ?_) (fun h => ?_))
end
end Go.Proofs.YtjaccjeejeiphaaGreatDoor.X
set_option maxHeartbeats 2000000
set_option maxRecDepth 8000
set_option linter.unusedSimpArgs false
set_option linter.unusedVariables false
open Nat renaming reduceBEq → N1, reduceAdd → N2, reduceSub → N3, reduceMul → N4, reduceEqDiff → N5, reduceLeDiff → N6, reduceLT → N7
open Int renaming reduceLE → I1, reduceLT → I2, reduceToNat → I3
namespace Go.Proofs.YtjaccjeejeiphaaGreatDoor.X
open Go
attribute [local irreducible] Ev szSS szRows
theorem ints_snoc {l : List Int} {x : Int} : ints l ++ [[.int .i64 x]] = ints (l ++ [x]) := by simp [ints]
theorem allScs_ints (l : List Int) : allScs (ints l) = true := by
  unfold ints
  induction l with
  | nil => rfl
  | cons x l ih => simp only [List.map_cons, allScs, allSc, isSc, Bool.and_true, Bool.true_and]; exact ih
def wAt (W : List (List Int)) (w seed : Int) : Nat → Int
  | 0 => w
  | i + 1 => nextS (rowAt W (wAt W w seed i)) (belowOf seed i 36) 0
def wOut (W : List (List Int)) (w seed : Int) : Nat → List Int
  | 0 => []
  | i + 1 => wOut W w seed i ++ [wAt W w seed (i + 1)]
theorem wOut_length (W : List (List Int)) (w seed : Int) : ∀ i, (wOut W w seed i).length = i
  | 0 => rfl
  | i + 1 => by simp [wOut, wOut_length W w seed i]
theorem wAt_in {W : List (List Int)} {w seed : Int} (hg : goodW W = true) (hw : inR 0 2 w = true) : ∀ i, inR 0 2 (wAt W w seed i) = true
  | 0 => hw
  | i + 1 => by
    obtain ⟨_, _, a, b, c, hra, _⟩ := rowAt_some hg (wAt_in hg hw i)
    rw [wAt, hra]
    simp only [nextS]
    split
    · rfl
    · split
      · rfl
      · split <;> rfl
def askWF (W : List (List Int)) (w seed n : Int) : Bool := goodW W && inR 0 2 w && inR 0 4611686016279904236 seed && inR 0 30 n
def resWF (W : List (List Int)) (w seed n : Int) : List Int := if askWF W w seed n then wOut W w seed n.toNat else []
theorem resWF_length (W : List (List Int)) (w seed n : Int) : (resWF W w seed n).length ≤ 1000 := by
  unfold resWF
  split
  · rename_i h
    simp only [askWF, inR, Bool.and_eq_true, decide_eq_true_eq] at h
    rw [wOut_length]; omega
  · simp
section
variable {C : CT} (hC : Closed Tryz.prog G1 md0 C)
include hC
end
end Go.Proofs.YtjaccjeejeiphaaGreatDoor.X
set_option maxHeartbeats 2000000
set_option maxRecDepth 8000
set_option linter.unusedSimpArgs false
set_option linter.unusedVariables false
open Nat renaming reduceBEq → N1, reduceAdd → N2, reduceSub → N3, reduceMul → N4, reduceEqDiff → N5, reduceLeDiff → N6, reduceLT → N7
open Int renaming reduceLE → I1, reduceLT → I2, reduceToNat → I3
namespace Go.Proofs.YtjaccjeejeiphaaGreatDoor.X
open Go
attribute [local irreducible] Ev szSS szRows
def lkS (W : List (List Int)) (l : List Int) : Nat → Int
  | 0 => 1
  | i + 1 => w64 (lkS W l i * (W.getD (l.getD i 0).toNat []).getD (l.getD (i + 1) 0).toNat 0)
def digs (n : Nat) (code : Int) : Nat → List Int × Int
  | 0 => (List.replicate n 0, code)
  | j + 1 => ((digs n code j).1.set (n - 1 - j) ((digs n code j).2.tmod 3), (digs n code j).2.tdiv 3)
theorem digs_length (n : Nat) (code : Int) : ∀ j, (digs n code j).1.length = n
  | 0 => by simp [digs]
  | j + 1 => by simp [digs, digs_length n code j]
theorem digs_in (n : Nat) (code : Int) (h0 : 0 ≤ code ∧ code < 2^30) : ∀ j, (0 ≤ (digs n code j).2 ∧ (digs n code j).2 < 2^30) ∧ ∀ x ∈ (digs n code j).1, inR 0 2 x = true
  | 0 => ⟨h0, by intro x hx; simp [digs] at hx; rw [hx.2]; rfl⟩
  | j + 1 => by
    obtain ⟨h1, h2⟩ := digs_in n code h0 j
    have h3 := Int.tmod_lt_of_pos (digs n code j).2 (show (0 : Int) < 3 by omega)
    have h4 := Int.tmod_nonneg 3 h1.1
    have h5 := Int.tdiv_nonneg h1.1 (show (0 : Int) ≤ 3 by omega)
    have h6 := Int.tdiv_le_self (b := 3) h1.1
    refine ⟨⟨h5, by simp only [digs]; omega⟩, fun x hx => ?_⟩
    simp only [digs] at hx
    rcases List.mem_or_eq_of_mem_set hx with hx | rfl
    · exact h2 x hx
    · simp only [inR, Bool.and_eq_true, decide_eq_true_eq]; omega
def dg (n : Nat) (m : Nat) : List Int := (digs n (m : Int) n).1
def bst (W : List (List Int)) (w : Int) (n : Nat) : Nat → List Int × Int
  | 0 => ([], -1)
  | m + 1 => if (bst W w n m).2 < lkS W (w :: dg n m) n then (dg n m, lkS W (w :: dg n m) n) else bst W w n m
theorem bst_length (W : List (List Int)) (w : Int) (n : Nat) : ∀ m, (bst W w n m).1.length ≤ n
  | 0 => by simp [bst]
  | m + 1 => by
    rw [bst]
    split
    · simp only [dg, digs_length]; omega
    · exact bst_length W w n m
theorem ints_cons {w : Int} {l : List Int} : [AV.int .i64 w] :: ints l = ints (w :: l) := rfl
theorem ints_rep {n : Nat} : List.replicate n [AV.int .i64 0] = ints (List.replicate n 0) := by simp [ints]
theorem RetTo_no {h : Heap} : RetTo h .nil (.ow 1 []) := ⟨.nil, h, by simp [conR, isF], by simp [NilTo]⟩
def pw (i : Nat) : Nat := 3 ^ i
theorem pw_succ (i : Nat) : pw (i + 1) = pw i * 3 := Nat.pow_succ 3 i
theorem pow3 {i : Nat} (h : i ≤ 6) : pw i ≤ 729 := Nat.pow_le_pow_right (show 0 < 3 by omega) h
section
variable {C : CT} (hC : Closed Tryz.prog G1 md0 C)
include hC
theorem t136 (l : List Int) (hl : l.length < 2^30) : Ev C 136 [.sl (ints l)] (.ow 1 (ints l)) := by
  refine rT hC Q136 ?_ (own_ints l)
  simp only [c136, push_cast, ↓J1, ↓J2, N1, N2, N3, reduceCtorEq, N4, N5, N6, reduceIte, N7, I1, I2, I3]
  intro b hb
  refine ifB_intro (fun h => ?_) (fun h => ?_)
  · have := hb h
    rw [this]
    exact RetTo_no
  · have e : ((ints l).all fun e => e.length == 1) = true := by simp [ints]
    simp only [e, ints_length, Nat.zero_add, push_cast, ↓J1, ↓J2, N1, N2, N3, reduceCtorEq, N4, N5, N6, reduceIte, N7, I1, I2, I3]
    refine ⟨by omega, ?_⟩
    exact RetTo_ow (by simp [hget]) (by rw [ints_length])

omit hC in
theorem ppp : True := trivial
def askML (W : List (List Int)) (w n : Int) : Bool := goodW W && inR 0 2 w && inR 0 6 n
def resML (W : List (List Int)) (w n : Int) : List Int := if askML W w n then (bst W w n.toNat (pw n.toNat)).1 else []
omit hC in
theorem resML_length (W : List (List Int)) (w n : Int) : (resML W w n).length ≤ 6 := by
  unfold resML
  split
  · rename_i h
    simp only [askML, inR, Bool.and_eq_true, decide_eq_true_eq] at h
    have := bst_length W w n.toNat (pw n.toNat)
    omega
  · simp
end
end Go.Proofs.YtjaccjeejeiphaaGreatDoor.X
set_option maxHeartbeats 1000000
set_option maxRecDepth 8000
set_option linter.unusedSimpArgs false
set_option linter.unusedVariables false
open Nat renaming reduceBEq → N1, reduceAdd → N2, reduceSub → N3, reduceMul → N4, reduceEqDiff → N5, reduceLeDiff → N6, reduceLT → N7
open Int renaming reduceLE → I1, reduceLT → I2, reduceToNat → I3
namespace Go.Proofs.YtjaccjeejeiphaaGreatDoor.X
open Go
attribute [local irreducible] Ev
def wk0 : Wk := ⟨0, 0, 0, []⟩
theorem nil_wk : NilToL [.int .i64 0, .int .i64 0, .int .i64 0, .nil] (wkO wk0) := NilToL_cons (NilTo.refl _) (NilToL_cons (NilTo.refl _) (NilToL_cons (NilTo.refl _) (NilToL_cons NilTo_nl NilToL_nil)))
theorem own_uns' (l : List Un) : ownR (.ow 4 (uns l)) = true := by simp only [ownR, own_uns]
theorem own_ints' (l : List Int) : ownR (.ow 1 (ints l)) = true := by simp only [own_ints]
def dUX (b : Brd) (u : Un) (x : Wk) : Int := distI (u.at_.tmod b.m.w) (u.at_.tdiv b.m.w) (x.at_.tmod b.m.w) (x.at_.tdiv b.m.w)
def rsOk (b : Brd) (s : Sta) (x : Wk) (u : Int) : Bool := prOk b s x && hurt b s u && decide ((unOf s u).sd = x.sd) && !inZon b s (1 - x.sd) (unOf s u).at_ && !decide (x.pt < (kindOf b (unOf s u).k).st) && !decide (b.r.supply < dUX b (unOf s u) x)
def rsS (s : Sta) (k : Nat) : Sta := ⟨s.t, s.w, s.us.set k ⟨(unOf s k).sd, (unOf s k).k, (unOf s k).at_, (unOf s k).st + 1⟩⟩
def rsW (b : Brd) (s : Sta) (x : Wk) (u : Int) : Wk := ⟨x.sd, x.at_, x.pt - (kindOf b (unOf s u).k).st, x.q⟩
theorem uns_set {s : Sta} {k : Nat} {a b c d : Int} : (uns s.us).set k [.int .i64 a, .int .i64 b, .int .i64 c, .int .i64 d] = uns (s.us.set k ⟨a, b, c, d⟩) := by
  simp only [uns, List.map_set, unA]
theorem own_wk (x : Wk) : ownR (.agg (wkO x)) = true := by
  have h := own_ints x.q
  simp only [ownR] at h
  simp only [wkO, ownR, ownRL, h, Bool.and_true]
theorem pos_bnd {w h i : Int} (h1 : 1 ≤ w ∧ w ≤ 10) (h2 : 1 ≤ h ∧ h ≤ 10) (hi : 0 ≤ i ∧ i < 300) : (0 ≤ i.tmod w ∧ i.tmod w < 10) ∧ 0 ≤ i.tdiv w ∧ i.tdiv w ≤ 300 := by
  have a1 := Int.tmod_nonneg w hi.1
  have a2 := Int.tmod_lt_of_pos i (show 0 < w by omega)
  have a3 := Int.tdiv_nonneg hi.1 (show 0 ≤ w by omega)
  have a4 := Int.tdiv_le_self (a := i) (b := w) hi.1
  omega
section
variable {C : CT} (hC : Closed Tryz.prog G1 md0 C)
include hC
theorem t171 (n : Int) (h : -2000 ≤ n ∧ n ≤ 2000) : Ev C 171 [.int .i64 n] (.int .i64 (absI n)) := by
  refine rT hC Q171 ?_
  simp only [c171, push_cast, ↓J1, ↓J2, N1, N2, N3, reduceCtorEq, N4, N5, N6, reduceIte, N7, I1, I2, I3]
  cases g : decide (n < 0)
  · have h1 := of_decide_eq_false g
    simp only [absI, if_neg h1, push_cast, ↓J1, ↓J2, N1, N2, N3, reduceCtorEq, N4, N5, N6, reduceIte, N7, I1, I2, I3]
  · have h1 := of_decide_eq_true g
    simp only [absI, if_pos h1, push_cast, ↓J1, ↓J2, N1, N2, N3, reduceCtorEq, N4, N5, N6, reduceIte, N7, I1, I2, I3]
    rw [wrap64 (n := 0 - n) (by omega) (by omega)]; rw [Int.zero_sub]
theorem t221 (a b : Int) : Ev C 221 [.int .i64 a, .int .i64 b] (.int .i64 (if b < a then a else b)) := by
  refine rT hC Q221 ?_
  simp only [c221, push_cast, ↓J1, ↓J2, N1, N2, N3, reduceCtorEq, N4, N5, N6, reduceIte, N7, I1, I2, I3]
  cases g : decide (b < a)
  · have h1 := of_decide_eq_false g
    simp only [if_neg h1, push_cast, ↓J1, ↓J2, N1, N2, N3, reduceCtorEq, N4, N5, N6, reduceIte, N7, I1, I2, I3]
  · have h1 := of_decide_eq_true g
    simp only [if_pos h1, push_cast, ↓J1, ↓J2, N1, N2, N3, reduceCtorEq, N4, N5, N6, reduceIte, N7, I1, I2, I3]
theorem t164 (n : Int) (h : -2000 ≤ n ∧ n ≤ 2000) : Ev C 164 [.int .i64 n] (.int .i64 (absI n)) := by
  have c1 := t221 hC n (-n)
  rw [show (if -n < n then n else -n) = absI n by simp only [absI]; split <;> split <;> omega] at c1
  refine rT hC Q164 ?_
  simp only [c164, push_cast, ↓J1, ↓J2, N1, N2, N3, reduceCtorEq, N4, N5, N6, reduceIte, N7, I1, I2, I3]
  rw [wrap64 (n := 0 - n) (by omega) (by omega), Int.zero_sub]
  refine ⟨_, c1, ?_⟩
  simp only [push_cast, ↓J1, ↓J2, N1, N2, N3, reduceCtorEq, N4, N5, N6, reduceIte, N7, I1, I2, I3]
theorem t94 (q1 r1 q2 r2 : Int) (h1 : (0 ≤ q1 ∧ q1 < 10) ∧ 0 ≤ r1 ∧ r1 ≤ 300) (h2 : (0 ≤ q2 ∧ q2 < 10) ∧ 0 ≤ r2 ∧ r2 ≤ 300) : Ev C 94 [.agg [.int .i64 q1, .int .i64 r1], .agg [.int .i64 q2, .int .i64 r2]] (.int .i64 (distI q1 r1 q2 r2)) := by
  have c1 := t171 hC (q2 - q1) (by omega)
  have c2 := t171 hC (r2 - r1) (by omega)
  have c3 := t171 hC (q2 - q1 + (r2 - r1)) (by omega)
  have b1 := absI_bnd (n := q2 - q1) (B := 2000) (by omega)
  have b2 := absI_bnd (n := r2 - r1) (B := 2000) (by omega)
  have b3 := absI_bnd (n := q2 - q1 + (r2 - r1)) (B := 2000) (by omega)
  refine rT hC Q94 ?_
  simp only [c94, push_cast, ↓J1, ↓J2, N1, N2, N3, reduceCtorEq, N4, N5, N6, reduceIte, N7, I1, I2, I3]
  rw [wrap64 (n := q2 - q1) (by omega) (by omega), wrap64 (n := r2 - r1) (by omega) (by omega)]
  refine ⟨_, c1, ?_⟩
  simp only [push_cast, ↓J1, ↓J2, N1, N2, N3, reduceCtorEq, N4, N5, N6, reduceIte, N7, I1, I2, I3]
  refine ⟨_, c2, ?_⟩
  simp only [push_cast, ↓J1, ↓J2, N1, N2, N3, reduceCtorEq, N4, N5, N6, reduceIte, N7, I1, I2, I3]
  rw [wrap64 (n := q2 - q1 + (r2 - r1)) (by omega) (by omega)]
  refine ⟨_, c3, ?_⟩
  simp only [push_cast, ↓J1, ↓J2, N1, N2, N3, reduceCtorEq, N4, N5, N6, reduceIte, N7, I1, I2, I3]
  rw [wrap64 (n := absI (q2 - q1) + absI (r2 - r1)) (by omega) (by omega), wrap64 (n := absI (q2 - q1) + absI (r2 - r1) + absI (q2 - q1 + (r2 - r1))) (by omega) (by omega)]
  have hb : 0 ≤ distI q1 r1 q2 r2 ∧ distI q1 r1 q2 r2 ≤ 6000 := by
    have := Int.tdiv_nonneg (a := absI (q2 - q1) + absI (r2 - r1) + absI (q2 - q1 + (r2 - r1))) (b := 2) (by omega) (by omega)
    have := Int.tdiv_le_self (a := absI (q2 - q1) + absI (r2 - r1) + absI (q2 - q1 + (r2 - r1))) (b := 2) (by omega)
    simp only [distI]; omega
  simp only [distI] at *
  try rw [wrap64 (n := (absI (q2 - q1) + absI (r2 - r1) + absI (q2 - q1 + (r2 - r1))).tdiv 2) (by omega) (by omega)]
  exact ⟨by omega, rfl⟩
theorem t88 (q1 r1 q2 r2 : Int) (h1 : (0 ≤ q1 ∧ q1 < 10) ∧ 0 ≤ r1 ∧ r1 ≤ 300) (h2 : (0 ≤ q2 ∧ q2 < 10) ∧ 0 ≤ r2 ∧ r2 ≤ 300) : Ev C 88 [.agg [.int .i64 q1, .int .i64 r1], .agg [.int .i64 q2, .int .i64 r2]] (.int .i64 (distI q1 r1 q2 r2)) := by
  have c1 := t164 hC (q2 - q1) (by omega)
  have c2 := t164 hC (r2 - r1) (by omega)
  have c3 := t164 hC (q2 - q1 + (r2 - r1)) (by omega)
  have b1 := absI_bnd (n := q2 - q1) (B := 2000) (by omega)
  have b2 := absI_bnd (n := r2 - r1) (B := 2000) (by omega)
  have b3 := absI_bnd (n := q2 - q1 + (r2 - r1)) (B := 2000) (by omega)
  refine rT hC Q88 ?_
  simp only [c88, push_cast, ↓J1, ↓J2, N1, N2, N3, reduceCtorEq, N4, N5, N6, reduceIte, N7, I1, I2, I3]
  rw [wrap64 (n := q2 - q1) (by omega) (by omega), wrap64 (n := r2 - r1) (by omega) (by omega)]
  refine ⟨_, c1, ?_⟩
  simp only [push_cast, ↓J1, ↓J2, N1, N2, N3, reduceCtorEq, N4, N5, N6, reduceIte, N7, I1, I2, I3]
  refine ⟨_, c2, ?_⟩
  simp only [push_cast, ↓J1, ↓J2, N1, N2, N3, reduceCtorEq, N4, N5, N6, reduceIte, N7, I1, I2, I3]
  rw [wrap64 (n := q2 - q1 + (r2 - r1)) (by omega) (by omega)]
  refine ⟨_, c3, ?_⟩
  simp only [push_cast, ↓J1, ↓J2, N1, N2, N3, reduceCtorEq, N4, N5, N6, reduceIte, N7, I1, I2, I3]
  rw [wrap64 (n := absI (q2 - q1) + absI (r2 - r1)) (by omega) (by omega), wrap64 (n := absI (q2 - q1) + absI (r2 - r1) + absI (q2 - q1 + (r2 - r1))) (by omega) (by omega)]
  have hb : 0 ≤ distI q1 r1 q2 r2 ∧ distI q1 r1 q2 r2 ≤ 6000 := by
    have := Int.tdiv_nonneg (a := absI (q2 - q1) + absI (r2 - r1) + absI (q2 - q1 + (r2 - r1))) (b := 2) (by omega) (by omega)
    have := Int.tdiv_le_self (a := absI (q2 - q1) + absI (r2 - r1) + absI (q2 - q1 + (r2 - r1))) (b := 2) (by omega)
    simp only [distI]; omega
  simp only [distI] at *
  try rw [wrap64 (n := (absI (q2 - q1) + absI (r2 - r1) + absI (q2 - q1 + (r2 - r1))).tdiv 2) (by omega) (by omega)]
  exact ⟨by omega, rfl⟩
theorem t98 (x : Wk) (hq : x.q.length < 2^30) : Ev C 98 [.agg (wkF x)] (.agg (wkO x)) := by
  have c1 := t136 hC x.q hq
  simp only [wkF, wkO]
  refine rT hC Q98 ?_ (own_wk x)
  simp only [c98, push_cast, ↓J1, ↓J2, N1, N2, N3, reduceCtorEq, N4, N5, N6, reduceIte, N7, I1, I2, I3]
  refine ⟨_, c1, ?_⟩
  simp only [push_cast, ↓J1, ↓J2, N1, N2, N3, reduceCtorEq, N4, N5, N6, reduceIte, N7, I1, I2, I3]
  exact rtA
theorem t165o (q : List Int) (hq : q.length < 2^30) : Ev C 165 [.sl (ints q)] (.ow 1 (ints q)) := by
  have hb : (ints q).all (fun e => e.length == 1) = true := List.all_eq_true.2 (by simp [ints])
  refine rT hC Q165 ?_ (by simp only [own_ints])
  simp only [c165, ints_length, hb, push_cast, ↓J1, ↓J2, N1, N2, N3, reduceCtorEq, N4, N5, N6, reduceIte, N7, I1, I2, I3]
  have tku : List.take q.length (ints q) = ints q := List.take_of_length_le (by rw [ints_length]; omega)
  and_intros
  all_goals first
    | omega
    | skip
  all_goals exact RetTo_of (by simp only [conR, conRL, isF, hget, hdel, List.drop_zero, List.take_length, if_true, if_false, reduceIte, N5, reduceCtorEq, tku]; rfl)
theorem t91 (x : Wk) (hq : x.q.length < 2^30) : Ev C 91 [.agg (wkF x)] (.agg (wkO x)) := by
  have c1 := t165o hC x.q hq
  simp only [wkF, wkO]
  refine rT hC Q91 ?_ (own_wk x)
  simp only [c91, push_cast, ↓J1, ↓J2, N1, N2, N3, reduceCtorEq, N4, N5, N6, reduceIte, N7, I1, I2, I3]
  refine ⟨_, c1, ?_⟩
  simp only [push_cast, ↓J1, ↓J2, N1, N2, N3, reduceCtorEq, N4, N5, N6, reduceIte, N7, I1, I2, I3]
  exact rtA
end
end Go.Proofs.YtjaccjeejeiphaaGreatDoor.X
set_option maxHeartbeats 4000000
set_option maxRecDepth 8000
set_option linter.unusedSimpArgs false
set_option linter.unusedVariables false
open Nat renaming reduceBEq → N1, reduceAdd → N2, reduceSub → N3, reduceMul → N4, reduceEqDiff → N5, reduceLeDiff → N6, reduceLT → N7
open Int renaming reduceLE → I1, reduceLT → I2, reduceToNat → I3
namespace Go.Proofs.YtjaccjeejeiphaaGreatDoor.X
open Go
attribute [local irreducible] Ev
theorem usl_get {us : List Un} {k : Nat} (h : k < us.length) : (uns us)[k]? = some (unA (us.getD k un0)) := by
  simp [uns, List.getD, h]
theorem usl_set {us : List Un} {k : Nat} {a b c d : Int} : (uns us).set k [.int .i64 a, .int .i64 b, .int .i64 c, .int .i64 d] = uns (us.set k ⟨a, b, c, d⟩) := by
  simp [uns, List.map_set, unA]
theorem hset_cons {n id : Nat} {o u : Ob} {h : Heap} (hne : n ≠ id) : hset ((n, o) :: h) id u = (n, o) :: hset h id u := by
  simp only [hset, if_neg hne]
theorem hget_cons {n id : Nat} {o : Ob} {h : Heap} (hne : n ≠ id) : hget ((n, o) :: h) id = hget h id := by
  simp only [hget, if_neg hne]
section
variable {C : CT} (hC : Closed Tryz.prog G1 md0 C)
include hC
theorem t247 (t w : Int) (us : List Un) (k : Nat) (h : Heap) (id n : Nat) (hk : k < us.length) (hu : us.length < 2^40) (hg : hget h id = some (.slice 4 (uns us))) (hb : below n h) (hs : solid h) (h0 : 0 ≤ (us.getD k un0).st ∧ (us.getD k un0).st ≤ 4) : C 247 [.agg [.int .i64 t, .int .i64 w, .ref id none 4 0 us.length], .int .i64 (k : Int), .int .i64 1] h n (fun v h' n' => v = .tup [] ∧ n' = n + 1 ∧ h' = (n, .var [.int .i64 t, .int .i64 w, .ref id none 4 0 us.length]) :: hset h id (.slice 4 (uns (loseK us k 1)))) := by
  have hid := below_lt hb hg
  have hne : n ≠ id := by omega
  have e1 := usl_get hk
  simp only [loseK]
  generalize us.getD k un0 = u at *
  have en : (n = id) = False := eq_false hne
  have hks : killH h = h := hs
  have sl : ∀ (v : List AV), (((uns us).set k v).length = us.length) := fun v => by rw [List.length_set, uns_length]
  have sg : ∀ (v : List AV), ((uns us).set k v)[k]? = some v := fun v => by rw [List.getElem?_set_self (by rw [uns_length]; exact hk)]
  have w1 : IntKind.i64.wrap (u.st - 1) = u.st - 1 := wrap64 (by omega) (by omega)
  have hgs : ∀ ob, hget (hset h id ob) id = some ob := fun ob => hget_same hg
  have hks2 : ∀ es, killH (hset h id (.slice 4 es)) = hset h id (.slice 4 es) := fun es => solid_set hs
  refine Closed.rT hC Q247 ?_
  simp only [c247, hid, push_cast, ↓J1, ↓J2, N1, N2, N3, reduceCtorEq, N4, N5, N6, reduceIte, N7, I1, I2, I3]
  repeat' (first
    | simp only [en, if_false, hg, hgs, hset_hset, e1, sg, sl, List.set_set, unA, uns_length, Int.toNat_natCast, w1, hks, hks2, hid, push_cast, ↓J1, ↓J2, N1, N2, N3, reduceCtorEq, N4, N5, N6, reduceIte, N7, I1, I2, I3]
    | refine ifB_intro (fun h => ?_) (fun h => ?_)
    | refine And.intro ?_ ?_)
  all_goals first
    | omega
    | skip
  all_goals
    have hh := h
    refine congrArg (fun z => (n, Ob.var [AV.int IntKind.i64 t, AV.int IntKind.i64 w, AV.ref id none 4 0 us.length]) :: hset _ id (Ob.slice 4 z)) ?_
    rw [usl_set]
    refine congrArg (fun z => uns (us.set k z)) ?_
    simp only [decide_eq_true_eq, decide_eq_false_iff_not] at hh
    simp only [lose1, Un.mk.injEq, true_and]
    by_cases hy : u.st - 1 < 0
    · simp only [if_pos hy] at hh ⊢
      rw [if_pos (show u.st - 1 ≤ 0 by omega), if_pos (show u.st - 1 ≤ 0 by omega)]
      first | exact ⟨rfl, rfl⟩ | (exact absurd trivial hh)
    · simp only [if_neg hy] at hh ⊢
      first
        | (rw [if_pos (show u.st - 1 ≤ 0 by omega), if_pos (show u.st - 1 ≤ 0 by omega)]; exact ⟨rfl, hh⟩)
        | (rw [if_neg (show ¬ u.st - 1 ≤ 0 by omega), if_neg (show ¬ u.st - 1 ≤ 0 by omega)]; exact ⟨rfl, rfl⟩)
theorem t288 (t w : Int) (us : List Un) (k : Nat) (h : Heap) (id n : Nat) (hk : k < us.length) (hu : us.length < 2^40) (hg : hget h id = some (.slice 4 (uns us))) (hb : below n h) (hs : solid h) (h0 : 0 ≤ (us.getD k un0).st ∧ (us.getD k un0).st ≤ 4) : C 288 [.agg [.int .i64 t, .int .i64 w, .ref id none 4 0 us.length], .int .i64 (k : Int), .int .i64 1] h n (fun v h' n' => v = .tup [] ∧ n' = n + 1 ∧ h' = (n, .var [.int .i64 t, .int .i64 w, .ref id none 4 0 us.length]) :: hset h id (.slice 4 (uns (loseK us k 1)))) := by
  have hid := below_lt hb hg
  have hne : n ≠ id := by omega
  have e1 := usl_get hk
  simp only [loseK]
  generalize us.getD k un0 = u at *
  have en : (n = id) = False := eq_false hne
  have hks : killH h = h := hs
  have sl : ∀ (v : List AV), (((uns us).set k v).length = us.length) := fun v => by rw [List.length_set, uns_length]
  have sg : ∀ (v : List AV), ((uns us).set k v)[k]? = some v := fun v => by rw [List.getElem?_set_self (by rw [uns_length]; exact hk)]
  have w1 : IntKind.i64.wrap (u.st - 1) = u.st - 1 := wrap64 (by omega) (by omega)
  have c1 := t221 hC 0 (u.st - 1)
  have hgs : ∀ ob, hget (hset h id ob) id = some ob := fun ob => hget_same hg
  have hks2 : ∀ es, killH (hset h id (.slice 4 es)) = hset h id (.slice 4 es) := fun es => solid_set hs
  refine Closed.rT hC Q288 ?_
  simp only [c288, hid, push_cast, ↓J1, ↓J2, N1, N2, N3, reduceCtorEq, N4, N5, N6, reduceIte, N7, I1, I2, I3]
  repeat' (first
    | simp only [en, if_false, hg, hgs, hset_hset, e1, sg, sl, List.set_set, unA, uns_length, Int.toNat_natCast, w1, hks, hks2, hid, push_cast, ↓J1, ↓J2, N1, N2, N3, reduceCtorEq, N4, N5, N6, reduceIte, N7, I1, I2, I3]
    | refine ⟨_, c1, ?_⟩
    | refine ifB_intro (fun h => ?_) (fun h => ?_)
    | refine And.intro ?_ ?_)
  all_goals first
    | omega
    | skip
  all_goals
    have hh := h
    refine congrArg (fun z => (n, Ob.var [AV.int IntKind.i64 t, AV.int IntKind.i64 w, AV.ref id none 4 0 us.length]) :: hset _ id (Ob.slice 4 z)) ?_
    rw [usl_set]
    refine congrArg (fun z => uns (us.set k z)) ?_
    simp only [decide_eq_true_eq, decide_eq_false_iff_not] at hh
    simp only [lose1, Un.mk.injEq, true_and]
    by_cases hy : u.st - 1 < 0
    · simp only [if_pos hy] at hh ⊢
      rw [if_pos (show u.st - 1 ≤ 0 by omega), if_pos (show u.st - 1 ≤ 0 by omega)]
      first | exact ⟨rfl, rfl⟩ | (exact absurd trivial hh)
    · simp only [if_neg hy] at hh ⊢
      first
        | (rw [if_pos (show u.st - 1 ≤ 0 by omega), if_pos (show u.st - 1 ≤ 0 by omega)]; exact ⟨rfl, hh⟩)
        | (rw [if_neg (show ¬ u.st - 1 ≤ 0 by omega), if_neg (show ¬ u.st - 1 ≤ 0 by omega)]; exact ⟨rfl, rfl⟩)
theorem t245 (b : Brd) (s : Sta) (sd : Int) (l : List Int) (g : staOk b s = true) (hl : SrcB b l) (hb : BrdB (2^50) b) : Ev C 245 [brdF b, .agg (staF s), .int .i64 sd, .sl (ints l)] (.agg (staO (hungS b s sd l))) := by
  have hlen := sta_len g
  have o1 := t90 hC s (by omega)
  have c1 := t123 hC s sd (by omega)
  have c2 := fun k (hk : k < s.us.length) => t196 hC b s k l g hk hl hb
  have c3 := fun t w us k h id n hk hu hg hb hs h0 => t288 hC t w us k h id n hk hu hg hb hs h0
  have hfi : ∀ k ∈ fil (onSide sd) s.us s.us.length, 0 ≤ k ∧ k < (s.us.length : Int) := fil_in
  have hfl := fil_le (p := onSide sd) (l := s.us) (Nat.le_refl _)
  have tku : ∀ us : List Un, List.take us.length (uns us) = uns us := fun us => List.take_of_length_le (by rw [uns_length]; omega)
  simp only [hungS]
  simp only [brdF, rulF, mpF, List.cons_append, List.nil_append, staF, staO] at *
  refine rT hC Q245 ?_ (by simp only [ownR, ownRL, own_uns, Bool.and_true])
  simp only [c245, push_cast, ↓J1, ↓J2, N1, N2, N3, reduceCtorEq, N4, N5, N6, reduceIte, N7, I1, I2, I3]
  refine ⟨_, o1, ?_⟩
  simp only [push_cast, ↓J1, ↓J2, N1, N2, N3, reduceCtorEq, N4, N5, N6, reduceIte, N7, I1, I2, I3]
  refine ⟨_, c1, ?_⟩
  generalize fil (onSide sd) s.us s.us.length = is at *
  simp only [ints_length, uns_length, push_cast, ↓J1, ↓J2, N1, N2, N3, reduceCtorEq, N4, N5, N6, reduceIte, N7, I1, I2, I3]
  refine RL_count (fun i => ⟨tb 33 .any [(3, .sl (ints l)), (4, .ptr 0 none 0 0 0), (5, .ptr 1 none 0 0 0), (8, .ptr 2 none 0 0 0), (9, .ptr 3 none 0 0 0), (16, .ref 5 none 1 0 is.length), (17, .int .i64 (is.length : Int)), (18, .int .i64 (i : Int))], [(5, .slice 1 (ints is)), (4, .slice 4 (uns (hungT b s l (is.take i) s.us))), (3, .var [.int .i64 s.t, .int .i64 s.w, .ref 4 none 4 0 s.us.length]), (2, .var [.int .i64 0, .int .i64 0, .nil]), (1, .var (staF s)), (0, .var (rulF b.r ++ mpF b.m))], 6⟩) (fun _ => True) is.length 0 (hdA [(5, 5), (3, 4), (4, 3), (2, 2), (1, 1), (0, 0)]) (by omega) trivial fun i hi _ J hJ => ?_
  simp only [rulF, mpF, List.cons_append, List.nil_append, staF]
  have hhl := hungT_len b s l (is.take i) s.us
  by_cases h1 : i < is.length
  · have hJ1 := hJ h1 trivial
    clear hJ
    have hlt : decide ((i : Int) < (is.length : Int)) = true := decide_eq_true (by omega)
    have e1 : (ints is)[i]? = some [.int .i64 (is.getD i 0)] := cut_ints_get h1
    have hx := hfi _ (getD_in h1)
    have es : is.take (i + 1) = is.take i ++ [is.getD i 0] := by
      rw [List.take_succ_eq_append_getElem h1]; simp only [List.getD, List.getElem?_eq_getElem h1, Option.getD_some]
    rw [es, hungT_snoc] at hJ1
    have red := red_hung (b := b) (s := s) (l := l) (is := is.take i) (us := s.us) (vs := s.us) ⟨rfl, fun j hj hj' => redU_refl (List.all_eq_true.1 (sta_all g) _ (List.getElem_mem hj))⟩
    generalize is.getD i 0 = k at *
    obtain ⟨k, rfl⟩ : ∃ m : Nat, k = m := ⟨k.toNat, by omega⟩
    have hk : k < s.us.length := by omega
    generalize hungT b s l (is.take i) s.us = vs at *
    have hkv : k < vs.length := by omega
    have hst : 0 ≤ (vs.getD k un0).st ∧ (vs.getD k un0).st ≤ 4 := by
      have r := red.2 k hk hkv
      have hu := sta_un g hk
      have hka := kin_bnd (sta_kind g hk)
      have eu : unOf s k = s.us[k] := by simp [unOf, List.getD, hk]
      have ev : vs.getD k un0 = vs[k] := by simp [List.getD, hkv]
      simp only [unOk, inR, Bool.and_eq_true, decide_eq_true_eq] at hu
      rw [eu] at hu hka
      rw [ev]
      obtain ⟨r1, r2, r3, r4, r5⟩ := r
      omega
    have c2 := c2 k hk
    simp only [hlt, Int.toNat_natCast, e1, ints_length, uns_length, push_cast, ↓J1, ↓J2, N1, N2, N3, reduceCtorEq, N4, N5, N6, reduceIte, N7, I1, I2, I3]
    repeat (refine ⟨by omega, ?_⟩)
    refine ⟨_, c2, ?_⟩
    cases g1 : supU b s (unOf s k) l
    · have g2 : supU b s (unOf s k) l = false := g1
      simp only [g2, Bool.false_eq_true, if_false, Int.toNat_natCast] at hJ1
      simp only [g1, Bool.not_false, push_cast, ↓J1, ↓J2, N1, N2, N3, reduceCtorEq, N4, N5, N6, reduceIte, N7, I1, I2, I3]
      rw [← hhl]
      refine ⟨_, c3 s.t s.w vs k _ _ _ hkv (by omega) rfl rfl rfl hst, ?_⟩
      rintro v a m ⟨rfl, rfl, rfl⟩ _
      simp only [hset, N5, N7, if_true, if_false, reduceIte, push_cast, ↓J1, ↓J2, N1, N2, N3, reduceCtorEq, N4, N5, N6, reduceIte, N7, I1, I2, I3]
      rw [hhl]
      exact hJ1 _ (hdA [(5, 5), (4, 4), (3, 3), (2, 2), (1, 1), (0, 0)])
    · have g2 : supU b s (unOf s k) l = true := g1
      simp only [g2, if_true] at hJ1
      simp only [g1, Bool.not_true, push_cast, ↓J1, ↓J2, N1, N2, N3, reduceCtorEq, N4, N5, N6, reduceIte, N7, I1, I2, I3]
      exact hJ1 _ (hdA [(5, 5), (4, 4), (3, 3), (2, 2), (1, 1), (0, 0)])
  · obtain rfl : i = is.length := by omega
    have hlt : decide ((is.length : Int) < (is.length : Int)) = false := decide_eq_false (by omega)
    rw [List.take_length] at hhl ⊢
    rw [← hhl]
    simp only [hlt, push_cast, ↓J1, ↓J2, N1, N2, N3, reduceCtorEq, N4, N5, N6, reduceIte, N7, I1, I2, I3]
    exact RetTo_of (by simp only [conR, conRL, isF, hget, hdel, List.drop_zero, List.take_length, if_true, if_false, reduceIte, N5, reduceCtorEq, tku, uns_length]; rfl)
theorem t194 (b : Brd) (s : Sta) (sd : Int) (l : List Int) (g : staOk b s = true) (hl : SrcB b l) (hb : BrdB (2^50) b) : Ev C 194 [brdF b, .agg (staF s), .int .i64 sd, .sl (ints l)] (.agg (staO (hungS b s sd l))) := by
  have hlen := sta_len g
  have o1 := t97 hC s (by omega)
  have c1 := t126 hC s sd (by omega)
  have c2 := fun k (hk : k < s.us.length) => t246 hC b s (unOf s k) l g (sta_un g hk) hl hb
  have c3 := fun t w us k h id n hk hu hg hb hs h0 => t247 hC t w us k h id n hk hu hg hb hs h0
  have hfi : ∀ k ∈ fil (onSide sd) s.us s.us.length, 0 ≤ k ∧ k < (s.us.length : Int) := fil_in
  have hfl := fil_le (p := onSide sd) (l := s.us) (Nat.le_refl _)
  have tku : ∀ us : List Un, List.take us.length (uns us) = uns us := fun us => List.take_of_length_le (by rw [uns_length]; omega)
  simp only [hungS]
  simp only [brdF, rulF, mpF, List.cons_append, List.nil_append, staF, staO] at *
  refine rT hC Q194 ?_ (by simp only [ownR, ownRL, own_uns, Bool.and_true])
  simp only [c194, push_cast, ↓J1, ↓J2, N1, N2, N3, reduceCtorEq, N4, N5, N6, reduceIte, N7, I1, I2, I3]
  refine ⟨_, o1, ?_⟩
  simp only [push_cast, ↓J1, ↓J2, N1, N2, N3, reduceCtorEq, N4, N5, N6, reduceIte, N7, I1, I2, I3]
  refine ⟨_, c1, ?_⟩
  generalize fil (onSide sd) s.us s.us.length = is at *
  simp only [ints_length, uns_length, push_cast, ↓J1, ↓J2, N1, N2, N3, reduceCtorEq, N4, N5, N6, reduceIte, N7, I1, I2, I3]
  refine RL_count (fun i => ⟨tb 37 .any [(3, .sl (ints l)), (4, .ptr 0 none 0 0 0), (5, .ptr 1 none 0 0 0), (8, .ptr 2 none 0 0 0), (9, .ptr 3 none 0 0 0), (16, .ref 5 none 1 0 is.length), (17, .int .i64 (is.length : Int)), (18, .int .i64 (i : Int))], [(5, .slice 1 (ints is)), (4, .slice 4 (uns (hungT b s l (is.take i) s.us))), (3, .var [.int .i64 s.t, .int .i64 s.w, .ref 4 none 4 0 s.us.length]), (2, .var [.int .i64 0, .int .i64 0, .nil]), (1, .var (staF s)), (0, .var (rulF b.r ++ mpF b.m))], 6⟩) (fun _ => True) is.length 0 (hdA [(5, 5), (3, 4), (4, 3), (2, 2), (1, 1), (0, 0)]) (by omega) trivial fun i hi _ J hJ => ?_
  simp only [rulF, mpF, List.cons_append, List.nil_append, staF]
  have hhl := hungT_len b s l (is.take i) s.us
  by_cases h1 : i < is.length
  · have hJ1 := hJ h1 trivial
    clear hJ
    have hlt : decide ((i : Int) < (is.length : Int)) = true := decide_eq_true (by omega)
    have e1 : (ints is)[i]? = some [.int .i64 (is.getD i 0)] := cut_ints_get h1
    have hx := hfi _ (getD_in h1)
    have es : is.take (i + 1) = is.take i ++ [is.getD i 0] := by
      rw [List.take_succ_eq_append_getElem h1]; simp only [List.getD, List.getElem?_eq_getElem h1, Option.getD_some]
    rw [es, hungT_snoc] at hJ1
    have red := red_hung (b := b) (s := s) (l := l) (is := is.take i) (us := s.us) (vs := s.us) ⟨rfl, fun j hj hj' => redU_refl (List.all_eq_true.1 (sta_all g) _ (List.getElem_mem hj))⟩
    generalize is.getD i 0 = k at *
    obtain ⟨k, rfl⟩ : ∃ m : Nat, k = m := ⟨k.toNat, by omega⟩
    have hk : k < s.us.length := by omega
    generalize hungT b s l (is.take i) s.us = vs at *
    have hkv : k < vs.length := by omega
    have hst : 0 ≤ (vs.getD k un0).st ∧ (vs.getD k un0).st ≤ 4 := by
      have r := red.2 k hk hkv
      have hu := sta_un g hk
      have hka := kin_bnd (sta_kind g hk)
      have eu : unOf s k = s.us[k] := by simp [unOf, List.getD, hk]
      have ev : vs.getD k un0 = vs[k] := by simp [List.getD, hkv]
      simp only [unOk, inR, Bool.and_eq_true, decide_eq_true_eq] at hu
      rw [eu] at hu hka
      rw [ev]
      obtain ⟨r1, r2, r3, r4, r5⟩ := r
      omega
    have c2 := c2 k hk
    have e3 := uns_un (s := s) hk
    simp only [unA] at c2 e3
    have hws := way_sup (b := b) (s := s) (u := unOf s k) (l := l)
    have hwl : decide (wayM b s (unOf s k) l < 0) = !supU b s (unOf s k) l := by rw [← hws, Bool.eq_iff_iff]; simp
    simp only [hlt, Int.toNat_natCast, e1, e3, ints_length, uns_length, push_cast, ↓J1, ↓J2, N1, N2, N3, reduceCtorEq, N4, N5, N6, reduceIte, N7, I1, I2, I3]
    repeat (refine ⟨by omega, ?_⟩)
    refine ⟨_, c2, ?_⟩
    cases g1 : supU b s (unOf s k) l
    · have g2 : supU b s (unOf s k) l = false := g1
      simp only [g2, Bool.false_eq_true, if_false, Int.toNat_natCast] at hJ1
      simp only [hwl, g1, Bool.not_false, push_cast, ↓J1, ↓J2, N1, N2, N3, reduceCtorEq, N4, N5, N6, reduceIte, N7, I1, I2, I3]
      rw [← hhl]
      refine ⟨_, c3 s.t s.w vs k _ _ _ hkv (by omega) rfl rfl rfl hst, ?_⟩
      rintro v a m ⟨rfl, rfl, rfl⟩ _
      simp only [hset, N5, N7, if_true, if_false, reduceIte, push_cast, ↓J1, ↓J2, N1, N2, N3, reduceCtorEq, N4, N5, N6, reduceIte, N7, I1, I2, I3]
      rw [hhl]
      exact hJ1 _ (hdA [(5, 5), (4, 4), (3, 3), (2, 2), (1, 1), (0, 0)])
    · have g2 : supU b s (unOf s k) l = true := g1
      simp only [g2, if_true] at hJ1
      simp only [hwl, g1, Bool.not_true, push_cast, ↓J1, ↓J2, N1, N2, N3, reduceCtorEq, N4, N5, N6, reduceIte, N7, I1, I2, I3]
      exact hJ1 _ (hdA [(5, 5), (4, 4), (3, 3), (2, 2), (1, 1), (0, 0)])
  · obtain rfl : i = is.length := by omega
    have hlt : decide ((is.length : Int) < (is.length : Int)) = false := decide_eq_false (by omega)
    rw [List.take_length] at hhl ⊢
    rw [← hhl]
    simp only [hlt, push_cast, ↓J1, ↓J2, N1, N2, N3, reduceCtorEq, N4, N5, N6, reduceIte, N7, I1, I2, I3]
    exact RetTo_of (by simp only [conR, conRL, isF, hget, hdel, List.drop_zero, List.take_length, if_true, if_false, reduceIte, N5, reduceCtorEq, tku, uns_length]; rfl)
end
end Go.Proofs.YtjaccjeejeiphaaGreatDoor.X
