/- A part of the proof: lemmas on the machine or on the functions that the law reaches. No condition of its own. -/
import Derived.Test.YtjaccjeejeiphaaGreatDoorXP5
import Derived.Test.YtjaccjeejeiphaaGreatDoorXP8
import Derived.Test.YtjaccjeejeiphaaGreatDoorXP6
import Derived.Test.YtjaccjeejeiphaaGreatDoorXP7
set_option maxHeartbeats 4000000
set_option maxRecDepth 8000
set_option linter.unusedSimpArgs false
set_option linter.unusedVariables false
open Nat renaming reduceBEq → N1, reduceAdd → N2, reduceSub → N3, reduceMul → N4, reduceEqDiff → N5, reduceLeDiff → N6, reduceLT → N7
open Int renaming reduceLE → I1, reduceLT → I2, reduceToNat → I3
namespace Go.Proofs.YtjaccjeejeiphaaGreatDoor.X
open Go
attribute [local irreducible] Ev
def onSide (sd : Int) (u : Un) : Bool := decide (u.sd = sd) && decide (0 ≤ u.at_)
def gaOk (x : Se) (s : Sta) : Bool := seOk x && staOk x.b s
theorem se_brd {x : Se} (h : seOk x = true) : brdOk x.b = true := by
  simp only [seOk, Bool.and_eq_true] at h; exact h.1.1.1.1.1
theorem ga_eq {x : Se} {s : Sta} (h : seOk x = true) : gaOk x s = staOk0 x.b s := by
  simp only [gaOk, staOk, h, se_brd h, Bool.true_and]
def overOk (x : Se) (s : Sta) : Bool := decide (s.t = x.b.r.turns) || decide ((((fil (onSide 0) s.us s.us.length).length : Nat) : Int) = 0) || decide ((((fil (onSide 1) s.us s.us.length).length : Nat) : Int) = 0)
def ovRes (x : Se) (s : Sta) : Bool := gaOk x s && overOk x s
def leftRes (x : Se) (s : Sta) : Int := if gaOk x s then if overOk x s then 0 else x.b.r.turns - s.t else 0
theorem ga_turn {x : Se} {s : Sta} (h : gaOk x s = true) : 0 ≤ s.t ∧ s.t ≤ x.b.r.turns ∧ x.b.r.turns ≤ 30 ∧ s.us.length ≤ 12 := by
  simp only [gaOk, Bool.and_eq_true] at h
  have h1 := h.2
  have h2 := brd_ru (se_brd h.1)
  simp only [staOk, staOk0, rulOk, tailOk, inR, Bool.and_eq_true, decide_eq_true_eq] at h1 h2
  omega
section
variable {C : CT} (hC : Closed Tryz.prog G1 md0 C)
include hC
theorem t126 (s : Sta) (sd : Int) (hl : s.us.length < 2^40) : Ev C 126 [.agg (staF s), .int .i64 sd] (.ow 1 (ints (fil (onSide sd) s.us s.us.length))) := by
  simp only [staF]
  refine rT hC Q126 ?_ (own_ints _)
  simp only [c126, uns_length, push_cast, ↓J1, ↓J2, N1, N2, N3, reduceCtorEq, N4, N5, N6, reduceIte, N7, I1, I2, I3]
  refine RL_count (fun i => ⟨tb 32 .any [(5, .ref 0 none 1 0 (fil (onSide sd) s.us i).length), (1, .int .i64 sd), (10, .sl (uns s.us)), (11, .int .i64 (s.us.length : Int)), (12, .int .i64 (i : Int))], [(0, .slice 1 (ints (fil (onSide sd) s.us i)))], 1⟩) (fun _ => True) s.us.length 0 (hdA [(1, 0)]) (by omega) trivial fun i hi _ J hJ => ?_
  by_cases h1 : i < s.us.length
  · have e1 := uns_get h1
    have e2 := fil_succ (p := (onSide sd)) h1
    have hfl := fil_le (p := (onSide sd)) hi
    have tk : List.take (fil (onSide sd) s.us i).length (ints (fil (onSide sd) s.us i)) = ints (fil (onSide sd) s.us i) := List.take_of_length_le (by rw [ints_length]; omega)
    generalize s.us[i] = u at *
    simp only [Int.toNat_natCast, e1, unA, push_cast, ↓J1, ↓J2, N1, N2, N3, reduceCtorEq, N4, N5, N6, reduceIte, N7, I1, I2, I3]
    refine ifB_intro (fun _ => ?_) (fun h => by simp at h; omega)
    repeat (refine ⟨by omega, ?_⟩)
    cases g1 : decide (u.sd = sd)
    · have hp : (onSide sd) u = false := by simp only [onSide, g1, Bool.false_and, Bool.and_false]
      rw [hp, if_neg Bool.false_ne_true] at e2
      simp only [g1, push_cast, ↓J1, ↓J2, N1, N2, N3, reduceCtorEq, N4, N5, N6, reduceIte, N7, I1, I2, I3]
      exact hJ h1 trivial _ (by rw [e2]; exact (hdA [(0, 0)]))
    cases g2 : decide (0 ≤ u.at_)
    · have hp : (onSide sd) u = false := by simp only [onSide, g1, g2, Bool.false_and, Bool.and_false]
      rw [hp, if_neg Bool.false_ne_true] at e2
      simp only [g1, g2, push_cast, ↓J1, ↓J2, N1, N2, N3, reduceCtorEq, N4, N5, N6, reduceIte, N7, I1, I2, I3]
      exact hJ h1 trivial _ (by rw [e2]; exact (hdA [(0, 0)]))
    have hp : (onSide sd) u = true := by simp only [onSide, g1, g2, Bool.and_self]
    rw [hp, if_pos rfl] at e2
    simp only [g1, g2, tk, ints_length, allScs, apYR_sc, push_cast, ↓J1, ↓J2, N1, N2, N3, reduceCtorEq, N4, N5, N6, reduceIte, N7, I1, I2, I3]
    repeat (refine ⟨by omega, ?_⟩)
    refine hJ h1 trivial _ ?_
    rw [e2]
    refine (hdA [(3, 0)] (hh := ?_))
    simp only [canR, canB, renO, renL, ren, lkp, hget, N7, N5, Nat.not_lt_zero, if_false, if_true, reduceIte, List.append_nil, List.nil_append, ints_sn]
    all_goals rfl
  · simp only [uns_length, push_cast, ↓J1, ↓J2, N1, N2, N3, reduceCtorEq, N4, N5, N6, reduceIte, N7, I1, I2, I3]
    refine ifB_intro (fun h => by simp at h; omega) (fun h => ?_)
    obtain rfl : i = s.us.length := by omega
    exact RetTo_ow rfl (by rw [ints_length])
theorem t123 (s : Sta) (sd : Int) (hl : s.us.length < 2^40) : Ev C 123 [.agg (staF s), .int .i64 sd] (.ow 1 (ints (fil (onSide sd) s.us s.us.length))) := by
  simp only [staF]
  refine rT hC Q123 ?_ (own_ints _)
  simp only [c123, uns_length, push_cast, ↓J1, ↓J2, N1, N2, N3, reduceCtorEq, N4, N5, N6, reduceIte, N7, I1, I2, I3]
  refine RL_count (fun i => ⟨tb 31 .any [(5, .ref 0 none 1 0 (fil (onSide sd) s.us i).length), (1, .int .i64 sd), (9, .sl (uns s.us)), (10, .int .i64 (s.us.length : Int)), (11, .int .i64 (i : Int))], [(0, .slice 1 (ints (fil (onSide sd) s.us i)))], 1⟩) (fun _ => True) s.us.length 0 (hdO 5 0 1 []) (by omega) trivial fun i hi _ J hJ => ?_
  by_cases h1 : i < s.us.length
  · have e1 := uns_get h1
    have e2 := fil_succ (p := (onSide sd)) h1
    have hfl := fil_le (p := (onSide sd)) hi
    have tk : List.take (fil (onSide sd) s.us i).length (ints (fil (onSide sd) s.us i)) = ints (fil (onSide sd) s.us i) := List.take_of_length_le (by rw [ints_length]; omega)
    generalize s.us[i] = u at *
    simp only [Int.toNat_natCast, e1, unA, push_cast, ↓J1, ↓J2, N1, N2, N3, reduceCtorEq, N4, N5, N6, reduceIte, N7, I1, I2, I3]
    refine ifB_intro (fun _ => ?_) (fun h => by simp at h; omega)
    repeat (refine ⟨by omega, ?_⟩)
    cases g1 : decide (u.sd = sd)
    · have hp : (onSide sd) u = false := by simp only [onSide, g1, Bool.false_and, Bool.and_false]
      rw [hp, if_neg Bool.false_ne_true] at e2
      simp only [g1, push_cast, ↓J1, ↓J2, N1, N2, N3, reduceCtorEq, N4, N5, N6, reduceIte, N7, I1, I2, I3]
      exact hJ h1 trivial _ (by rw [e2]; exact (hdA [(0, 0)]))
    cases g2 : decide (0 ≤ u.at_)
    · have hp : (onSide sd) u = false := by simp only [onSide, g1, g2, Bool.false_and, Bool.and_false]
      rw [hp, if_neg Bool.false_ne_true] at e2
      simp only [g1, g2, push_cast, ↓J1, ↓J2, N1, N2, N3, reduceCtorEq, N4, N5, N6, reduceIte, N7, I1, I2, I3]
      exact hJ h1 trivial _ (by rw [e2]; exact (hdA [(0, 0)]))
    have hp : (onSide sd) u = true := by simp only [onSide, g1, g2, Bool.and_self]
    rw [hp, if_pos rfl] at e2
    simp only [g1, g2, tk, ints_length, allScs, apYR_sc, push_cast, ↓J1, ↓J2, N1, N2, N3, reduceCtorEq, N4, N5, N6, reduceIte, N7, I1, I2, I3]
    repeat (refine ⟨by omega, ?_⟩)
    refine hJ h1 trivial _ ?_
    rw [e2]
    refine (hdA [(3, 0)] (hh := ?_))
    simp only [canR, canB, renO, renL, ren, lkp, hget, N7, N5, Nat.not_lt_zero, if_false, if_true, reduceIte, List.append_nil, List.nil_append, ints_sn]
    all_goals rfl
  · simp only [uns_length, push_cast, ↓J1, ↓J2, N1, N2, N3, reduceCtorEq, N4, N5, N6, reduceIte, N7, I1, I2, I3]
    refine ifB_intro (fun h => by simp at h; omega) (fun h => ?_)
    obtain rfl : i = s.us.length := by omega
    exact RetTo_ow rfl (by rw [ints_length])
theorem t81 (x : Se) (s : Sta) (hb : SeB (2^50) x) (hl : s.us.length < 2^40) : Ev C 81 [seF x, .agg (staF s)] (.bool (gaOk x s)) := by
  have c1 := t160 hC x hb
  have c2 := fun g => t121 hC x.b s g hb.b hl
  simp only [seF, brdF, rulF, mpF, ctF, clA, List.cons_append, List.nil_append, staF] at *
  refine rT hC Q81 ?_
  simp only [c81, push_cast, ↓J1, ↓J2, N1, N2, N3, reduceCtorEq, N4, N5, N6, reduceIte, N7, I1, I2, I3]
  refine ⟨_, c1, ?_⟩
  cases g1 : seOk x
  · simp only [gaOk, g1, Bool.false_and, push_cast, ↓J1, ↓J2, N1, N2, N3, reduceCtorEq, N4, N5, N6, reduceIte, N7, I1, I2, I3]
  simp only [push_cast, ↓J1, ↓J2, N1, N2, N3, reduceCtorEq, N4, N5, N6, reduceIte, N7, I1, I2, I3]
  refine ⟨_, c2 (se_brd g1), ?_⟩
  simp only [ga_eq g1, push_cast, ↓J1, ↓J2, N1, N2, N3, reduceCtorEq, N4, N5, N6, reduceIte, N7, I1, I2, I3]
theorem t76 (x : Se) (s : Sta) (sd : Int) (hb : SeB (2^50) x) (hl : s.us.length < 2^40) : Ev C 76 [seF x, .agg (staF s), .int .i64 sd] (.bool (gaOk x s && inR 0 4611686016279904236 sd)) := by
  have c1 := t157 hC x hb
  have c2 := t119 hC x.b s hb.b hl
  have c3 := t158 hC sd
  simp only [seF, brdF, rulF, mpF, ctF, clA, List.cons_append, List.nil_append, staF] at *
  refine rT hC Q76 ?_
  simp only [c76, push_cast, ↓J1, ↓J2, N1, N2, N3, reduceCtorEq, N4, N5, N6, reduceIte, N7, I1, I2, I3]
  refine ⟨_, c1, ?_⟩
  cases g1 : seOk x
  · simp only [gaOk, g1, Bool.false_and, push_cast, ↓J1, ↓J2, N1, N2, N3, reduceCtorEq, N4, N5, N6, reduceIte, N7, I1, I2, I3]
  simp only [push_cast, ↓J1, ↓J2, N1, N2, N3, reduceCtorEq, N4, N5, N6, reduceIte, N7, I1, I2, I3]
  refine ⟨_, c2, ?_⟩
  cases g2 : staOk x.b s
  · simp only [gaOk, g1, g2, Bool.false_and, Bool.and_false, push_cast, ↓J1, ↓J2, N1, N2, N3, reduceCtorEq, N4, N5, N6, reduceIte, N7, I1, I2, I3]
  simp only [push_cast, ↓J1, ↓J2, N1, N2, N3, reduceCtorEq, N4, N5, N6, reduceIte, N7, I1, I2, I3]
  refine ⟨_, c3, ?_⟩
  simp only [gaOk, g1, g2, Bool.true_and, Bool.and_self, push_cast, ↓J1, ↓J2, N1, N2, N3, reduceCtorEq, N4, N5, N6, reduceIte, N7, I1, I2, I3]
theorem t82 (x : Se) (s : Sta) (hl : s.us.length < 2^40) : Ev C 82 [brdF x.b, .agg (staF s)] (.bool (overOk x s)) := by
  have c1 := fun sd => t126 hC s sd hl
  simp only [seF, brdF, rulF, mpF, ctF, clA, List.cons_append, List.nil_append, staF] at *
  refine rT hC Q82 ?_
  simp only [c82, push_cast, ↓J1, ↓J2, N1, N2, N3, reduceCtorEq, N4, N5, N6, reduceIte, N7, I1, I2, I3]
  cases g1 : decide (s.t = x.b.r.turns)
  · simp only [push_cast, ↓J1, ↓J2, N1, N2, N3, reduceCtorEq, N4, N5, N6, reduceIte, N7, I1, I2, I3]
    refine ⟨_, c1 0, ?_⟩
    simp only [ints_length, push_cast, ↓J1, ↓J2, N1, N2, N3, reduceCtorEq, N4, N5, N6, reduceIte, N7, I1, I2, I3]
    cases g2 : decide ((((fil (onSide 0) s.us s.us.length).length : Nat) : Int) = 0)
    · simp only [push_cast, ↓J1, ↓J2, N1, N2, N3, reduceCtorEq, N4, N5, N6, reduceIte, N7, I1, I2, I3]
      refine ⟨_, c1 1, ?_⟩
      simp only [overOk, g1, g2, Bool.false_or, ints_length, push_cast, ↓J1, ↓J2, N1, N2, N3, reduceCtorEq, N4, N5, N6, reduceIte, N7, I1, I2, I3]
    · simp only [overOk, g1, g2, Bool.or_true, Bool.true_or, push_cast, ↓J1, ↓J2, N1, N2, N3, reduceCtorEq, N4, N5, N6, reduceIte, N7, I1, I2, I3]
  · simp only [overOk, g1, Bool.true_or, push_cast, ↓J1, ↓J2, N1, N2, N3, reduceCtorEq, N4, N5, N6, reduceIte, N7, I1, I2, I3]
theorem t77 (x : Se) (s : Sta) (hl : s.us.length < 2^40) : Ev C 77 [seF x, .agg (staF s)] (.bool (overOk x s)) := by
  have c1 := fun sd => t123 hC s sd hl
  simp only [seF, brdF, rulF, mpF, ctF, clA, List.cons_append, List.nil_append, staF] at *
  refine rT hC Q77 ?_
  simp only [c77, push_cast, ↓J1, ↓J2, N1, N2, N3, reduceCtorEq, N4, N5, N6, reduceIte, N7, I1, I2, I3]
  cases g1 : decide (s.t = x.b.r.turns)
  · simp only [push_cast, ↓J1, ↓J2, N1, N2, N3, reduceCtorEq, N4, N5, N6, reduceIte, N7, I1, I2, I3]
    refine ⟨_, c1 0, ?_⟩
    simp only [ints_length, push_cast, ↓J1, ↓J2, N1, N2, N3, reduceCtorEq, N4, N5, N6, reduceIte, N7, I1, I2, I3]
    cases g2 : decide ((((fil (onSide 0) s.us s.us.length).length : Nat) : Int) = 0)
    · simp only [push_cast, ↓J1, ↓J2, N1, N2, N3, reduceCtorEq, N4, N5, N6, reduceIte, N7, I1, I2, I3]
      refine ⟨_, c1 1, ?_⟩
      simp only [overOk, g1, g2, Bool.false_or, ints_length, push_cast, ↓J1, ↓J2, N1, N2, N3, reduceCtorEq, N4, N5, N6, reduceIte, N7, I1, I2, I3]
    · simp only [overOk, g1, g2, Bool.or_true, Bool.true_or, push_cast, ↓J1, ↓J2, N1, N2, N3, reduceCtorEq, N4, N5, N6, reduceIte, N7, I1, I2, I3]
  · simp only [overOk, g1, Bool.true_or, push_cast, ↓J1, ↓J2, N1, N2, N3, reduceCtorEq, N4, N5, N6, reduceIte, N7, I1, I2, I3]
theorem t29 (x : Se) (s : Sta) (hb : SeB (2^50) x) (hl : s.us.length < 2^40) : Ev C 29 [seF x, .agg (staF s)] (.tup [.bool (ovRes x s), .bool (gaOk x s)]) := by
  have c1 := t81 hC x s hb hl
  have c2 := t82 hC x s hl
  simp only [seF, brdF, rulF, mpF, ctF, clA, List.cons_append, List.nil_append, staF] at *
  refine rT hC Q29 ?_
  simp only [c29, push_cast, ↓J1, ↓J2, N1, N2, N3, reduceCtorEq, N4, N5, N6, reduceIte, N7, I1, I2, I3]
  refine ⟨_, c1, ?_⟩
  cases g1 : gaOk x s
  · simp only [ovRes, g1, Bool.false_and, push_cast, ↓J1, ↓J2, N1, N2, N3, reduceCtorEq, N4, N5, N6, reduceIte, N7, I1, I2, I3]
    exact RetTo_sc rfl
  simp only [push_cast, ↓J1, ↓J2, N1, N2, N3, reduceCtorEq, N4, N5, N6, reduceIte, N7, I1, I2, I3]
  refine ⟨_, c2, ?_⟩
  simp only [ovRes, g1, Bool.true_and, push_cast, ↓J1, ↓J2, N1, N2, N3, reduceCtorEq, N4, N5, N6, reduceIte, N7, I1, I2, I3]
  exact RetTo_sc rfl
theorem t27 (x : Se) (s : Sta) (hb : SeB (2^50) x) (hl : s.us.length < 2^40) : Ev C 27 [seF x, .agg (staF s)] (.tup [.bool (ovRes x s), .bool (gaOk x s)]) := by
  have c1 := t76 hC x s 0 hb hl
  rw [show inR 0 4611686016279904236 0 = true from rfl, Bool.and_true] at c1
  have c2 := t77 hC x s hl
  simp only [seF, brdF, rulF, mpF, ctF, clA, List.cons_append, List.nil_append, staF] at *
  refine rT hC Q27 ?_
  simp only [c27, push_cast, ↓J1, ↓J2, N1, N2, N3, reduceCtorEq, N4, N5, N6, reduceIte, N7, I1, I2, I3]
  refine ⟨_, c1, ?_⟩
  cases g1 : gaOk x s
  · simp only [ovRes, g1, Bool.false_and, push_cast, ↓J1, ↓J2, N1, N2, N3, reduceCtorEq, N4, N5, N6, reduceIte, N7, I1, I2, I3]
    exact RetTo_sc rfl
  simp only [push_cast, ↓J1, ↓J2, N1, N2, N3, reduceCtorEq, N4, N5, N6, reduceIte, N7, I1, I2, I3]
  refine ⟨_, c2, ?_⟩
  simp only [ovRes, g1, Bool.true_and, push_cast, ↓J1, ↓J2, N1, N2, N3, reduceCtorEq, N4, N5, N6, reduceIte, N7, I1, I2, I3]
  exact RetTo_sc rfl
theorem t32 (x : Se) (s : Sta) (hb : SeB (2^50) x) (hl : s.us.length < 2^40) : Ev C 32 [seF x, .agg (staF s)] (.tup [.int .i64 (leftRes x s), .bool (gaOk x s)]) := by
  have c1 := t81 hC x s hb hl
  have c2 := t82 hC x s hl
  simp only [seF, brdF, rulF, mpF, ctF, clA, List.cons_append, List.nil_append, staF] at *
  refine rT hC Q32 ?_
  simp only [c32, push_cast, ↓J1, ↓J2, N1, N2, N3, reduceCtorEq, N4, N5, N6, reduceIte, N7, I1, I2, I3]
  refine ⟨_, c1, ?_⟩
  cases g1 : gaOk x s
  · simp only [leftRes, g1, push_cast, ↓J1, ↓J2, N1, N2, N3, reduceCtorEq, N4, N5, N6, reduceIte, N7, I1, I2, I3]
  have h1 := ga_turn g1
  simp only [push_cast, ↓J1, ↓J2, N1, N2, N3, reduceCtorEq, N4, N5, N6, reduceIte, N7, I1, I2, I3]
  refine ⟨_, c2, ?_⟩
  cases g2 : overOk x s
  · simp only [leftRes, g1, g2, wrap64 (n := x.b.r.turns - s.t) (by omega) (by omega), push_cast, ↓J1, ↓J2, N1, N2, N3, reduceCtorEq, N4, N5, N6, reduceIte, N7, I1, I2, I3]
  · simp only [leftRes, g1, g2, push_cast, ↓J1, ↓J2, N1, N2, N3, reduceCtorEq, N4, N5, N6, reduceIte, N7, I1, I2, I3]
theorem t31 (x : Se) (s : Sta) (hb : SeB (2^50) x) (hl : s.us.length < 2^40) : Ev C 31 [seF x, .agg (staF s)] (.tup [.int .i64 (leftRes x s), .bool (gaOk x s)]) := by
  have c1 := t76 hC x s 0 hb hl
  rw [show inR 0 4611686016279904236 0 = true from rfl, Bool.and_true] at c1
  have c2 := t77 hC x s hl
  simp only [seF, brdF, rulF, mpF, ctF, clA, List.cons_append, List.nil_append, staF] at *
  refine rT hC Q31 ?_
  simp only [c31, push_cast, ↓J1, ↓J2, N1, N2, N3, reduceCtorEq, N4, N5, N6, reduceIte, N7, I1, I2, I3]
  refine ⟨_, c1, ?_⟩
  cases g1 : gaOk x s
  · simp only [leftRes, g1, push_cast, ↓J1, ↓J2, N1, N2, N3, reduceCtorEq, N4, N5, N6, reduceIte, N7, I1, I2, I3]
  have h1 := ga_turn g1
  simp only [push_cast, ↓J1, ↓J2, N1, N2, N3, reduceCtorEq, N4, N5, N6, reduceIte, N7, I1, I2, I3]
  refine ⟨_, c2, ?_⟩
  cases g2 : overOk x s
  · simp only [leftRes, g1, g2, wrap64 (n := x.b.r.turns - s.t) (by omega) (by omega), push_cast, ↓J1, ↓J2, N1, N2, N3, reduceCtorEq, N4, N5, N6, reduceIte, N7, I1, I2, I3]
  · simp only [leftRes, g1, g2, push_cast, ↓J1, ↓J2, N1, N2, N3, reduceCtorEq, N4, N5, N6, reduceIte, N7, I1, I2, I3]
end
end Go.Proofs.YtjaccjeejeiphaaGreatDoor.X
set_option maxHeartbeats 1000000
set_option maxRecDepth 8000
set_option linter.unusedSimpArgs false
set_option linter.unusedVariables false
open Nat renaming reduceBEq → N1, reduceAdd → N2, reduceSub → N3, reduceMul → N4, reduceEqDiff → N5, reduceLeDiff → N6, reduceLT → N7
open Int renaming reduceLE → I1, reduceLT → I2, reduceToNat → I3
namespace Go.Proofs.YtjaccjeejeiphaaGreatDoor.X
open Go
def nbT (m : Mp) (c : Int) (j : Nat) : List Int := ((List.range j).map fun d => nextM m c (d : Nat)).filter fun k => decide (0 ≤ k)
def nbs (m : Mp) (c : Int) : List Int := nbT m c 6
theorem nbT_succ (m : Mp) (c : Int) (j : Nat) : nbT m c (j + 1) = if 0 ≤ nextM m c (j : Nat) then nbT m c j ++ [nextM m c (j : Nat)] else nbT m c j := by
  simp only [nbT, List.range_succ, List.map_append, List.filter_append, List.map_cons, List.map_nil]
  by_cases h : 0 ≤ nextM m c (j : Nat)
  · simp [h]
  · simp [h]
theorem nbT_le (m : Mp) (c : Int) (j : Nat) : (nbT m c j).length ≤ j := by
  simp only [nbT]; exact Nat.le_trans (List.length_filter_le _ _) (by simp)
def blk (b : Brd) (s : Sta) (sd i : Int) : Bool := decide (owner s i = 1 - sd) || decide (owner s i < 0) && inZon b s (1 - sd) i
def opnAt (b : Brd) (s : Sta) (sd k i : Int) : Bool := decide (0 < costAt b k i) && !blk b s sd i
def opnT (b : Brd) (s : Sta) (sd k : Int) (n : Nat) : List Bool := (List.range n).map fun i => opnAt b s sd k (i : Nat)
def opn (b : Brd) (s : Sta) (sd k : Int) : List Bool := opnT b s sd k b.m.t.length
theorem opn_length (b : Brd) (s : Sta) (sd k : Int) : (opn b s sd k).length = b.m.t.length := by simp [opn, opnT]
theorem brd_t {b : Brd} (g : brdOk b = true) : (b.m.t.length : Int) = b.m.w * b.m.h := by
  have := brd_mp g
  simp only [mpOk, Bool.and_eq_true, decide_eq_true_eq] at this
  exact this.1.1.1.2
theorem nbs_bnd {b : Brd} (g : brdOk b = true) (c : Int) : ∀ k ∈ nbs b.m c, 0 ≤ k ∧ k < (b.m.t.length : Int) := by
  intro k hk
  have hm := mp_wh (brd_mp g)
  simp only [nbs, nbT, List.mem_filter, List.mem_map, decide_eq_true_eq] at hk
  obtain ⟨⟨d, _, rfl⟩, h⟩ := hk
  rw [brd_t g]
  exact ⟨h, (nextM_bnd hm.1 hm.2).2⟩
theorem src_in {b : Brd} {l : List Int} (h : srcOk b l = true) : l.length ≤ 6 ∧ ∀ i ∈ l, 0 ≤ i ∧ i < b.m.w * b.m.h := by
  simp only [srcOk, Bool.and_eq_true, decide_eq_true_eq, upto_iff, risP, inR] at h
  refine ⟨by omega, fun i hi => ?_⟩
  obtain ⟨j, hj, rfl⟩ := List.getElem_of_mem hi
  have := (h.2 j hj).1
  simp only [List.getD, List.getElem?_eq_getElem hj, Option.getD_some] at this
  omega
def far (m : Mp) (op : List Bool) (l : List Int) : List Int := bFar (nbs m) op l
def farU (b : Brd) (s : Sta) (u : Un) (l : List Int) : List Int := far b.m (opn b s u.sd u.k) l
theorem far_inv {b : Brd} {op : List Bool} {l : List Int} (g : brdOk b = true) (ho : op.length = b.m.t.length) (hl : ∀ i ∈ l, 0 ≤ i ∧ i < b.m.w * b.m.h) (i : Nat) : BInv op.length (op.length + l.length) (bP (nbs b.m) op l i) :=
  bP_inv (by rw [ho, brd_t g]; exact hl) (fun c _ _ k hk => by rw [ho]; exact nbs_bnd g c k hk) i
theorem far_end {b : Brd} {op : List Bool} {l : List Int} (g : brdOk b = true) (ho : op.length = b.m.t.length) (hl : ∀ i ∈ l, 0 ≤ i ∧ i < b.m.w * b.m.h) : (bP (nbs b.m) op l (bN (nbs b.m) op l)).2.length ≤ bN (nbs b.m) op l :=
  bN_end (by rw [ho, brd_t g]; exact hl) (fun c _ _ k hk => by rw [ho]; exact nbs_bnd g c k hk)
theorem far_len {b : Brd} {op : List Bool} {l : List Int} (g : brdOk b = true) (ho : op.length = b.m.t.length) (hl : ∀ i ∈ l, 0 ≤ i ∧ i < b.m.w * b.m.h) : (far b.m op l).length = b.m.t.length := by
  rw [← ho]; exact (far_inv g ho hl _).len
theorem far_bnd {b : Brd} {op : List Bool} {l : List Int} (g : brdOk b = true) (ho : op.length = b.m.t.length) (hl : ∀ i ∈ l, 0 ≤ i ∧ i < b.m.w * b.m.h) {j : Nat} (hj : j < b.m.t.length) : -1 ≤ (far b.m op l).getD j 0 ∧ (far b.m op l).getD j 0 ≤ b.m.t.length + l.length := by
  have h1 := far_inv (i := bN (nbs b.m) op l) g ho hl
  have h2 := h1.bnd _ (getD_mem (l := (bP (nbs b.m) op l (bN (nbs b.m) op l)).1) (i := j) (by rw [h1.len, ho]; exact hj) 0)
  have h3 := h1.cn
  rw [ho] at h3
  simp only [far, bFar]
  omega
def supU (b : Brd) (s : Sta) (u : Un) (l : List Int) : Bool := decide (0 ≤ u.at_) && inR 0 b.r.supply ((farU b s u l).getD u.at_.toNat 0)
def forceU (b : Brd) (u : Un) : Int := (kindOf b u.k).st * u.st
def worthU (b : Brd) (s : Sta) (l : List Int) (u : Un) : Int := if u.at_ < 0 then 0 else if supU b s u l then 3 * forceU b u else forceU b u
theorem force_bnd {b : Brd} {u : Un} (g : brdOk b = true) (h : unOk b u = true) : 0 ≤ forceU b u ∧ forceU b u ≤ 36 := by
  simp only [unOk, inR, Bool.and_eq_true, decide_eq_true_eq] at h
  have hk := kin_bnd (un_kind (b := b) (u := u) g (by simp only [inR, Bool.and_eq_true, decide_eq_true_eq]; omega))
  simp only [forceU]
  constructor
  · exact Int.mul_nonneg (by omega) (by omega)
  · have h1 : (kindOf b u.k).st * u.st ≤ (kindOf b u.k).st * 4 := Int.mul_le_mul_of_nonneg_left (by omega) (by omega)
    omega
theorem worth_bnd {b : Brd} {s : Sta} {u : Un} {l : List Int} (g : brdOk b = true) (h : unOk b u = true) : 0 ≤ worthU b s l u ∧ worthU b s l u ≤ 108 := by
  have := force_bnd g h
  simp only [worthU]
  split
  · omega
  · split <;> omega
def sideT (b : Brd) (s : Sta) (l : List Int) (is : List Int) : Int := (is.map fun k => worthU b s l (unOf s k)).sum
def sideW (b : Brd) (s : Sta) (sd : Int) (l : List Int) : Int := sideT b s l (fil (onSide sd) s.us s.us.length)
theorem sideT_snoc (b : Brd) (s : Sta) (l is : List Int) (k : Int) : sideT b s l (is ++ [k]) = sideT b s l is + worthU b s l (unOf s k) := by
  simp [sideT, List.sum_append]
theorem sideT_bnd {b : Brd} {s : Sta} {l : List Int} (h : staOk b s = true) (is : List Int) (hi : ∀ k ∈ is, 0 ≤ k ∧ k < (s.us.length : Int)) : 0 ≤ sideT b s l is ∧ sideT b s l is ≤ 108 * is.length := by
  induction is with
  | nil => simp [sideT]
  | cons k is ih =>
    have h1 := ih fun x hx => hi x (by simp [hx])
    have h2 := hi k (by simp)
    obtain ⟨j, rfl⟩ : ∃ m : Nat, k = m := ⟨k.toNat, by omega⟩
    have h3 := worth_bnd (s := s) (l := l) (sta_brd h) (sta_un h (k := j) (by omega))
    simp only [sideT, List.map_cons, List.sum_cons, List.length_cons] at h1 ⊢
    omega
theorem fil_in {α : Type} {p : α → Bool} {l : List α} {n : Nat} : ∀ k ∈ fil p l n, 0 ≤ k ∧ k < (l.length : Int) := by
  intro k hk
  obtain ⟨j, hj, rfl, _⟩ := fil_mem hk
  omega
theorem sideW_bnd {b : Brd} {s : Sta} {sd : Int} {l : List Int} (h : staOk b s = true) : 0 ≤ sideW b s sd l ∧ sideW b s sd l ≤ 1296 := by
  have h1 := sideT_bnd (l := l) h (fil (onSide sd) s.us s.us.length) fil_in
  have h2 := fil_le (p := onSide sd) (l := s.us) (Nat.le_refl _)
  have h3 := sta_len h
  simp only [sideW]
  omega
def ctl (b : Brd) (s : Sta) (i : Int) : Int := if 0 ≤ owner s i then owner s i else if inZon b s 0 i then if inZon b s 1 i then 2 else 0 else if inZon b s 1 i then 1 else -1
def ctlT (b : Brd) (s : Sta) (n : Nat) : List Int := (List.range n).map fun i => ctl b s (i : Nat)
def grdT (b : Brd) (s : Sta) (sd : Int) (n : Nat) : List Int := ((List.range n).filter fun i => decide (ctl b s (i : Nat) = sd)).map fun i : Nat => (i : Int)
def grd (b : Brd) (s : Sta) (sd : Int) : Int := (grdT b s sd b.m.t.length).length
theorem grdT_succ (b : Brd) (s : Sta) (sd : Int) (n : Nat) : grdT b s sd (n + 1) = if decide (ctl b s (n : Nat) = sd) then grdT b s sd n ++ [(n : Int)] else grdT b s sd n := by
  simp only [grdT, List.range_succ, List.filter_append]
  cases h : decide (ctl b s (n : Nat) = sd)
  · simp [h]
  · simp [h]
theorem grdT_le (b : Brd) (s : Sta) (sd : Int) (n : Nat) : (grdT b s sd n).length ≤ n := by
  simp only [grdT, List.length_map]; exact Nat.le_trans (List.length_filter_le _ _) (by simp)
theorem grd_bnd {b : Brd} {s : Sta} {sd : Int} (g : brdOk b = true) : 0 ≤ grd b s sd ∧ grd b s sd ≤ 100 := by
  have h1 := grdT_le b s sd b.m.t.length
  have h2 := brd_t g
  have hm := mp_wh (brd_mp g)
  have hwh := wh_le hm.1 hm.2
  simp only [grd]
  omega
def valS (x : Se) (s : Sta) (sd : Int) : Int := 2 * (sideW x.b s sd (x.src.getD sd.toNat []) - sideW x.b s (1 - sd) (x.src.getD (1 - sd).toNat [])) + grd x.b s sd - grd x.b s (1 - sd)
def vaOk (x : Se) (s : Sta) (sd : Int) : Bool := gaOk x s && inR 0 1 sd
def vaRes (x : Se) (s : Sta) (sd : Int) : Int := if vaOk x s sd then valS x s sd else 0
theorem se_src {x : Se} (h : seOk x = true) : x.src.length = 2 ∧ srcOk x.b (x.src.getD 0 []) = true ∧ srcOk x.b (x.src.getD 1 []) = true := by
  simp only [seOk, Bool.and_eq_true, decide_eq_true_eq] at h
  exact ⟨by omega, h.1.2, h.2⟩
end Go.Proofs.YtjaccjeejeiphaaGreatDoor.X
set_option maxHeartbeats 1000000
set_option maxRecDepth 8000
set_option linter.unusedSimpArgs false
set_option linter.unusedVariables false
open Nat renaming reduceBEq → N1, reduceAdd → N2, reduceSub → N3, reduceMul → N4, reduceEqDiff → N5, reduceLeDiff → N6, reduceLT → N7
open Int renaming reduceLE → I1, reduceLT → I2, reduceToNat → I3
namespace Go.Proofs.YtjaccjeejeiphaaGreatDoor.X
open Go
def wRoad (w : Int) : Int := if 0 < w then w - 1 else w
def stepM (b : Brd) (kd w i : Int) (d : Nat) : Int :=
  if decide (nextM b.m i d < 0) || decide (costAt b kd (nextM b.m i d) = 0) then 0
  else if hasI b.m.ro (edgeM b.m i d) then b.r.road + wRoad w
  else costAt b kd (nextM b.m i d) + w + (if hasI b.m.ri (edgeM b.m i d) then b.r.river else 0)
def fwd (b : Brd) (kd w : Int) : Way := ⟨fun k d => stepM b kd w k d, fun k _ => k, fun k d => (nextM b.m k d).toNat⟩
def bwd (b : Brd) (kd w : Int) : Way := ⟨fun k d => stepM b kd w k d, fun k d => (nextM b.m k d).toNat, fun k _ => k⟩
theorem cost_bnd {b : Brd} {kd i : Int} (h : kindAsk b kd = true) (hi : 0 ≤ i ∧ i < b.m.w * b.m.h) : 0 ≤ costAt b kd i ∧ costAt b kd i ≤ 9 := by
  have hk := kind_at h
  have g : brdOk b = true := by simp only [kindAsk, Bool.and_eq_true] at h; exact h.1
  have := cost_get (b := b) (k := kd.toNat) (i := i) g (by omega) (by simp only [inR, Bool.and_eq_true, decide_eq_true_eq]; omega)
  rw [show ((kd.toNat : Nat) : Int) = kd by omega] at this
  exact ⟨this.2.1, this.2.2.1⟩
theorem step_bnd {b : Brd} {kd w i : Int} {d : Nat} (h : kindAsk b kd = true) (hw : 0 ≤ w ∧ w ≤ 2) : 0 ≤ stepM b kd w i d ∧ stepM b kd w i d ≤ 20 ∧ (stepM b kd w i d ≠ 0 → 0 ≤ nextM b.m i d ∧ nextM b.m i d < b.m.w * b.m.h) := by
  have g : brdOk b = true := by simp only [kindAsk, Bool.and_eq_true] at h; exact h.1
  have hm := mp_wh (brd_mp g)
  have hr := brd_ru g
  simp only [rulOk, tailOk, inR, Bool.and_eq_true, decide_eq_true_eq] at hr
  have hn := nextM_bnd (m := b.m) (i := i) (d := d) hm.1 hm.2
  simp only [stepM]
  by_cases g1 : (decide (nextM b.m i d < 0) || decide (costAt b kd (nextM b.m i d) = 0)) = true
  · rw [if_pos g1]; omega
  rw [if_neg g1]
  simp only [Bool.or_eq_true, decide_eq_true_eq, not_or] at g1
  have hc := cost_bnd h (i := nextM b.m i d) (by omega)
  refine ⟨?_, ?_, fun _ => by omega⟩
  · simp only [wRoad]; split
    · split <;> omega
    · split <;> omega
  · simp only [wRoad]; split
    · split <;> omega
    · split <;> omega
theorem fwd_ok {b : Brd} {kd w : Int} (h : kindAsk b kd = true) (hw : 0 ≤ w ∧ w ≤ 2) : WayOk b.m.t.length (fwd b kd w) := by
  have g : brdOk b = true := by simp only [kindAsk, Bool.and_eq_true] at h; exact h.1
  have ht := brd_t g
  refine ⟨fun k d hk hd hc => ?_⟩
  have := step_bnd (i := k) (d := d) h hw
  simp only [fwd] at hc ⊢
  refine ⟨by omega, hk, by have := this.2.2 hc; omega⟩
theorem bwd_ok {b : Brd} {kd w : Int} (h : kindAsk b kd = true) (hw : 0 ≤ w ∧ w ≤ 2) : WayOk b.m.t.length (bwd b kd w) := by
  have g : brdOk b = true := by simp only [kindAsk, Bool.and_eq_true] at h; exact h.1
  have ht := brd_t g
  refine ⟨fun k d hk hd hc => ?_⟩
  have := step_bnd (i := k) (d := d) h hw
  simp only [bwd] at hc ⊢
  refine ⟨by omega, by have := this.2.2 hc; omega, hk⟩
theorem brd_n {b : Brd} (g : brdOk b = true) : b.m.t.length ≤ 100 ∧ 1 ≤ b.m.t.length := by
  have hm := mp_wh (brd_mp g)
  have hwh := wh_le hm.1 hm.2
  have := brd_t g
  omega
def farF (b : Brd) (kd w : Int) (i : Nat) : List Int := rxF (fwd b kd w) b.m.t.length i
def farB (b : Brd) (kd w : Int) (i : Nat) : List Int := rxF (bwd b kd w) b.m.t.length i
inductive Rch (b : Brd) (kd w : Int) (i : Nat) : Nat → Prop where
  | rfl : Rch b kd w i i
  | step {x d : Nat} : Rch b kd w i x → x < b.m.t.length → d < 6 → stepM b kd w x d ≠ 0 → Rch b kd w i (nextM b.m x d).toNat
theorem farF_rch {b : Brd} {kd w : Int} {i : Nat} (h : kindAsk b kd = true) (hw : 0 ≤ w ∧ w ≤ 2) (hi : i < b.m.t.length) : ∀ (m y : Nat), y < b.m.t.length → 0 ≤ (farF b kd w i).getD y 0 → (farF b kd w i).getD y 0 ≤ m → Rch b kd w i y := by
  have g : brdOk b = true := by simp only [kindAsk, Bool.and_eq_true] at h; exact h.1
  have hf := rxF_far (brd_n g).1 (fwd_ok h hw) hi
  intro m
  induction m with
  | zero =>
    intro y hy h0 hm
    by_cases hyi : y = i
    · subst hyi; exact .rfl
    · obtain ⟨k, d, hk, hd, hc, e, h1, h2⟩ := hf.tig y hy h0 hyi
      have := (fwd_ok h hw).ok k d hk hd hc
      simp only [farF] at hm
      omega
  | succ m ih =>
    intro y hy h0 hm
    by_cases hyi : y = i
    · subst hyi; exact .rfl
    · obtain ⟨k, d, hk, hd, hc, e, h1, h2⟩ := hf.tig y hy h0 hyi
      have hx := (fwd_ok h hw).ok k d hk hd hc
      have := ih k hk (by simpa only [farF, fwd] using h1) (by simp only [farF, fwd] at hm h2 hx ⊢; omega)
      rw [← e]
      exact .step this hk hd hc
theorem rch_back {b : Brd} {kd w : Int} {i k : Nat} (h : kindAsk b kd = true) (hw : 0 ≤ w ∧ w ≤ 2) (hk : k < b.m.t.length) {y : Nat} (hr : Rch b kd w i y) : 0 ≤ (farB b kd w k).getD y 0 → 0 ≤ (farB b kd w k).getD i 0 := by
  have g : brdOk b = true := by simp only [kindAsk, Bool.and_eq_true] at h; exact h.1
  have hf := rxF_far (brd_n g).1 (bwd_ok h hw) hk
  induction hr with
  | rfl => exact fun h => h
  | step _ hx hd hc ih => exact fun h0 => ih (hf.rel _ _ hx hd hc h0).1
theorem reach_back {b : Brd} {kd w : Int} {i k : Nat} (h : kindAsk b kd = true) (hw : 0 ≤ w ∧ w ≤ 2) (hi : i < b.m.t.length) (hk : k < b.m.t.length) (h0 : 0 ≤ (farF b kd w i).getD k 0) : 0 ≤ (farB b kd w k).getD i 0 := by
  have g : brdOk b = true := by simp only [kindAsk, Bool.and_eq_true] at h; exact h.1
  refine rch_back h hw hk (farF_rch h hw hi ((farF b kd w i).getD k 0).toNat k hk h0 (by omega)) ?_
  have := (rxF_far (brd_n g).1 (bwd_ok h hw) hk).at_
  simp only [farB]
  omega
def pgood (b : Brd) (kd w : Int) (to : List Int) (x : Nat) (d : Nat) : Bool := decide (stepM b kd w x d ≠ 0) && (decide (0 ≤ to.getD (nextM b.m x d).toNat 0) && decide (to.getD (nextM b.m x d).toNat 0 + stepM b kd w x d = to.getD x 0))
def pI (b : Brd) (kd w : Int) (to : List Int) (i k : Nat) : Nat → Nat × List Int
  | 0 => (i, [])
  | j + 1 => if (pI b kd w to i k j).1 = k then pI b kd w to i k j else match first6 (pgood b kd w to (pI b kd w to i k j).1) with
    | some d => ((nextM b.m (pI b kd w to i k j).1 d).toNat, (pI b kd w to i k j).2 ++ [(d : Int)])
    | none => pI b kd w to i k j
theorem first6_some {p : Nat → Bool} {d : Nat} (hd : d < 6) (h : p d = true) : ∃ d, d < 6 ∧ first6 p = some d ∧ p d = true ∧ ∀ j, j < d → p j = false := by
  cases e : first6 p with
  | none =>
    simp only [first6, List.find?_range_eq_none] at e
    have := e d hd
    simp [h] at this
  | some x =>
    simp only [first6, List.find?_range_eq_some] at e
    exact ⟨x, by simpa using e.2.1, rfl, e.1, fun j hj => by simpa using e.2.2 j hj⟩
theorem pgood_some {b : Brd} {kd w : Int} {k x : Nat} (h : kindAsk b kd = true) (hw : 0 ≤ w ∧ w ≤ 2) (hk : k < b.m.t.length) (hx : x < b.m.t.length) (hxk : x ≠ k) (h0 : 0 ≤ (farB b kd w k).getD x 0) : ∃ d, d < 6 ∧ first6 (pgood b kd w (farB b kd w k) x) = some d ∧ pgood b kd w (farB b kd w k) x d = true ∧ ∀ j, j < d → pgood b kd w (farB b kd w k) x j = false := by
  have g : brdOk b = true := by simp only [kindAsk, Bool.and_eq_true] at h; exact h.1
  have hf := rxF_far (brd_n g).1 (bwd_ok h hw) hk
  obtain ⟨y, d, hy, hd, hc, e, h1, h2⟩ := hf.tig x hx h0 hxk
  have h3 := hf.rel y d hy hd hc h1
  simp only [bwd] at e hc
  subst e
  refine first6_some hd ?_
  simp only [pgood, Bool.and_eq_true, decide_eq_true_eq]
  simp only [farB]
  simp only [bwd] at h1 h2 h3 ⊢
  exact ⟨hc, h1, by omega⟩
theorem pI_ok {b : Brd} {kd w : Int} {i k : Nat} (h : kindAsk b kd = true) (hw : 0 ≤ w ∧ w ≤ 2) (hi : i < b.m.t.length) (hk : k < b.m.t.length) (h0 : 0 ≤ (farB b kd w k).getD i 0) (j : Nat) (hj : ∀ m, m < j → (pI b kd w (farB b kd w k) i k m).1 ≠ k) : (pI b kd w (farB b kd w k) i k j).1 < b.m.t.length ∧ 0 ≤ (farB b kd w k).getD (pI b kd w (farB b kd w k) i k j).1 0 ∧ (farB b kd w k).getD (pI b kd w (farB b kd w k) i k j).1 0 + j ≤ (farB b kd w k).getD i 0 ∧ (pI b kd w (farB b kd w k) i k j).2.length = j ∧ ∀ d ∈ (pI b kd w (farB b kd w k) i k j).2, 0 ≤ d ∧ d < 6 := by
  induction j with
  | zero => exact ⟨hi, h0, by simp [pI], rfl, fun d hd => by simp [pI] at hd⟩
  | succ j ih =>
    obtain ⟨i1, i2, i3, i4, i5⟩ := ih fun m hm => hj m (by omega)
    have hne := hj j (by omega)
    obtain ⟨d, hd, e, hg, _⟩ := pgood_some h hw hk i1 hne i2
    simp only [pI, if_neg hne, e]
    simp only [pgood, Bool.and_eq_true, decide_eq_true_eq] at hg
    have hs := step_bnd (i := (pI b kd w (farB b kd w k) i k j).1) (d := d) h hw
    have ht := brd_t (show brdOk b = true by simp only [kindAsk, Bool.and_eq_true] at h; exact h.1)
    have hn := hs.2.2 hg.1
    refine ⟨by omega, hg.2.1, by omega, by simp only [List.length_append, i4, List.length_singleton], fun x hx => ?_⟩
    rcases List.mem_append.1 hx with hx | hx
    · exact i5 x hx
    · rw [List.mem_singleton.1 hx]; omega
def pN (b : Brd) (kd w : Int) (to : List Int) (i k : Nat) : Nat := (List.range 2002).findIdx fun j => decide ((pI b kd w to i k j).1 = k)
def pthM (b : Brd) (kd w : Int) (i k : Nat) : List Int := (pI b kd w (farB b kd w k) i k (pN b kd w (farB b kd w k) i k)).2
theorem pN_lt {b : Brd} {kd w : Int} {to : List Int} {i k j : Nat} (h : j < pN b kd w to i k) : (pI b kd w to i k j).1 ≠ k := by
  have hle : pN b kd w to i k ≤ 2002 := by simp only [pN]; exact Nat.le_trans List.findIdx_le_length (by simp)
  have := List.not_of_lt_findIdx (xs := List.range 2002) (p := fun j => decide ((pI b kd w to i k j).1 = k)) (i := j) h
  simpa only [List.getElem_range, decide_eq_false_iff_not] using this
theorem pN_end {b : Brd} {kd w : Int} {i k : Nat} (h : kindAsk b kd = true) (hw : 0 ≤ w ∧ w ≤ 2) (hi : i < b.m.t.length) (hk : k < b.m.t.length) (h0 : 0 ≤ (farB b kd w k).getD i 0) : (pI b kd w (farB b kd w k) i k (pN b kd w (farB b kd w k) i k)).1 = k := by
  have g : brdOk b = true := by simp only [kindAsk, Bool.and_eq_true] at h; exact h.1
  have hl := (rxF_far (brd_n g).1 (bwd_ok h hw) hk).len
  have hlt : pN b kd w (farB b kd w k) i k < (List.range 2002).length := by
    simp only [pN]
    refine List.findIdx_lt_length_of_exists ?_
    by_cases hex : ∃ j, j < 2002 ∧ (pI b kd w (farB b kd w k) i k j).1 = k
    · obtain ⟨j, h1, h2⟩ := hex
      exact ⟨j, by simpa using h1, by simpa using h2⟩
    · exfalso
      have h1 := pI_ok h hw hi hk h0 2001 fun m hm e => hex ⟨m, by omega, e⟩
      have h2 := rxF_bnd (brd_n g).1 (bwd_ok h hw) hk _ (getD_mem (l := farB b kd w k) (i := i) (by simp only [farB, hl]; exact hi) 0)
      omega
  have h1 : decide ((pI b kd w (farB b kd w k) i k ((List.range 2002)[pN b kd w (farB b kd w k) i k]'hlt)).1 = k) = true := List.findIdx_getElem (w := hlt)
  rw [List.getElem_range hlt] at h1
  exact of_decide_eq_true h1
theorem pN_le {b : Brd} {kd w : Int} {to : List Int} {i k : Nat} : pN b kd w to i k ≤ 2002 := by
  simp only [pN]; exact Nat.le_trans List.findIdx_le_length (by simp)
end Go.Proofs.YtjaccjeejeiphaaGreatDoor.X
set_option maxHeartbeats 1000000
set_option maxRecDepth 8000
set_option linter.unusedSimpArgs false
set_option linter.unusedVariables false
open Nat renaming reduceBEq → N1, reduceAdd → N2, reduceSub → N3, reduceMul → N4, reduceEqDiff → N5, reduceLeDiff → N6, reduceLT → N7
open Int renaming reduceLE → I1, reduceLT → I2, reduceToNat → I3
namespace Go.Proofs.YtjaccjeejeiphaaGreatDoor.X
open Go
def putI (n : Int) : List Int → List Int
  | [] => [n]
  | x :: l => if x < n then x :: putI n l else if x = n then x :: l else n :: x :: l
theorem putI_at (n : Int) : ∀ (l : List Int) (k : Nat), k ≤ l.length → (∀ j (h : j < l.length), j < k → l[j] < n) → (∀ h : k < l.length, ¬ l[k] < n) → putI n l = if h : k < l.length then (if l[k] = n then l else l.take k ++ n :: l.drop k) else l ++ [n]
  | [], k, hk, h1, h2 => by simp at hk; subst hk; simp [putI]
  | x :: l, 0, hk, h1, h2 => by
    have := h2 (by simp)
    simp only [List.getElem_cons_zero] at this
    simp only [putI, if_neg this, List.length_cons, Nat.zero_lt_succ, dite_true, List.getElem_cons_zero]
    split <;> simp
  | x :: l, k + 1, hk, h1, h2 => by
    have h0 := h1 0 (by simp) (by omega)
    simp only [List.getElem_cons_zero] at h0
    have ih := putI_at n l k (by simpa using hk) (fun j h hj => h1 (j + 1) (Nat.succ_lt_succ h) (by omega)) (fun h => h2 (Nat.succ_lt_succ h))
    simp only [putI, if_pos h0, ih, List.length_cons, Nat.add_lt_add_iff_right, List.getElem_cons_succ, List.take_succ_cons, List.drop_succ_cons, List.cons_append]
    split
    · split <;> rfl
    · rfl
theorem putI_mem (n x : Int) : ∀ l : List Int, x ∈ putI n l ↔ x = n ∨ x ∈ l
  | [] => by simp [putI]
  | y :: l => by
    simp only [putI]
    split
    · simp only [List.mem_cons, putI_mem n x l]
      constructor
      · rintro (h | h | h) <;> simp [h]
      · rintro (h | h | h) <;> simp [h]
    · split
      · rename_i e; subst e; simp only [List.mem_cons]
        constructor
        · rintro (h | h) <;> simp [h]
        · rintro (h | h | h) <;> simp [h]
      · simp only [List.mem_cons]
theorem putI_inc (n : Int) : ∀ l : List Int, l.Pairwise (· < ·) → (putI n l).Pairwise (· < ·)
  | [], _ => by simp [putI]
  | y :: l, h => by
    have h' := List.pairwise_cons.1 h
    simp only [putI]
    split
    · refine List.pairwise_cons.2 ⟨fun x hx => ?_, putI_inc n l h'.2⟩
      rcases (putI_mem n x l).1 hx with e | e
      · omega
      · exact h'.1 x e
    · split
      · exact h
      · refine List.pairwise_cons.2 ⟨fun x hx => ?_, h⟩
        rcases List.mem_cons.1 hx with e | e
        · omega
        · have := h'.1 x e; omega
theorem putI_len (n : Int) : ∀ l : List Int, (putI n l).length ≤ l.length + 1
  | [] => by simp [putI]
  | y :: l => by
    have := putI_len n l
    simp only [putI]
    split
    · simp only [List.length_cons]; omega
    · split <;> simp
theorem inc_eq : ∀ {l m : List Int}, l.Pairwise (· < ·) → m.Pairwise (· < ·) → (∀ x, x ∈ l ↔ x ∈ m) → l = m
  | [], [], _, _, _ => rfl
  | [], y :: m, _, _, h => by have := (h y).2 (by simp); simp at this
  | x :: l, [], _, _, h => by have := (h x).1 (by simp); simp at this
  | x :: l, y :: m, hl, hm, h => by
    have hl' := List.pairwise_cons.1 hl
    have hm' := List.pairwise_cons.1 hm
    have e : x = y := by
      rcases List.mem_cons.1 ((h x).1 (by simp)) with e | e
      · exact e
      · rcases List.mem_cons.1 ((h y).2 (by simp)) with e2 | e2
        · exact e2.symm
        · have a := hm'.1 x e
          have b := hl'.1 y e2
          omega
    subst e
    rw [inc_eq hl'.2 hm'.2 fun z => ?_]
    constructor
    · intro hz
      rcases List.mem_cons.1 ((h z).1 (by simp [hz])) with e | e
      · have := hl'.1 z hz; omega
      · exact e
    · intro hz
      rcases List.mem_cons.1 ((h z).2 (by simp [hz])) with e | e
      · have := hm'.1 z hz; omega
      · exact e
structure Od_ where
  u : Int
  p : List Int
  a : Int
def nearT (b : Brd) (s : Sta) (sd i : Int) (j : Nat) : List Int := (List.range j).foldl (fun l d => if 0 ≤ nextM b.m i (d : Nat) ∧ owner s (nextM b.m i (d : Nat)) = 1 - sd then putI (nextM b.m i (d : Nat)) l else l) []
def nearM (b : Brd) (s : Sta) (sd i : Int) : List Int := ((List.range b.m.t.length).filter fun k => hasI (nbs b.m i) (k : Nat) && decide (owner s (k : Nat) = 1 - sd)).map fun k : Nat => (k : Int)
theorem nearT_succ (b : Brd) (s : Sta) (sd i : Int) (j : Nat) : nearT b s sd i (j + 1) = if 0 ≤ nextM b.m i (j : Nat) ∧ owner s (nextM b.m i (j : Nat)) = 1 - sd then putI (nextM b.m i (j : Nat)) (nearT b s sd i j) else nearT b s sd i j := by
  simp only [nearT, List.range_succ, List.foldl_append, List.foldl_cons, List.foldl_nil]
theorem nearT_ok (b : Brd) (s : Sta) (sd i : Int) (j : Nat) : (nearT b s sd i j).Pairwise (· < ·) ∧ (nearT b s sd i j).length ≤ j ∧ ∀ x, x ∈ nearT b s sd i j ↔ ∃ d, d < j ∧ nextM b.m i (d : Nat) = x ∧ 0 ≤ x ∧ owner s x = 1 - sd := by
  induction j with
  | zero => simp [nearT]
  | succ j ih =>
    rw [nearT_succ]
    by_cases g : 0 ≤ nextM b.m i (j : Nat) ∧ owner s (nextM b.m i (j : Nat)) = 1 - sd
    · rw [if_pos g]
      refine ⟨putI_inc _ _ ih.1, by have := putI_len (nextM b.m i (j : Nat)) (nearT b s sd i j); omega, fun x => ?_⟩
      rw [putI_mem, ih.2.2]
      constructor
      · rintro (h | ⟨d, hd, h⟩)
        · exact ⟨j, by omega, h.symm, by rw [h]; exact g⟩
        · exact ⟨d, by omega, h⟩
      · rintro ⟨d, hd, h1, h2⟩
        by_cases e : d = j
        · subst e; exact .inl h1.symm
        · exact .inr ⟨d, by omega, h1, h2⟩
    · rw [if_neg g]
      refine ⟨ih.1, by omega, fun x => ?_⟩
      rw [ih.2.2]
      constructor
      · rintro ⟨d, hd, h⟩; exact ⟨d, by omega, h⟩
      · rintro ⟨d, hd, h1, h2⟩
        by_cases e : d = j
        · subst e; rw [h1] at g; exact absurd h2 g
        · exact ⟨d, by omega, h1, h2⟩
theorem nbs_mem (m : Mp) (i x : Int) : x ∈ nbs m i ↔ ∃ d, d < 6 ∧ nextM m i (d : Nat) = x ∧ 0 ≤ x := by
  simp only [nbs, nbT, List.mem_filter, List.mem_map, List.mem_range, decide_eq_true_eq]
  constructor
  · rintro ⟨⟨d, h1, h2⟩, h3⟩; exact ⟨d, h1, h2, h3⟩
  · rintro ⟨d, h1, h2, h3⟩; exact ⟨⟨d, h1, h2⟩, h3⟩
theorem hasI_mem {l : List Int} {n : Int} : hasI l n = true ↔ n ∈ l := by
  simp only [hasI, List.any_eq_true, decide_eq_true_eq]
  constructor
  · rintro ⟨x, h, rfl⟩; exact h
  · intro h; exact ⟨n, h, rfl⟩
theorem near_eq {b : Brd} {s : Sta} {sd i : Int} (g : brdOk b = true) : nearT b s sd i 6 = nearM b s sd i := by
  obtain ⟨h1, _, h2⟩ := nearT_ok b s sd i 6
  refine inc_eq h1 ?_ fun x => ?_
  · simp only [nearM]
    refine List.pairwise_map.2 ?_
    exact (List.Pairwise.filter _ List.pairwise_lt_range).imp fun h => by omega
  · rw [h2]
    simp only [nearM, List.mem_map, List.mem_filter, List.mem_range, Bool.and_eq_true, hasI_mem, nbs_mem, decide_eq_true_eq]
    constructor
    · rintro ⟨d, hd, e, h0, ho⟩
      have := (nextM_bnd (m := b.m) (i := i) (d := d) (mp_wh (brd_mp g)).1 (mp_wh (brd_mp g)).2).2
      have ht := brd_t g
      refine ⟨x.toNat, ⟨by omega, ⟨d, hd, by omega, by omega⟩, ?_⟩, by omega⟩
      rw [show ((x.toNat : Nat) : Int) = x by omega]; exact ho
    · rintro ⟨k, ⟨hk, ⟨d, hd, e, h0⟩, ho⟩, rfl⟩
      exact ⟨d, hd, e, h0, ho⟩
theorem nextM_inj {m : Mp} {i : Int} {d e : Nat} (hw : 1 ≤ m.w) (hd : d < 6) (he : e < 6) (h0 : 0 ≤ nextM m i (d : Nat)) (h : nextM m i (d : Nat) = nextM m i (e : Nat)) : d = e := by
  simp only [nextM, Int.toNat_natCast] at h h0
  split at h
  rotate_left
  · rename_i g; rw [if_neg g] at h0; omega
  split at h
  rotate_left
  · rename_i g _ ; rw [if_pos g] at h0; omega
  rename_i g1 g2
  simp only [inR, Bool.and_eq_true, decide_eq_true_eq] at g1 g2
  generalize i.tdiv m.w = r at *
  generalize i.tmod m.w = q at *
  have hr : r + dr d = r + dr e := by
    rcases Int.lt_trichotomy (r + dr d) (r + dr e) with h1 | h1 | h1
    · have : (r + dr d + 1) * m.w ≤ (r + dr e) * m.w := Int.mul_le_mul_of_nonneg_right (by omega) (by omega)
      rw [Int.add_mul, Int.one_mul] at this
      omega
    · exact h1
    · have : (r + dr e + 1) * m.w ≤ (r + dr d) * m.w := Int.mul_le_mul_of_nonneg_right (by omega) (by omega)
      rw [Int.add_mul, Int.one_mul] at this
      omega
  have hq : dq d = dq e := by rw [hr] at h; omega
  have hr' : dr d = dr e := by omega
  have key : ∀ a b : Fin 6, dq a = dq b → dr a = dr b → a = b := by decide
  have := key ⟨d, hd⟩ ⟨e, he⟩ hq hr'
  simpa using this
def ordsAt (b : Brd) (s : Sta) (u : Int) (x : Un) (i : Int) : List Od_ := ⟨u, pthM b x.k s.w x.at_.toNat i.toNat, -1⟩ :: (nearM b s x.sd i).map fun k => ⟨u, pthM b x.k s.w x.at_.toNat i.toNat, k⟩
def rchT (b : Brd) (s : Sta) (x : Un) (n : Nat) : List Int := ((List.range n).filter fun k => inR 0 (kindOf b x.k).mv ((farF b x.k s.w x.at_.toNat).getD k 0)).map fun k : Nat => (k : Int)
def rchM (b : Brd) (s : Sta) (x : Un) : List Int := rchT b s x b.m.t.length
def goTo (s : Sta) (x : Un) (i : Int) : Bool := !decide (i = x.at_) && !decide (owner s i = 1 - x.sd)
def choF (b : Brd) (s : Sta) (u : Int) (x : Un) (l : List Int) : List Od_ := ordsAt b s u x x.at_ ++ (l.filter (goTo s x)).flatMap (ordsAt b s u x)
def choM (b : Brd) (s : Sta) (u : Int) (x : Un) : List Od_ := (choF b s u x (rchM b s x)).take 12
def choI (b : Brd) (s : Sta) (u : Int) (x : Un) (l : List Int) : List Od_ := l.foldl (fun o i => if goTo s x i && decide (o.length < 12) then o ++ ordsAt b s u x i else o) (ordsAt b s u x x.at_)
theorem fold_take {α β : Type} (c : β → Bool) (f : β → List α) (n : Nat) : ∀ (l : List β) (o : List α), (l.foldl (fun o i => if c i && decide (o.length < n) then o ++ f i else o) o).take n = (o ++ (l.filter c).flatMap f).take n
  | [], o => by simp
  | i :: l, o => by
    simp only [List.foldl_cons]
    rw [fold_take c f n l]
    by_cases hc : c i = true
    · simp only [hc, Bool.true_and, List.filter_cons, if_true, List.flatMap_cons, decide_eq_true_eq]
      split
      · rw [List.append_assoc]
      · rename_i h
        rw [List.take_append_of_le_length (by omega), List.take_append_of_le_length (by omega)]
    · simp only [Bool.not_eq_true] at hc
      simp [hc, List.filter_cons]
theorem cho_eq (b : Brd) (s : Sta) (u : Int) (x : Un) : (choI b s u x (rchM b s x)).take 12 = choM b s u x := by
  simp only [choI, choM, choF]; exact fold_take _ _ _ _ _
theorem owner_own {b : Brd} {s : Sta} {k : Nat} (h : staOk b s = true) (hk : k < s.us.length) (ha : 0 ≤ (unOf s k).at_) : owner s (unOf s k).at_ ≠ 1 - (unOf s k).sd := by
  have eu : unOf s k = s.us[k] := by simp [unOf, List.getD, hk]
  rw [eu] at ha ⊢
  have hs : stackOk b s.us s.us[k] = true := by
    simp only [staOk, staOk0, Bool.and_eq_true] at h
    exact List.all_eq_true.1 h.2.2 _ (List.getElem_mem hk)
  intro ho
  have hun := List.all_eq_true.1 (sta_all h) _ (List.getElem_mem hk)
  have hsd := un_sd hun
  simp only [owner] at ho
  cases e : s.us.find? (inHex s.us[k].at_) with
  | none => rw [e] at ho; simp only at ho; omega
  | some u =>
    rw [e] at ho
    simp only at ho
    have h1 := List.find?_some e
    have h2 := List.mem_of_find?_eq_some e
    have hc : 0 < cnt s.us s.us[k].at_ (1 - s.us[k].sd) := List.countP_pos_iff.2 ⟨u, h2, by simp only [inHex, decide_eq_true_eq] at h1; simp only [isAt, Bool.and_eq_true, decide_eq_true_eq]; exact ⟨h1, ho⟩⟩
    simp only [stackOk, Bool.not_eq_true', Bool.and_eq_false_iff, Bool.or_eq_false_iff, decide_eq_false_iff_not] at hs
    omega
end Go.Proofs.YtjaccjeejeiphaaGreatDoor.X
