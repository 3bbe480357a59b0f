/- A part of the proof: lemmas on the machine or on the functions that the law reaches. No condition of its own. -/
import Derived.Test.YtjaccjeejeiphaaGreatDoorXP5
import Derived.Test.YtjaccjeejeiphaaGreatDoorXP6
import Derived.Test.YtjaccjeejeiphaaGreatDoorXP4
set_option maxHeartbeats 4000000
set_option maxRecDepth 8000
set_option linter.unusedSimpArgs false
set_option linter.unusedVariables false
open Nat renaming reduceBEq → N1, reduceAdd → N2, reduceSub → N3, reduceMul → N4, reduceEqDiff → N5, reduceLeDiff → N6, reduceLT → N7
open Int renaming reduceLE → I1, reduceLT → I2, reduceToNat → I3
namespace Go.Proofs.YtjaccjeejeiphaaGreatDoor.X
open Go
attribute [local irreducible] Ev
def onSide (sd : Int) (u : Un) : Bool := decide (u.sd = sd) && decide (0 ≤ u.at_)
def gaOk (x : Se) (s : Sta) : Bool := seOk x && staOk x.b s
theorem se_brd {x : Se} (h : seOk x = true) : brdOk x.b = true := by
  simp only [seOk, Bool.and_eq_true] at h; exact h.1.1.1.1.1
theorem ga_eq {x : Se} {s : Sta} (h : seOk x = true) : gaOk x s = staOk0 x.b s := by
  simp only [gaOk, staOk, h, se_brd h, Bool.true_and]
def overOk (x : Se) (s : Sta) : Bool := decide (s.t = x.b.r.turns) || decide ((((fil (onSide 0) s.us s.us.length).length : Nat) : Int) = 0) || decide ((((fil (onSide 1) s.us s.us.length).length : Nat) : Int) = 0)
def ovRes (x : Se) (s : Sta) : Bool := gaOk x s && overOk x s
def leftRes (x : Se) (s : Sta) : Int := if gaOk x s then if overOk x s then 0 else x.b.r.turns - s.t else 0
theorem ga_turn {x : Se} {s : Sta} (h : gaOk x s = true) : 0 ≤ s.t ∧ s.t ≤ x.b.r.turns ∧ x.b.r.turns ≤ 30 ∧ s.us.length ≤ 12 := by
  simp only [gaOk, Bool.and_eq_true] at h
  have h1 := h.2
  have h2 := brd_ru (se_brd h.1)
  simp only [staOk, staOk0, rulOk, tailOk, inR, Bool.and_eq_true, decide_eq_true_eq] at h1 h2
  omega
section
variable {C : CT} (hC : Closed Tryz.prog G1 md0 C)
include hC
theorem t126 (s : Sta) (sd : Int) (hl : s.us.length < 2^40) : Ev C 126 [.agg (staF s), .int .i64 sd] (.ow 1 (ints (fil (onSide sd) s.us s.us.length))) := by
  simp only [staF]
  refine rT hC Q126 ?_ (own_ints _)
  simp only [c126, uns_length, push_cast, ↓J1, ↓J2, N1, N2, N3, reduceCtorEq, N4, N5, N6, reduceIte, N7, I1, I2, I3]
  refine RL_count (fun i => ⟨tb 32 .any [(5, .ref 0 none 1 0 (fil (onSide sd) s.us i).length), (1, .int .i64 sd), (10, .sl (uns s.us)), (11, .int .i64 (s.us.length : Int)), (12, .int .i64 (i : Int))], [(0, .slice 1 (ints (fil (onSide sd) s.us i)))], 1⟩) (fun _ => True) s.us.length 0 (hdA [(1, 0)]) (by omega) trivial fun i hi _ J hJ => ?_
  by_cases h1 : i < s.us.length
  · have e1 := uns_get h1
    have e2 := fil_succ (p := (onSide sd)) h1
    have hfl := fil_le (p := (onSide sd)) hi
    have tk : List.take (fil (onSide sd) s.us i).length (ints (fil (onSide sd) s.us i)) = ints (fil (onSide sd) s.us i) := List.take_of_length_le (by rw [ints_length]; omega)
    generalize s.us[i] = u at *
    simp only [Int.toNat_natCast, e1, unA, push_cast, ↓J1, ↓J2, N1, N2, N3, reduceCtorEq, N4, N5, N6, reduceIte, N7, I1, I2, I3]
    refine ifB_intro (fun _ => ?_) (fun h => by simp at h; omega)
    repeat (refine ⟨by omega, ?_⟩)
    cases g1 : decide (u.sd = sd)
    · have hp : (onSide sd) u = false := by simp only [onSide, g1, Bool.false_and, Bool.and_false]
      rw [hp, if_neg Bool.false_ne_true] at e2
      simp only [g1, push_cast, ↓J1, ↓J2, N1, N2, N3, reduceCtorEq, N4, N5, N6, reduceIte, N7, I1, I2, I3]
      exact hJ h1 trivial _ (by rw [e2]; exact (hdA [(0, 0)]))
    cases g2 : decide (0 ≤ u.at_)
    · have hp : (onSide sd) u = false := by simp only [onSide, g1, g2, Bool.false_and, Bool.and_false]
      rw [hp, if_neg Bool.false_ne_true] at e2
      simp only [g1, g2, push_cast, ↓J1, ↓J2, N1, N2, N3, reduceCtorEq, N4, N5, N6, reduceIte, N7, I1, I2, I3]
      exact hJ h1 trivial _ (by rw [e2]; exact (hdA [(0, 0)]))
    have hp : (onSide sd) u = true := by simp only [onSide, g1, g2, Bool.and_self]
    rw [hp, if_pos rfl] at e2
    simp only [g1, g2, tk, ints_length, allScs, apYR_sc, push_cast, ↓J1, ↓J2, N1, N2, N3, reduceCtorEq, N4, N5, N6, reduceIte, N7, I1, I2, I3]
    repeat (refine ⟨by omega, ?_⟩)
    refine hJ h1 trivial _ ?_
    rw [e2]
    refine (hdA [(3, 0)] (hh := ?_))
    simp only [canR, canB, renO, renL, ren, lkp, hget, N7, N5, Nat.not_lt_zero, if_false, if_true, reduceIte, List.append_nil, List.nil_append, ints_sn]
    all_goals rfl
  · simp only [uns_length, push_cast, ↓J1, ↓J2, N1, N2, N3, reduceCtorEq, N4, N5, N6, reduceIte, N7, I1, I2, I3]
    refine ifB_intro (fun h => by simp at h; omega) (fun h => ?_)
    obtain rfl : i = s.us.length := by omega
    exact RetTo_ow rfl (by rw [ints_length])
theorem t123 (s : Sta) (sd : Int) (hl : s.us.length < 2^40) : Ev C 123 [.agg (staF s), .int .i64 sd] (.ow 1 (ints (fil (onSide sd) s.us s.us.length))) := by
  simp only [staF]
  refine rT hC Q123 ?_ (own_ints _)
  simp only [c123, uns_length, push_cast, ↓J1, ↓J2, N1, N2, N3, reduceCtorEq, N4, N5, N6, reduceIte, N7, I1, I2, I3]
  refine RL_count (fun i => ⟨tb 31 .any [(5, .ref 0 none 1 0 (fil (onSide sd) s.us i).length), (1, .int .i64 sd), (9, .sl (uns s.us)), (10, .int .i64 (s.us.length : Int)), (11, .int .i64 (i : Int))], [(0, .slice 1 (ints (fil (onSide sd) s.us i)))], 1⟩) (fun _ => True) s.us.length 0 (hdO 5 0 1 []) (by omega) trivial fun i hi _ J hJ => ?_
  by_cases h1 : i < s.us.length
  · have e1 := uns_get h1
    have e2 := fil_succ (p := (onSide sd)) h1
    have hfl := fil_le (p := (onSide sd)) hi
    have tk : List.take (fil (onSide sd) s.us i).length (ints (fil (onSide sd) s.us i)) = ints (fil (onSide sd) s.us i) := List.take_of_length_le (by rw [ints_length]; omega)
    generalize s.us[i] = u at *
    simp only [Int.toNat_natCast, e1, unA, push_cast, ↓J1, ↓J2, N1, N2, N3, reduceCtorEq, N4, N5, N6, reduceIte, N7, I1, I2, I3]
    refine ifB_intro (fun _ => ?_) (fun h => by simp at h; omega)
    repeat (refine ⟨by omega, ?_⟩)
    cases g1 : decide (u.sd = sd)
    · have hp : (onSide sd) u = false := by simp only [onSide, g1, Bool.false_and, Bool.and_false]
      rw [hp, if_neg Bool.false_ne_true] at e2
      simp only [g1, push_cast, ↓J1, ↓J2, N1, N2, N3, reduceCtorEq, N4, N5, N6, reduceIte, N7, I1, I2, I3]
      exact hJ h1 trivial _ (by rw [e2]; exact (hdA [(0, 0)]))
    cases g2 : decide (0 ≤ u.at_)
    · have hp : (onSide sd) u = false := by simp only [onSide, g1, g2, Bool.false_and, Bool.and_false]
      rw [hp, if_neg Bool.false_ne_true] at e2
      simp only [g1, g2, push_cast, ↓J1, ↓J2, N1, N2, N3, reduceCtorEq, N4, N5, N6, reduceIte, N7, I1, I2, I3]
      exact hJ h1 trivial _ (by rw [e2]; exact (hdA [(0, 0)]))
    have hp : (onSide sd) u = true := by simp only [onSide, g1, g2, Bool.and_self]
    rw [hp, if_pos rfl] at e2
    simp only [g1, g2, tk, ints_length, allScs, apYR_sc, push_cast, ↓J1, ↓J2, N1, N2, N3, reduceCtorEq, N4, N5, N6, reduceIte, N7, I1, I2, I3]
    repeat (refine ⟨by omega, ?_⟩)
    refine hJ h1 trivial _ ?_
    rw [e2]
    refine (hdA [(3, 0)] (hh := ?_))
    simp only [canR, canB, renO, renL, ren, lkp, hget, N7, N5, Nat.not_lt_zero, if_false, if_true, reduceIte, List.append_nil, List.nil_append, ints_sn]
    all_goals rfl
  · simp only [uns_length, push_cast, ↓J1, ↓J2, N1, N2, N3, reduceCtorEq, N4, N5, N6, reduceIte, N7, I1, I2, I3]
    refine ifB_intro (fun h => by simp at h; omega) (fun h => ?_)
    obtain rfl : i = s.us.length := by omega
    exact RetTo_ow rfl (by rw [ints_length])
theorem t81 (x : Se) (s : Sta) (hb : SeB (2^50) x) (hl : s.us.length < 2^40) : Ev C 81 [seF x, .agg (staF s)] (.bool (gaOk x s)) := by
  have c1 := t160 hC x hb
  have c2 := fun g => t121 hC x.b s g hb.b hl
  simp only [seF, brdF, rulF, mpF, ctF, clA, List.cons_append, List.nil_append, staF] at *
  refine rT hC Q81 ?_
  simp only [c81, push_cast, ↓J1, ↓J2, N1, N2, N3, reduceCtorEq, N4, N5, N6, reduceIte, N7, I1, I2, I3]
  refine ⟨_, c1, ?_⟩
  cases g1 : seOk x
  · simp only [gaOk, g1, Bool.false_and, push_cast, ↓J1, ↓J2, N1, N2, N3, reduceCtorEq, N4, N5, N6, reduceIte, N7, I1, I2, I3]
  simp only [push_cast, ↓J1, ↓J2, N1, N2, N3, reduceCtorEq, N4, N5, N6, reduceIte, N7, I1, I2, I3]
  refine ⟨_, c2 (se_brd g1), ?_⟩
  simp only [ga_eq g1, push_cast, ↓J1, ↓J2, N1, N2, N3, reduceCtorEq, N4, N5, N6, reduceIte, N7, I1, I2, I3]
theorem t76 (x : Se) (s : Sta) (sd : Int) (hb : SeB (2^50) x) (hl : s.us.length < 2^40) : Ev C 76 [seF x, .agg (staF s), .int .i64 sd] (.bool (gaOk x s && inR 0 4611686016279904236 sd)) := by
  have c1 := t157 hC x hb
  have c2 := t119 hC x.b s hb.b hl
  have c3 := t158 hC sd
  simp only [seF, brdF, rulF, mpF, ctF, clA, List.cons_append, List.nil_append, staF] at *
  refine rT hC Q76 ?_
  simp only [c76, push_cast, ↓J1, ↓J2, N1, N2, N3, reduceCtorEq, N4, N5, N6, reduceIte, N7, I1, I2, I3]
  refine ⟨_, c1, ?_⟩
  cases g1 : seOk x
  · simp only [gaOk, g1, Bool.false_and, push_cast, ↓J1, ↓J2, N1, N2, N3, reduceCtorEq, N4, N5, N6, reduceIte, N7, I1, I2, I3]
  simp only [push_cast, ↓J1, ↓J2, N1, N2, N3, reduceCtorEq, N4, N5, N6, reduceIte, N7, I1, I2, I3]
  refine ⟨_, c2, ?_⟩
  cases g2 : staOk x.b s
  · simp only [gaOk, g1, g2, Bool.false_and, Bool.and_false, push_cast, ↓J1, ↓J2, N1, N2, N3, reduceCtorEq, N4, N5, N6, reduceIte, N7, I1, I2, I3]
  simp only [push_cast, ↓J1, ↓J2, N1, N2, N3, reduceCtorEq, N4, N5, N6, reduceIte, N7, I1, I2, I3]
  refine ⟨_, c3, ?_⟩
  simp only [gaOk, g1, g2, Bool.true_and, Bool.and_self, push_cast, ↓J1, ↓J2, N1, N2, N3, reduceCtorEq, N4, N5, N6, reduceIte, N7, I1, I2, I3]
theorem t82 (x : Se) (s : Sta) (hl : s.us.length < 2^40) : Ev C 82 [brdF x.b, .agg (staF s)] (.bool (overOk x s)) := by
  have c1 := fun sd => t126 hC s sd hl
  simp only [seF, brdF, rulF, mpF, ctF, clA, List.cons_append, List.nil_append, staF] at *
  refine rT hC Q82 ?_
  simp only [c82, push_cast, ↓J1, ↓J2, N1, N2, N3, reduceCtorEq, N4, N5, N6, reduceIte, N7, I1, I2, I3]
  cases g1 : decide (s.t = x.b.r.turns)
  · simp only [push_cast, ↓J1, ↓J2, N1, N2, N3, reduceCtorEq, N4, N5, N6, reduceIte, N7, I1, I2, I3]
    refine ⟨_, c1 0, ?_⟩
    simp only [ints_length, push_cast, ↓J1, ↓J2, N1, N2, N3, reduceCtorEq, N4, N5, N6, reduceIte, N7, I1, I2, I3]
    cases g2 : decide ((((fil (onSide 0) s.us s.us.length).length : Nat) : Int) = 0)
    · simp only [push_cast, ↓J1, ↓J2, N1, N2, N3, reduceCtorEq, N4, N5, N6, reduceIte, N7, I1, I2, I3]
      refine ⟨_, c1 1, ?_⟩
      simp only [overOk, g1, g2, Bool.false_or, ints_length, push_cast, ↓J1, ↓J2, N1, N2, N3, reduceCtorEq, N4, N5, N6, reduceIte, N7, I1, I2, I3]
    · simp only [overOk, g1, g2, Bool.or_true, Bool.true_or, push_cast, ↓J1, ↓J2, N1, N2, N3, reduceCtorEq, N4, N5, N6, reduceIte, N7, I1, I2, I3]
  · simp only [overOk, g1, Bool.true_or, push_cast, ↓J1, ↓J2, N1, N2, N3, reduceCtorEq, N4, N5, N6, reduceIte, N7, I1, I2, I3]
theorem t77 (x : Se) (s : Sta) (hl : s.us.length < 2^40) : Ev C 77 [seF x, .agg (staF s)] (.bool (overOk x s)) := by
  have c1 := fun sd => t123 hC s sd hl
  simp only [seF, brdF, rulF, mpF, ctF, clA, List.cons_append, List.nil_append, staF] at *
  refine rT hC Q77 ?_
  simp only [c77, push_cast, ↓J1, ↓J2, N1, N2, N3, reduceCtorEq, N4, N5, N6, reduceIte, N7, I1, I2, I3]
  cases g1 : decide (s.t = x.b.r.turns)
  · simp only [push_cast, ↓J1, ↓J2, N1, N2, N3, reduceCtorEq, N4, N5, N6, reduceIte, N7, I1, I2, I3]
    refine ⟨_, c1 0, ?_⟩
    simp only [ints_length, push_cast, ↓J1, ↓J2, N1, N2, N3, reduceCtorEq, N4, N5, N6, reduceIte, N7, I1, I2, I3]
    cases g2 : decide ((((fil (onSide 0) s.us s.us.length).length : Nat) : Int) = 0)
    · simp only [push_cast, ↓J1, ↓J2, N1, N2, N3, reduceCtorEq, N4, N5, N6, reduceIte, N7, I1, I2, I3]
      refine ⟨_, c1 1, ?_⟩
      simp only [overOk, g1, g2, Bool.false_or, ints_length, push_cast, ↓J1, ↓J2, N1, N2, N3, reduceCtorEq, N4, N5, N6, reduceIte, N7, I1, I2, I3]
    · simp only [overOk, g1, g2, Bool.or_true, Bool.true_or, push_cast, ↓J1, ↓J2, N1, N2, N3, reduceCtorEq, N4, N5, N6, reduceIte, N7, I1, I2, I3]
  · simp only [overOk, g1, Bool.true_or, push_cast, ↓J1, ↓J2, N1, N2, N3, reduceCtorEq, N4, N5, N6, reduceIte, N7, I1, I2, I3]
theorem t29 (x : Se) (s : Sta) (hb : SeB (2^50) x) (hl : s.us.length < 2^40) : Ev C 29 [seF x, .agg (staF s)] (.tup [.bool (ovRes x s), .bool (gaOk x s)]) := by
  have c1 := t81 hC x s hb hl
  have c2 := t82 hC x s hl
  simp only [seF, brdF, rulF, mpF, ctF, clA, List.cons_append, List.nil_append, staF] at *
  refine rT hC Q29 ?_
  simp only [c29, push_cast, ↓J1, ↓J2, N1, N2, N3, reduceCtorEq, N4, N5, N6, reduceIte, N7, I1, I2, I3]
  refine ⟨_, c1, ?_⟩
  cases g1 : gaOk x s
  · simp only [ovRes, g1, Bool.false_and, push_cast, ↓J1, ↓J2, N1, N2, N3, reduceCtorEq, N4, N5, N6, reduceIte, N7, I1, I2, I3]
    exact RetTo_sc rfl
  simp only [push_cast, ↓J1, ↓J2, N1, N2, N3, reduceCtorEq, N4, N5, N6, reduceIte, N7, I1, I2, I3]
  refine ⟨_, c2, ?_⟩
  simp only [ovRes, g1, Bool.true_and, push_cast, ↓J1, ↓J2, N1, N2, N3, reduceCtorEq, N4, N5, N6, reduceIte, N7, I1, I2, I3]
  exact RetTo_sc rfl
theorem t27 (x : Se) (s : Sta) (hb : SeB (2^50) x) (hl : s.us.length < 2^40) : Ev C 27 [seF x, .agg (staF s)] (.tup [.bool (ovRes x s), .bool (gaOk x s)]) := by
  have c1 := t76 hC x s 0 hb hl
  rw [show inR 0 4611686016279904236 0 = true from rfl, Bool.and_true] at c1
  have c2 := t77 hC x s hl
  simp only [seF, brdF, rulF, mpF, ctF, clA, List.cons_append, List.nil_append, staF] at *
  refine rT hC Q27 ?_
  simp only [c27, push_cast, ↓J1, ↓J2, N1, N2, N3, reduceCtorEq, N4, N5, N6, reduceIte, N7, I1, I2, I3]
  refine ⟨_, c1, ?_⟩
  cases g1 : gaOk x s
  · simp only [ovRes, g1, Bool.false_and, push_cast, ↓J1, ↓J2, N1, N2, N3, reduceCtorEq, N4, N5, N6, reduceIte, N7, I1, I2, I3]
    exact RetTo_sc rfl
  simp only [push_cast, ↓J1, ↓J2, N1, N2, N3, reduceCtorEq, N4, N5, N6, reduceIte, N7, I1, I2, I3]
  refine ⟨_, c2, ?_⟩
  simp only [ovRes, g1, Bool.true_and, push_cast, ↓J1, ↓J2, N1, N2, N3, reduceCtorEq, N4, N5, N6, reduceIte, N7, I1, I2, I3]
  exact RetTo_sc rfl
theorem t32 (x : Se) (s : Sta) (hb : SeB (2^50) x) (hl : s.us.length < 2^40) : Ev C 32 [seF x, .agg (staF s)] (.tup [.int .i64 (leftRes x s), .bool (gaOk x s)]) := by
  have c1 := t81 hC x s hb hl
  have c2 := t82 hC x s hl
  simp only [seF, brdF, rulF, mpF, ctF, clA, List.cons_append, List.nil_append, staF] at *
  refine rT hC Q32 ?_
  simp only [c32, push_cast, ↓J1, ↓J2, N1, N2, N3, reduceCtorEq, N4, N5, N6, reduceIte, N7, I1, I2, I3]
  refine ⟨_, c1, ?_⟩
  cases g1 : gaOk x s
  · simp only [leftRes, g1, push_cast, ↓J1, ↓J2, N1, N2, N3, reduceCtorEq, N4, N5, N6, reduceIte, N7, I1, I2, I3]
  have h1 := ga_turn g1
  simp only [push_cast, ↓J1, ↓J2, N1, N2, N3, reduceCtorEq, N4, N5, N6, reduceIte, N7, I1, I2, I3]
  refine ⟨_, c2, ?_⟩
  cases g2 : overOk x s
  · simp only [leftRes, g1, g2, wrap64 (n := x.b.r.turns - s.t) (by omega) (by omega), push_cast, ↓J1, ↓J2, N1, N2, N3, reduceCtorEq, N4, N5, N6, reduceIte, N7, I1, I2, I3]
  · simp only [leftRes, g1, g2, push_cast, ↓J1, ↓J2, N1, N2, N3, reduceCtorEq, N4, N5, N6, reduceIte, N7, I1, I2, I3]
theorem t31 (x : Se) (s : Sta) (hb : SeB (2^50) x) (hl : s.us.length < 2^40) : Ev C 31 [seF x, .agg (staF s)] (.tup [.int .i64 (leftRes x s), .bool (gaOk x s)]) := by
  have c1 := t76 hC x s 0 hb hl
  rw [show inR 0 4611686016279904236 0 = true from rfl, Bool.and_true] at c1
  have c2 := t77 hC x s hl
  simp only [seF, brdF, rulF, mpF, ctF, clA, List.cons_append, List.nil_append, staF] at *
  refine rT hC Q31 ?_
  simp only [c31, push_cast, ↓J1, ↓J2, N1, N2, N3, reduceCtorEq, N4, N5, N6, reduceIte, N7, I1, I2, I3]
  refine ⟨_, c1, ?_⟩
  cases g1 : gaOk x s
  · simp only [leftRes, g1, push_cast, ↓J1, ↓J2, N1, N2, N3, reduceCtorEq, N4, N5, N6, reduceIte, N7, I1, I2, I3]
  have h1 := ga_turn g1
  simp only [push_cast, ↓J1, ↓J2, N1, N2, N3, reduceCtorEq, N4, N5, N6, reduceIte, N7, I1, I2, I3]
  refine ⟨_, c2, ?_⟩
  cases g2 : overOk x s
  · simp only [leftRes, g1, g2, wrap64 (n := x.b.r.turns - s.t) (by omega) (by omega), push_cast, ↓J1, ↓J2, N1, N2, N3, reduceCtorEq, N4, N5, N6, reduceIte, N7, I1, I2, I3]
  · simp only [leftRes, g1, g2, push_cast, ↓J1, ↓J2, N1, N2, N3, reduceCtorEq, N4, N5, N6, reduceIte, N7, I1, I2, I3]
end
end Go.Proofs.YtjaccjeejeiphaaGreatDoor.X
set_option maxHeartbeats 1000000
set_option maxRecDepth 8000
set_option linter.unusedSimpArgs false
set_option linter.unusedVariables false
open Nat renaming reduceBEq → N1, reduceAdd → N2, reduceSub → N3, reduceMul → N4, reduceEqDiff → N5, reduceLeDiff → N6, reduceLT → N7
open Int renaming reduceLE → I1, reduceLT → I2, reduceToNat → I3
namespace Go.Proofs.YtjaccjeejeiphaaGreatDoor.X
open Go
attribute [local irreducible] Ev szSS szRows
def nextS : List Int → Int → Int → Int
  | [], _, _ => 0
  | y :: ys, x, k => if x < y then k else nextS ys (w64 (x - y)) (k + 1)
def nextI : List Int → Int → Int → Int → Int
  | [], _, _, _ => 2
  | y :: ys, s, x, k => if x < w64 (s + y) then k else nextI ys (w64 (s + y)) x (k + 1)
def belowOf (seed i n : Int) : Int := (mixL [seed, i, n]).1.tmod n
def rowAt (W : List (List Int)) (w : Int) : List Int := W.getD w.toNat []
theorem rowAt_some {W : List (List Int)} {w : Int} (hg : goodW W = true) (hw : inR 0 2 w = true) : w.toNat < W.length ∧ W[w.toNat]? = some (rowAt W w) ∧ ∃ a b c, rowAt W w = [a, b, c] ∧ inR 0 36 a = true ∧ inR 0 36 b = true ∧ inR 0 36 c = true ∧ a + b + c = 36 := by
  simp only [goodW, Bool.and_eq_true, decide_eq_true_eq] at hg
  simp only [inR, Bool.and_eq_true, decide_eq_true_eq] at hw
  have hl : w.toNat < W.length := by omega
  have e : rowAt W w = W[w.toNat] := by simp [rowAt, List.getD, hl]
  have hr := List.all_eq_true.1 hg.2 _ (List.getElem_mem hl)
  rw [← e] at hr
  refine ⟨hl, by rw [e]; exact List.getElem?_eq_getElem hl, ?_⟩
  generalize rowAt W w = r at hr
  simp only [rowOk, Bool.and_eq_true, decide_eq_true_eq] at hr
  obtain ⟨⟨h1, h2⟩, h3⟩ := hr
  match r, h1 with
  | [a, b, c], _ =>
    simp only [List.all_cons, List.all_nil, Bool.and_true, Bool.and_eq_true] at h2
    rw [sum3 h2.1 h2.2.1 h2.2.2] at h3
    exact ⟨a, b, c, rfl, h2.1, h2.2.1, h2.2.2, h3⟩
theorem next_eq {a b c x : Int} (ha : inR 0 36 a = true) (hb : inR 0 36 b = true) (hc : inR 0 36 c = true) (hs : a + b + c = 36) (hx : -36 < x ∧ x < 36) : nextS [a, b, c] x 0 = nextI [a, b, c] 0 x 0 := by
  simp only [inR, Bool.and_eq_true, decide_eq_true_eq] at ha hb hc
  simp only [nextS, nextI]
  rw [w64_id (n := x - a) (by omega) (by omega), w64_id (n := x - a - b) (by omega) (by omega), show (0 : Int) + a = a from Int.zero_add a, w64_id (n := a) (by omega) (by omega), w64_id (n := a + b) (by omega) (by omega), w64_id (n := a + b + c) (by omega) (by omega)]
  split
  · rfl
  · by_cases n2 : x - a < b
    · rw [if_pos n2, if_pos (by omega)]
    · rw [if_neg n2, if_pos (show x - a - b < c by omega), if_neg (by omega), if_pos (by omega)]
theorem below36 (a b : Int) : -36 < belowOf a b 36 ∧ belowOf a b 36 < 36 := by
  have h1 := Int.lt_tmod_of_pos (mixL [a, b, 36]).1 (show (0 : Int) < 36 by omega)
  have h2 := Int.tmod_lt_of_pos (mixL [a, b, 36]).1 (show (0 : Int) < 36 by omega)
  exact ⟨h1, h2⟩
section
variable {C : CT} (hC : Closed Tryz.prog G1 md0 C)
include hC
theorem t227 (a b c : Int) (hc : c ≠ 0) : Ev C 227 [.int .i64 a, .int .i64 b, .int .i64 c] (.int .i64 (belowOf a b c)) := by
  refine rT hC Q227 ?_
  simp only [c227, push_cast, ↓J1, ↓J2, N1, N2, N3, reduceCtorEq, N4, N5, N6, reduceIte, N7, I1, I2, I3]
  refine ⟨_, t275 hC [a, b, c] (by simp), ?_⟩
  simp only [push_cast, ↓J1, ↓J2, N1, N2, N3, reduceCtorEq, N4, N5, N6, reduceIte, N7, I1, I2, I3]
  exact ⟨hc, rfl⟩
theorem t228 (a b c : Int) (hc : c ≠ 0) : Ev C 228 [.int .i64 a, .int .i64 b, .int .i64 c] (.int .i64 (belowOf a b c)) := by
  refine rT hC Q228 ?_
  simp only [c228, push_cast, ↓J1, ↓J2, N1, N2, N3, reduceCtorEq, N4, N5, N6, reduceIte, N7, I1, I2, I3]
  refine ⟨_, t276 hC [a, b, c] (by simp), ?_⟩
  simp only [push_cast, ↓J1, ↓J2, N1, N2, N3, reduceCtorEq, N4, N5, N6, reduceIte, N7, I1, I2, I3]
  exact ⟨hc, rfl⟩
theorem t179 (W : List (List Int)) (w seed turn : Int) (hg : goodW W = true) (hw : inR 0 2 w = true) : Ev C 179 [clA W, .int .i64 w, .int .i64 seed, .int .i64 turn] (.int .i64 (nextS (rowAt W w) (belowOf seed turn 36) 0)) := by
  obtain ⟨hl, hr, a, b, c, hra, _⟩ := rowAt_some hg hw
  have hw' := hw
  simp only [inR, Bool.and_eq_true, decide_eq_true_eq] at hw'
  simp only [clA]
  refine rT hC Q179 ?_
  simp only [c179, intss, push_cast, ↓J1, ↓J2, N1, N2, N3, reduceCtorEq, N4, N5, N6, reduceIte, N7, I1, I2, I3]
  refine ⟨_, t227 hC _ _ _ (by omega), ?_⟩
  simp only [List.getElem?_map, hr, push_cast, ↓J1, ↓J2, N1, N2, N3, reduceCtorEq, N4, N5, N6, reduceIte, N7, I1, I2, I3]
  refine ⟨by omega, ?_⟩
  generalize belowOf seed turn 36 = x
  generalize rowAt W w = r at *
  have hrl : r.length = 3 := by rw [hra]; rfl
  refine RL_count (fun i => ⟨tb 34 .any [(9, .int .i64 ((r.take i).foldl (fun x y => w64 (x - y)) x)), (19, .sl (r.map fun n => [.int .i64 n])), (20, .int .i64 (r.length : Int)), (21, .int .i64 (i : Int))], [], 0⟩) (fun i => nextS r x 0 = nextS (r.drop i) ((r.take i).foldl (fun x y => w64 (x - y)) x) i) r.length 0 (head_tb [] rfl (by simp only [keptV_cons, keptV_nil, tb_get, lk_same, lk_ne, lk_nil, ren, renL, lkp, N7, N1, N5, reduceIte, and_true, true_and, Nat.not_lt_zero, if_false, if_true, Nat.add_zero, Nat.zero_add]; simp [ints]) rfl) (by omega) rfl fun i hi ht J hJ => ?_
  by_cases h1 : i < r.length
  · rw [List.drop_eq_getElem_cons h1, nextS] at ht
    simp only [List.length_map, Int.toNat_natCast, List.getElem?_map, List.getElem?_eq_getElem h1, push_cast, ↓J1, ↓J2, N1, N2, N3, reduceCtorEq, N4, N5, N6, reduceIte, N7, I1, I2, I3]
    refine ifB_intro (fun _ => ⟨by omega, ifB_intro (fun h => ?_) (fun h => ?_)⟩) (fun h => by simp at h; omega)
    · rw [ht, if_pos (by simpa using h)]
    · have e1 : (r.take (i + 1)).foldl (fun x y => w64 (x - y)) x = w64 ((r.take i).foldl (fun x y => w64 (x - y)) x - r[i]) := by
        rw [List.take_succ_eq_append_getElem h1, List.foldl_append]; rfl
      refine hJ h1 ?_ _ (hdA [] (hV := ?_))
      · rw [ht, if_neg (by simpa using h), e1]; rfl
      · simp only [keptV_cons, keptV_nil, tb_get, lk_same, lk_ne, lk_nil, ren, renL, lkp, N7, N1, N5, reduceIte, and_true, true_and, Nat.not_lt_zero, if_false, if_true, Nat.add_zero, Nat.zero_add]
        rw [wrap64 (n := (i : Int) + 1) (by omega) (by omega), e1]
        and_intros <;> rfl
  · simp only [List.length_map, Int.toNat_natCast, List.getElem?_map, push_cast, ↓J1, ↓J2, N1, N2, N3, reduceCtorEq, N4, N5, N6, reduceIte, N7, I1, I2, I3]
    refine ifB_intro (fun h => by simp at h; omega) (fun h => ?_)
    rw [ht, List.drop_eq_nil_of_le (by omega)]
    rfl
theorem t180 (W : List (List Int)) (w seed turn : Int) (hg : goodW W = true) (hw : inR 0 2 w = true) : Ev C 180 [clA W, .int .i64 w, .int .i64 seed, .int .i64 turn] (.int .i64 (nextS (rowAt W w) (belowOf seed turn 36) 0)) := by
  obtain ⟨hl, hr, a, b, c, hra, ha, hb, hcc, hsum⟩ := rowAt_some hg hw
  have hw' := hw
  simp only [inR, Bool.and_eq_true, decide_eq_true_eq] at hw'
  rw [hra, next_eq ha hb hcc hsum (below36 _ _), ← hra]
  simp only [clA]
  refine rT hC Q180 ?_
  simp only [c180, intss, push_cast, ↓J1, ↓J2, N1, N2, N3, reduceCtorEq, N4, N5, N6, reduceIte, N7, I1, I2, I3]
  refine ⟨_, t228 hC _ _ _ (by omega), ?_⟩
  simp only [List.getElem?_map, hr, push_cast, ↓J1, ↓J2, N1, N2, N3, reduceCtorEq, N4, N5, N6, reduceIte, N7, I1, I2, I3]
  refine ⟨by omega, ?_⟩
  generalize belowOf seed turn 36 = x
  generalize rowAt W w = r at *
  have hrl : r.length = 3 := by rw [hra]; rfl
  refine RL_count (fun i => ⟨tb 35 .any [(9, .int .i64 x), (10, .int .i64 ((r.take i).foldl (fun x y => w64 (x + y)) 0)), (20, .sl (r.map fun n => [.int .i64 n])), (21, .int .i64 (r.length : Int)), (22, .int .i64 (i : Int))], [], 0⟩) (fun i => nextI r 0 x 0 = nextI (r.drop i) ((r.take i).foldl (fun x y => w64 (x + y)) 0) x i) r.length 0 (head_tb [] rfl (by simp only [keptV_cons, keptV_nil, tb_get, lk_same, lk_ne, lk_nil, ren, renL, lkp, N7, N1, N5, reduceIte, and_true, true_and, Nat.not_lt_zero, if_false, if_true, Nat.add_zero, Nat.zero_add]; simp [ints]) rfl) (by omega) rfl fun i hi ht J hJ => ?_
  by_cases h1 : i < r.length
  · rw [List.drop_eq_getElem_cons h1, nextI] at ht
    simp only [List.length_map, Int.toNat_natCast, List.getElem?_map, List.getElem?_eq_getElem h1, push_cast, ↓J1, ↓J2, N1, N2, N3, reduceCtorEq, N4, N5, N6, reduceIte, N7, I1, I2, I3]
    refine ifB_intro (fun _ => ⟨by omega, ifB_intro (fun h => ?_) (fun h => ?_)⟩) (fun h => by simp at h; omega)
    · rw [ht]
      exact (if_pos (show x < w64 _ from of_decide_eq_true h)).symm
    · have e1 : (r.take (i + 1)).foldl (fun x y => w64 (x + y)) 0 = w64 ((r.take i).foldl (fun x y => w64 (x + y)) 0 + r[i]) := by
        rw [List.take_succ_eq_append_getElem h1, List.foldl_append]; rfl
      refine hJ h1 ?_ _ (hdA [] (hV := ?_))
      · rw [ht, if_neg (show ¬ x < w64 _ from of_decide_eq_false h), e1]; rfl
      · simp only [keptV_cons, keptV_nil, tb_get, lk_same, lk_ne, lk_nil, ren, renL, lkp, N7, N1, N5, reduceIte, and_true, true_and, Nat.not_lt_zero, if_false, if_true, Nat.add_zero, Nat.zero_add]
        rw [wrap64 (n := (i : Int) + 1) (by omega) (by omega), e1]
        and_intros <;> rfl
  · simp only [List.length_map, Int.toNat_natCast, List.getElem?_map, push_cast, ↓J1, ↓J2, N1, N2, N3, reduceCtorEq, N4, N5, N6, reduceIte, N7, I1, I2, I3]
    refine ifB_intro (fun h => by simp at h; omega) (fun h => ?_)
    rw [ht, List.drop_eq_nil_of_le (by omega)]
    rfl
def askNext (W : List (List Int)) (w seed turn : Int) : Bool := goodW W && inR 0 2 w && inR 0 4611686016279904236 seed && inR 0 30 turn
def resNext (W : List (List Int)) (w seed turn : Int) : Int := if askNext W w seed turn then nextS (rowAt W w) (belowOf seed turn 36) 0 else 0
end
end Go.Proofs.YtjaccjeejeiphaaGreatDoor.X
set_option maxHeartbeats 1000000
set_option maxRecDepth 8000
set_option linter.unusedSimpArgs false
set_option linter.unusedVariables false
open Nat renaming reduceBEq → N1, reduceAdd → N2, reduceSub → N3, reduceMul → N4, reduceEqDiff → N5, reduceLeDiff → N6, reduceLT → N7
open Int renaming reduceLE → I1, reduceLT → I2, reduceToNat → I3
namespace Go.Proofs.YtjaccjeejeiphaaGreatDoor.X
open Go
attribute [local irreducible] Ev
theorem NilToL_nil : NilToL [] [] := by simp only [NilToL]
theorem NilToL_cons {x y : AV} {xs ys : List AV} (h : NilTo x y) (h' : NilToL xs ys) : NilToL (x :: xs) (y :: ys) := by
  simp only [NilToL]; exact ⟨y, ys, rfl, h, h'⟩
theorem NilTo_agg {xs ys : List AV} (h : NilToL xs ys) : NilTo (.agg xs) (.agg ys) := by
  simp only [NilTo]; exact ⟨ys, rfl, h⟩
theorem NilTo_tup {xs ys : List AV} (h : NilToL xs ys) : NilTo (.tup xs) (.tup ys) := by
  simp only [NilTo]; exact ⟨ys, rfl, h⟩
theorem NilTo_nl {sz : Nat} : NilTo .nil (.ow sz []) := by
  simp only [NilTo]; exact .inr ⟨sz, rfl⟩
def sta0 : Sta := ⟨0, 0, []⟩
theorem nil_sta : NilToL [.int .i64 0, .int .i64 0, .nil] (staO sta0) := NilToL_cons (NilTo.refl _) (NilToL_cons (NilTo.refl _) (NilToL_cons NilTo_nl NilToL_nil))
theorem RetTo_nil {h h2 : Heap} {v r0 r : AV} (hc : conR 8 h v = some (r0, h2)) (hn : NilTo r0 r) : RetTo h v r := ⟨r0, h2, hc, hn⟩
def absI (n : Int) : Int := if n < 0 then -n else n
def distI (q1 r1 q2 r2 : Int) : Int := (absI (q2 - q1) + absI (r2 - r1) + absI (q2 - q1 + (r2 - r1))).tdiv 2
theorem absI_bnd {n B : Int} (h : -B ≤ n ∧ n ≤ B) : 0 ≤ absI n ∧ absI n ≤ B := by
  simp only [absI]; split <;> omega
def wSta (x : Se) (s : Sta) (seed : Int) : Sta := ⟨s.t, nextS (rowAt x.c s.w) (belowOf seed s.t 36) 0, s.us⟩
section
variable {C : CT} (hC : Closed Tryz.prog G1 md0 C)
include hC
theorem t173 (l : List Un) (hl : l.length < 2^40) : Ev C 173 [.sl (uns l)] (.ow 4 (uns l)) := by
  have ha : ∀ e ∈ uns l, (e.length == 4) = true := by simp [uns, unA]
  have hb : (uns l).all (fun e => e.length == 4) = true := List.all_eq_true.2 ha
  refine rT hC Q173 ?_ (by simp only [ownR, own_uns])
  simp only [c173, uns_length, push_cast, ↓J1, ↓J2, N1, N2, N3, reduceCtorEq, N4, N5, N6, reduceIte, N7, I1, I2, I3]
  intro b hb0
  cases b
  · simp only [hb, if_true, uns_length, push_cast, ↓J1, ↓J2, N1, N2, N3, reduceCtorEq, N4, N5, N6, reduceIte, N7, I1, I2, I3]
    repeat (refine ⟨by omega, ?_⟩)
    exact RetTo_ow rfl (by rw [uns_length])
  · have := hb0 rfl
    simp only [push_cast, ↓J1, ↓J2, N1, N2, N3, reduceCtorEq, N4, N5, N6, reduceIte, N7, I1, I2, I3]
    exact RetTo_nil (r0 := .nil) (h2 := []) (by simp [conR, isF]) (by rw [this]; exact NilTo_nl)
theorem t97 (s : Sta) (hl : s.us.length < 2^40) : Ev C 97 [.agg (staF s)] (.agg (staO s)) := by
  have c1 := t173 hC s.us hl
  simp only [staF, staO]
  refine rT hC Q97 ?_ (by simp only [ownR, ownRL, own_uns, Bool.and_true])
  simp only [c97, push_cast, ↓J1, ↓J2, N1, N2, N3, reduceCtorEq, N4, N5, N6, reduceIte, N7, I1, I2, I3]
  refine ⟨_, c1, ?_⟩
  simp only [push_cast, ↓J1, ↓J2, N1, N2, N3, reduceCtorEq, N4, N5, N6, reduceIte, N7, I1, I2, I3]
  exact rtA
theorem t90 (s : Sta) (hl : s.us.length < 2^40) : Ev C 90 [.agg (staF s)] (.agg (staO s)) := by
  have hb : (uns s.us).all (fun e => e.length == 4) = true := List.all_eq_true.2 (by simp [uns, unA])
  simp only [staF, staO]
  refine rT hC Q90 ?_ (by simp only [ownR, ownRL, own_uns, Bool.and_true])
  simp only [c90, uns_length, hb, push_cast, ↓J1, ↓J2, N1, N2, N3, reduceCtorEq, N4, N5, N6, reduceIte, N7, I1, I2, I3]
  have tku : List.take s.us.length (uns s.us) = uns s.us := List.take_of_length_le (by rw [uns_length]; omega)
  and_intros
  all_goals first
    | omega
    | skip
  all_goals exact RetTo_of (by simp only [conR, conRL, isF, hget, hdel, List.drop_zero, List.take_length, if_true, if_false, reduceIte, N5, reduceCtorEq, tku]; rfl)
theorem t112 (x : Se) (s : Sta) (seed : Int) (g : gaOk x s = true) : Ev C 112 [seF x, .agg (staF s), .int .i64 seed] (.agg (staO (wSta x s seed))) := by
  have g' := ga_turn g
  have hc : goodW x.c = true := by simp only [gaOk, seOk, Bool.and_eq_true] at g; exact g.1.1.1.1.2
  have hw : inR 0 2 s.w = true := by simp only [gaOk, staOk, staOk0, Bool.and_eq_true] at g; exact g.2.2.1.1.1.2
  have c1 := t97 hC s (by omega)
  have c2 := t180 hC x.c s.w seed s.t hc hw
  simp only [seF, brdF, rulF, mpF, ctF, clA, List.cons_append, List.nil_append, staF, staO, wSta] at *
  refine rT hC Q112 ?_ (by simp only [ownR, ownRL, own_uns, Bool.and_true])
  simp only [c112, push_cast, ↓J1, ↓J2, N1, N2, N3, reduceCtorEq, N4, N5, N6, reduceIte, N7, I1, I2, I3]
  refine ⟨_, c1, ?_⟩
  simp only [push_cast, ↓J1, ↓J2, N1, N2, N3, reduceCtorEq, N4, N5, N6, reduceIte, N7, I1, I2, I3]
  refine ⟨_, c2, ?_⟩
  simp only [push_cast, ↓J1, ↓J2, N1, N2, N3, reduceCtorEq, N4, N5, N6, reduceIte, N7, I1, I2, I3]
  exact rtA
theorem t178n (s : Sta) (hl : s.us.length < 2^40) : Ev C 178 [.agg (staF s), .nil] (.agg (staO s)) := by
  have hb : (uns s.us).all (fun e => e.length == 4) = true := List.all_eq_true.2 (by simp [uns, unA])
  simp only [staF, staO]
  refine rT hC Q178 ?_ (by simp only [ownR, ownRL, own_uns, Bool.and_true])
  simp only [c178, uns_length, hb, push_cast, ↓J1, ↓J2, N1, N2, N3, reduceCtorEq, N4, N5, N6, reduceIte, N7, I1, I2, I3]
  have tku : List.take s.us.length (uns s.us) = uns s.us := List.take_of_length_le (by rw [uns_length]; omega)
  and_intros
  all_goals first
    | omega
    | skip
  all_goals
    refine RL_count (fun i => ⟨tb 33 .any [(4, .ptr 0 none 0 0 0), (5, .ptr 1 none 0 0 0), (17, .nil), (18, .int .i64 0), (19, .int .i64 (i : Int))], [(2, .slice 4 (uns s.us)), (1, .var [.int .i64 s.t, .int .i64 s.w, .ref 2 none 4 0 s.us.length]), (0, .var [.int .i64 0, .int .i64 0, .nil])], 3⟩) (fun _ => True) 0 0 ?_ (by omega) trivial ?_
    · first | exact (hdA [(4, 2), (2, 1), (1, 0)]) | exact (hdA [(4, 2), (3, 1), (1, 0)]) | exact (hdA [(3, 2), (4, 1), (1, 0)])
    intro i hi _ J hJ
    obtain rfl : i = 0 := by omega
    simp only [decide_false, push_cast, ↓J1, ↓J2, N1, N2, N3, reduceCtorEq, N4, N5, N6, reduceIte, N7, I1, I2, I3]
    exact RetTo_of (by simp only [conR, conRL, isF, hget, hdel, List.drop_zero, List.take_length, if_true, if_false, reduceIte, N5, reduceCtorEq, tku]; rfl)
theorem t110 (x : Se) (s : Sta) (seed : Int) (g : gaOk x s = true) : Ev C 110 [seF x, .agg (staF s), .int .i64 seed] (.agg (staO (wSta x s seed))) := by
  have g' := ga_turn g
  have hc : goodW x.c = true := by simp only [gaOk, seOk, Bool.and_eq_true] at g; exact g.1.1.1.1.2
  have hw : inR 0 2 s.w = true := by simp only [gaOk, staOk, staOk0, Bool.and_eq_true] at g; exact g.2.2.1.1.1.2
  have c1 := t178n hC s (by omega)
  have c2 := t179 hC x.c s.w seed s.t hc hw
  simp only [seF, brdF, rulF, mpF, ctF, clA, List.cons_append, List.nil_append, staF, staO, wSta] at *
  refine rT hC Q110 ?_ (by simp only [ownR, ownRL, own_uns, Bool.and_true])
  simp only [c110, push_cast, ↓J1, ↓J2, N1, N2, N3, reduceCtorEq, N4, N5, N6, reduceIte, N7, I1, I2, I3]
  refine ⟨_, c1, ?_⟩
  simp only [push_cast, ↓J1, ↓J2, N1, N2, N3, reduceCtorEq, N4, N5, N6, reduceIte, N7, I1, I2, I3]
  refine ⟨_, c2, ?_⟩
  simp only [push_cast, ↓J1, ↓J2, N1, N2, N3, reduceCtorEq, N4, N5, N6, reduceIte, N7, I1, I2, I3]
  exact rtA
theorem t45 (x : Se) (s : Sta) (seed : Int) (hb : SeB (2^50) x) (hl : s.us.length < 2^40) : Ev C 45 [seF x, .agg (staF s), .int .i64 seed] (.tup [.agg (staO (if gaOk x s && inR 0 4611686016279904236 seed then wSta x s seed else sta0)), .bool (gaOk x s && inR 0 4611686016279904236 seed)]) := by
  have c1 := t81 hC x s hb hl
  have c3 := t111 hC seed
  have c2 := fun g => t112 hC x s seed g
  simp only [seF, brdF, rulF, mpF, ctF, clA, List.cons_append, List.nil_append, staF, staO, wSta] at *
  refine rT hC Q45 ?_ (by simp only [ownR, ownRL, own_uns, Bool.and_true])
  simp only [c45, push_cast, ↓J1, ↓J2, N1, N2, N3, reduceCtorEq, N4, N5, N6, reduceIte, N7, I1, I2, I3]
  refine ⟨_, c1, ?_⟩
  cases g1 : gaOk x s
  · simp only [Bool.false_and, Bool.false_eq_true, if_false, push_cast, ↓J1, ↓J2, N1, N2, N3, reduceCtorEq, N4, N5, N6, reduceIte, N7, I1, I2, I3]
    exact RetTo_nil (h2 := _) (by simp only [conR, conRL, isF, hget, hdel, List.drop_zero, List.take_length, if_true, if_false, reduceIte, N5, reduceCtorEq]; rfl) (NilTo_tup (NilToL_cons (NilTo_agg nil_sta) (NilToL_cons (NilTo.refl _) NilToL_nil)))
  simp only [push_cast, ↓J1, ↓J2, N1, N2, N3, reduceCtorEq, N4, N5, N6, reduceIte, N7, I1, I2, I3]
  refine ⟨_, c3, ?_⟩
  cases g2 : inR 0 4611686016279904236 seed
  · simp only [Bool.and_false, Bool.false_eq_true, if_false, push_cast, ↓J1, ↓J2, N1, N2, N3, reduceCtorEq, N4, N5, N6, reduceIte, N7, I1, I2, I3]
    exact RetTo_nil (h2 := _) (by simp only [conR, conRL, isF, hget, hdel, List.drop_zero, List.take_length, if_true, if_false, reduceIte, N5, reduceCtorEq]; rfl) (NilTo_tup (NilToL_cons (NilTo_agg nil_sta) (NilToL_cons (NilTo.refl _) NilToL_nil)))
  simp only [push_cast, ↓J1, ↓J2, N1, N2, N3, reduceCtorEq, N4, N5, N6, reduceIte, N7, I1, I2, I3]
  refine ⟨_, c2 g1, ?_⟩
  simp only [Bool.and_self, if_true, push_cast, ↓J1, ↓J2, N1, N2, N3, reduceCtorEq, N4, N5, N6, reduceIte, N7, I1, I2, I3]
  exact rtA
theorem t44 (x : Se) (s : Sta) (seed : Int) (hb : SeB (2^50) x) (hl : s.us.length < 2^40) : Ev C 44 [seF x, .agg (staF s), .int .i64 seed] (.tup [.agg (staO (if gaOk x s && inR 0 4611686016279904236 seed then wSta x s seed else sta0)), .bool (gaOk x s && inR 0 4611686016279904236 seed)]) := by
  have c1 := t76 hC x s seed hb hl
  have c2 := fun g => t110 hC x s seed g
  simp only [seF, brdF, rulF, mpF, ctF, clA, List.cons_append, List.nil_append, staF, staO, wSta] at *
  refine rT hC Q44 ?_ (by simp only [ownR, ownRL, own_uns, Bool.and_true])
  simp only [c44, push_cast, ↓J1, ↓J2, N1, N2, N3, reduceCtorEq, N4, N5, N6, reduceIte, N7, I1, I2, I3]
  refine ⟨_, c1, ?_⟩
  cases g1 : gaOk x s && inR 0 4611686016279904236 seed
  · simp only [Bool.false_eq_true, if_false, push_cast, ↓J1, ↓J2, N1, N2, N3, reduceCtorEq, N4, N5, N6, reduceIte, N7, I1, I2, I3]
    exact RetTo_nil (h2 := _) (by simp only [conR, conRL, isF, hget, hdel, List.drop_zero, List.take_length, if_true, if_false, reduceIte, N5, reduceCtorEq]; rfl) (NilTo_tup (NilToL_cons (NilTo_agg nil_sta) (NilToL_cons (NilTo.refl _) NilToL_nil)))
  simp only [push_cast, ↓J1, ↓J2, N1, N2, N3, reduceCtorEq, N4, N5, N6, reduceIte, N7, I1, I2, I3]
  refine ⟨_, c2 (by simp only [Bool.and_eq_true] at g1; exact g1.1), ?_⟩
  simp only [if_true, push_cast, ↓J1, ↓J2, N1, N2, N3, reduceCtorEq, N4, N5, N6, reduceIte, N7, I1, I2, I3]
  exact rtA
end
end Go.Proofs.YtjaccjeejeiphaaGreatDoor.X
set_option maxHeartbeats 4000000
set_option maxRecDepth 8000
set_option linter.unusedSimpArgs false
set_option linter.unusedVariables false
open Nat renaming reduceBEq → N1, reduceAdd → N2, reduceSub → N3, reduceMul → N4, reduceEqDiff → N5, reduceLeDiff → N6, reduceLT → N7
open Int renaming reduceLE → I1, reduceLT → I2, reduceToNat → I3
namespace Go.Proofs.YtjaccjeejeiphaaGreatDoor.X
open Go
attribute [local irreducible] Ev
section
variable {C : CT} (hC : Closed Tryz.prog G1 md0 C)
include hC
theorem t162 (b : Brd) (s : Sta) (u : Int) (hb : BrdB (2^50) b) (hl : s.us.length < 2^40) : Ev C 162 [brdF b, .agg (staF s), .int .i64 u] (.bool (hasU b s u)) := by
  have c1 := t119 hC b s hb hl
  simp only [brdF, rulF, mpF, List.cons_append, List.nil_append, staF] at *
  refine rT hC Q162 ?_
  simp only [c162, push_cast, ↓J1, ↓J2, N1, N2, N3, reduceCtorEq, N4, N5, N6, reduceIte, N7, I1, I2, I3]
  refine ⟨_, c1, ?_⟩
  cases g1 : staOk b s
  · simp only [hasU, g1, Bool.false_and, push_cast, ↓J1, ↓J2, N1, N2, N3, reduceCtorEq, N4, N5, N6, reduceIte, N7, I1, I2, I3]
  simp only [uns_length, push_cast, ↓J1, ↓J2, N1, N2, N3, reduceCtorEq, N4, N5, N6, reduceIte, N7, I1, I2, I3]
  rw [wrap64 (n := (s.us.length : Int) - 1) (by omega) (by omega)]
  refine ⟨_, tIn hC _ _ _, ?_⟩
  simp only [hasU, g1, Bool.true_and, push_cast, ↓J1, ↓J2, N1, N2, N3, reduceCtorEq, N4, N5, N6, reduceIte, N7, I1, I2, I3]
theorem t149 (b : Brd) (s : Sta) (hb : BrdB (2^50) b) (hl : s.us.length < 2^40) : Ev C 149 [brdF b, .agg (staF s)] (.bool (staOk b s)) := by
  have c1 := t207 hC b hb
  have c2 := fun g => t121 hC b s g hb hl
  simp only [brdF, rulF, mpF, List.cons_append, List.nil_append, staF] at *
  refine rT hC Q149 ?_
  simp only [c149, push_cast, ↓J1, ↓J2, N1, N2, N3, reduceCtorEq, N4, N5, N6, reduceIte, N7, I1, I2, I3]
  refine ⟨_, c1, ?_⟩
  cases g1 : brdOk b
  · simp only [staOk, g1, Bool.false_and, push_cast, ↓J1, ↓J2, N1, N2, N3, reduceCtorEq, N4, N5, N6, reduceIte, N7, I1, I2, I3]
  simp only [push_cast, ↓J1, ↓J2, N1, N2, N3, reduceCtorEq, N4, N5, N6, reduceIte, N7, I1, I2, I3]
  refine ⟨_, c2 g1, ?_⟩
  simp only [staOk, g1, Bool.true_and, push_cast, ↓J1, ↓J2, N1, N2, N3, reduceCtorEq, N4, N5, N6, reduceIte, N7, I1, I2, I3]
theorem t166 (b : Brd) (s : Sta) (u : Int) (hb : BrdB (2^50) b) (hl : s.us.length < 2^40) : Ev C 166 [brdF b, .agg (staF s), .int .i64 u] (.bool (hasU b s u)) := by
  have c1 := t149 hC b s hb hl
  simp only [brdF, rulF, mpF, List.cons_append, List.nil_append, staF] at *
  refine rT hC Q166 ?_
  simp only [c166, push_cast, ↓J1, ↓J2, N1, N2, N3, reduceCtorEq, N4, N5, N6, reduceIte, N7, I1, I2, I3]
  refine ⟨_, c1, ?_⟩
  cases g1 : staOk b s
  · simp only [hasU, g1, Bool.false_and, push_cast, ↓J1, ↓J2, N1, N2, N3, reduceCtorEq, N4, N5, N6, reduceIte, N7, I1, I2, I3]
  simp only [uns_length, push_cast, ↓J1, ↓J2, N1, N2, N3, reduceCtorEq, N4, N5, N6, reduceIte, N7, I1, I2, I3]
  refine ⟨_, tIdx hC _ _ (by omega), ?_⟩
  simp only [hasU, g1, Bool.true_and, push_cast, ↓J1, ↓J2, N1, N2, N3, reduceCtorEq, N4, N5, N6, reduceIte, N7, I1, I2, I3]
theorem t167 (b : Brd) (u : Un) (hk : kindAsk b u.k = true) (hb : BrdB (2^50) b) : Ev C 167 [brdF b, .agg (unA u)] (.bool (canRe b u)) := by
  have hk' := kind_at hk
  obtain ⟨k, ek⟩ : ∃ m : Nat, u.k = m := ⟨u.k.toNat, by omega⟩
  have e1 := kins_get (b := b) (k := k) (by omega)
  have b2 := hb.r.ks
  simp only [brdF, rulF, mpF, List.cons_append, List.nil_append, unA, canRe] at *
  refine rT hC Q167 ?_
  simp only [c167, push_cast, ↓J1, ↓J2, N1, N2, N3, reduceCtorEq, N4, N5, N6, reduceIte, N7, I1, I2, I3]
  cases g1 : decide (0 ≤ u.at_)
  · simp only [push_cast, ↓J1, ↓J2, N1, N2, N3, reduceCtorEq, N4, N5, N6, reduceIte, N7, I1, I2, I3]
  simp only [ek, Int.toNat_natCast, e1, kinA, kins_length, push_cast, ↓J1, ↓J2, N1, N2, N3, reduceCtorEq, N4, N5, N6, reduceIte, N7, I1, I2, I3]
  all_goals omega
theorem t86 (b : Brd) (s : Sta) (u : Int) (hb : BrdB (2^50) b) (hl : s.us.length < 2^40) : Ev C 86 [brdF b, .agg (staF s), .int .i64 u] (.bool (hurt b s u)) := by
  have c1 := t162 hC b s u hb hl
  have b2 := hb.r.ks
  have kg := fun (k : Nat) (h : k < b.r.ks.length) => kins_get h
  have sk := fun (g : staOk b s = true) (k : Nat) (h : k < s.us.length) => kind_at (sta_kind g h)
  have su := fun (k : Nat) (h : k < s.us.length) => uns_un h
  simp only [brdF, rulF, mpF, List.cons_append, List.nil_append, staF] at *
  refine rT hC Q86 ?_
  simp only [c86, push_cast, ↓J1, ↓J2, N1, N2, N3, reduceCtorEq, N4, N5, N6, reduceIte, N7, I1, I2, I3]
  refine ⟨_, c1, ?_⟩
  cases g1 : hasU b s u
  · simp only [hurt, g1, Bool.false_and, push_cast, ↓J1, ↓J2, N1, N2, N3, reduceCtorEq, N4, N5, N6, reduceIte, N7, I1, I2, I3]
  have g2 := g1
  simp only [hasU, inR, Bool.and_eq_true, decide_eq_true_eq] at g2
  obtain ⟨k, rfl⟩ : ∃ m : Nat, u = m := ⟨u.toNat, by omega⟩
  have e1 := su k (by omega)
  have hk := sk g2.1 k (by omega)
  obtain ⟨j, ej⟩ : ∃ m : Nat, (unOf s k).k = m := ⟨(unOf s k).k.toNat, by omega⟩
  have e2 := kg j (by omega)
  simp only [hurt, canRe, g1, Bool.true_and]
  simp only [Int.toNat_natCast, e1, unA, uns_length, push_cast, ↓J1, ↓J2, N1, N2, N3, reduceCtorEq, N4, N5, N6, reduceIte, N7, I1, I2, I3]
  repeat (refine ⟨by omega, ?_⟩)
  cases g3 : decide (0 ≤ (unOf s k).at_)
  · simp only [push_cast, ↓J1, ↓J2, N1, N2, N3, reduceCtorEq, N4, N5, N6, reduceIte, N7, I1, I2, I3]
  simp only [Int.toNat_natCast, e1, ej, e2, kinA, kins_length, uns_length, unA, push_cast, ↓J1, ↓J2, N1, N2, N3, reduceCtorEq, N4, N5, N6, reduceIte, N7, I1, I2, I3]
  all_goals omega
theorem t92 (b : Brd) (s : Sta) (u : Int) (hb : BrdB (2^50) b) (hl : s.us.length < 2^40) : Ev C 92 [brdF b, .agg (staF s), .int .i64 u] (.tup [.int .i64 (if hurt b s u then (kindOf b (unOf s u).k).st else 0), .bool (hurt b s u)]) := by
  have c1 := t166 hC b s u hb hl
  have c2 := fun u h => t167 hC b u h hb
  have b2 := hb.r.ks
  have kg := fun (k : Nat) (h : k < b.r.ks.length) => kins_get h
  have sk := fun (g : staOk b s = true) (k : Nat) (h : k < s.us.length) => sta_kind g h
  have su := fun (k : Nat) (h : k < s.us.length) => uns_un h
  simp only [brdF, rulF, mpF, List.cons_append, List.nil_append, staF] at *
  refine rT hC Q92 ?_
  simp only [c92, push_cast, ↓J1, ↓J2, N1, N2, N3, reduceCtorEq, N4, N5, N6, reduceIte, N7, I1, I2, I3]
  refine ⟨_, c1, ?_⟩
  cases g1 : hasU b s u
  · simp only [hurt, g1, Bool.false_and, push_cast, ↓J1, ↓J2, N1, N2, N3, reduceCtorEq, N4, N5, N6, reduceIte, N7, I1, I2, I3]
  have g2 := g1
  simp only [hasU, inR, Bool.and_eq_true, decide_eq_true_eq] at g2
  obtain ⟨k, rfl⟩ : ∃ m : Nat, u = m := ⟨u.toNat, by omega⟩
  have e1 := su k (by omega)
  have hk := sk g2.1 k (by omega)
  have c3 := c2 _ hk
  have hk' := kind_at hk
  obtain ⟨j, ej⟩ : ∃ m : Nat, (unOf s k).k = m := ⟨(unOf s k).k.toNat, by omega⟩
  have e2 := kg j (by omega)
  simp only [unA] at c3 e1
  simp only [Int.toNat_natCast, e1, unA, uns_length, push_cast, ↓J1, ↓J2, N1, N2, N3, reduceCtorEq, N4, N5, N6, reduceIte, N7, I1, I2, I3]
  repeat (refine ⟨by omega, ?_⟩)
  refine ⟨_, c3, ?_⟩
  cases g3 : canRe b (unOf s k)
  · simp only [hurt, g1, g3, Bool.and_false, push_cast, ↓J1, ↓J2, N1, N2, N3, reduceCtorEq, N4, N5, N6, reduceIte, N7, I1, I2, I3]
  simp only [hurt, g1, g3, Bool.and_self, Int.toNat_natCast, e1, ej, e2, kinA, kins_length, uns_length, unA, push_cast, ↓J1, ↓J2, N1, N2, N3, reduceCtorEq, N4, N5, N6, reduceIte, N7, I1, I2, I3]
  all_goals omega
end
end Go.Proofs.YtjaccjeejeiphaaGreatDoor.X
set_option maxHeartbeats 4000000
set_option maxRecDepth 8000
set_option linter.unusedSimpArgs false
set_option linter.unusedVariables false
open Nat renaming reduceBEq → N1, reduceAdd → N2, reduceSub → N3, reduceMul → N4, reduceEqDiff → N5, reduceLeDiff → N6, reduceLT → N7
open Int renaming reduceLE → I1, reduceLT → I2, reduceToNat → I3
namespace Go.Proofs.YtjaccjeejeiphaaGreatDoor.X
open Go
attribute [local irreducible] Ev
def hasI (l : List Int) (n : Int) : Bool := l.any fun x => decide (x = n)
def edgeM (m : Mp) (i : Int) (d : Nat) : Int := if d < 3 then 3 * i + d else 3 * nextM m i d + d - 3
def freeE (m : Mp) (e : Int) : Bool := !hasI m.ri e || hasI m.ro e
def first6 (p : Nat → Bool) : Option Nat := (List.range 6).find? p
theorem first6_at {p : Nat → Bool} {i : Nat} (h : i < 6) (hp : p i = true) (hn : ∀ j, j < i → p j = false) : first6 p = some i := by
  simp only [first6, List.find?_range_eq_some]
  exact ⟨hp, by simp [h], fun j hj => by simp [hn j hj]⟩
theorem first6_no {p : Nat → Bool} (hn : ∀ j, j < 6 → p j = false) : first6 p = none := by
  simp only [first6, List.find?_range_eq_none]
  exact fun j hj => by simp [hn j hj]
def wayFree (b : Brd) (a i : Int) : Bool := match first6 (fun d => decide (nextM b.m a d = i)) with
  | some d => freeE b.m (edgeM b.m a d)
  | none => false
def zonOf (b : Brd) (u : Un) (i : Int) : Bool := decide (0 ≤ u.at_) && (kindOf b u.k).z && !decide (costAt b u.k i = 0) && wayFree b u.at_ i
def zonS (b : Brd) (sd i : Int) (u : Un) : Bool := decide (u.sd = sd) && zonOf b u i
def inZon (b : Brd) (s : Sta) (sd i : Int) : Bool := s.us.any (zonS b sd i)
theorem nextM_bnd {m : Mp} {i d : Int} (hw : 1 ≤ m.w ∧ m.w ≤ 10) (hh : 1 ≤ m.h ∧ m.h ≤ 10) : -1 ≤ nextM m i d ∧ nextM m i d < m.w * m.h := by
  have hwh := wh_le hw hh
  simp only [nextM]
  split
  · rename_i h
    simp only [inR, Bool.and_eq_true, decide_eq_true_eq] at h
    generalize i.tdiv m.w + dr d.toNat = r at *
    generalize i.tmod m.w + dq d.toNat = q at *
    have h1 : 0 ≤ r * m.w := Int.mul_nonneg (by omega) (by omega)
    have h2 : r * m.w ≤ (m.h - 1) * m.w := Int.mul_le_mul_of_nonneg_right (by omega) (by omega)
    have h3 : (m.h - 1) * m.w = m.w * m.h - m.w := by rw [Int.sub_mul, Int.one_mul, Int.mul_comm]
    omega
  · omega
theorem hasI_no {l : List Int} {n : Int} (h : ∀ j (h : j < l.length), decide (l[j] = n) = false) : hasI l n = false := by
  simp only [hasI, List.any_eq_false]
  intro x hx
  obtain ⟨j, hj, rfl⟩ := List.getElem_of_mem hx
  simpa using h j hj
theorem hasI_yes {l : List Int} {n : Int} {j : Nat} (hj : j < l.length) (h : decide (l[j] = n) = true) : hasI l n = true := by
  simp only [hasI, List.any_eq_true]
  exact ⟨_, List.getElem_mem hj, h⟩
def iidx (l : List Int) (n : Int) : Int := gidx (fun x => decide (n = x)) l
theorem iidx_has (l : List Int) (n : Int) : decide (0 ≤ iidx l n) = hasI l n := by
  have := fidx_any (fun x => decide (n = x)) l
  have e : iidx l n = fidx (fun x => decide (n = x)) l := rfl
  rw [e, this]
  simp only [hasI]
  congr 1; funext x; rw [Bool.eq_iff_iff]; simp; exact eq_comm
section
variable {C : CT} (hC : Closed Tryz.prog G1 md0 C)
include hC
theorem t131 (l : List Int) (n : Int) (hl : l.length < 2^50) : Ev C 131 [.sl (ints l), .int .i64 n] (.bool (hasI l n)) := by
  refine rT hC Q131 ?_
  simp only [c131, ints_length, push_cast, ↓J1, ↓J2, N1, N2, N3, reduceCtorEq, N4, N5, N6, reduceIte, N7, I1, I2, I3]
  refine RL_count (fun i => ⟨tb 17 .any [(1, .int .i64 n), (7, .sl (ints l)), (8, .int .i64 (l.length : Int)), (9, .int .i64 (i : Int))], [], 0⟩) (fun i => ∀ j (h : j < l.length), j < i → decide (l[j] = n) = false) l.length 0 (hdA []) (by omega) (by intro j h h'; omega) fun i hi' ht J hJ => ?_
  by_cases h1 : i < l.length
  · have e1 : (ints l)[i]? = some [.int .i64 l[i]] := by simp [ints, h1]
    simp only [Int.toNat_natCast, e1, push_cast, ↓J1, ↓J2, N1, N2, N3, reduceCtorEq, N4, N5, N6, reduceIte, N7, I1, I2, I3]
    refine ifB_intro (fun _ => ?_) (fun h => by simp at h; omega)
    repeat (refine ⟨by omega, ?_⟩)
    refine ifB_intro (fun h => ?_) (fun h => ?_)
    · rw [hasI_yes h1 h]; first | done | rfl
    · refine hJ h1 ?_ _ (hdA [])
      intro j hj hji
      by_cases hij : j = i
      · subst hij; exact h
      · exact ht j hj (by omega)
  · simp only [ints_length, push_cast, ↓J1, ↓J2, N1, N2, N3, reduceCtorEq, N4, N5, N6, reduceIte, N7, I1, I2, I3]
    refine ifB_intro (fun h => by simp at h; omega) (fun h => ?_)
    rw [hasI_no fun j hj => ht j hj (by omega)]; first | done | rfl
theorem t197 (l : List Int) (n : Int) (hl : l.length < 2^50) : Ev C 197 [.sl (ints l), .int .i64 n] (.int .i64 (iidx l n)) := by
  refine rT hC Q197 ?_
  simp only [c197, ints_length, push_cast, ↓J1, ↓J2, N1, N2, N3, reduceCtorEq, N4, N5, N6, reduceIte, N7, I1, I2, I3]
  refine RL_count (fun i => ⟨tb 19 .any [(0, .sl (ints l)), (1, .int .i64 n), (7, .int .i64 (l.length : Int)), (8, .int .i64 (i : Int))], [], 0⟩) (fun i => ∀ j (h : j < l.length), j < i → decide (n = l[j]) = false) l.length 0 (hdA []) (by omega) (by intro j h h'; omega) fun i hi' ht J hJ => ?_
  by_cases h1 : i < l.length
  · have e1 : (ints l)[i]? = some [.int .i64 l[i]] := by simp [ints, h1]
    simp only [Int.toNat_natCast, e1, push_cast, ↓J1, ↓J2, N1, N2, N3, reduceCtorEq, N4, N5, N6, reduceIte, N7, I1, I2, I3]
    refine ifB_intro (fun _ => ?_) (fun h => by simp at h; omega)
    repeat (refine ⟨by omega, ?_⟩)
    refine ifB_intro (fun h => ?_) (fun h => ?_)
    · exact (gidx_at (p := fun x => decide (n = x)) h1 h ht).symm
    · refine hJ h1 ?_ _ (hdA [])
      intro j hj hji
      by_cases hij : j = i
      · subst hij; exact h
      · exact ht j hj (by omega)
  · simp only [ints_length, push_cast, ↓J1, ↓J2, N1, N2, N3, reduceCtorEq, N4, N5, N6, reduceIte, N7, I1, I2, I3]
    refine ifB_intro (fun h => by simp at h; omega) (fun h => ?_)
    exact (gidx_no fun j hj => ht j hj (by omega)).symm
theorem t135 (l : List Int) (n : Int) (hl : l.length < 2^50) : Ev C 135 [.sl (ints l), .int .i64 n] (.bool (hasI l n)) := by
  refine rT hC Q135 ?_
  simp only [c135, push_cast, ↓J1, ↓J2, N1, N2, N3, reduceCtorEq, N4, N5, N6, reduceIte, N7, I1, I2, I3]
  refine ⟨_, t197 hC l n hl, ?_⟩
  simp only [iidx_has, push_cast, ↓J1, ↓J2, N1, N2, N3, reduceCtorEq, N4, N5, N6, reduceIte, N7, I1, I2, I3]
theorem t224 (m : Mp) (e : Int) (hb : MpB (2^50) m) : Ev C 224 [.agg (mpF m), .int .i64 e] (.bool (freeE m e)) := by
  have c1 := t135 hC m.ri e hb.ri
  have c2 := t135 hC m.ro e hb.ro
  simp only [mpF, freeE] at *
  refine rT hC Q224 ?_
  simp only [c224, push_cast, ↓J1, ↓J2, N1, N2, N3, reduceCtorEq, N4, N5, N6, reduceIte, N7, I1, I2, I3]
  refine ⟨_, c1, ?_⟩
  cases hasI m.ri e
  · simp only [push_cast, ↓J1, ↓J2, N1, N2, N3, reduceCtorEq, N4, N5, N6, reduceIte, N7, I1, I2, I3]
  simp only [push_cast, ↓J1, ↓J2, N1, N2, N3, reduceCtorEq, N4, N5, N6, reduceIte, N7, I1, I2, I3]
  refine ⟨_, c2, ?_⟩
  simp only [push_cast, ↓J1, ↓J2, N1, N2, N3, reduceCtorEq, N4, N5, N6, reduceIte, N7, I1, I2, I3]
theorem t225 (m : Mp) (i : Int) (d : Nat) (hw : 1 ≤ m.w ∧ m.w ≤ 10) (hh : 1 ≤ m.h ∧ m.h ≤ 10) (hi : 0 ≤ i ∧ i < 100) (hd : d < 6) (hn : 0 ≤ nextM m i d) : Ev C 225 [.agg (mpF m), .int .i64 i, .int .i64 (d : Int)] (.int .i64 (edgeM m i d)) := by
  have c1 := t223 hC m i d hw hh (by omega) (by omega)
  have hb := nextM_bnd (i := i) (d := d) hw hh
  have hwh := wh_le hw hh
  simp only [mpF] at *
  refine rT hC Q225 ?_
  simp only [c225, push_cast, ↓J1, ↓J2, N1, N2, N3, reduceCtorEq, N4, N5, N6, reduceIte, N7, I1, I2, I3]
  refine ⟨_, c1, ?_⟩
  have g1 : decide (nextM m i d < 0) = false := decide_eq_false (by omega)
  simp only [g1, push_cast, ↓J1, ↓J2, N1, N2, N3, reduceCtorEq, N4, N5, N6, reduceIte, N7, I1, I2, I3]
  by_cases g2 : d < 3
  · have g3 : decide ((d : Int) < 3) = true := decide_eq_true (by omega)
    simp only [g3, push_cast, ↓J1, ↓J2, N1, N2, N3, reduceCtorEq, N4, N5, N6, reduceIte, N7, I1, I2, I3]
    rw [wrap64 (n := 3 * i) (by omega) (by omega), wrap64 (by omega) (by omega)]
    simp only [edgeM, if_pos g2]
  · have g3 : decide ((d : Int) < 3) = false := decide_eq_false (by omega)
    simp only [g3, push_cast, ↓J1, ↓J2, N1, N2, N3, reduceCtorEq, N4, N5, N6, reduceIte, N7, I1, I2, I3]
    rw [wrap64 (n := 3 * nextM m i d) (by omega) (by omega), wrap64 (n := 3 * nextM m i d + d) (by omega) (by omega), wrap64 (by omega) (by omega)]
    simp only [edgeM, if_neg g2]
theorem t304 (m : Mp) (i : Int) (d : Nat) (hw : 1 ≤ m.w ∧ m.w ≤ 10) (hh : 1 ≤ m.h ∧ m.h ≤ 10) (hi : 0 ≤ i ∧ i < 100) (hd : d < 6) : Ev C 304 [.agg (mpF m), .int .i64 i, .int .i64 (d : Int)] (.int .i64 (edgeM m i d)) := by
  have c1 := t189 hC m i d hw hh (by omega) (by omega)
  have hb := nextM_bnd (i := i) (d := d) hw hh
  have hwh := wh_le hw hh
  simp only [mpF] at *
  refine rT hC Q304 ?_
  simp only [c304, push_cast, ↓J1, ↓J2, N1, N2, N3, reduceCtorEq, N4, N5, N6, reduceIte, N7, I1, I2, I3]
  by_cases g2 : d < 3
  · have g3 : decide ((d : Int) < 3) = true := decide_eq_true (by omega)
    simp only [g3, push_cast, ↓J1, ↓J2, N1, N2, N3, reduceCtorEq, N4, N5, N6, reduceIte, N7, I1, I2, I3]
    rw [wrap64 (n := 3 * i) (by omega) (by omega), wrap64 (by omega) (by omega)]
    simp only [edgeM, if_pos g2]
  · have g3 : decide ((d : Int) < 3) = false := decide_eq_false (by omega)
    simp only [g3, push_cast, ↓J1, ↓J2, N1, N2, N3, reduceCtorEq, N4, N5, N6, reduceIte, N7, I1, I2, I3]
    refine ⟨_, c1, ?_⟩
    simp only [push_cast, ↓J1, ↓J2, N1, N2, N3, reduceCtorEq, N4, N5, N6, reduceIte, N7, I1, I2, I3]
    rw [wrap64 (n := 3 * nextM m i d) (by omega) (by omega), wrap64 (n := 3 * nextM m i d + d) (by omega) (by omega), wrap64 (by omega) (by omega)]
    simp only [edgeM, if_neg g2]
theorem t271 (m : Mp) (i : Int) (d : Nat) (hw : 1 ≤ m.w ∧ m.w ≤ 10) (hh : 1 ≤ m.h ∧ m.h ≤ 10) (hi : 0 ≤ i ∧ i < 100) (hd : d < 6) (hb : MpB (2^50) m) : Ev C 271 [.agg (mpF m), .int .i64 i, .int .i64 (d : Int)] (.bool (hasI m.ri (edgeM m i d))) := by
  have c1 := t304 hC m i d hw hh hi hd
  have c2 := t131 hC m.ri (edgeM m i d) hb.ri
  simp only [mpF] at *
  refine rT hC Q271 ?_
  simp only [c271, push_cast, ↓J1, ↓J2, N1, N2, N3, reduceCtorEq, N4, N5, N6, reduceIte, N7, I1, I2, I3]
  refine ⟨_, c1, ?_⟩
  simp only [push_cast, ↓J1, ↓J2, N1, N2, N3, reduceCtorEq, N4, N5, N6, reduceIte, N7, I1, I2, I3]
  refine ⟨_, c2, ?_⟩
  simp only [push_cast, ↓J1, ↓J2, N1, N2, N3, reduceCtorEq, N4, N5, N6, reduceIte, N7, I1, I2, I3]
theorem t272 (m : Mp) (i : Int) (d : Nat) (hw : 1 ≤ m.w ∧ m.w ≤ 10) (hh : 1 ≤ m.h ∧ m.h ≤ 10) (hi : 0 ≤ i ∧ i < 100) (hd : d < 6) (hb : MpB (2^50) m) : Ev C 272 [.agg (mpF m), .int .i64 i, .int .i64 (d : Int)] (.bool (hasI m.ro (edgeM m i d))) := by
  have c1 := t304 hC m i d hw hh hi hd
  have c2 := t131 hC m.ro (edgeM m i d) hb.ro
  simp only [mpF] at *
  refine rT hC Q272 ?_
  simp only [c272, push_cast, ↓J1, ↓J2, N1, N2, N3, reduceCtorEq, N4, N5, N6, reduceIte, N7, I1, I2, I3]
  refine ⟨_, c1, ?_⟩
  simp only [push_cast, ↓J1, ↓J2, N1, N2, N3, reduceCtorEq, N4, N5, N6, reduceIte, N7, I1, I2, I3]
  refine ⟨_, c2, ?_⟩
  simp only [push_cast, ↓J1, ↓J2, N1, N2, N3, reduceCtorEq, N4, N5, N6, reduceIte, N7, I1, I2, I3]
end
end Go.Proofs.YtjaccjeejeiphaaGreatDoor.X
