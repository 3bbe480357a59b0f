/- A part of the proof: lemmas on the machine or on the functions that the law reaches. No condition of its own. -/
import Derived.Test.YtjaccjeejeiphaaGreatDoorXP5
import Derived.Test.YtjaccjeejeiphaaGreatDoorXP6
import Derived.Test.YtjaccjeejeiphaaGreatDoorXP4
set_option maxHeartbeats 4000000
set_option maxRecDepth 8000
set_option linter.unusedSimpArgs false
set_option linter.unusedVariables false
open Nat renaming reduceBEq → N1, reduceAdd → N2, reduceSub → N3, reduceMul → N4, reduceEqDiff → N5, reduceLeDiff → N6, reduceLT → N7
open Int renaming reduceLE → I1, reduceLT → I2, reduceToNat → I3
namespace Go.Proofs.YtjaccjeejeiphaaGreatDoor.X
open Go
attribute [local irreducible] Ev
def onSide (sd : Int) (u : Un) : Bool := decide (u.sd = sd) && decide (0 ≤ u.at_)
def gaOk (x : Se) (s : Sta) : Bool := seOk x && staOk x.b s
theorem se_brd {x : Se} (h : seOk x = true) : brdOk x.b = true := by
  simp only [seOk, Bool.and_eq_true] at h; exact h.1.1.1.1.1
theorem ga_eq {x : Se} {s : Sta} (h : seOk x = true) : gaOk x s = staOk0 x.b s := by
  simp only [gaOk, staOk, h, se_brd h, Bool.true_and]
def overOk (x : Se) (s : Sta) : Bool := decide (s.t = x.b.r.turns) || decide ((((fil (onSide 0) s.us s.us.length).length : Nat) : Int) = 0) || decide ((((fil (onSide 1) s.us s.us.length).length : Nat) : Int) = 0)
def ovRes (x : Se) (s : Sta) : Bool := gaOk x s && overOk x s
def leftRes (x : Se) (s : Sta) : Int := if gaOk x s then if overOk x s then 0 else x.b.r.turns - s.t else 0
theorem ga_turn {x : Se} {s : Sta} (h : gaOk x s = true) : 0 ≤ s.t ∧ s.t ≤ x.b.r.turns ∧ x.b.r.turns ≤ 30 ∧ s.us.length ≤ 12 := by
  simp only [gaOk, Bool.and_eq_true] at h
  have h1 := h.2
  have h2 := brd_ru (se_brd h.1)
  simp only [staOk, staOk0, rulOk, tailOk, inR, Bool.and_eq_true, decide_eq_true_eq] at h1 h2
  omega
section
variable {C : CT} (hC : Closed Tryz.prog G1 md0 C)
include hC
theorem t126 (s : Sta) (sd : Int) (hl : s.us.length < 2^40) : Ev C 126 [.agg (staF s), .int .i64 sd] (.ow 1 (ints (fil (onSide sd) s.us s.us.length))) := by
  simp only [staF]
  refine rT hC Q126 ?_ (own_ints _)
  simp only [c126, uns_length, push_cast, ↓J1, ↓J2, N1, N2, N3, reduceCtorEq, N4, N5, N6, reduceIte, N7, I1, I2, I3]
  refine RL_count (fun i => ⟨tb 32 .any [(5, .ref 0 none 1 0 (fil (onSide sd) s.us i).length), (1, .int .i64 sd), (10, .sl (uns s.us)), (11, .int .i64 (s.us.length : Int)), (12, .int .i64 (i : Int))], [(0, .slice 1 (ints (fil (onSide sd) s.us i)))], 1⟩) (fun _ => True) s.us.length 0 (hdA [(1, 0)]) (by omega) trivial fun i hi _ J hJ => ?_
  by_cases h1 : i < s.us.length
  · have e1 := uns_get h1
    have e2 := fil_succ (p := (onSide sd)) h1
    have hfl := fil_le (p := (onSide sd)) hi
    have tk : List.take (fil (onSide sd) s.us i).length (ints (fil (onSide sd) s.us i)) = ints (fil (onSide sd) s.us i) := List.take_of_length_le (by rw [ints_length]; omega)
    generalize s.us[i] = u at *
    simp only [Int.toNat_natCast, e1, unA, push_cast, ↓J1, ↓J2, N1, N2, N3, reduceCtorEq, N4, N5, N6, reduceIte, N7, I1, I2, I3]
    refine ifB_intro (fun _ => ?_) (fun h => by simp at h; omega)
    repeat (refine ⟨by omega, ?_⟩)
    cases g1 : decide (u.sd = sd)
    · have hp : (onSide sd) u = false := by simp only [onSide, g1, Bool.false_and, Bool.and_false]
      rw [hp, if_neg Bool.false_ne_true] at e2
      simp only [g1, push_cast, ↓J1, ↓J2, N1, N2, N3, reduceCtorEq, N4, N5, N6, reduceIte, N7, I1, I2, I3]
      exact hJ h1 trivial _ (by rw [e2]; exact (hdA [(0, 0)]))
    cases g2 : decide (0 ≤ u.at_)
    · have hp : (onSide sd) u = false := by simp only [onSide, g1, g2, Bool.false_and, Bool.and_false]
      rw [hp, if_neg Bool.false_ne_true] at e2
      simp only [g1, g2, push_cast, ↓J1, ↓J2, N1, N2, N3, reduceCtorEq, N4, N5, N6, reduceIte, N7, I1, I2, I3]
      exact hJ h1 trivial _ (by rw [e2]; exact (hdA [(0, 0)]))
    have hp : (onSide sd) u = true := by simp only [onSide, g1, g2, Bool.and_self]
    rw [hp, if_pos rfl] at e2
    simp only [g1, g2, tk, ints_length, allScs, apYR_sc, push_cast, ↓J1, ↓J2, N1, N2, N3, reduceCtorEq, N4, N5, N6, reduceIte, N7, I1, I2, I3]
    repeat (refine ⟨by omega, ?_⟩)
    refine hJ h1 trivial _ ?_
    rw [e2]
    refine (hdA [(3, 0)] (hh := ?_))
    simp only [canR, canB, renO, renL, ren, lkp, hget, N7, N5, Nat.not_lt_zero, if_false, if_true, reduceIte, List.append_nil, List.nil_append, ints_sn]
    all_goals rfl
  · simp only [uns_length, push_cast, ↓J1, ↓J2, N1, N2, N3, reduceCtorEq, N4, N5, N6, reduceIte, N7, I1, I2, I3]
    refine ifB_intro (fun h => by simp at h; omega) (fun h => ?_)
    obtain rfl : i = s.us.length := by omega
    exact RetTo_ow rfl (by rw [ints_length])
theorem t123 (s : Sta) (sd : Int) (hl : s.us.length < 2^40) : Ev C 123 [.agg (staF s), .int .i64 sd] (.ow 1 (ints (fil (onSide sd) s.us s.us.length))) := by
  simp only [staF]
  refine rT hC Q123 ?_ (own_ints _)
  simp only [c123, uns_length, push_cast, ↓J1, ↓J2, N1, N2, N3, reduceCtorEq, N4, N5, N6, reduceIte, N7, I1, I2, I3]
  refine RL_count (fun i => ⟨tb 31 .any [(5, .ref 0 none 1 0 (fil (onSide sd) s.us i).length), (1, .int .i64 sd), (9, .sl (uns s.us)), (10, .int .i64 (s.us.length : Int)), (11, .int .i64 (i : Int))], [(0, .slice 1 (ints (fil (onSide sd) s.us i)))], 1⟩) (fun _ => True) s.us.length 0 (hdO 5 0 1 []) (by omega) trivial fun i hi _ J hJ => ?_
  by_cases h1 : i < s.us.length
  · have e1 := uns_get h1
    have e2 := fil_succ (p := (onSide sd)) h1
    have hfl := fil_le (p := (onSide sd)) hi
    have tk : List.take (fil (onSide sd) s.us i).length (ints (fil (onSide sd) s.us i)) = ints (fil (onSide sd) s.us i) := List.take_of_length_le (by rw [ints_length]; omega)
    generalize s.us[i] = u at *
    simp only [Int.toNat_natCast, e1, unA, push_cast, ↓J1, ↓J2, N1, N2, N3, reduceCtorEq, N4, N5, N6, reduceIte, N7, I1, I2, I3]
    refine ifB_intro (fun _ => ?_) (fun h => by simp at h; omega)
    repeat (refine ⟨by omega, ?_⟩)
    cases g1 : decide (u.sd = sd)
    · have hp : (onSide sd) u = false := by simp only [onSide, g1, Bool.false_and, Bool.and_false]
      rw [hp, if_neg Bool.false_ne_true] at e2
      simp only [g1, push_cast, ↓J1, ↓J2, N1, N2, N3, reduceCtorEq, N4, N5, N6, reduceIte, N7, I1, I2, I3]
      exact hJ h1 trivial _ (by rw [e2]; exact (hdA [(0, 0)]))
    cases g2 : decide (0 ≤ u.at_)
    · have hp : (onSide sd) u = false := by simp only [onSide, g1, g2, Bool.false_and, Bool.and_false]
      rw [hp, if_neg Bool.false_ne_true] at e2
      simp only [g1, g2, push_cast, ↓J1, ↓J2, N1, N2, N3, reduceCtorEq, N4, N5, N6, reduceIte, N7, I1, I2, I3]
      exact hJ h1 trivial _ (by rw [e2]; exact (hdA [(0, 0)]))
    have hp : (onSide sd) u = true := by simp only [onSide, g1, g2, Bool.and_self]
    rw [hp, if_pos rfl] at e2
    simp only [g1, g2, tk, ints_length, allScs, apYR_sc, push_cast, ↓J1, ↓J2, N1, N2, N3, reduceCtorEq, N4, N5, N6, reduceIte, N7, I1, I2, I3]
    repeat (refine ⟨by omega, ?_⟩)
    refine hJ h1 trivial _ ?_
    rw [e2]
    refine (hdA [(3, 0)] (hh := ?_))
    simp only [canR, canB, renO, renL, ren, lkp, hget, N7, N5, Nat.not_lt_zero, if_false, if_true, reduceIte, List.append_nil, List.nil_append, ints_sn]
    all_goals rfl
  · simp only [uns_length, push_cast, ↓J1, ↓J2, N1, N2, N3, reduceCtorEq, N4, N5, N6, reduceIte, N7, I1, I2, I3]
    refine ifB_intro (fun h => by simp at h; omega) (fun h => ?_)
    obtain rfl : i = s.us.length := by omega
    exact RetTo_ow rfl (by rw [ints_length])
theorem t81 (x : Se) (s : Sta) (hb : SeB (2^50) x) (hl : s.us.length < 2^40) : Ev C 81 [seF x, .agg (staF s)] (.bool (gaOk x s)) := by
  have c1 := t160 hC x hb
  have c2 := fun g => t121 hC x.b s g hb.b hl
  simp only [seF, brdF, rulF, mpF, ctF, clA, List.cons_append, List.nil_append, staF] at *
  refine rT hC Q81 ?_
  simp only [c81, push_cast, ↓J1, ↓J2, N1, N2, N3, reduceCtorEq, N4, N5, N6, reduceIte, N7, I1, I2, I3]
  refine ⟨_, c1, ?_⟩
  cases g1 : seOk x
  · simp only [gaOk, g1, Bool.false_and, push_cast, ↓J1, ↓J2, N1, N2, N3, reduceCtorEq, N4, N5, N6, reduceIte, N7, I1, I2, I3]
  simp only [push_cast, ↓J1, ↓J2, N1, N2, N3, reduceCtorEq, N4, N5, N6, reduceIte, N7, I1, I2, I3]
  refine ⟨_, c2 (se_brd g1), ?_⟩
  simp only [ga_eq g1, push_cast, ↓J1, ↓J2, N1, N2, N3, reduceCtorEq, N4, N5, N6, reduceIte, N7, I1, I2, I3]
theorem t76 (x : Se) (s : Sta) (sd : Int) (hb : SeB (2^50) x) (hl : s.us.length < 2^40) : Ev C 76 [seF x, .agg (staF s), .int .i64 sd] (.bool (gaOk x s && inR 0 4611686016279904236 sd)) := by
  have c1 := t157 hC x hb
  have c2 := t119 hC x.b s hb.b hl
  have c3 := t158 hC sd
  simp only [seF, brdF, rulF, mpF, ctF, clA, List.cons_append, List.nil_append, staF] at *
  refine rT hC Q76 ?_
  simp only [c76, push_cast, ↓J1, ↓J2, N1, N2, N3, reduceCtorEq, N4, N5, N6, reduceIte, N7, I1, I2, I3]
  refine ⟨_, c1, ?_⟩
  cases g1 : seOk x
  · simp only [gaOk, g1, Bool.false_and, push_cast, ↓J1, ↓J2, N1, N2, N3, reduceCtorEq, N4, N5, N6, reduceIte, N7, I1, I2, I3]
  simp only [push_cast, ↓J1, ↓J2, N1, N2, N3, reduceCtorEq, N4, N5, N6, reduceIte, N7, I1, I2, I3]
  refine ⟨_, c2, ?_⟩
  cases g2 : staOk x.b s
  · simp only [gaOk, g1, g2, Bool.false_and, Bool.and_false, push_cast, ↓J1, ↓J2, N1, N2, N3, reduceCtorEq, N4, N5, N6, reduceIte, N7, I1, I2, I3]
  simp only [push_cast, ↓J1, ↓J2, N1, N2, N3, reduceCtorEq, N4, N5, N6, reduceIte, N7, I1, I2, I3]
  refine ⟨_, c3, ?_⟩
  simp only [gaOk, g1, g2, Bool.true_and, Bool.and_self, push_cast, ↓J1, ↓J2, N1, N2, N3, reduceCtorEq, N4, N5, N6, reduceIte, N7, I1, I2, I3]
theorem t82 (x : Se) (s : Sta) (hl : s.us.length < 2^40) : Ev C 82 [brdF x.b, .agg (staF s)] (.bool (overOk x s)) := by
  have c1 := fun sd => t126 hC s sd hl
  simp only [seF, brdF, rulF, mpF, ctF, clA, List.cons_append, List.nil_append, staF] at *
  refine rT hC Q82 ?_
  simp only [c82, push_cast, ↓J1, ↓J2, N1, N2, N3, reduceCtorEq, N4, N5, N6, reduceIte, N7, I1, I2, I3]
  cases g1 : decide (s.t = x.b.r.turns)
  · simp only [push_cast, ↓J1, ↓J2, N1, N2, N3, reduceCtorEq, N4, N5, N6, reduceIte, N7, I1, I2, I3]
    refine ⟨_, c1 0, ?_⟩
    simp only [ints_length, push_cast, ↓J1, ↓J2, N1, N2, N3, reduceCtorEq, N4, N5, N6, reduceIte, N7, I1, I2, I3]
    cases g2 : decide ((((fil (onSide 0) s.us s.us.length).length : Nat) : Int) = 0)
    · simp only [push_cast, ↓J1, ↓J2, N1, N2, N3, reduceCtorEq, N4, N5, N6, reduceIte, N7, I1, I2, I3]
      refine ⟨_, c1 1, ?_⟩
      simp only [overOk, g1, g2, Bool.false_or, ints_length, push_cast, ↓J1, ↓J2, N1, N2, N3, reduceCtorEq, N4, N5, N6, reduceIte, N7, I1, I2, I3]
    · simp only [overOk, g1, g2, Bool.or_true, Bool.true_or, push_cast, ↓J1, ↓J2, N1, N2, N3, reduceCtorEq, N4, N5, N6, reduceIte, N7, I1, I2, I3]
  · simp only [overOk, g1, Bool.true_or, push_cast, ↓J1, ↓J2, N1, N2, N3, reduceCtorEq, N4, N5, N6, reduceIte, N7, I1, I2, I3]
theorem t77 (x : Se) (s : Sta) (hl : s.us.length < 2^40) : Ev C 77 [seF x, .agg (staF s)] (.bool (overOk x s)) := by
  have c1 := fun sd => t123 hC s sd hl
  simp only [seF, brdF, rulF, mpF, ctF, clA, List.cons_append, List.nil_append, staF] at *
  refine rT hC Q77 ?_
  simp only [c77, push_cast, ↓J1, ↓J2, N1, N2, N3, reduceCtorEq, N4, N5, N6, reduceIte, N7, I1, I2, I3]
  cases g1 : decide (s.t = x.b.r.turns)
  · simp only [push_cast, ↓J1, ↓J2, N1, N2, N3, reduceCtorEq, N4, N5, N6, reduceIte, N7, I1, I2, I3]
    refine ⟨_, c1 0, ?_⟩
    simp only [ints_length, push_cast, ↓J1, ↓J2, N1, N2, N3, reduceCtorEq, N4, N5, N6, reduceIte, N7, I1, I2, I3]
    cases g2 : decide ((((fil (onSide 0) s.us s.us.length).length : Nat) : Int) = 0)
    · simp only [push_cast, ↓J1, ↓J2, N1, N2, N3, reduceCtorEq, N4, N5, N6, reduceIte, N7, I1, I2, I3]
      refine ⟨_, c1 1, ?_⟩
      simp only [overOk, g1, g2, Bool.false_or, ints_length, push_cast, ↓J1, ↓J2, N1, N2, N3, reduceCtorEq, N4, N5, N6, reduceIte, N7, I1, I2, I3]
    · simp only [overOk, g1, g2, Bool.or_true, Bool.true_or, push_cast, ↓J1, ↓J2, N1, N2, N3, reduceCtorEq, N4, N5, N6, reduceIte, N7, I1, I2, I3]
  · simp only [overOk, g1, Bool.true_or, push_cast, ↓J1, ↓J2, N1, N2, N3, reduceCtorEq, N4, N5, N6, reduceIte, N7, I1, I2, I3]
theorem t29 (x : Se) (s : Sta) (hb : SeB (2^50) x) (hl : s.us.length < 2^40) : Ev C 29 [seF x, .agg (staF s)] (.tup [.bool (ovRes x s), .bool (gaOk x s)]) := by
  have c1 := t81 hC x s hb hl
  have c2 := t82 hC x s hl
  simp only [seF, brdF, rulF, mpF, ctF, clA, List.cons_append, List.nil_append, staF] at *
  refine rT hC Q29 ?_
  simp only [c29, push_cast, ↓J1, ↓J2, N1, N2, N3, reduceCtorEq, N4, N5, N6, reduceIte, N7, I1, I2, I3]
  refine ⟨_, c1, ?_⟩
  cases g1 : gaOk x s
  · simp only [ovRes, g1, Bool.false_and, push_cast, ↓J1, ↓J2, N1, N2, N3, reduceCtorEq, N4, N5, N6, reduceIte, N7, I1, I2, I3]
    exact RetTo_sc rfl
  simp only [push_cast, ↓J1, ↓J2, N1, N2, N3, reduceCtorEq, N4, N5, N6, reduceIte, N7, I1, I2, I3]
  refine ⟨_, c2, ?_⟩
  simp only [ovRes, g1, Bool.true_and, push_cast, ↓J1, ↓J2, N1, N2, N3, reduceCtorEq, N4, N5, N6, reduceIte, N7, I1, I2, I3]
  exact RetTo_sc rfl
theorem t27 (x : Se) (s : Sta) (hb : SeB (2^50) x) (hl : s.us.length < 2^40) : Ev C 27 [seF x, .agg (staF s)] (.tup [.bool (ovRes x s), .bool (gaOk x s)]) := by
  have c1 := t76 hC x s 0 hb hl
  rw [show inR 0 4611686016279904236 0 = true from rfl, Bool.and_true] at c1
  have c2 := t77 hC x s hl
  simp only [seF, brdF, rulF, mpF, ctF, clA, List.cons_append, List.nil_append, staF] at *
  refine rT hC Q27 ?_
  simp only [c27, push_cast, ↓J1, ↓J2, N1, N2, N3, reduceCtorEq, N4, N5, N6, reduceIte, N7, I1, I2, I3]
  refine ⟨_, c1, ?_⟩
  cases g1 : gaOk x s
  · simp only [ovRes, g1, Bool.false_and, push_cast, ↓J1, ↓J2, N1, N2, N3, reduceCtorEq, N4, N5, N6, reduceIte, N7, I1, I2, I3]
    exact RetTo_sc rfl
  simp only [push_cast, ↓J1, ↓J2, N1, N2, N3, reduceCtorEq, N4, N5, N6, reduceIte, N7, I1, I2, I3]
  refine ⟨_, c2, ?_⟩
  simp only [ovRes, g1, Bool.true_and, push_cast, ↓J1, ↓J2, N1, N2, N3, reduceCtorEq, N4, N5, N6, reduceIte, N7, I1, I2, I3]
  exact RetTo_sc rfl
theorem t32 (x : Se) (s : Sta) (hb : SeB (2^50) x) (hl : s.us.length < 2^40) : Ev C 32 [seF x, .agg (staF s)] (.tup [.int .i64 (leftRes x s), .bool (gaOk x s)]) := by
  have c1 := t81 hC x s hb hl
  have c2 := t82 hC x s hl
  simp only [seF, brdF, rulF, mpF, ctF, clA, List.cons_append, List.nil_append, staF] at *
  refine rT hC Q32 ?_
  simp only [c32, push_cast, ↓J1, ↓J2, N1, N2, N3, reduceCtorEq, N4, N5, N6, reduceIte, N7, I1, I2, I3]
  refine ⟨_, c1, ?_⟩
  cases g1 : gaOk x s
  · simp only [leftRes, g1, push_cast, ↓J1, ↓J2, N1, N2, N3, reduceCtorEq, N4, N5, N6, reduceIte, N7, I1, I2, I3]
  have h1 := ga_turn g1
  simp only [push_cast, ↓J1, ↓J2, N1, N2, N3, reduceCtorEq, N4, N5, N6, reduceIte, N7, I1, I2, I3]
  refine ⟨_, c2, ?_⟩
  cases g2 : overOk x s
  · simp only [leftRes, g1, g2, wrap64 (n := x.b.r.turns - s.t) (by omega) (by omega), push_cast, ↓J1, ↓J2, N1, N2, N3, reduceCtorEq, N4, N5, N6, reduceIte, N7, I1, I2, I3]
  · simp only [leftRes, g1, g2, push_cast, ↓J1, ↓J2, N1, N2, N3, reduceCtorEq, N4, N5, N6, reduceIte, N7, I1, I2, I3]
theorem t31 (x : Se) (s : Sta) (hb : SeB (2^50) x) (hl : s.us.length < 2^40) : Ev C 31 [seF x, .agg (staF s)] (.tup [.int .i64 (leftRes x s), .bool (gaOk x s)]) := by
  have c1 := t76 hC x s 0 hb hl
  rw [show inR 0 4611686016279904236 0 = true from rfl, Bool.and_true] at c1
  have c2 := t77 hC x s hl
  simp only [seF, brdF, rulF, mpF, ctF, clA, List.cons_append, List.nil_append, staF] at *
  refine rT hC Q31 ?_
  simp only [c31, push_cast, ↓J1, ↓J2, N1, N2, N3, reduceCtorEq, N4, N5, N6, reduceIte, N7, I1, I2, I3]
  refine ⟨_, c1, ?_⟩
  cases g1 : gaOk x s
  · simp only [leftRes, g1, push_cast, ↓J1, ↓J2, N1, N2, N3, reduceCtorEq, N4, N5, N6, reduceIte, N7, I1, I2, I3]
  have h1 := ga_turn g1
  simp only [push_cast, ↓J1, ↓J2, N1, N2, N3, reduceCtorEq, N4, N5, N6, reduceIte, N7, I1, I2, I3]
  refine ⟨_, c2, ?_⟩
  cases g2 : overOk x s
  · simp only [leftRes, g1, g2, wrap64 (n := x.b.r.turns - s.t) (by omega) (by omega), push_cast, ↓J1, ↓J2, N1, N2, N3, reduceCtorEq, N4, N5, N6, reduceIte, N7, I1, I2, I3]
  · simp only [leftRes, g1, g2, push_cast, ↓J1, ↓J2, N1, N2, N3, reduceCtorEq, N4, N5, N6, reduceIte, N7, I1, I2, I3]
end
end Go.Proofs.YtjaccjeejeiphaaGreatDoor.X
set_option linter.unusedVariables false
set_option maxHeartbeats 1000000
open Nat renaming reduceBEq → N1, reduceAdd → N2, reduceSub → N3, reduceMul → N4, reduceEqDiff → N5, reduceLeDiff → N6, reduceLT → N7
open Int renaming reduceLE → I1, reduceLT → I2, reduceToNat → I3
namespace Go.Proofs.YtjaccjeejeiphaaGreatDoor.X
open Go
theorem andThen_le {f g : Int → Int} {v : Int} (hf : -1 ≤ f v ∧ f v ≤ v) (hg : 0 ≤ f v → -1 ≤ g (f v) ∧ g (f v) ≤ f v) : -1 ≤ andThen f g v ∧ andThen f g v ≤ v := by
  have e : andThen f g v = if f v < 0 then -1 else if g (f v) < 0 then -1 else g (f v) := rfl
  rw [e]
  split
  · omega
  · have := hg (by omega)
    split <;> omega
theorem szSe_le {s : Se} {v : Int} (h0 : 0 ≤ v) (hB : v ≤ 2 ^ 50) : -1 ≤ szSe s v ∧ szSe s v ≤ v := by
  unfold szSe
  refine andThen_le (andThen_le (andThen_le (szBrd_le h0 hB) fun h => szCt_rng h) fun h => szCl_rng h) fun h => szSS_rng h
end Go.Proofs.YtjaccjeejeiphaaGreatDoor.X
set_option maxHeartbeats 4000000
set_option maxRecDepth 8000
set_option linter.unusedSimpArgs false
set_option linter.unusedVariables false
open Nat renaming reduceBEq → N1, reduceAdd → N2, reduceSub → N3, reduceMul → N4, reduceEqDiff → N5, reduceLeDiff → N6, reduceLT → N7
open Int renaming reduceLE → I1, reduceLT → I2, reduceToNat → I3
namespace Go.Proofs.YtjaccjeejeiphaaGreatDoor.X
open Go
attribute [local irreducible] Ev
section
variable {C : CT} (hC : Closed Tryz.prog G1 md0 C)
include hC
theorem t4 (x : Se) (s : Sta) (hx : SeB (2^50) x) (hs : s.us.length < 2^50) : Ev C 4 [seF x, .agg (staF s)] (.bool true) := by
  have z0 := fun p => t26 hC x 1048576 p hx
  have z1 := fun p => t16 hC s (szSe x 1048576) p hs
  have d0 := fun Hx => t28 hC x Hx
  have e0 := t30 hC x x hx hx
  have d1 := fun Hs => t20 hC s Hs
  have e1 := t24 hC s s hs hs
  have f1 := fun (Hx : SeB (2^30) x) (Hs : s.us.length < 2^30) => t27 hC x s hx (by omega)
  have f2 := fun (Hx : SeB (2^30) x) (Hs : s.us.length < 2^30) => t29 hC x s hx (by omega)
  simp only [brdO, rulO, mpO, brdF, rulF, mpF, seF, seO, ctF, ctO, szSta, staF, staO, List.cons_append, List.nil_append, List.append_assoc, decide_true] at *
  refine rT hC Q4 ?_
  simp only [c4, push_cast, ↓J1, ↓J2, N1, N2, N3, reduceCtorEq, N4, N5, N6, reduceIte, N7, I1, I2, I3]
  refine ⟨_, z0 (by omega), ?_⟩
  simp only [push_cast, ↓J1, ↓J2, N1, N2, N3, reduceCtorEq, N4, N5, N6, reduceIte, N7, I1, I2, I3]
  refine ifB_intro (fun h => trivial) (fun h => ?_)
  have n0 := of_decide_eq_false h
  clear h
  have l0 := szSe_le (s := x) (v := 1048576) (by omega) (by omega)
  have Hx : SeB (2^30) x := (szSe_pos (by omega)).mono (by omega)
  refine ⟨_, z1 (by omega), ?_⟩
  simp only [push_cast, ↓J1, ↓J2, N1, N2, N3, reduceCtorEq, N4, N5, N6, reduceIte, N7, I1, I2, I3]
  refine ifB_intro (fun h => trivial) (fun h => ?_)
  have n1 := of_decide_eq_false h
  clear h
  have l1 := sub1_le (v := (szSe x 1048576)) (n := s.us.length) (by omega)
  have Hs : s.us.length < 2^30 := by have := sub1_pos (v := (szSe x 1048576)) (n := s.us.length) (by omega); omega
  repeat' (first
    | simp only [frzLL_ints, frzLL_ters, frzLL_kins, frzLL_owss, frzLL_ods, frzLL_uns, push_cast, ↓J1, ↓J2, N1, N2, N3, reduceCtorEq, N4, N5, N6, reduceIte, N7, I1, I2, I3]
    | refine ⟨_, d0 Hx, ?_⟩
    | refine ⟨_, e0, ?_⟩
    | refine ⟨_, d1 Hs, ?_⟩
    | refine ⟨_, e1, ?_⟩
    | refine ⟨_, f1 Hx Hs, ?_⟩
    | refine ⟨_, f2 Hx Hs, ?_⟩
    | refine ifB_intro (fun h => ?_) (fun h => ?_))
theorem t5 (x : Se) (s : Sta) (hx : SeB (2^50) x) (hs : s.us.length < 2^50) : Ev C 5 [seF x, .agg (staF s)] (.bool true) := by
  have z0 := fun p => t26 hC x 1048576 p hx
  have z1 := fun p => t16 hC s (szSe x 1048576) p hs
  have d0 := fun Hx => t28 hC x Hx
  have e0 := t30 hC x x hx hx
  have d1 := fun Hs => t20 hC s Hs
  have e1 := t24 hC s s hs hs
  have f1 := fun (Hx : SeB (2^30) x) (Hs : s.us.length < 2^30) => t31 hC x s hx (by omega)
  have f2 := fun (Hx : SeB (2^30) x) (Hs : s.us.length < 2^30) => t32 hC x s hx (by omega)
  simp only [brdO, rulO, mpO, brdF, rulF, mpF, seF, seO, ctF, ctO, szSta, staF, staO, List.cons_append, List.nil_append, List.append_assoc, decide_true] at *
  refine rT hC Q5 ?_
  simp only [c5, push_cast, ↓J1, ↓J2, N1, N2, N3, reduceCtorEq, N4, N5, N6, reduceIte, N7, I1, I2, I3]
  refine ⟨_, z0 (by omega), ?_⟩
  simp only [push_cast, ↓J1, ↓J2, N1, N2, N3, reduceCtorEq, N4, N5, N6, reduceIte, N7, I1, I2, I3]
  refine ifB_intro (fun h => trivial) (fun h => ?_)
  have n0 := of_decide_eq_false h
  clear h
  have l0 := szSe_le (s := x) (v := 1048576) (by omega) (by omega)
  have Hx : SeB (2^30) x := (szSe_pos (by omega)).mono (by omega)
  refine ⟨_, z1 (by omega), ?_⟩
  simp only [push_cast, ↓J1, ↓J2, N1, N2, N3, reduceCtorEq, N4, N5, N6, reduceIte, N7, I1, I2, I3]
  refine ifB_intro (fun h => trivial) (fun h => ?_)
  have n1 := of_decide_eq_false h
  clear h
  have l1 := sub1_le (v := (szSe x 1048576)) (n := s.us.length) (by omega)
  have Hs : s.us.length < 2^30 := by have := sub1_pos (v := (szSe x 1048576)) (n := s.us.length) (by omega); omega
  repeat' (first
    | simp only [frzLL_ints, frzLL_ters, frzLL_kins, frzLL_owss, frzLL_ods, frzLL_uns, push_cast, ↓J1, ↓J2, N1, N2, N3, reduceCtorEq, N4, N5, N6, reduceIte, N7, I1, I2, I3]
    | refine ⟨_, d0 Hx, ?_⟩
    | refine ⟨_, e0, ?_⟩
    | refine ⟨_, d1 Hs, ?_⟩
    | refine ⟨_, e1, ?_⟩
    | refine ⟨_, f1 Hx Hs, ?_⟩
    | refine ⟨_, f2 Hx Hs, ?_⟩
    | refine ifB_intro (fun h => ?_) (fun h => ?_))
end
end Go.Proofs.YtjaccjeejeiphaaGreatDoor.X
set_option maxHeartbeats 4000000
set_option maxRecDepth 8000
set_option linter.unusedSimpArgs false
set_option linter.unusedVariables false
open Nat renaming reduceBEq → N1, reduceAdd → N2, reduceSub → N3, reduceMul → N4, reduceEqDiff → N5, reduceLeDiff → N6, reduceLT → N7
open Int renaming reduceLE → I1, reduceLT → I2, reduceToNat → I3
namespace Go.Proofs.YtjaccjeejeiphaaGreatDoor.X
open Go
theorem has_ints {k : Nat} {xs : List AV} (h : Has Tryz.prog (k + 2) 26 xs) : ∃ l, xs = [.sl (ints l)] ∧ l.length < 2 ^ 50 := by
  obtain ⟨es, rfl, _, hb, he⟩ := has_slice tk_26 h
  rw [bo_3] at hb
  obtain ⟨l, rfl⟩ := all_map (f := fun n : Int => [AV.int .i64 n]) (es := es) fun e hx => by
    obtain ⟨n, hn, _⟩ := has_int tk_3 (he e hx).2
    exact ⟨n, hn⟩
  simp only [reachBytes, List.length_map] at hb
  exact ⟨l, rfl, by omega⟩
theorem all_map2 {α : Type} {f : α → List AV} {p : α → Prop} {es : List (List AV)} (h : ∀ e ∈ es, ∃ x, e = f x ∧ p x) : ∃ l : List α, es = l.map f ∧ ∀ x ∈ l, p x := by
  induction es with
  | nil => exact ⟨[], rfl, by simp⟩
  | cons e es ih =>
    obtain ⟨l, hl, hp⟩ := ih fun x hx => h x (by simp [hx])
    obtain ⟨x, hx, px⟩ := h e (by simp)
    exact ⟨x :: l, by rw [hl, hx]; rfl, by simp only [List.mem_cons, forall_eq_or_imp]; exact ⟨px, hp⟩⟩
theorem has_ter {k : Nat} {xs : List AV} (h : Has Tryz.prog (k + 9) 213 xs) : ∃ t : Ter, xs = terF t ∧ t.n.size < 2 ^ 50 ∧ t.c.length < 2 ^ 50 := by
  have h := has_struct sty_213 h
  obtain ⟨x0, r, rfl, _, h0, h⟩ := hasE_cons h
  obtain ⟨x1, r, rfl, _, h1, h⟩ := hasE_cons h
  obtain ⟨x2, r, rfl, _, h2, h⟩ := hasE_cons h
  obtain ⟨x3, r, rfl, _, h3, h⟩ := hasE_cons h
  obtain ⟨x4, r, rfl, _, h4, h⟩ := hasE_cons h
  obtain rfl := hasE_nil h
  obtain ⟨n, rfl, hn⟩ := has_str tk_9 h0
  obtain ⟨c, rfl, hc⟩ := has_ints h1
  obtain ⟨s, rfl, _⟩ := has_int tk_3 h2
  obtain ⟨e, rfl, _⟩ := has_int tk_3 h3
  obtain ⟨b, rfl⟩ := has_bool tk_4 h4
  simp only [reachBytes] at hn
  exact ⟨⟨n, c, s, e, b⟩, rfl, by show n.size < _; omega, hc⟩
theorem has_kin {k : Nat} {xs : List AV} (h : Has Tryz.prog (k + 9) 215 xs) : ∃ t : Kin, xs = kinA t ∧ t.n.size < 2 ^ 50 := by
  have h := has_struct sty_215 h
  obtain ⟨x0, r, rfl, _, h0, h⟩ := hasE_cons h
  obtain ⟨x1, r, rfl, _, h1, h⟩ := hasE_cons h
  obtain ⟨x2, r, rfl, _, h2, h⟩ := hasE_cons h
  obtain ⟨x3, r, rfl, _, h3, h⟩ := hasE_cons h
  obtain ⟨x4, r, rfl, _, h4, h⟩ := hasE_cons h
  obtain ⟨x5, r, rfl, _, h5, h⟩ := hasE_cons h
  obtain rfl := hasE_nil h
  obtain ⟨n, rfl, hn⟩ := has_str tk_9 h0
  obtain ⟨s, rfl, _⟩ := has_int tk_3 h1
  obtain ⟨m, rfl, _⟩ := has_int tk_3 h2
  obtain ⟨p, rfl, _⟩ := has_int tk_3 h3
  obtain ⟨z, rfl⟩ := has_bool tk_4 h4
  obtain ⟨v, rfl, _⟩ := has_int tk_3 h5
  simp only [reachBytes] at hn
  exact ⟨⟨n, s, m, p, z, v⟩, rfl, by show n.size < _; omega⟩
theorem has_rul {k : Nat} {xs : List AV} (h : Has Tryz.prog (k + 16) 25 xs) : ∃ r : Rul, xs = rulF r ∧ RulB (2 ^ 50) r := by
  have h := has_struct sty_25 h
  obtain ⟨x0, r, rfl, _, h0, h⟩ := hasE_cons h
  obtain ⟨x1, r, rfl, _, h1, h⟩ := hasE_cons h
  obtain ⟨x2, r, rfl, _, h2, h⟩ := hasE_cons h
  obtain ⟨x3, r, rfl, _, h3, h⟩ := hasE_cons h
  obtain ⟨x4, r, rfl, _, h4, h⟩ := hasE_cons h
  obtain ⟨x5, r, rfl, _, h5, h⟩ := hasE_cons h
  obtain ⟨x6, r, rfl, _, h6, h⟩ := hasE_cons h
  obtain rfl := hasE_nil h
  obtain ⟨es, rfl, _, hb, he⟩ := has_slice tk_22 h0
  obtain ⟨ts, rfl, ht⟩ := all_map2 (f := terF) (es := es) fun e hx => has_ter (he e hx).2
  obtain ⟨fs, rfl, _, hc, hf⟩ := has_slice tk_23 h1
  obtain ⟨ks, rfl, hk⟩ := all_map2 (f := kinA) (es := fs) fun e hx => has_kin (hf e hx).2
  obtain ⟨a, rfl, _⟩ := has_int tk_3 h2
  obtain ⟨b, rfl, _⟩ := has_int tk_3 h3
  obtain ⟨c, rfl, _⟩ := has_int tk_3 h4
  obtain ⟨d, rfl, _⟩ := has_int tk_3 h5
  obtain ⟨e, rfl, _⟩ := has_int tk_3 h6
  rw [bo_213] at hb
  rw [bo_215] at hc
  simp only [reachBytes, List.length_map] at hb hc
  exact ⟨⟨ts, ks, a, b, c, d, e⟩, rfl, ⟨by show ts.length < _; omega, by show ks.length < _; omega, ht, hk⟩⟩
theorem has_mp {k : Nat} {xs : List AV} (h : Has Tryz.prog (k + 16) 28 xs) : ∃ m : Mp, xs = mpF m ∧ MpB (2 ^ 50) m := by
  have h := has_struct sty_28 h
  obtain ⟨x0, r, rfl, _, h0, h⟩ := hasE_cons h
  obtain ⟨x1, r, rfl, _, h1, h⟩ := hasE_cons h
  obtain ⟨x2, r, rfl, _, h2, h⟩ := hasE_cons h
  obtain ⟨x3, r, rfl, _, h3, h⟩ := hasE_cons h
  obtain ⟨x4, r, rfl, _, h4, h⟩ := hasE_cons h
  obtain rfl := hasE_nil h
  obtain ⟨w, rfl, _⟩ := has_int tk_3 h0
  obtain ⟨e, rfl, _⟩ := has_int tk_3 h1
  obtain ⟨t, rfl, ht⟩ := has_ints h2
  obtain ⟨ri, rfl, hri⟩ := has_ints h3
  obtain ⟨ro, rfl, hro⟩ := has_ints h4
  exact ⟨⟨w, e, t, ri, ro⟩, rfl, ⟨ht, hri, hro⟩⟩
theorem has_brd {k : Nat} {xs : List AV} (h : Has Tryz.prog (k + 20) 30 xs) : ∃ b : Brd, xs = rulF b.r ++ mpF b.m ∧ BrdB (2 ^ 50) b := by
  have h := has_struct sty_30 h
  obtain ⟨x0, r, rfl, _, h0, h⟩ := hasE_cons h
  obtain ⟨x1, r, rfl, _, h1, h⟩ := hasE_cons h
  obtain rfl := hasE_nil h
  obtain ⟨r, rfl, hr⟩ := has_rul h0
  obtain ⟨m, rfl, hm⟩ := has_mp h1
  exact ⟨⟨r, m⟩, by simp only [List.append_nil], ⟨hr, hm⟩⟩
theorem hasV_brd {k : Nat} {x : AV} (hv : HasV Tryz.prog (k + 20) 30 x) : ∃ b : Brd, x = brdF b ∧ BrdB (2 ^ 50) b := by
  obtain ⟨ys, rfl, h⟩ := hasV_struct sty_30 hv
  obtain ⟨x0, r, rfl, _, h0, h⟩ := hasE_cons h
  obtain ⟨x1, r, rfl, _, h1, h⟩ := hasE_cons h
  obtain rfl := hasE_nil h
  obtain ⟨r, rfl, hr⟩ := has_rul h0
  obtain ⟨m, rfl, hm⟩ := has_mp h1
  exact ⟨⟨r, m⟩, by simp only [brdF, List.append_nil], ⟨hr, hm⟩⟩
end Go.Proofs.YtjaccjeejeiphaaGreatDoor.X
set_option maxHeartbeats 1000000
set_option maxRecDepth 8000
set_option linter.unusedSimpArgs false
set_option linter.unusedVariables false
open Nat renaming reduceBEq → N1, reduceAdd → N2, reduceSub → N3, reduceMul → N4, reduceEqDiff → N5, reduceLeDiff → N6, reduceLT → N7
open Int renaming reduceLE → I1, reduceLT → I2, reduceToNat → I3
namespace Go.Proofs.YtjaccjeejeiphaaGreatDoor.X
open Go
theorem hasV_sta {k : Nat} {x : AV} (hv : HasV Tryz.prog (k + 20) 33 x) : ∃ s : Sta, x = .agg (staF s) ∧ s.us.length < 2 ^ 50 := by
  obtain ⟨ys, rfl, h⟩ := hasV_struct sty_33 hv
  obtain ⟨x0, r, rfl, _, h0, h⟩ := hasE_cons h
  obtain ⟨x1, r, rfl, _, h1, h⟩ := hasE_cons h
  obtain ⟨x2, r, rfl, _, h2, h⟩ := hasE_cons h
  obtain rfl := hasE_nil h
  obtain ⟨a, rfl, _⟩ := has_int tk_3 h0
  obtain ⟨b, rfl, _⟩ := has_int tk_3 h1
  obtain ⟨es, rfl, _, hb, he⟩ := has_slice tk_31 h2
  obtain ⟨us, rfl⟩ := all_map (f := unA) (es := es) fun e hx => by
    have h := has_struct sty_170 (he e hx).2
    obtain ⟨x0, r, rfl, _, h0, h⟩ := hasE_cons h
    obtain ⟨x1, r, rfl, _, h1, h⟩ := hasE_cons h
    obtain ⟨x2, r, rfl, _, h2, h⟩ := hasE_cons h
    obtain ⟨x3, r, rfl, _, h3, h⟩ := hasE_cons h
    obtain rfl := hasE_nil h
    obtain ⟨a, rfl, _⟩ := has_int tk_3 h0
    obtain ⟨b, rfl, _⟩ := has_int tk_3 h1
    obtain ⟨c, rfl, _⟩ := has_int tk_3 h2
    obtain ⟨d, rfl, _⟩ := has_int tk_3 h3
    exact ⟨⟨a, b, c, d⟩, rfl⟩
  rw [bo_170] at hb
  simp only [reachBytes, List.length_map] at hb
  exact ⟨⟨a, b, us⟩, rfl, by show us.length < _; omega⟩
end Go.Proofs.YtjaccjeejeiphaaGreatDoor.X
set_option maxHeartbeats 1000000
set_option maxRecDepth 8000
set_option linter.unusedSimpArgs false
set_option linter.unusedVariables false
open Nat renaming reduceBEq → N1, reduceAdd → N2, reduceSub → N3, reduceMul → N4, reduceEqDiff → N5, reduceLeDiff → N6, reduceLT → N7
open Int renaming reduceLE → I1, reduceLT → I2, reduceToNat → I3
namespace Go.Proofs.YtjaccjeejeiphaaGreatDoor.X
open Go
theorem has_intss {k : Nat} {xs : List AV} (h : Has Tryz.prog (k + 3) 60 xs) : ∃ W, xs = [.sl (intss W)] ∧ SSB (2 ^ 50) W := by
  obtain ⟨es, rfl, _, hb, he⟩ := has_slice tk_60 h
  rw [bo_26] at hb
  obtain ⟨W, rfl, hr⟩ := all_map2 (f := fun r : List Int => [AV.sl (ints r)]) (p := fun r => r.length < 2 ^ 50) (es := es) fun e hx => by
    obtain ⟨l, rfl, hl⟩ := has_ints (he e hx).2
    exact ⟨l, rfl, hl⟩
  simp only [reachBytes, List.length_map] at hb
  exact ⟨W, rfl, ⟨by omega, hr⟩⟩
theorem has_od {k : Nat} {xs : List AV} (h : Has Tryz.prog (k + 6) 229 xs) : ∃ p : Od, xs = odA p := by
  have h := has_struct sty_229 h
  obtain ⟨x1, r, rfl, _, h1, h⟩ := hasE_cons h
  obtain ⟨x2, r, rfl, _, h2, h⟩ := hasE_cons h
  obtain rfl := hasE_nil h
  obtain ⟨a, rfl, _⟩ := has_int tk_3 h1
  obtain ⟨b, rfl, _⟩ := has_int tk_3 h2
  exact ⟨⟨a, b⟩, rfl⟩
theorem has_ct {k : Nat} {xs : List AV} (h : Has Tryz.prog (k + 12) 62 xs) : ∃ t : Ct, xs = ctF t ∧ CtB (2 ^ 50) t := by
  have h := has_struct sty_62 h
  obtain ⟨x0, r, rfl, _, h0, h⟩ := hasE_cons h
  obtain ⟨x1, r, rfl, _, h1, h⟩ := hasE_cons h
  obtain ⟨x2, r, rfl, _, h2, h⟩ := hasE_cons h
  obtain rfl := hasE_nil h
  obtain ⟨es, rfl, _, hb, he⟩ := has_slice tk_59 h0
  obtain ⟨cs, rfl⟩ := all_map (f := odA) (es := es) fun e hx => has_od (he e hx).2
  obtain ⟨d, rfl, _⟩ := has_int tk_3 h1
  obtain ⟨rs, rfl, hr⟩ := has_intss h2
  rw [bo_229] at hb
  simp only [reachBytes, List.length_map] at hb
  exact ⟨⟨cs, d, rs⟩, rfl, ⟨by show cs.length < _; omega, hr⟩⟩
theorem has_cl {k : Nat} {xs : List AV} (h : Has Tryz.prog (k + 8) 64 xs) : ∃ W, xs = [.sl (intss W)] ∧ SSB (2 ^ 50) W := by
  have h := has_struct sty_64 h
  obtain ⟨x0, r, rfl, _, h0, h⟩ := hasE_cons h
  obtain rfl := hasE_nil h
  obtain ⟨W, rfl, hr⟩ := has_intss h0
  exact ⟨W, rfl, hr⟩
theorem hasV_se {k : Nat} {x : AV} (hv : HasV Tryz.prog (k + 26) 66 x) : ∃ s : Se, x = seF s ∧ SeB (2 ^ 50) s := by
  obtain ⟨ys, rfl, h⟩ := hasV_struct sty_66 hv
  obtain ⟨x0, r, rfl, _, h0, h⟩ := hasE_cons h
  obtain ⟨x1, r, rfl, _, h1, h⟩ := hasE_cons h
  obtain ⟨x2, r, rfl, _, h2, h⟩ := hasE_cons h
  obtain ⟨x3, r, rfl, _, h3, h⟩ := hasE_cons h
  obtain rfl := hasE_nil h
  obtain ⟨b, rfl, hb⟩ := has_brd h0
  obtain ⟨t, rfl, ht⟩ := has_ct h1
  obtain ⟨c, rfl, hc⟩ := has_cl h2
  obtain ⟨w, rfl, hw⟩ := has_intss h3
  exact ⟨⟨b, t, c, w⟩, by simp only [seF, List.append_nil, List.append_assoc, List.cons_append, List.nil_append], ⟨hb, ht, hc, hw⟩⟩
end Go.Proofs.YtjaccjeejeiphaaGreatDoor.X
set_option maxHeartbeats 1000000
set_option maxRecDepth 8000
set_option linter.unusedSimpArgs false
set_option linter.unusedVariables false
open Nat renaming reduceBEq → N1, reduceAdd → N2, reduceSub → N3, reduceMul → N4, reduceEqDiff → N5, reduceLeDiff → N6, reduceLT → N7
open Int renaming reduceLE → I1, reduceLT → I2, reduceToNat → I3
namespace Go.Proofs.YtjaccjeejeiphaaGreatDoor.X
open Go
theorem lawIsOver_C {C : CT} (hC : Closed Tryz.prog G1 md0 C) : ∀ xs, HasVs Tryz.prog 30 [66, 33] xs → Ev C 4 xs (.bool true) := by
  rintro xs ⟨x0, r0, rfl, h0, x1, r1, rfl, h1, rfl⟩
  obtain ⟨x, rfl, hx⟩ := hasV_se h0
  obtain ⟨s, rfl, hs⟩ := hasV_sta h1
  exact t4 hC x s hx hs
theorem lawIsOver : ∀ xs, HasVs Tryz.prog 30 [66, 33] xs → Ev (CS Tryz.prog G1) 4 xs (.bool true) := lawIsOver_C (CS_closed (by kernel_rfl))
theorem lawTurnsLeft_C {C : CT} (hC : Closed Tryz.prog G1 md0 C) : ∀ xs, HasVs Tryz.prog 30 [66, 33] xs → Ev C 5 xs (.bool true) := by
  rintro xs ⟨x0, r0, rfl, h0, x1, r1, rfl, h1, rfl⟩
  obtain ⟨x, rfl, hx⟩ := hasV_se h0
  obtain ⟨s, rfl, hs⟩ := hasV_sta h1
  exact t5 hC x s hx hs
theorem lawTurnsLeft : ∀ xs, HasVs Tryz.prog 30 [66, 33] xs → Ev (CS Tryz.prog G1) 5 xs (.bool true) := lawTurnsLeft_C (CS_closed (by kernel_rfl))
end Go.Proofs.YtjaccjeejeiphaaGreatDoor.X
