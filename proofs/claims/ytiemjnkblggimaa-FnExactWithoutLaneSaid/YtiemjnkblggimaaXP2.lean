/- A part of the proof: lemmas on the machine or on the functions that the law reaches. No condition of its own. -/
import Derived.Test.YtiemjnkblggimaaXP1
import Derived.Test.YtiemjnkblggimaaXM5
import Derived.WalkKit
import Derived.Deep.RegionLaw
set_option linter.unusedVariables false
open Nat renaming reduceBEq → N1, reduceAdd → N2, reduceSub → N3, reduceMul → N4, reduceEqDiff → N5, reduceLeDiff → N6, reduceLT → N7
open Int renaming reduceLE → I1, reduceLT → I2, reduceToNat → I3
namespace Go.Proofs.Ytiemjnkblggimaa.X
open Go
def dirs : List AV := [.int .i64 1, .int .i64 0, .int .i64 1, .int .i64 (-1), .int .i64 0, .int .i64 (-1), .int .i64 (-1), .int .i64 0, .int .i64 (-1), .int .i64 1, .int .i64 0, .int .i64 1]
def G1 : Glo := fun g => if g = 0 then some dirs else none
theorem ev_dirs {s : St} : ev G1 s (.global 0) = .pf dirs := _root_.id rfl
attribute [push_cast] ev_dirs
end Go.Proofs.Ytiemjnkblggimaa.X
set_option maxHeartbeats 1000000
set_option maxRecDepth 8000
set_option linter.unusedSimpArgs false
set_option linter.unusedSectionVars false
set_option linter.unusedVariables false
open Nat renaming reduceBEq → N1, reduceAdd → N2, reduceSub → N3, reduceMul → N4, reduceEqDiff → N5, reduceLeDiff → N6, reduceLT → N7
open Int renaming reduceLE → I1, reduceLT → I2, reduceToNat → I3
namespace Go.Proofs.Ytiemjnkblggimaa.X
open Go
def ints (l : List Int) : List (List AV) := l.map fun n => [.int .i64 n]
theorem own_ints (l : List Int) : ownR (.ow 1 (ints l)) = true := by
  simp only [ownR]
  unfold ints
  induction l with
  | nil => rfl
  | cons x l ih => simp only [List.map_cons, ownRLL, ownRL, ownR, Bool.and_true, Bool.true_and]; exact ih
section
variable {C : CT} (hC : Closed Try.prog G0 md0 C)
include hC
theorem t26 (a b c : Int) : Ev C 26 [.int .i64 a, .int .i64 b, .int .i64 c] (.bool (decide (b ≤ a) && decide (a ≤ c))) := by
  refine rT hC Q26 ?_
  simp only [c26, push_cast, ↓J1, ↓J2, N1, N2, N3, reduceCtorEq, N4, N5, N6, reduceIte, N7, I1, I2, I3]
  grind [ifB]
theorem t47 (a b c : Int) : Ev C 47 [.int .i64 a, .int .i64 b, .int .i64 c] (.bool (decide (b ≤ a) && decide (a ≤ c))) := by
  refine rT hC Q47 ?_
  simp only [c47, push_cast, ↓J1, ↓J2, N1, N2, N3, reduceCtorEq, N4, N5, N6, reduceIte, N7, I1, I2, I3]
  grind [ifB]
theorem t31 (a b : Int) (hb : -2^62 ≤ b ∧ b ≤ 2^62) : Ev C 31 [.int .i64 a, .int .i64 b] (.bool (decide (0 ≤ a) && decide (a ≤ b - 1))) := by
  refine rT hC Q31 ?_
  simp only [c31, push_cast, ↓J1, ↓J2, N1, N2, N3, reduceCtorEq, N4, N5, N6, reduceIte, N7, I1, I2, I3]
  refine ⟨_, t47 hC _ _ _, ?_⟩
  simp only [push_cast, ↓J1, ↓J2, N1, N2, N3, reduceCtorEq, N4, N5, N6, reduceIte, N7, I1, I2, I3]
  rw [wrap64 (by omega) (by omega)]
theorem t23 (es : List (List AV)) (v : Int) (hv : -1 ≤ v ∧ v < 2^50) (he : es.length < 2^50) : Ev C 23 [.sl es, .int .i64 v] (.int .i64 (if v < es.length then -1 else v - es.length)) := by
  refine rT hC Q23 ?_
  simp only [c23, push_cast, ↓J1, ↓J2, N1, N2, N3, reduceCtorEq, N4, N5, N6, reduceIte, N7, I1, I2, I3]
  rw [wrap64 (by omega) (by omega)]
  grind [ifB]
theorem t24 (es : List (List AV)) (v : Int) (hv : -1 ≤ v ∧ v < 2^50) (he : es.length < 2^50) : Ev C 24 [.sl es, .int .i64 v] (.int .i64 (if v < es.length then -1 else v - es.length)) := by
  refine rT hC Q24 ?_
  simp only [c24, push_cast, ↓J1, ↓J2, N1, N2, N3, reduceCtorEq, N4, N5, N6, reduceIte, N7, I1, I2, I3]
  rw [wrap64 (by omega) (by omega)]
  grind [ifB]
theorem t53 (a b c d e f : Int) : Ev C 53 [.agg [.int .i64 a, .int .i64 b, .int .i64 c], .agg [.int .i64 d, .int .i64 e, .int .i64 f]] (.bool (a == d && b == e && c == f)) := by
  refine rT hC Q53 ?_
  simp only [c53, push_cast, ↓J1, ↓J2, N1, N2, N3, reduceCtorEq, N4, N5, N6, reduceIte, N7, I1, I2, I3]

  grind [ifB]
theorem t15 (l m : List Int) (hl : l.length < 2^50) (hm : m.length < 2^50) : Ev C 15 [.sl (ints l), .sl (ints m)] (.bool (l == m)) := by
  refine rT hC Q15 ?_
  simp only [c15, ints, List.length_map, push_cast, ↓J1, ↓J2, N1, N2, N3, reduceCtorEq, N4, N5, N6, reduceIte, N7, I1, I2, I3]
  refine ifB_intro (fun h => ?_) (fun h => ?_)
  · have hlm : l.length = m.length := by simp at h; omega
    refine RL_count (fun i => ⟨tb 26 .any [(0, .sl (l.map fun n => [.int .i64 n])), (1, .sl (m.map fun n => [.int .i64 n])), (5, .int .i64 (i : Int))], [], 0⟩) (fun i => l.take i = m.take i) l.length 0 (hdA []) (by omega) rfl fun i hi ht J hJ => ?_
    by_cases h1 : i < l.length
    · have h2 : i < m.length := by omega
      simp only [List.length_map, Int.toNat_natCast, List.getElem?_map, List.getElem?_eq_getElem h1, List.getElem?_eq_getElem h2, push_cast, ↓J1, ↓J2, N1, N2, N3, reduceCtorEq, N4, N5, N6, reduceIte, N7, I1, I2, I3]
      refine ifB_intro (fun _ => ⟨by omega, by omega, ifB_intro (fun h => ?_) (fun h => ?_)⟩) (fun h => by simp at h; omega)
      · refine hJ h1 ?_ _ (hdA [])
        · rw [List.take_succ_eq_append_getElem h1, List.take_succ_eq_append_getElem h2, ht]
          have h' : l[i] = m[i] := by simpa using h
          rw [h']
      · have : ¬ l = m := by rintro rfl; simp at h
        simp [this]
    · simp only [List.length_map, Int.toNat_natCast, List.getElem?_map, push_cast, ↓J1, ↓J2, N1, N2, N3, reduceCtorEq, N4, N5, N6, reduceIte, N7, I1, I2, I3]
      refine ifB_intro (fun h => by simp at h; omega) (fun h => ?_)
      rw [List.take_of_length_le (by omega), List.take_of_length_le (by omega)] at ht
      simp [ht]
  · have : ¬ l = m := by rintro rfl; simp at h
    simp [this]
theorem t29 (l : List Int) (hl : l.length < 2^30) : Ev C 29 [.sl (ints l)] (.ow 1 (ints l)) := by
  refine rT hC Q29 ?_ (own_ints l)
  simp only [c29, ints, List.length_map, push_cast, ↓J1, ↓J2, N1, N2, N3, reduceCtorEq, N4, N5, N6, reduceIte, N7, I1, I2, I3]
  refine ⟨by omega, by omega, by omega, by omega, ?_⟩
  refine RL_count (fun i => ⟨tb 22 .any [(0, .sl (l.map fun n => [.int .i64 n])), (3, .ref 0 none 1 0 l.length), (4, .int .i64 (i : Int))], [(0, .slice 1 ((l.take i).map (fun n => [.int .i64 n]) ++ List.replicate (l.length - i) [.int .i64 0]))], 1⟩) (fun _ => True) l.length 0 (hdA [(0, 0)]) (by omega) trivial fun i hi _ J hJ => ?_
  by_cases h1 : i < l.length
  · rw [show l.length - i = (l.length - (i + 1)) + 1 by omega, List.replicate_succ]
    simp only [List.length_map, Int.toNat_natCast, List.getElem?_map, List.getElem?_eq_getElem h1, mid_get (show ((l.take i).map fun n => [AV.int .i64 n]).length = i by simp; omega), mid_set (show ((l.take i).map fun n => [AV.int .i64 n]).length = i by simp; omega), push_cast, ↓J1, ↓J2, N1, N2, N3, reduceCtorEq, N4, N5, N6, reduceIte, N7, I1, I2, I3]
    refine ifB_intro (fun _ => ⟨by omega, by omega, by omega, ?_⟩) (fun h => by simp at h; omega)
    refine hJ h1 trivial _ (hdA [(0, 0)] (hh := ?_))
    rw [List.take_succ_eq_append_getElem h1, List.map_append, List.append_assoc]
    simp only [canR, canB, renO, renL, ren, lkp, hget, N7, N5, Nat.not_lt_zero, if_false, if_true, reduceIte, List.append_nil, List.nil_append]
    rfl
  · simp only [List.length_map, Int.toNat_natCast, List.getElem?_map, push_cast, ↓J1, ↓J2, N1, N2, N3, reduceCtorEq, N4, N5, N6, reduceIte, N7, I1, I2, I3]
    refine ifB_intro (fun h => by simp at h; omega) (fun h => ?_)
    rw [List.take_of_length_le (by omega), show l.length - i = 0 by omega]
    exact RetTo_ow (by simp [hget]) (by simp)
end
end Go.Proofs.Ytiemjnkblggimaa.X
set_option maxHeartbeats 1000000
set_option maxRecDepth 8000
set_option linter.unusedSimpArgs false
set_option linter.unusedSectionVars false
set_option linter.unusedVariables false
open Nat renaming reduceBEq → N1, reduceAdd → N2, reduceSub → N3, reduceMul → N4, reduceEqDiff → N5, reduceLeDiff → N6, reduceLT → N7
open Int renaming reduceLE → I1, reduceLT → I2, reduceToNat → I3
namespace Go.Proofs.Ytiemjnkblggimaa.X
open Go
structure Ln where
  a : Int
  b : Int
  c : Int
  deriving DecidableEq
def lnA (p : Ln) : List AV := [.int .i64 p.a, .int .i64 p.b, .int .i64 p.c]
def lns (l : List Ln) : List (List AV) := l.map lnA
def inR (lo hi n : Int) : Bool := decide (lo ≤ n) && decide (n ≤ hi)
theorem own_lns (l : List Ln) : ownR (.ow 3 (lns l)) = true := by
  simp only [ownR]
  unfold lns
  induction l with
  | nil => rfl
  | cons x l ih => simp only [List.map_cons, lnA, ownRLL, ownRL, ownR, Bool.and_true, Bool.true_and]; exact ih
def fidx (p : Int → Bool) (l : List Int) : Int := if l.findIdx p < l.length then (l.findIdx p : Int) else -1
theorem fidx_at {p : Int → Bool} {l : List Int} {i : Nat} (h : i < l.length) (hp : p l[i] = true) (hn : ∀ j (h : j < l.length), j < i → p l[j] = false) : fidx p l = i := by
  have : l.findIdx p = i := (List.findIdx_eq h).2 ⟨hp, fun j hj => hn j (by omega) hj⟩
  simp [fidx, this, h]
theorem fidx_no {p : Int → Bool} {l : List Int} (hn : ∀ j (h : j < l.length), p l[j] = false) : fidx p l = -1 := by
  have : ¬ l.findIdx p < l.length := fun h => by
    have := hn _ h
    rw [List.findIdx_getElem (w := h)] at this
    cases this
  simp only [fidx, this, if_false]
theorem fidx_any (p : Int → Bool) (l : List Int) : decide (0 ≤ fidx p l) = l.any p := by
  by_cases h : l.findIdx p < l.length
  · have h1 : fidx p l = l.findIdx p := if_pos h
    have h2 : l.any p = true := by
      obtain ⟨x, hx, hp⟩ := List.findIdx_lt_length.1 h
      exact List.any_eq_true.2 ⟨x, hx, hp⟩
    rw [h1, h2]
    exact decide_eq_true (by omega)
  · have h1 : fidx p l = -1 := if_neg h
    have h2 : l.any p = false := by
      rw [List.any_eq_false]
      intro x hx hp
      exact h (List.findIdx_lt_length.2 ⟨x, hx, hp⟩)
    rw [h1, h2]
    rfl
theorem frzA_F {h : Heap} {k : Nat} {x : AV} (hx : isF x = true) : frzA h k x = some x := by
  cases x <;> simp [isF] at hx <;> cases k <;> simp [frzA, isF]
theorem frzAL_F {h : Heap} {k : Nat} : ∀ {xs : List AV}, allF xs = true → frzAL h k xs = some xs
  | [], _ => by cases k <;> simp [frzAL]
  | x :: xs, hx => by
    simp only [allF, Bool.and_eq_true] at hx
    cases k <;> simp [frzAL, frzA_F hx.1, frzAL_F hx.2]
theorem ren_F {B : Nat} {ρ : List (Nat × Nat)} {x : AV} (hx : isF x = true) : ren B ρ x = x := by
  cases x <;> simp [isF] at hx <;> simp [ren]
theorem renL_F {B : Nat} {ρ : List (Nat × Nat)} : ∀ {xs : List AV}, allF xs = true → renL B ρ xs = xs
  | [], _ => by simp [renL]
  | x :: xs, hx => by
    simp only [allF, Bool.and_eq_true] at hx
    simp [renL, ren_F hx.1, renL_F hx.2]
theorem frzOkL_F : ∀ {xs : List AV}, allF xs = true → frzOkL xs = true
  | [], _ => by simp [frzOkL]
  | x :: xs, hx => by
    simp only [allF, Bool.and_eq_true] at hx
    simp only [frzOkL, frzOkL_F hx.2, Bool.and_true]
    have := hx.1
    cases x <;> simp [isF] at this <;> simp [frzOk]
section
variable {C : CT} (hC : Closed Try.prog G0 md0 C)
include hC
theorem t46 (a b c : Int) : Ev C 46 [.agg [.int .i64 a, .int .i64 b, .int .i64 c]] (.agg [.int .i64 a, .int .i64 b, .int .i64 c]) := by
  refine rT hC Q46 ?_
  simp only [c46, push_cast, ↓J1, ↓J2, N1, N2, N3, reduceCtorEq, N4, N5, N6, reduceIte, N7, I1, I2, I3]
  exact rtA
theorem t44 (l : List Int) (lo hi : Int) (hl : l.length < 2^50) : Ev C 44 [.sl (ints l), .int .i64 lo, .int .i64 hi] (.bool (l.all (inR lo hi))) := by
  refine rT hC Q44 ?_
  simp only [c44, ints, List.length_map, push_cast, ↓J1, ↓J2, N1, N2, N3, reduceCtorEq, N4, N5, N6, reduceIte, N7, I1, I2, I3]
  refine RL_count (fun i => ⟨tb 21 .any [(1, .int .i64 lo), (2, .int .i64 hi), (9, .sl (l.map fun n => [.int .i64 n])), (10, .int .i64 (l.length : Int)), (11, .int .i64 (i : Int))], [], 0⟩) (fun i => l.all (inR lo hi) = (l.drop i).all (inR lo hi)) l.length 0 (hdA []) (by omega) rfl fun i hi' ht J hJ => ?_
  by_cases h1 : i < l.length
  · simp only [List.length_map, Int.toNat_natCast, List.getElem?_map, List.getElem?_eq_getElem h1, push_cast, ↓J1, ↓J2, N1, N2, N3, reduceCtorEq, N4, N5, N6, reduceIte, N7, I1, I2, I3]
    refine ifB_intro (fun _ => ⟨by omega, _, t26 hC _ _ _, ?_⟩) (fun h => by simp at h; omega)
    rw [List.drop_eq_getElem_cons h1, List.all_cons] at ht
    simp only [push_cast, ↓J1, ↓J2, N1, N2, N3, reduceCtorEq, N4, N5, N6, reduceIte, N7, I1, I2, I3]
    refine ifB_intro (fun h => ?_) (fun h => ?_)
    · refine hJ h1 ?_ _ (hdA [])
      · rw [ht]; simp only [inR] at h ⊢; rw [h]; rfl
    · rw [ht]; simp only [inR] at h ⊢; rw [h]; rfl
  · simp only [List.length_map, Int.toNat_natCast, List.getElem?_map, push_cast, ↓J1, ↓J2, N1, N2, N3, reduceCtorEq, N4, N5, N6, reduceIte, N7, I1, I2, I3]
    refine ifB_intro (fun h => by simp at h; omega) (fun h => ?_)
    rw [ht, List.drop_eq_nil_of_le (by omega)]
    rfl
theorem t28 (l : List Ln) (hl : l.length < 2^30) : Ev C 28 [.sl (lns l)] (.ow 3 (lns l)) := by
  refine rT hC Q28 ?_ (own_lns l)
  simp only [c28, lns, List.length_map, push_cast, ↓J1, ↓J2, N1, N2, N3, reduceCtorEq, N4, N5, N6, reduceIte, N7, I1, I2, I3]
  refine ⟨by omega, by omega, by omega, by omega, ?_⟩
  refine RL_count (fun i => ⟨tb 23 .any [(0, .sl (l.map lnA)), (3, .ref 0 none 3 0 l.length), (4, .int .i64 (i : Int))], [(0, .slice 3 ((l.take i).map lnA ++ List.replicate (l.length - i) [.int .i64 0, .int .i64 0, .int .i64 0]))], 1⟩) (fun _ => True) l.length 0 (hdA [(0, 0)]) (by omega) trivial fun i hi _ J hJ => ?_
  by_cases h1 : i < l.length
  · rw [show l.length - i = (l.length - (i + 1)) + 1 by omega, List.replicate_succ]
    simp only [List.length_map, Int.toNat_natCast, List.getElem?_map, List.getElem?_eq_getElem h1, lnA, push_cast, ↓J1, ↓J2, N1, N2, N3, reduceCtorEq, N4, N5, N6, reduceIte, N7, I1, I2, I3]
    refine ifB_intro (fun _ => ⟨by omega, _, t46 hC _ _ _, ?_⟩) (fun h => by simp at h; omega)
    simp only [Int.toNat_natCast, mid_get (show ((l.take i).map lnA).length = i by simp; omega), mid_set (show ((l.take i).map lnA).length = i by simp; omega), push_cast, ↓J1, ↓J2, N1, N2, N3, reduceCtorEq, N4, N5, N6, reduceIte, N7, I1, I2, I3]
    refine ⟨by omega, by omega, ?_⟩
    refine hJ h1 trivial _ (hdA [(0, 0)] (hh := ?_))
    rw [List.take_succ_eq_append_getElem h1, List.map_append, List.append_assoc]
    simp only [canR, canB, renO, renL, ren, lkp, hget, N7, N5, Nat.not_lt_zero, if_false, if_true, reduceIte, List.append_nil, List.nil_append]
    rfl
  · simp only [List.length_map, Int.toNat_natCast, List.getElem?_map, push_cast, ↓J1, ↓J2, N1, N2, N3, reduceCtorEq, N4, N5, N6, reduceIte, N7, I1, I2, I3]
    refine ifB_intro (fun h => by simp at h; omega) (fun h => ?_)
    rw [List.take_of_length_le (by omega), show l.length - i = 0 by omega]
    exact RetTo_ow (by simp [hget]) (by simp)
theorem t33 (l m : List Ln) (hl : l.length < 2^50) (hm : m.length < 2^50) : Ev C 33 [.sl (lns l), .sl (lns m)] (.bool (decide (l = m))) := by
  refine rT hC Q33 ?_
  simp only [c33, lns, List.length_map, push_cast, ↓J1, ↓J2, N1, N2, N3, reduceCtorEq, N4, N5, N6, reduceIte, N7, I1, I2, I3]
  refine ifB_intro (fun h => ?_) (fun h => ?_)
  · have hlm : l.length = m.length := by simp at h; omega
    refine RL_count (fun i => ⟨tb 27 .any [(0, .sl (l.map lnA)), (1, .sl (m.map lnA)), (5, .int .i64 (i : Int))], [], 0⟩) (fun i => l.take i = m.take i) l.length 0 (hdA []) (by omega) rfl fun i hi ht J hJ => ?_
    by_cases h1 : i < l.length
    · have h2 : i < m.length := by omega
      simp only [List.length_map, Int.toNat_natCast, List.getElem?_map, List.getElem?_eq_getElem h1, List.getElem?_eq_getElem h2, lnA, push_cast, ↓J1, ↓J2, N1, N2, N3, reduceCtorEq, N4, N5, N6, reduceIte, N7, I1, I2, I3]
      refine ifB_intro (fun _ => ⟨by omega, by omega, _, t53 hC _ _ _ _ _ _, ?_⟩) (fun h => by simp at h; omega)
      simp only [push_cast, ↓J1, ↓J2, N1, N2, N3, reduceCtorEq, N4, N5, N6, reduceIte, N7, I1, I2, I3]
      refine ifB_intro (fun h => ?_) (fun h => ?_)
      · refine hJ h1 ?_ _ (hdA [])
        · rw [List.take_succ_eq_append_getElem h1, List.take_succ_eq_append_getElem h2, ht]
          have h' : l[i] = m[i] := by
            simp only [Bool.and_eq_true, beq_iff_eq] at h
            cases hp : l[i]; cases hq : m[i]; simp_all
          rw [h']
      · have : ¬ l = m := by rintro rfl; simp at h
        simp [this]
    · simp only [List.length_map, Int.toNat_natCast, List.getElem?_map, push_cast, ↓J1, ↓J2, N1, N2, N3, reduceCtorEq, N4, N5, N6, reduceIte, N7, I1, I2, I3]
      refine ifB_intro (fun h => by simp at h; omega) (fun h => ?_)
      rw [List.take_of_length_le (by omega), List.take_of_length_le (by omega)] at ht
      simp [ht]
  · have : ¬ l = m := by rintro rfl; simp at h
    simp [this]
theorem t59 (l : List Int) (f : FuncId) (caps : List AV) (p : Int → Bool) (hl : l.length < 2^50) (hm : md0 f = false) (hc : allF caps = true)
    (hp : ∀ n ∈ l, Ev C f (.int .i64 n :: caps) (.bool (p n))) : Ev C 59 [.sl (ints l), .fn f caps] (.int .i64 (fidx p l)) := by
  have hr : renL 0 [] caps = caps := renL_F hc
  refine rT hC Q59 ?_
  simp only [c59, ints, List.length_map, push_cast, ↓J1, ↓J2, N1, N2, N3, reduceCtorEq, N4, N5, N6, reduceIte, N7, I1, I2, I3]
  refine RL_count (fun i => ⟨tb 19 .any [(0, .sl (l.map fun n => [.int .i64 n])), (1, .fn f caps), (7, .int .i64 (l.length : Int)), (8, .int .i64 (i : Int))], [], 0⟩) (fun i => ∀ j (h : j < l.length), j < i → p l[j] = false) l.length 0 (hdA []) (by omega) (by intro j h h'; omega) fun i hi' ht J hJ => ?_
  by_cases h1 : i < l.length
  · simp only [List.length_map, Int.toNat_natCast, List.getElem?_map, List.getElem?_eq_getElem h1, hm, frzAL_F hc, frzOkL_F hc, push_cast, ↓J1, ↓J2, N1, N2, N3, reduceCtorEq, N4, N5, N6, reduceIte, N7, I1, I2, I3]
    refine ifB_intro (fun _ => ⟨by omega, _, hp _ (List.getElem_mem h1), ?_⟩) (fun h => by simp at h; omega)
    simp only [push_cast, ↓J1, ↓J2, N1, N2, N3, reduceCtorEq, N4, N5, N6, reduceIte, N7, I1, I2, I3]
    refine ifB_intro (fun h => ?_) (fun h => ?_)
    · exact (fidx_at h1 h ht).symm
    · refine hJ h1 ?_ _ (hdA [])
      · intro j hj hji
        by_cases hij : j = i
        · subst hij; exact h
        · exact ht j hj (by omega)
  · simp only [List.length_map, Int.toNat_natCast, List.getElem?_map, hm, push_cast, ↓J1, ↓J2, N1, N2, N3, reduceCtorEq, N4, N5, N6, reduceIte, N7, I1, I2, I3]
    refine ifB_intro (fun h => by simp at h; omega) (fun h => ?_)
    exact (fidx_no fun j hj => ht j hj (by omega)).symm
theorem t48 (l : List Int) (f : FuncId) (caps : List AV) (p : Int → Bool) (hl : l.length < 2^50) (hm : md0 f = false) (hc : allF caps = true)
    (hp : ∀ n ∈ l, Ev C f (.int .i64 n :: caps) (.bool (p n))) : Ev C 48 [.sl (ints l), .fn f caps] (.bool (l.any p)) := by
  refine rT hC Q48 ?_
  simp only [c48, push_cast, ↓J1, ↓J2, N1, N2, N3, reduceCtorEq, N4, N5, N6, reduceIte, N7, I1, I2, I3]
  simp only [frzAL_F hc, frzOkL_F hc, push_cast, ↓J1, ↓J2, N1, N2, N3, reduceCtorEq, N4, N5, N6, reduceIte, N7, I1, I2, I3]
  refine ⟨_, t59 hC l f caps p hl hm hc hp, ?_⟩
  simp only [push_cast, ↓J1, ↓J2, N1, N2, N3, reduceCtorEq, N4, N5, N6, reduceIte, N7, I1, I2, I3]
  exact fidx_any p l
theorem t49 (n : Int) : Ev C 49 [.int .i64 n] (.bool (!inR 0 1000 n)) := by
  refine rT hC Q49 ?_
  simp only [c49, push_cast, ↓J1, ↓J2, N1, N2, N3, reduceCtorEq, N4, N5, N6, reduceIte, N7, I1, I2, I3]
  refine ⟨_, t47 hC _ _ _, ?_⟩
  simp only [push_cast, ↓J1, ↓J2, N1, N2, N3, reduceCtorEq, N4, N5, N6, reduceIte, N7, I1, I2, I3]
  rfl
end
end Go.Proofs.Ytiemjnkblggimaa.X
set_option maxHeartbeats 1000000
set_option maxRecDepth 8000
set_option linter.unusedSimpArgs false
set_option linter.unusedSectionVars false
set_option linter.unusedVariables false
set_option pp.deepTerms false
set_option pp.deepTerms.threshold 4
open Nat renaming reduceBEq → N1, reduceAdd → N2, reduceSub → N3, reduceMul → N4, reduceEqDiff → N5, reduceLeDiff → N6, reduceLT → N7
open Int renaming reduceLE → I1, reduceLT → I2, reduceToNat → I3
namespace Go.Proofs.Ytiemjnkblggimaa.X
open Go
structure Lanes where
  d : Int
  ls : List Ln
  st : List Int
def Lanes.av (L : Lanes) : AV := .agg [.int .i64 L.d, .sl (lns L.ls), .sl (ints L.st)]
def laneOk (d : Int) (p : Ln) : Bool := inR 0 (d - 1) p.a && inR 0 (d - 1) p.b && !decide (p.a = p.b) && inR 0 1000 p.c
def lanesOk (L : Lanes) : Bool := inR 2 6 L.d && decide (L.ls.length ≤ 15) && decide ((L.st.length : Int) = L.d) && L.st.all (inR 0 1000) && L.ls.all (laneOk L.d)
theorem ints_length (l : List Int) : (ints l).length = l.length := by simp [ints]
section
variable {C : CT} (hC : Closed Try.prog G0 md0 C)
include hC
theorem t25 (L : Lanes) (h1 : L.ls.length < 2^50) (h2 : L.st.length < 2^50) : Ev C 25 [L.av] (.bool (lanesOk L)) := by
  obtain ⟨d, ls, st⟩ := L
  simp only [Lanes.av, lanesOk] at *
  refine rT hC Q25 ?_
  simp only [c25, lns, List.length_map, push_cast, ↓J1, ↓J2, N1, N2, N3, reduceCtorEq, N4, N5, N6, reduceIte, N7, I1, I2, I3]
  repeat' (first
    | simp only [List.length_map, ints_length, push_cast, ↓J1, ↓J2, N1, N2, N3, reduceCtorEq, N4, N5, N6, reduceIte, N7, I1, I2, I3]
    | refine ⟨_, t26 hC _ _ _, ?_⟩
    | refine ⟨_, t44 hC st _ _ h2, ?_⟩
    | refine ifB_intro (fun h => ?_) (fun h => ?_))
  all_goals try (rw [ints_length] at *)
  all_goals try (first | (simp_all [inR]; done) | grind [inR]; done)
  · rename_i g1 g2 g3
    have g4 := h
    simp only [Bool.and_eq_true, decide_eq_true_eq] at g1
    have e0 : (inR 2 6 d && decide (ls.length ≤ 15) && decide ((st.length : Int) = d) && st.all (inR 0 1000) && ls.all (laneOk d)) = ls.all (laneOk d) := by
      simp [inR, g1, g4] at g2 g3 ⊢; intros; omega
    rw [e0]
    refine RL_count (fun i => ⟨tb 66 .any [(1, .ptr 0 none 0 0 0), (30, .sl (ls.map lnA)), (31, .int .i64 (ls.length : Int)), (32, .int .i64 (i : Int))], [(0, .var [.int .i64 d, .sl (ls.map lnA), .sl (ints st)])], 1⟩) (fun i => ls.all (laneOk d) = (ls.drop i).all (laneOk d)) ls.length 0 (hdA [(0, 0)]) (by omega) rfl fun i hi' ht J hJ => ?_
    by_cases h1 : i < ls.length
    · rw [List.drop_eq_getElem_cons h1, List.all_cons] at ht
      have hl : i < 2 ^ 50 := by omega
      simp only [List.length_map, Int.toNat_natCast, List.getElem?_map, List.getElem?_eq_getElem h1, lnA, push_cast, ↓J1, ↓J2, N1, N2, N3, reduceCtorEq, N4, N5, N6, reduceIte, N7, I1, I2, I3]
      refine ifB_intro (fun _ => ⟨by omega, ?_⟩) (fun h => by simp at h; omega)
      rw [wrap64 (by omega) (by omega)]
      repeat' (first
    | simp only [wrap64 (show -9223372036854775808 ≤ d - 1 by omega) (show d - 1 ≤ 9223372036854775807 by omega), push_cast, ↓J1, ↓J2, N1, N2, N3, reduceCtorEq, N4, N5, N6, reduceIte, N7, I1, I2, I3]
    | refine ⟨_, t26 hC _ _ _, ?_⟩
    | refine ifB_intro (fun h => ?_) (fun h => ?_))
      all_goals first
        | (rw [ht]; simp_all [inR, laneOk]; done)
        | (rw [ht]; simp only [laneOk]; grind [inR])
        | (refine hJ h1 ?_ _ (hdA [(0, 0)]); rw [ht]; simp_all [inR, laneOk])
        | skip
    · simp only [List.length_map, Int.toNat_natCast, List.getElem?_map, push_cast, ↓J1, ↓J2, N1, N2, N3, reduceCtorEq, N4, N5, N6, reduceIte, N7, I1, I2, I3]
      refine ifB_intro (fun h => by simp at h; omega) (fun h => ?_)
      rw [ht, List.drop_eq_nil_of_le (by omega)]
      rfl
theorem t30 (L : Lanes) (h1 : L.ls.length < 2^50) (h2 : L.st.length < 2^50) : Ev C 30 [L.av] (.bool (lanesOk L)) := by
  obtain ⟨d, ls, st⟩ := L
  simp only [Lanes.av, lanesOk] at *
  refine rT hC Q30 ?_
  simp only [c30, lns, List.length_map, push_cast, ↓J1, ↓J2, N1, N2, N3, reduceCtorEq, N4, N5, N6, reduceIte, N7, I1, I2, I3]
  repeat' (first
    | simp only [List.length_map, ints_length, push_cast, ↓J1, ↓J2, N1, N2, N3, reduceCtorEq, N4, N5, N6, reduceIte, N7, I1, I2, I3]
    | refine ⟨_, t47 hC _ _ _, ?_⟩
    | refine ifB_intro (fun h => ?_) (fun h => ?_))
  all_goals try (rw [ints_length] at *)
  all_goals try (first | (simp_all [inR]; done) | grind [inR]; done)
  · rename_i g1 g2
    have g3 := h
    simp only [Bool.and_eq_true, decide_eq_true_eq] at g1
    have e0 : (inR 2 6 d && decide (ls.length ≤ 15) && decide ((st.length : Int) = d) && st.all (inR 0 1000) && ls.all (laneOk d)) = (ls.all (laneOk d) && st.all (inR 0 1000)) := by
      have a1 : inR 2 6 d = true := by simp [inR, g1]
      have a2 : decide (ls.length ≤ 15) = true := by simp at g2 ⊢; omega
      rw [a1, a2, g3, Bool.true_and, Bool.true_and, Bool.true_and, Bool.and_comm]
    rw [e0]
    refine RL_count (fun i => ⟨tb 62 .any [(1, .ptr 0 none 0 0 0), (24, .sl (ls.map lnA)), (25, .int .i64 (ls.length : Int)), (26, .int .i64 (i : Int))], [(0, .var [.int .i64 d, .sl (ls.map lnA), .sl (ints st)])], 1⟩) (fun i => ls.all (laneOk d) = (ls.drop i).all (laneOk d)) ls.length 0 (hdA [(0, 0)]) (by omega) rfl fun i hi' ht J hJ => ?_
    by_cases h1 : i < ls.length
    · rw [List.drop_eq_getElem_cons h1, List.all_cons] at ht
      have hl : i < 2 ^ 50 := by omega
      simp only [List.length_map, Int.toNat_natCast, List.getElem?_map, List.getElem?_eq_getElem h1, lnA, push_cast, ↓J1, ↓J2, N1, N2, N3, reduceCtorEq, N4, N5, N6, reduceIte, N7, I1, I2, I3]
      refine ifB_intro (fun _ => ⟨by omega, ?_⟩) (fun h => by simp at h; omega)
      repeat' (first
    | simp only [push_cast, ↓J1, ↓J2, N1, N2, N3, reduceCtorEq, N4, N5, N6, reduceIte, N7, I1, I2, I3]
    | refine ⟨_, t31 hC _ _ (by omega), ?_⟩
    | refine ⟨_, t47 hC _ _ _, ?_⟩
    | refine ifB_intro (fun h => ?_) (fun h => ?_))
      all_goals first
        | (rw [ht]; simp_all [inR, laneOk]; done)
        | (rw [ht]; simp only [laneOk]; grind [inR])
        | (refine hJ h1 ?_ _ (hdA [(0, 0)]); rw [ht]; simp_all [inR, laneOk])
        | skip
    · simp only [List.length_map, Int.toNat_natCast, List.getElem?_map, push_cast, ↓J1, ↓J2, N1, N2, N3, reduceCtorEq, N4, N5, N6, reduceIte, N7, I1, I2, I3]
      refine ifB_intro (fun h => by simp at h; omega) (fun h => ?_)
      refine ⟨_, t48 hC st 49 [] _ h2 rfl rfl fun n _ => t49 hC n, ?_⟩
      simp only [push_cast, ↓J1, ↓J2, N1, N2, N3, reduceCtorEq, N4, N5, N6, reduceIte, N7, I1, I2, I3]
      rw [ht, List.drop_eq_nil_of_le (by omega)]
      simp [List.all_eq_not_any_not]
end
end Go.Proofs.Ytiemjnkblggimaa.X
set_option maxHeartbeats 1000000
set_option maxRecDepth 8000
set_option linter.unusedSimpArgs false
set_option linter.unusedSectionVars false
set_option linter.unusedVariables false
open Nat renaming reduceBEq → N1, reduceAdd → N2, reduceSub → N3, reduceMul → N4, reduceEqDiff → N5, reduceLeDiff → N6, reduceLT → N7
open Int renaming reduceLE → I1, reduceLT → I2, reduceToNat → I3
namespace Go.Proofs.Ytiemjnkblggimaa.X
open Go
def Lanes.ow (L : Lanes) : AV := .agg [.int .i64 L.d, .ow 3 (lns L.ls), .ow 1 (ints L.st)]
def szL (n1 n2 : Nat) (v : Int) : Int := if v < n1 then -1 else if v - n1 < n2 then -1 else v - n1 - n2
theorem lns_length (l : List Ln) : (lns l).length = l.length := by simp [lns]
theorem frzLL_ints (l : List Int) : frzLL (ints l) = ints l := by
  unfold ints
  induction l with
  | nil => rfl
  | cons x l ih => simp only [List.map_cons, frzLL, frzL, frzT, ih]
theorem frzLL_lns (l : List Ln) : frzLL (lns l) = lns l := by
  unfold lns
  induction l with
  | nil => rfl
  | cons x l ih => simp only [List.map_cons, frzLL, lnA, frzL, frzT, ih]
theorem conR_ref {h : Heap} {k id sz len : Nat} {es : List (List AV)} (hg : hget h id = some (.slice sz es)) (hl : es.length = len) : conR k h (.ref id none sz 0 len) = some (.ow sz es, hdel h id) := by
  subst hl
  cases k <;> simp [conR, hg]
theorem own_lanes (L : Lanes) : ownR L.ow = true := by
  have e1 := own_lns L.ls
  have e2 := own_ints L.st
  simp only [ownR] at e1 e2
  simp only [Lanes.ow, ownR, ownRL, e1, e2, Bool.and_true]
section
variable {C : CT} (hC : Closed Try.prog G0 md0 C)
include hC
theorem t6 (L : Lanes) (v : Int) (hv : 0 ≤ v ∧ v < 2^50) (h1 : L.ls.length < 2^50) (h2 : L.st.length < 2^50) : Ev C 6 [L.av, .int .i64 v] (.int .i64 (szL L.ls.length L.st.length v)) := by
  obtain ⟨d, ls, st⟩ := L
  simp only [Lanes.av] at *
  refine rT hC Q6 ?_
  simp only [c6, push_cast, ↓J1, ↓J2, N1, N2, N3, reduceCtorEq, N4, N5, N6, reduceIte, N7, I1, I2, I3]
  refine ⟨_, t23 hC _ _ (by omega) (by rw [lns_length]; exact h1), ?_⟩
  simp only [lns_length, push_cast, ↓J1, ↓J2, N1, N2, N3, reduceCtorEq, N4, N5, N6, reduceIte, N7, I1, I2, I3]
  refine ifB_intro (fun h => ?_) (fun h => ?_)
  · simp only [szL]; grind
  · have h0 : ¬ v < ls.length := by intro hh; simp [hh] at h
    simp only [h0, if_false] at h ⊢
    refine ⟨_, t24 hC _ _ (by omega) (by rw [ints_length]; exact h2), ?_⟩
    simp only [ints_length, push_cast, ↓J1, ↓J2, N1, N2, N3, reduceCtorEq, N4, N5, N6, reduceIte, N7, I1, I2, I3]
    refine ifB_intro (fun h => ?_) (fun h => ?_)
    · simp only [szL]; grind
    · simp only [szL]; grind
theorem t8 (L : Lanes) (h1 : L.ls.length < 2^30) (h2 : L.st.length < 2^30) : Ev C 8 [L.av] L.ow := by
  obtain ⟨d, ls, st⟩ := L
  simp only [Lanes.av] at *
  refine rT hC Q8 ?_ (own_lanes ⟨d, ls, st⟩)
  simp only [c8, push_cast, ↓J1, ↓J2, N1, N2, N3, reduceCtorEq, N4, N5, N6, reduceIte, N7, I1, I2, I3]
  refine ⟨_, t28 hC _ h1, ?_⟩
  simp only [push_cast, ↓J1, ↓J2, N1, N2, N3, reduceCtorEq, N4, N5, N6, reduceIte, N7, I1, I2, I3]
  refine ⟨_, t29 hC _ h2, ?_⟩
  simp only [push_cast, ↓J1, ↓J2, N1, N2, N3, reduceCtorEq, N4, N5, N6, reduceIte, N7, I1, I2, I3]
  simp only [Lanes.ow]
  exact rtA
theorem t10 (L M : Lanes) (h1 : L.ls.length < 2^50) (h2 : L.st.length < 2^50) (h3 : M.ls.length < 2^50) (h4 : M.st.length < 2^50) : Ev C 10 [L.av, M.av] (.bool (decide (L.d = M.d) && decide (L.ls = M.ls) && (L.st == M.st))) := by
  obtain ⟨d, ls, st⟩ := L
  obtain ⟨d', ls', st'⟩ := M
  simp only [Lanes.av] at *
  refine rT hC Q10 ?_
  simp only [c10, push_cast, ↓J1, ↓J2, N1, N2, N3, reduceCtorEq, N4, N5, N6, reduceIte, N7, I1, I2, I3]
  repeat' (first
    | simp only [push_cast, ↓J1, ↓J2, N1, N2, N3, reduceCtorEq, N4, N5, N6, reduceIte, N7, I1, I2, I3]
    | refine ⟨_, t33 hC _ _ h1 h3, ?_⟩
    | refine ⟨_, t15 hC _ _ h2 h4, ?_⟩
    | refine ifB_intro (fun h => ?_) (fun h => ?_))
  all_goals simp_all
end
end Go.Proofs.Ytiemjnkblggimaa.X
set_option linter.unusedVariables false
set_option linter.unusedSimpArgs false
open Nat renaming reduceBEq → N1, reduceAdd → N2, reduceSub → N3, reduceMul → N4, reduceEqDiff → N5, reduceLeDiff → N6, reduceLT → N7
open Int renaming reduceLE → I1, reduceLT → I2, reduceToNat → I3
namespace Go.Proofs.Ytiemjnkblggimaa.X
open Go Go.RowKit
theorem zeroCells_rep {zero : Array Value} {sz n : Nat} {z : Value} (h : zero = Array.replicate sz z) (hs : 0 < sz) : (Builtin.zeroCells zero n).toList = List.replicate (n * sz) z := by
  subst h
  simp only [Builtin.zeroCells, Array.size_replicate, Array.toList_map, Array.toList_range]
  refine List.ext_getElem (by simp) fun k h1 h2 => ?_
  simp only [List.getElem_map, List.getElem_range, List.getElem_replicate]
  rw [getElem!_pos _ _ (by simp only [Array.size_replicate]; exact Nat.mod_lt _ hs), Array.getElem_replicate]
theorem run_clear_cells {P : Program} (w : World) (t e ty : TypeId) (z : Value) (ht : P.underlying t = some (.slice e)) (hv : ∀ w, (zeroValue e).run P w = .ok z w) (b o n c : Nat) (hn : 0 < n) (zs : List Value) (hzs : (Builtin.zeroCells z.cells n).toList = zs) (h1 : ∀ v ∈ zs, v.oneCell' = true)
    (hc : ∀ j, j < zs.length → (w.cell? ⟨b, o + j, none⟩).isSome = true) (hf : ∀ j, j < zs.length → w.frozen? ⟨b, o + j, none⟩ = false) :
    (Builtin.clear_ #[t] ty #[.slice (some ⟨b, o, none⟩) n c]).run P w = .ok (.tuple #[]) (w.setCells b o zs) := by
  have hst := run_storeCells_cells (P := P) b o zs 0 w (by simpa using hc) (by simpa using hf) h1
  simp only [Nat.add_zero] at hst
  obtain ⟨m, rfl⟩ : ∃ m, n = m + 1 := ⟨n - 1, by omega⟩
  simp [Builtin.clear_, run_underlying ht, hv, hzs, hst]
theorem ints_scD (l : List Int) : allScs (ints l) = true := by
  unfold ints
  induction l with
  | nil => rfl
  | cons x l ih => simp only [List.map_cons, allScs, allSc, isSc, Bool.and_true, Bool.true_and]; exact ih
theorem lns_scD (l : List Ln) : allScs (lns l) = true := by
  unfold lns
  induction l with
  | nil => rfl
  | cons x l ih => simp only [List.map_cons, lnA, allScs, allSc, isSc, Bool.and_true, Bool.true_and]; exact ih
theorem delLaneInfo : (Try.prog.info? 75).map (fun i => (i.zero, i.size, i.bytes)) = some (some (Value.agg #[Value.int .i64 0, Value.int .i64 0, Value.int .i64 0]), 3, 24) := by kernel_rfl
set_option maxHeartbeats 4000000 in
set_option maxRecDepth 1000000 in
theorem delLane_walk : DelW Try.prog 50 3 := by
  intro b off cap i j n vs w hvl h1 hc hf hcap hm hij hj
  obtain ⟨i0, hi0, hz0, hz1, hz2⟩ := info_parts delLaneInfo
  obtain ⟨news, hnews⟩ : ∃ news, news = vs.drop (j * 3) := ⟨_, rfl⟩
  have hlen : news.length = (n - j) * 3 := by rw [hnews, List.length_drop, hvl, ← Nat.sub_mul]
  have hget : ∀ t u, news[t]? = some u → vs[j * 3 + t]? = some u := by
    intro t u hu
    rw [hnews, List.getElem?_drop] at hu
    exact hu
  obtain ⟨A, hA, hsrc⟩ : ∃ A : Addr, (if cap = j then some (⟨b, off, none⟩ : Addr) else some ⟨b, off + j * 3, none⟩) = some A ∧ Hid (∀ t u, news[t]? = some u → w.drew.cell? (A.add t) = some u) := by
    by_cases h : cap = j
    · refine ⟨⟨b, off, none⟩, by simp [h], fun t u hu => ?_⟩
      have h0 : news.length = 0 := by rw [hlen]; omega
      rw [List.length_eq_zero_iff.1 h0] at hu
      simp at hu
    · refine ⟨⟨b, off + j * 3, none⟩, by simp [h], fun t u hu => ?_⟩
      rw [Addr.add_lit, Nat.add_assoc]
      exact hc _ _ (hget t u hu)
  have s2 : Hid (∀ u ∈ news, u.oneCell' = true) := fun u hu => h1 u (List.mem_of_mem_drop (hnews ▸ hu))
  have s1 : Hid (news.length = (n - j) * 3) := hlen
  have s3 : Hid (∀ t, t < news.length → (w.drew.cell? ⟨b, off + i * 3 + t, none⟩).isSome = true ∧ w.drew.frozen? ⟨b, off + i * 3 + t, none⟩ = false) := by
    intro t ht
    rw [hlen] at ht
    have hlt : i * 3 + t < vs.length := by omega
    rw [Nat.add_assoc]
    exact ⟨by show (w.cell? _).isSome = true; rw [hc _ _ (List.getElem?_eq_getElem hlt)]; rfl, hf _ hlt⟩
  obtain ⟨W1, hW1⟩ : ∃ W1, W1 = w.drew.setCells b (off + i * 3) news := ⟨_, rfl⟩
  rw [← hnews, ← hW1]
  have hcl : ∀ ty, (Builtin.clear_ #[27] ty #[.slice (some ⟨b, off + (i + (n - j)) * 3, none⟩) (n - (i + (n - j))) (cap - (i + (n - j)))]).run Try.prog W1 = .ok (.tuple #[]) (W1.setCells b (off + (i + (n - j)) * 3) (List.replicate ((j - i) * 3) (.int .i64 0))) := by
    intro ty
    have hz : (Builtin.zeroCells (Value.agg #[Value.int .i64 0, Value.int .i64 0, Value.int .i64 0]).cells (n - (i + (n - j)))).toList = List.replicate ((j - i) * 3) (.int .i64 0) := by
      rw [show n - (i + (n - j)) = j - i by omega]
      exact zeroCells_rep (n := j - i) (show (Value.agg #[Value.int .i64 0, Value.int .i64 0, Value.int .i64 0]).cells = Array.replicate 3 (.int .i64 0) from rfl) (by omega)
    have hW1c : ∀ t, t < n * 3 → (W1.cell? ⟨b, off + t, none⟩).isSome = true := by
      intro t ht
      rw [hW1]
      by_cases h : t < i * 3 ∨ i * 3 + (n - j) * 3 ≤ t
      · rw [World.cell?_setCells_out b news (off + i * 3) w.drew ⟨b, off + t, none⟩ (fun _ _ => by simp only; omega)]
        show (w.cell? _).isSome = true
        rw [hc _ _ (List.getElem?_eq_getElem (show t < vs.length by omega))]; rfl
      · obtain ⟨q, rfl⟩ : ∃ q, t = i * 3 + q := ⟨t - i * 3, by omega⟩
        rw [← Nat.add_assoc, World.cell?_setCells_in b news (off + i * 3) w.drew (fun t ht => (s3.out t ht).1) q (by omega)]; rfl
    have hW1f : ∀ t, t < n * 3 → W1.frozen? ⟨b, off + t, none⟩ = false := by
      intro t ht
      rw [hW1, World.frozen?_setCells]
      exact hf t (by omega)
    refine run_clear_cells W1 _ 75 ty _ Try.underlying27 Try.zeroValue75 b _ _ _ (by omega) _ hz (fun v hv => by rw [List.eq_of_mem_replicate hv]; rfl) (fun t ht => ?_) (fun t ht => ?_)
    · rw [List.length_replicate] at ht
      rw [Nat.add_assoc]; exact hW1c _ (by omega)
    · rw [List.length_replicate] at ht
      rw [Nat.add_assoc]; exact hW1f _ (by omega)
  have hW : Hid (W1 = w.drew.setCells b (off + i * 3) news) := hW1
  have hic : i ≤ cap := by omega
  have hjc : j ≤ cap := by omega
  clear hW1 hget hnews hlen hc hf h1 hvl
  go_enter Try.func50, Try.ntmps50
  go_wp2_with fail
  go_region_law (refine step_append_room rfl (.tmp 22) (.tmp 25) 27 rfl 75 i0 3 Try.underlying27 hi0 hz1 b off i cap (by simp [Act.eval, Act.put]) A (n - j) (cap - j) news (by simp [Act.eval, Act.put]) s1.out hsrc.out s2.out (by omega) s3.out ?_; rw [← hW.out])
  go_wp2
  go_ret
  exact ⟨rfl, rfl⟩
theorem delLane_cs (l : List Ln) (i j : Nat) (h : Heap) (id nx : Nat) (hg : hget h id = some (.slice 3 (lns l))) (hij : i < j) (hj : j ≤ l.length) : CS Try.prog G0 50 [.ref id none 3 0 l.length, .int .i64 i, .int .i64 j] h nx fun v h' n' => v = .ref id none 3 0 (i + (l.length - j)) ∧ h' = hset h id (.slice 3 (lns (l.take i ++ l.drop j ++ List.replicate (j - i) ⟨0, 0, 0⟩))) ∧ n' = nx := by
  have e := del_cs (G := G0) ⟨_, Try.func50, by simp [Try.f50], by simp [Try.f50]⟩ delLane_walk hg (lns_scD l) hij (by rw [lns_length]; exact hj) (nx := nx)
  rw [lns_length] at e
  have e2 : (lns l).take i ++ (lns l).drop j ++ List.replicate (j - i) (zeroE 3) = lns (l.take i ++ l.drop j ++ List.replicate (j - i) ⟨0, 0, 0⟩) := by
    simp only [lns, List.map_append, List.map_take, List.map_drop, List.map_replicate]; rfl
  rwa [e2] at e
end Go.Proofs.Ytiemjnkblggimaa.X
