/- A part of the proof: lemmas on the machine or on the functions that the law reaches. No condition of its own. -/
import Derived.Test.YtiemjnkblggimaaXP2
import Derived.Test.YtiemjnkblggimaaXP1
set_option linter.unusedVariables false
open Nat renaming reduceBEq → N1, reduceAdd → N2, reduceSub → N3, reduceMul → N4, reduceEqDiff → N5, reduceLeDiff → N6, reduceLT → N7
open Int renaming reduceLE → I1, reduceLT → I2, reduceToNat → I3
namespace Go.Proofs.Ytiemjnkblggimaa.X
open Go
def dirs : List AV := [.int .i64 1, .int .i64 0, .int .i64 1, .int .i64 (-1), .int .i64 0, .int .i64 (-1), .int .i64 (-1), .int .i64 0, .int .i64 (-1), .int .i64 1, .int .i64 0, .int .i64 1]
def G1 : Glo := fun g => if g = 0 then some dirs else none
theorem ev_dirs {s : St} : ev G1 s (.global 0) = .pf dirs := _root_.id rfl
attribute [push_cast] ev_dirs
end Go.Proofs.Ytiemjnkblggimaa.X
set_option maxHeartbeats 1000000
set_option maxRecDepth 8000
set_option linter.unusedSimpArgs false
set_option linter.unusedSectionVars false
set_option linter.unusedVariables false
open Nat renaming reduceBEq → N1, reduceAdd → N2, reduceSub → N3, reduceMul → N4, reduceEqDiff → N5, reduceLeDiff → N6, reduceLT → N7
open Int renaming reduceLE → I1, reduceLT → I2, reduceToNat → I3
namespace Go.Proofs.Ytiemjnkblggimaa.X
open Go
def ints (l : List Int) : List (List AV) := l.map fun n => [.int .i64 n]
theorem own_ints (l : List Int) : ownR (.ow 1 (ints l)) = true := by
  simp only [ownR]
  unfold ints
  induction l with
  | nil => rfl
  | cons x l ih => simp only [List.map_cons, ownRLL, ownRL, ownR, Bool.and_true, Bool.true_and]; exact ih
section
variable {C : CT} (hC : Closed Try.prog G0 md0 C)
include hC
theorem t26 (a b c : Int) : Ev C 26 [.int .i64 a, .int .i64 b, .int .i64 c] (.bool (decide (b ≤ a) && decide (a ≤ c))) := by
  refine rT hC Q26 ?_
  simp only [c26, push_cast, ↓J1, ↓J2, N1, N2, N3, reduceCtorEq, N4, N5, N6, reduceIte, N7, I1, I2, I3]
  grind [ifB]
theorem t47 (a b c : Int) : Ev C 47 [.int .i64 a, .int .i64 b, .int .i64 c] (.bool (decide (b ≤ a) && decide (a ≤ c))) := by
  refine rT hC Q47 ?_
  simp only [c47, push_cast, ↓J1, ↓J2, N1, N2, N3, reduceCtorEq, N4, N5, N6, reduceIte, N7, I1, I2, I3]
  grind [ifB]
theorem t31 (a b : Int) (hb : -2^62 ≤ b ∧ b ≤ 2^62) : Ev C 31 [.int .i64 a, .int .i64 b] (.bool (decide (0 ≤ a) && decide (a ≤ b - 1))) := by
  refine rT hC Q31 ?_
  simp only [c31, push_cast, ↓J1, ↓J2, N1, N2, N3, reduceCtorEq, N4, N5, N6, reduceIte, N7, I1, I2, I3]
  refine ⟨_, t47 hC _ _ _, ?_⟩
  simp only [push_cast, ↓J1, ↓J2, N1, N2, N3, reduceCtorEq, N4, N5, N6, reduceIte, N7, I1, I2, I3]
  rw [wrap64 (by omega) (by omega)]
theorem t23 (es : List (List AV)) (v : Int) (hv : -1 ≤ v ∧ v < 2^50) (he : es.length < 2^50) : Ev C 23 [.sl es, .int .i64 v] (.int .i64 (if v < es.length then -1 else v - es.length)) := by
  refine rT hC Q23 ?_
  simp only [c23, push_cast, ↓J1, ↓J2, N1, N2, N3, reduceCtorEq, N4, N5, N6, reduceIte, N7, I1, I2, I3]
  rw [wrap64 (by omega) (by omega)]
  grind [ifB]
theorem t24 (es : List (List AV)) (v : Int) (hv : -1 ≤ v ∧ v < 2^50) (he : es.length < 2^50) : Ev C 24 [.sl es, .int .i64 v] (.int .i64 (if v < es.length then -1 else v - es.length)) := by
  refine rT hC Q24 ?_
  simp only [c24, push_cast, ↓J1, ↓J2, N1, N2, N3, reduceCtorEq, N4, N5, N6, reduceIte, N7, I1, I2, I3]
  rw [wrap64 (by omega) (by omega)]
  grind [ifB]
theorem t53 (a b c d e f : Int) : Ev C 53 [.agg [.int .i64 a, .int .i64 b, .int .i64 c], .agg [.int .i64 d, .int .i64 e, .int .i64 f]] (.bool (a == d && b == e && c == f)) := by
  refine rT hC Q53 ?_
  simp only [c53, push_cast, ↓J1, ↓J2, N1, N2, N3, reduceCtorEq, N4, N5, N6, reduceIte, N7, I1, I2, I3]

  grind [ifB]
theorem t15 (l m : List Int) (hl : l.length < 2^50) (hm : m.length < 2^50) : Ev C 15 [.sl (ints l), .sl (ints m)] (.bool (l == m)) := by
  refine rT hC Q15 ?_
  simp only [c15, ints, List.length_map, push_cast, ↓J1, ↓J2, N1, N2, N3, reduceCtorEq, N4, N5, N6, reduceIte, N7, I1, I2, I3]
  refine ifB_intro (fun h => ?_) (fun h => ?_)
  · have hlm : l.length = m.length := by simp at h; omega
    refine RL_count (fun i => ⟨tb 26 .any [(0, .sl (l.map fun n => [.int .i64 n])), (1, .sl (m.map fun n => [.int .i64 n])), (5, .int .i64 (i : Int))], [], 0⟩) (fun i => l.take i = m.take i) l.length 0 (hdA []) (by omega) rfl fun i hi ht J hJ => ?_
    by_cases h1 : i < l.length
    · have h2 : i < m.length := by omega
      simp only [List.length_map, Int.toNat_natCast, List.getElem?_map, List.getElem?_eq_getElem h1, List.getElem?_eq_getElem h2, push_cast, ↓J1, ↓J2, N1, N2, N3, reduceCtorEq, N4, N5, N6, reduceIte, N7, I1, I2, I3]
      refine ifB_intro (fun _ => ⟨by omega, by omega, ifB_intro (fun h => ?_) (fun h => ?_)⟩) (fun h => by simp at h; omega)
      · refine hJ h1 ?_ _ (hdA [])
        · rw [List.take_succ_eq_append_getElem h1, List.take_succ_eq_append_getElem h2, ht]
          have h' : l[i] = m[i] := by simpa using h
          rw [h']
      · have : ¬ l = m := by rintro rfl; simp at h
        simp [this]
    · simp only [List.length_map, Int.toNat_natCast, List.getElem?_map, push_cast, ↓J1, ↓J2, N1, N2, N3, reduceCtorEq, N4, N5, N6, reduceIte, N7, I1, I2, I3]
      refine ifB_intro (fun h => by simp at h; omega) (fun h => ?_)
      rw [List.take_of_length_le (by omega), List.take_of_length_le (by omega)] at ht
      simp [ht]
  · have : ¬ l = m := by rintro rfl; simp at h
    simp [this]
theorem t29 (l : List Int) (hl : l.length < 2^30) : Ev C 29 [.sl (ints l)] (.ow 1 (ints l)) := by
  refine rT hC Q29 ?_ (own_ints l)
  simp only [c29, ints, List.length_map, push_cast, ↓J1, ↓J2, N1, N2, N3, reduceCtorEq, N4, N5, N6, reduceIte, N7, I1, I2, I3]
  refine ⟨by omega, by omega, by omega, by omega, ?_⟩
  refine RL_count (fun i => ⟨tb 22 .any [(0, .sl (l.map fun n => [.int .i64 n])), (3, .ref 0 none 1 0 l.length), (4, .int .i64 (i : Int))], [(0, .slice 1 ((l.take i).map (fun n => [.int .i64 n]) ++ List.replicate (l.length - i) [.int .i64 0]))], 1⟩) (fun _ => True) l.length 0 (hdA [(0, 0)]) (by omega) trivial fun i hi _ J hJ => ?_
  by_cases h1 : i < l.length
  · rw [show l.length - i = (l.length - (i + 1)) + 1 by omega, List.replicate_succ]
    simp only [List.length_map, Int.toNat_natCast, List.getElem?_map, List.getElem?_eq_getElem h1, mid_get (show ((l.take i).map fun n => [AV.int .i64 n]).length = i by simp; omega), mid_set (show ((l.take i).map fun n => [AV.int .i64 n]).length = i by simp; omega), push_cast, ↓J1, ↓J2, N1, N2, N3, reduceCtorEq, N4, N5, N6, reduceIte, N7, I1, I2, I3]
    refine ifB_intro (fun _ => ⟨by omega, by omega, by omega, ?_⟩) (fun h => by simp at h; omega)
    refine hJ h1 trivial _ (hdA [(0, 0)] (hh := ?_))
    rw [List.take_succ_eq_append_getElem h1, List.map_append, List.append_assoc]
    simp only [canR, canB, renO, renL, ren, lkp, hget, N7, N5, Nat.not_lt_zero, if_false, if_true, reduceIte, List.append_nil, List.nil_append]
    rfl
  · simp only [List.length_map, Int.toNat_natCast, List.getElem?_map, push_cast, ↓J1, ↓J2, N1, N2, N3, reduceCtorEq, N4, N5, N6, reduceIte, N7, I1, I2, I3]
    refine ifB_intro (fun h => by simp at h; omega) (fun h => ?_)
    rw [List.take_of_length_le (by omega), show l.length - i = 0 by omega]
    exact RetTo_ow (by simp [hget]) (by simp)
end
end Go.Proofs.Ytiemjnkblggimaa.X
set_option maxHeartbeats 1000000
set_option maxRecDepth 8000
set_option linter.unusedSimpArgs false
set_option linter.unusedSectionVars false
set_option linter.unusedVariables false
open Nat renaming reduceBEq → N1, reduceAdd → N2, reduceSub → N3, reduceMul → N4, reduceEqDiff → N5, reduceLeDiff → N6, reduceLT → N7
open Int renaming reduceLE → I1, reduceLT → I2, reduceToNat → I3
namespace Go.Proofs.Ytiemjnkblggimaa.X
open Go
structure Ln where
  a : Int
  b : Int
  c : Int
  deriving DecidableEq
def lnA (p : Ln) : List AV := [.int .i64 p.a, .int .i64 p.b, .int .i64 p.c]
def lns (l : List Ln) : List (List AV) := l.map lnA
def inR (lo hi n : Int) : Bool := decide (lo ≤ n) && decide (n ≤ hi)
theorem own_lns (l : List Ln) : ownR (.ow 3 (lns l)) = true := by
  simp only [ownR]
  unfold lns
  induction l with
  | nil => rfl
  | cons x l ih => simp only [List.map_cons, lnA, ownRLL, ownRL, ownR, Bool.and_true, Bool.true_and]; exact ih
def fidx (p : Int → Bool) (l : List Int) : Int := if l.findIdx p < l.length then (l.findIdx p : Int) else -1
theorem fidx_at {p : Int → Bool} {l : List Int} {i : Nat} (h : i < l.length) (hp : p l[i] = true) (hn : ∀ j (h : j < l.length), j < i → p l[j] = false) : fidx p l = i := by
  have : l.findIdx p = i := (List.findIdx_eq h).2 ⟨hp, fun j hj => hn j (by omega) hj⟩
  simp [fidx, this, h]
theorem fidx_no {p : Int → Bool} {l : List Int} (hn : ∀ j (h : j < l.length), p l[j] = false) : fidx p l = -1 := by
  have : ¬ l.findIdx p < l.length := fun h => by
    have := hn _ h
    rw [List.findIdx_getElem (w := h)] at this
    cases this
  simp only [fidx, this, if_false]
theorem fidx_any (p : Int → Bool) (l : List Int) : decide (0 ≤ fidx p l) = l.any p := by
  by_cases h : l.findIdx p < l.length
  · have h1 : fidx p l = l.findIdx p := if_pos h
    have h2 : l.any p = true := by
      obtain ⟨x, hx, hp⟩ := List.findIdx_lt_length.1 h
      exact List.any_eq_true.2 ⟨x, hx, hp⟩
    rw [h1, h2]
    exact decide_eq_true (by omega)
  · have h1 : fidx p l = -1 := if_neg h
    have h2 : l.any p = false := by
      rw [List.any_eq_false]
      intro x hx hp
      exact h (List.findIdx_lt_length.2 ⟨x, hx, hp⟩)
    rw [h1, h2]
    rfl
theorem frzA_F {h : Heap} {k : Nat} {x : AV} (hx : isF x = true) : frzA h k x = some x := by
  cases x <;> simp [isF] at hx <;> cases k <;> simp [frzA, isF]
theorem frzAL_F {h : Heap} {k : Nat} : ∀ {xs : List AV}, allF xs = true → frzAL h k xs = some xs
  | [], _ => by cases k <;> simp [frzAL]
  | x :: xs, hx => by
    simp only [allF, Bool.and_eq_true] at hx
    cases k <;> simp [frzAL, frzA_F hx.1, frzAL_F hx.2]
theorem ren_F {B : Nat} {ρ : List (Nat × Nat)} {x : AV} (hx : isF x = true) : ren B ρ x = x := by
  cases x <;> simp [isF] at hx <;> simp [ren]
theorem renL_F {B : Nat} {ρ : List (Nat × Nat)} : ∀ {xs : List AV}, allF xs = true → renL B ρ xs = xs
  | [], _ => by simp [renL]
  | x :: xs, hx => by
    simp only [allF, Bool.and_eq_true] at hx
    simp [renL, ren_F hx.1, renL_F hx.2]
theorem frzOkL_F : ∀ {xs : List AV}, allF xs = true → frzOkL xs = true
  | [], _ => by simp [frzOkL]
  | x :: xs, hx => by
    simp only [allF, Bool.and_eq_true] at hx
    simp only [frzOkL, frzOkL_F hx.2, Bool.and_true]
    have := hx.1
    cases x <;> simp [isF] at this <;> simp [frzOk]
section
variable {C : CT} (hC : Closed Try.prog G0 md0 C)
include hC
theorem t46 (a b c : Int) : Ev C 46 [.agg [.int .i64 a, .int .i64 b, .int .i64 c]] (.agg [.int .i64 a, .int .i64 b, .int .i64 c]) := by
  refine rT hC Q46 ?_
  simp only [c46, push_cast, ↓J1, ↓J2, N1, N2, N3, reduceCtorEq, N4, N5, N6, reduceIte, N7, I1, I2, I3]
  exact rtA
theorem t44 (l : List Int) (lo hi : Int) (hl : l.length < 2^50) : Ev C 44 [.sl (ints l), .int .i64 lo, .int .i64 hi] (.bool (l.all (inR lo hi))) := by
  refine rT hC Q44 ?_
  simp only [c44, ints, List.length_map, push_cast, ↓J1, ↓J2, N1, N2, N3, reduceCtorEq, N4, N5, N6, reduceIte, N7, I1, I2, I3]
  refine RL_count (fun i => ⟨tb 21 .any [(1, .int .i64 lo), (2, .int .i64 hi), (9, .sl (l.map fun n => [.int .i64 n])), (10, .int .i64 (l.length : Int)), (11, .int .i64 (i : Int))], [], 0⟩) (fun i => l.all (inR lo hi) = (l.drop i).all (inR lo hi)) l.length 0 (hdA []) (by omega) rfl fun i hi' ht J hJ => ?_
  by_cases h1 : i < l.length
  · simp only [List.length_map, Int.toNat_natCast, List.getElem?_map, List.getElem?_eq_getElem h1, push_cast, ↓J1, ↓J2, N1, N2, N3, reduceCtorEq, N4, N5, N6, reduceIte, N7, I1, I2, I3]
    refine ifB_intro (fun _ => ⟨by omega, _, t26 hC _ _ _, ?_⟩) (fun h => by simp at h; omega)
    rw [List.drop_eq_getElem_cons h1, List.all_cons] at ht
    simp only [push_cast, ↓J1, ↓J2, N1, N2, N3, reduceCtorEq, N4, N5, N6, reduceIte, N7, I1, I2, I3]
    refine ifB_intro (fun h => ?_) (fun h => ?_)
    · refine hJ h1 ?_ _ (hdA [])
      · rw [ht]; simp only [inR] at h ⊢; rw [h]; rfl
    · rw [ht]; simp only [inR] at h ⊢; rw [h]; rfl
  · simp only [List.length_map, Int.toNat_natCast, List.getElem?_map, push_cast, ↓J1, ↓J2, N1, N2, N3, reduceCtorEq, N4, N5, N6, reduceIte, N7, I1, I2, I3]
    refine ifB_intro (fun h => by simp at h; omega) (fun h => ?_)
    rw [ht, List.drop_eq_nil_of_le (by omega)]
    rfl
theorem t28 (l : List Ln) (hl : l.length < 2^30) : Ev C 28 [.sl (lns l)] (.ow 3 (lns l)) := by
  refine rT hC Q28 ?_ (own_lns l)
  simp only [c28, lns, List.length_map, push_cast, ↓J1, ↓J2, N1, N2, N3, reduceCtorEq, N4, N5, N6, reduceIte, N7, I1, I2, I3]
  refine ⟨by omega, by omega, by omega, by omega, ?_⟩
  refine RL_count (fun i => ⟨tb 23 .any [(0, .sl (l.map lnA)), (3, .ref 0 none 3 0 l.length), (4, .int .i64 (i : Int))], [(0, .slice 3 ((l.take i).map lnA ++ List.replicate (l.length - i) [.int .i64 0, .int .i64 0, .int .i64 0]))], 1⟩) (fun _ => True) l.length 0 (hdA [(0, 0)]) (by omega) trivial fun i hi _ J hJ => ?_
  by_cases h1 : i < l.length
  · rw [show l.length - i = (l.length - (i + 1)) + 1 by omega, List.replicate_succ]
    simp only [List.length_map, Int.toNat_natCast, List.getElem?_map, List.getElem?_eq_getElem h1, lnA, push_cast, ↓J1, ↓J2, N1, N2, N3, reduceCtorEq, N4, N5, N6, reduceIte, N7, I1, I2, I3]
    refine ifB_intro (fun _ => ⟨by omega, _, t46 hC _ _ _, ?_⟩) (fun h => by simp at h; omega)
    simp only [Int.toNat_natCast, mid_get (show ((l.take i).map lnA).length = i by simp; omega), mid_set (show ((l.take i).map lnA).length = i by simp; omega), push_cast, ↓J1, ↓J2, N1, N2, N3, reduceCtorEq, N4, N5, N6, reduceIte, N7, I1, I2, I3]
    refine ⟨by omega, by omega, ?_⟩
    refine hJ h1 trivial _ (hdA [(0, 0)] (hh := ?_))
    rw [List.take_succ_eq_append_getElem h1, List.map_append, List.append_assoc]
    simp only [canR, canB, renO, renL, ren, lkp, hget, N7, N5, Nat.not_lt_zero, if_false, if_true, reduceIte, List.append_nil, List.nil_append]
    rfl
  · simp only [List.length_map, Int.toNat_natCast, List.getElem?_map, push_cast, ↓J1, ↓J2, N1, N2, N3, reduceCtorEq, N4, N5, N6, reduceIte, N7, I1, I2, I3]
    refine ifB_intro (fun h => by simp at h; omega) (fun h => ?_)
    rw [List.take_of_length_le (by omega), show l.length - i = 0 by omega]
    exact RetTo_ow (by simp [hget]) (by simp)
theorem t33 (l m : List Ln) (hl : l.length < 2^50) (hm : m.length < 2^50) : Ev C 33 [.sl (lns l), .sl (lns m)] (.bool (decide (l = m))) := by
  refine rT hC Q33 ?_
  simp only [c33, lns, List.length_map, push_cast, ↓J1, ↓J2, N1, N2, N3, reduceCtorEq, N4, N5, N6, reduceIte, N7, I1, I2, I3]
  refine ifB_intro (fun h => ?_) (fun h => ?_)
  · have hlm : l.length = m.length := by simp at h; omega
    refine RL_count (fun i => ⟨tb 27 .any [(0, .sl (l.map lnA)), (1, .sl (m.map lnA)), (5, .int .i64 (i : Int))], [], 0⟩) (fun i => l.take i = m.take i) l.length 0 (hdA []) (by omega) rfl fun i hi ht J hJ => ?_
    by_cases h1 : i < l.length
    · have h2 : i < m.length := by omega
      simp only [List.length_map, Int.toNat_natCast, List.getElem?_map, List.getElem?_eq_getElem h1, List.getElem?_eq_getElem h2, lnA, push_cast, ↓J1, ↓J2, N1, N2, N3, reduceCtorEq, N4, N5, N6, reduceIte, N7, I1, I2, I3]
      refine ifB_intro (fun _ => ⟨by omega, by omega, _, t53 hC _ _ _ _ _ _, ?_⟩) (fun h => by simp at h; omega)
      simp only [push_cast, ↓J1, ↓J2, N1, N2, N3, reduceCtorEq, N4, N5, N6, reduceIte, N7, I1, I2, I3]
      refine ifB_intro (fun h => ?_) (fun h => ?_)
      · refine hJ h1 ?_ _ (hdA [])
        · rw [List.take_succ_eq_append_getElem h1, List.take_succ_eq_append_getElem h2, ht]
          have h' : l[i] = m[i] := by
            simp only [Bool.and_eq_true, beq_iff_eq] at h
            cases hp : l[i]; cases hq : m[i]; simp_all
          rw [h']
      · have : ¬ l = m := by rintro rfl; simp at h
        simp [this]
    · simp only [List.length_map, Int.toNat_natCast, List.getElem?_map, push_cast, ↓J1, ↓J2, N1, N2, N3, reduceCtorEq, N4, N5, N6, reduceIte, N7, I1, I2, I3]
      refine ifB_intro (fun h => by simp at h; omega) (fun h => ?_)
      rw [List.take_of_length_le (by omega), List.take_of_length_le (by omega)] at ht
      simp [ht]
  · have : ¬ l = m := by rintro rfl; simp at h
    simp [this]
theorem t59 (l : List Int) (f : FuncId) (caps : List AV) (p : Int → Bool) (hl : l.length < 2^50) (hm : md0 f = false) (hc : allF caps = true)
    (hp : ∀ n ∈ l, Ev C f (.int .i64 n :: caps) (.bool (p n))) : Ev C 59 [.sl (ints l), .fn f caps] (.int .i64 (fidx p l)) := by
  have hr : renL 0 [] caps = caps := renL_F hc
  refine rT hC Q59 ?_
  simp only [c59, ints, List.length_map, push_cast, ↓J1, ↓J2, N1, N2, N3, reduceCtorEq, N4, N5, N6, reduceIte, N7, I1, I2, I3]
  refine RL_count (fun i => ⟨tb 19 .any [(0, .sl (l.map fun n => [.int .i64 n])), (1, .fn f caps), (7, .int .i64 (l.length : Int)), (8, .int .i64 (i : Int))], [], 0⟩) (fun i => ∀ j (h : j < l.length), j < i → p l[j] = false) l.length 0 (hdA []) (by omega) (by intro j h h'; omega) fun i hi' ht J hJ => ?_
  by_cases h1 : i < l.length
  · simp only [List.length_map, Int.toNat_natCast, List.getElem?_map, List.getElem?_eq_getElem h1, hm, frzAL_F hc, frzOkL_F hc, push_cast, ↓J1, ↓J2, N1, N2, N3, reduceCtorEq, N4, N5, N6, reduceIte, N7, I1, I2, I3]
    refine ifB_intro (fun _ => ⟨by omega, _, hp _ (List.getElem_mem h1), ?_⟩) (fun h => by simp at h; omega)
    simp only [push_cast, ↓J1, ↓J2, N1, N2, N3, reduceCtorEq, N4, N5, N6, reduceIte, N7, I1, I2, I3]
    refine ifB_intro (fun h => ?_) (fun h => ?_)
    · exact (fidx_at h1 h ht).symm
    · refine hJ h1 ?_ _ (hdA [])
      · intro j hj hji
        by_cases hij : j = i
        · subst hij; exact h
        · exact ht j hj (by omega)
  · simp only [List.length_map, Int.toNat_natCast, List.getElem?_map, hm, push_cast, ↓J1, ↓J2, N1, N2, N3, reduceCtorEq, N4, N5, N6, reduceIte, N7, I1, I2, I3]
    refine ifB_intro (fun h => by simp at h; omega) (fun h => ?_)
    exact (fidx_no fun j hj => ht j hj (by omega)).symm
theorem t48 (l : List Int) (f : FuncId) (caps : List AV) (p : Int → Bool) (hl : l.length < 2^50) (hm : md0 f = false) (hc : allF caps = true)
    (hp : ∀ n ∈ l, Ev C f (.int .i64 n :: caps) (.bool (p n))) : Ev C 48 [.sl (ints l), .fn f caps] (.bool (l.any p)) := by
  refine rT hC Q48 ?_
  simp only [c48, push_cast, ↓J1, ↓J2, N1, N2, N3, reduceCtorEq, N4, N5, N6, reduceIte, N7, I1, I2, I3]
  simp only [frzAL_F hc, frzOkL_F hc, push_cast, ↓J1, ↓J2, N1, N2, N3, reduceCtorEq, N4, N5, N6, reduceIte, N7, I1, I2, I3]
  refine ⟨_, t59 hC l f caps p hl hm hc hp, ?_⟩
  simp only [push_cast, ↓J1, ↓J2, N1, N2, N3, reduceCtorEq, N4, N5, N6, reduceIte, N7, I1, I2, I3]
  exact fidx_any p l
theorem t49 (n : Int) : Ev C 49 [.int .i64 n] (.bool (!inR 0 1000 n)) := by
  refine rT hC Q49 ?_
  simp only [c49, push_cast, ↓J1, ↓J2, N1, N2, N3, reduceCtorEq, N4, N5, N6, reduceIte, N7, I1, I2, I3]
  refine ⟨_, t47 hC _ _ _, ?_⟩
  simp only [push_cast, ↓J1, ↓J2, N1, N2, N3, reduceCtorEq, N4, N5, N6, reduceIte, N7, I1, I2, I3]
  rfl
end
end Go.Proofs.Ytiemjnkblggimaa.X
set_option maxHeartbeats 1000000
set_option maxRecDepth 8000
set_option linter.unusedSimpArgs false
set_option linter.unusedSectionVars false
set_option linter.unusedVariables false
set_option pp.deepTerms false
set_option pp.deepTerms.threshold 4
open Nat renaming reduceBEq → N1, reduceAdd → N2, reduceSub → N3, reduceMul → N4, reduceEqDiff → N5, reduceLeDiff → N6, reduceLT → N7
open Int renaming reduceLE → I1, reduceLT → I2, reduceToNat → I3
namespace Go.Proofs.Ytiemjnkblggimaa.X
open Go
structure Lanes where
  d : Int
  ls : List Ln
  st : List Int
def Lanes.av (L : Lanes) : AV := .agg [.int .i64 L.d, .sl (lns L.ls), .sl (ints L.st)]
def laneOk (d : Int) (p : Ln) : Bool := inR 0 (d - 1) p.a && inR 0 (d - 1) p.b && !decide (p.a = p.b) && inR 0 1000 p.c
def lanesOk (L : Lanes) : Bool := inR 2 6 L.d && decide (L.ls.length ≤ 15) && decide ((L.st.length : Int) = L.d) && L.st.all (inR 0 1000) && L.ls.all (laneOk L.d)
theorem ints_length (l : List Int) : (ints l).length = l.length := by simp [ints]
section
variable {C : CT} (hC : Closed Try.prog G0 md0 C)
include hC
theorem t25 (L : Lanes) (h1 : L.ls.length < 2^50) (h2 : L.st.length < 2^50) : Ev C 25 [L.av] (.bool (lanesOk L)) := by
  obtain ⟨d, ls, st⟩ := L
  simp only [Lanes.av, lanesOk] at *
  refine rT hC Q25 ?_
  simp only [c25, lns, List.length_map, push_cast, ↓J1, ↓J2, N1, N2, N3, reduceCtorEq, N4, N5, N6, reduceIte, N7, I1, I2, I3]
  repeat' (first
    | simp only [List.length_map, ints_length, push_cast, ↓J1, ↓J2, N1, N2, N3, reduceCtorEq, N4, N5, N6, reduceIte, N7, I1, I2, I3]
    | refine ⟨_, t26 hC _ _ _, ?_⟩
    | refine ⟨_, t44 hC st _ _ h2, ?_⟩
    | refine ifB_intro (fun h => ?_) (fun h => ?_))
  all_goals try (rw [ints_length] at *)
  all_goals try (first | (simp_all [inR]; done) | grind [inR]; done)
  · rename_i g1 g2 g3
    have g4 := h
    simp only [Bool.and_eq_true, decide_eq_true_eq] at g1
    have e0 : (inR 2 6 d && decide (ls.length ≤ 15) && decide ((st.length : Int) = d) && st.all (inR 0 1000) && ls.all (laneOk d)) = ls.all (laneOk d) := by
      simp [inR, g1, g4] at g2 g3 ⊢; intros; omega
    rw [e0]
    refine RL_count (fun i => ⟨tb 66 .any [(1, .ptr 0 none 0 0 0), (30, .sl (ls.map lnA)), (31, .int .i64 (ls.length : Int)), (32, .int .i64 (i : Int))], [(0, .var [.int .i64 d, .sl (ls.map lnA), .sl (ints st)])], 1⟩) (fun i => ls.all (laneOk d) = (ls.drop i).all (laneOk d)) ls.length 0 (hdA [(0, 0)]) (by omega) rfl fun i hi' ht J hJ => ?_
    by_cases h1 : i < ls.length
    · rw [List.drop_eq_getElem_cons h1, List.all_cons] at ht
      have hl : i < 2 ^ 50 := by omega
      simp only [List.length_map, Int.toNat_natCast, List.getElem?_map, List.getElem?_eq_getElem h1, lnA, push_cast, ↓J1, ↓J2, N1, N2, N3, reduceCtorEq, N4, N5, N6, reduceIte, N7, I1, I2, I3]
      refine ifB_intro (fun _ => ⟨by omega, ?_⟩) (fun h => by simp at h; omega)
      rw [wrap64 (by omega) (by omega)]
      repeat' (first
    | simp only [wrap64 (show -9223372036854775808 ≤ d - 1 by omega) (show d - 1 ≤ 9223372036854775807 by omega), push_cast, ↓J1, ↓J2, N1, N2, N3, reduceCtorEq, N4, N5, N6, reduceIte, N7, I1, I2, I3]
    | refine ⟨_, t26 hC _ _ _, ?_⟩
    | refine ifB_intro (fun h => ?_) (fun h => ?_))
      all_goals first
        | (rw [ht]; simp_all [inR, laneOk]; done)
        | (rw [ht]; simp only [laneOk]; grind [inR])
        | (refine hJ h1 ?_ _ (hdA [(0, 0)]); rw [ht]; simp_all [inR, laneOk])
        | skip
    · simp only [List.length_map, Int.toNat_natCast, List.getElem?_map, push_cast, ↓J1, ↓J2, N1, N2, N3, reduceCtorEq, N4, N5, N6, reduceIte, N7, I1, I2, I3]
      refine ifB_intro (fun h => by simp at h; omega) (fun h => ?_)
      rw [ht, List.drop_eq_nil_of_le (by omega)]
      rfl
theorem t30 (L : Lanes) (h1 : L.ls.length < 2^50) (h2 : L.st.length < 2^50) : Ev C 30 [L.av] (.bool (lanesOk L)) := by
  obtain ⟨d, ls, st⟩ := L
  simp only [Lanes.av, lanesOk] at *
  refine rT hC Q30 ?_
  simp only [c30, lns, List.length_map, push_cast, ↓J1, ↓J2, N1, N2, N3, reduceCtorEq, N4, N5, N6, reduceIte, N7, I1, I2, I3]
  repeat' (first
    | simp only [List.length_map, ints_length, push_cast, ↓J1, ↓J2, N1, N2, N3, reduceCtorEq, N4, N5, N6, reduceIte, N7, I1, I2, I3]
    | refine ⟨_, t47 hC _ _ _, ?_⟩
    | refine ifB_intro (fun h => ?_) (fun h => ?_))
  all_goals try (rw [ints_length] at *)
  all_goals try (first | (simp_all [inR]; done) | grind [inR]; done)
  · rename_i g1 g2
    have g3 := h
    simp only [Bool.and_eq_true, decide_eq_true_eq] at g1
    have e0 : (inR 2 6 d && decide (ls.length ≤ 15) && decide ((st.length : Int) = d) && st.all (inR 0 1000) && ls.all (laneOk d)) = (ls.all (laneOk d) && st.all (inR 0 1000)) := by
      have a1 : inR 2 6 d = true := by simp [inR, g1]
      have a2 : decide (ls.length ≤ 15) = true := by simp at g2 ⊢; omega
      rw [a1, a2, g3, Bool.true_and, Bool.true_and, Bool.true_and, Bool.and_comm]
    rw [e0]
    refine RL_count (fun i => ⟨tb 62 .any [(1, .ptr 0 none 0 0 0), (24, .sl (ls.map lnA)), (25, .int .i64 (ls.length : Int)), (26, .int .i64 (i : Int))], [(0, .var [.int .i64 d, .sl (ls.map lnA), .sl (ints st)])], 1⟩) (fun i => ls.all (laneOk d) = (ls.drop i).all (laneOk d)) ls.length 0 (hdA [(0, 0)]) (by omega) rfl fun i hi' ht J hJ => ?_
    by_cases h1 : i < ls.length
    · rw [List.drop_eq_getElem_cons h1, List.all_cons] at ht
      have hl : i < 2 ^ 50 := by omega
      simp only [List.length_map, Int.toNat_natCast, List.getElem?_map, List.getElem?_eq_getElem h1, lnA, push_cast, ↓J1, ↓J2, N1, N2, N3, reduceCtorEq, N4, N5, N6, reduceIte, N7, I1, I2, I3]
      refine ifB_intro (fun _ => ⟨by omega, ?_⟩) (fun h => by simp at h; omega)
      repeat' (first
    | simp only [push_cast, ↓J1, ↓J2, N1, N2, N3, reduceCtorEq, N4, N5, N6, reduceIte, N7, I1, I2, I3]
    | refine ⟨_, t31 hC _ _ (by omega), ?_⟩
    | refine ⟨_, t47 hC _ _ _, ?_⟩
    | refine ifB_intro (fun h => ?_) (fun h => ?_))
      all_goals first
        | (rw [ht]; simp_all [inR, laneOk]; done)
        | (rw [ht]; simp only [laneOk]; grind [inR])
        | (refine hJ h1 ?_ _ (hdA [(0, 0)]); rw [ht]; simp_all [inR, laneOk])
        | skip
    · simp only [List.length_map, Int.toNat_natCast, List.getElem?_map, push_cast, ↓J1, ↓J2, N1, N2, N3, reduceCtorEq, N4, N5, N6, reduceIte, N7, I1, I2, I3]
      refine ifB_intro (fun h => by simp at h; omega) (fun h => ?_)
      refine ⟨_, t48 hC st 49 [] _ h2 rfl rfl fun n _ => t49 hC n, ?_⟩
      simp only [push_cast, ↓J1, ↓J2, N1, N2, N3, reduceCtorEq, N4, N5, N6, reduceIte, N7, I1, I2, I3]
      rw [ht, List.drop_eq_nil_of_le (by omega)]
      simp [List.all_eq_not_any_not]
end
end Go.Proofs.Ytiemjnkblggimaa.X
set_option maxHeartbeats 1000000
set_option maxRecDepth 8000
set_option linter.unusedSimpArgs false
set_option linter.unusedSectionVars false
set_option linter.unusedVariables false
open Nat renaming reduceBEq → N1, reduceAdd → N2, reduceSub → N3, reduceMul → N4, reduceEqDiff → N5, reduceLeDiff → N6, reduceLT → N7
open Int renaming reduceLE → I1, reduceLT → I2, reduceToNat → I3
namespace Go.Proofs.Ytiemjnkblggimaa.X
open Go
def Lanes.ow (L : Lanes) : AV := .agg [.int .i64 L.d, .ow 3 (lns L.ls), .ow 1 (ints L.st)]
def szL (n1 n2 : Nat) (v : Int) : Int := if v < n1 then -1 else if v - n1 < n2 then -1 else v - n1 - n2
theorem lns_length (l : List Ln) : (lns l).length = l.length := by simp [lns]
theorem frzLL_ints (l : List Int) : frzLL (ints l) = ints l := by
  unfold ints
  induction l with
  | nil => rfl
  | cons x l ih => simp only [List.map_cons, frzLL, frzL, frzT, ih]
theorem frzLL_lns (l : List Ln) : frzLL (lns l) = lns l := by
  unfold lns
  induction l with
  | nil => rfl
  | cons x l ih => simp only [List.map_cons, frzLL, lnA, frzL, frzT, ih]
theorem conR_ref {h : Heap} {k id sz len : Nat} {es : List (List AV)} (hg : hget h id = some (.slice sz es)) (hl : es.length = len) : conR k h (.ref id none sz 0 len) = some (.ow sz es, hdel h id) := by
  subst hl
  cases k <;> simp [conR, hg]
theorem own_lanes (L : Lanes) : ownR L.ow = true := by
  have e1 := own_lns L.ls
  have e2 := own_ints L.st
  simp only [ownR] at e1 e2
  simp only [Lanes.ow, ownR, ownRL, e1, e2, Bool.and_true]
section
variable {C : CT} (hC : Closed Try.prog G0 md0 C)
include hC
theorem t6 (L : Lanes) (v : Int) (hv : 0 ≤ v ∧ v < 2^50) (h1 : L.ls.length < 2^50) (h2 : L.st.length < 2^50) : Ev C 6 [L.av, .int .i64 v] (.int .i64 (szL L.ls.length L.st.length v)) := by
  obtain ⟨d, ls, st⟩ := L
  simp only [Lanes.av] at *
  refine rT hC Q6 ?_
  simp only [c6, push_cast, ↓J1, ↓J2, N1, N2, N3, reduceCtorEq, N4, N5, N6, reduceIte, N7, I1, I2, I3]
  refine ⟨_, t23 hC _ _ (by omega) (by rw [lns_length]; exact h1), ?_⟩
  simp only [lns_length, push_cast, ↓J1, ↓J2, N1, N2, N3, reduceCtorEq, N4, N5, N6, reduceIte, N7, I1, I2, I3]
  refine ifB_intro (fun h => ?_) (fun h => ?_)
  · simp only [szL]; grind
  · have h0 : ¬ v < ls.length := by intro hh; simp [hh] at h
    simp only [h0, if_false] at h ⊢
    refine ⟨_, t24 hC _ _ (by omega) (by rw [ints_length]; exact h2), ?_⟩
    simp only [ints_length, push_cast, ↓J1, ↓J2, N1, N2, N3, reduceCtorEq, N4, N5, N6, reduceIte, N7, I1, I2, I3]
    refine ifB_intro (fun h => ?_) (fun h => ?_)
    · simp only [szL]; grind
    · simp only [szL]; grind
theorem t8 (L : Lanes) (h1 : L.ls.length < 2^30) (h2 : L.st.length < 2^30) : Ev C 8 [L.av] L.ow := by
  obtain ⟨d, ls, st⟩ := L
  simp only [Lanes.av] at *
  refine rT hC Q8 ?_ (own_lanes ⟨d, ls, st⟩)
  simp only [c8, push_cast, ↓J1, ↓J2, N1, N2, N3, reduceCtorEq, N4, N5, N6, reduceIte, N7, I1, I2, I3]
  refine ⟨_, t28 hC _ h1, ?_⟩
  simp only [push_cast, ↓J1, ↓J2, N1, N2, N3, reduceCtorEq, N4, N5, N6, reduceIte, N7, I1, I2, I3]
  refine ⟨_, t29 hC _ h2, ?_⟩
  simp only [push_cast, ↓J1, ↓J2, N1, N2, N3, reduceCtorEq, N4, N5, N6, reduceIte, N7, I1, I2, I3]
  simp only [Lanes.ow]
  exact rtA
theorem t10 (L M : Lanes) (h1 : L.ls.length < 2^50) (h2 : L.st.length < 2^50) (h3 : M.ls.length < 2^50) (h4 : M.st.length < 2^50) : Ev C 10 [L.av, M.av] (.bool (decide (L.d = M.d) && decide (L.ls = M.ls) && (L.st == M.st))) := by
  obtain ⟨d, ls, st⟩ := L
  obtain ⟨d', ls', st'⟩ := M
  simp only [Lanes.av] at *
  refine rT hC Q10 ?_
  simp only [c10, push_cast, ↓J1, ↓J2, N1, N2, N3, reduceCtorEq, N4, N5, N6, reduceIte, N7, I1, I2, I3]
  repeat' (first
    | simp only [push_cast, ↓J1, ↓J2, N1, N2, N3, reduceCtorEq, N4, N5, N6, reduceIte, N7, I1, I2, I3]
    | refine ⟨_, t33 hC _ _ h1 h3, ?_⟩
    | refine ⟨_, t15 hC _ _ h2 h4, ?_⟩
    | refine ifB_intro (fun h => ?_) (fun h => ?_))
  all_goals simp_all
end
end Go.Proofs.Ytiemjnkblggimaa.X
set_option maxHeartbeats 4000000
set_option maxRecDepth 8000
set_option linter.unusedSimpArgs false
set_option linter.unusedVariables false
open Nat renaming reduceBEq → N1, reduceAdd → N2, reduceSub → N3, reduceMul → N4, reduceEqDiff → N5, reduceLeDiff → N6, reduceLT → N7
open Int renaming reduceLE → I1, reduceLT → I2, reduceToNat → I3
namespace Go.Proofs.Ytiemjnkblggimaa.X
open Go
attribute [local irreducible] Ev
def ncT (x : AV) (K : AV → Prop) : Prop :=
  match x with
  | .ptr id sub sz i c => K (.ptr id sub sz i c)
  | .pf cs => K (.pf cs)
  | _ => False
theorem p_nilc {P : Program} {G : Glo} {C : CT} {md : FuncId → Bool} {s : St} {K : AV → St → Prop} {x : Operand} : opK P G C md (.nilCheck x) s K = ncT (ev G s x) (fun v => K v s) := by
  simp only [opK, ncT]
  cases ev G s x <;> rfl
theorem nc_ptr {id : Nat} {sub : Option (Nat × Nat × Nat)} {sz i c : Nat} {K : AV → Prop} : ncT (.ptr id sub sz i c) K = K (.ptr id sub sz i c) := _root_.id rfl
attribute [push_cast] p_nilc nc_ptr
theorem cut_ints_get {v : List Int} {k : Nat} (h : k < v.length) : (ints v)[k]? = some [.int .i64 (v.getD k 0)] := by
  simp [ints, List.getD, h]
theorem ev_pnil {G : Glo} {s : St} : ev G s (.const (.pointer none)) = .con (.pointer none) := _root_.id rfl
attribute [push_cast] ev_pnil
structure Arc where
  f : Int
  t : Int
  m : Int
def ar4 (l : List Arc) : List (List AV) := l.map fun a => [.int .i64 a.f, .int .i64 a.t, .int .i64 a.m, .int .i64 0]
def ar5 (l : List Arc) : List (List AV) := l.map fun a => [.int .i64 a.f, .int .i64 a.t, .int .i64 a.m, .int .i64 0, .bool false]
theorem ar4_length (l : List Arc) : (ar4 l).length = l.length := by simp [ar4]
theorem ar5_length (l : List Arc) : (ar5 l).length = l.length := by simp [ar5]
theorem ar4_snoc {l : List Arc} {a : Arc} : ar4 l ++ [[.int .i64 a.f, .int .i64 a.t, .int .i64 a.m, .int .i64 0]] = ar4 (l ++ [a]) := by simp [ar4]
theorem ar5_snoc {l : List Arc} {a : Arc} : ar5 l ++ [[.int .i64 a.f, .int .i64 a.t, .int .i64 a.m, .int .i64 0, .bool false]] = ar5 (l ++ [a]) := by simp [ar5]
theorem ar4_take {l : List Arc} : (ar4 l).take l.length = ar4 l := List.take_of_length_le (by rw [ar4_length]; omega)
theorem ar5_take {l : List Arc} : (ar5 l).take l.length = ar5 l := List.take_of_length_le (by rw [ar5_length]; omega)
theorem ar4_take1 {a : Arc} {r : List Arc} : (ar4 (a :: r)).take (r.length + 1) = ar4 (a :: r) := ar4_take (l := a :: r)
theorem ar5_take1 {a : Arc} {r : List Arc} : (ar5 (a :: r)).take (r.length + 1) = ar5 (a :: r) := ar5_take (l := a :: r)
theorem ar4_cells (l : List Arc) : allScs (ar4 l) = true := by
  unfold ar4
  induction l with
  | nil => rfl
  | cons x l ih => simp only [List.map_cons, allScs, allSc, isSc, Bool.and_true, Bool.true_and]; exact ih
theorem ar5_cells (l : List Arc) : allScs (ar5 l) = true := by
  unfold ar5
  induction l with
  | nil => rfl
  | cons x l ih => simp only [List.map_cons, allScs, allSc, isSc, Bool.and_true, Bool.true_and]; exact ih
theorem own_ar4 (l : List Arc) : ownRLL (ar4 l) = true := by
  unfold ar4
  induction l with
  | nil => rfl
  | cons x l ih => simp only [List.map_cons, ownRLL, ownRL, ownR, Bool.and_true, Bool.true_and]; exact ih
theorem own_ar5 (l : List Arc) : ownRLL (ar5 l) = true := by
  unfold ar5
  induction l with
  | nil => rfl
  | cons x l ih => simp only [List.map_cons, ownRLL, ownRL, ownR, Bool.and_true, Bool.true_and]; exact ih
def laneArc (dep d : Int) (l : Ln) : Arc := ⟨d * dep + l.a, (d + 1) * dep + l.b, l.c⟩
def storeArc (F T B dep d : Int) (st : List Int) (k : Nat) : Arc := ⟨d * dep + k, (d + 1) * dep + k, if decide ((k : Int) = F) || decide ((k : Int) = T) then B else st.getD k 0⟩
def laneArcs (L : Lanes) (d : Nat) (k : Nat) : List Arc := (L.ls.take k).map (laneArc L.d d)
def storeArcs (F T B : Int) (L : Lanes) (d : Nat) (k : Nat) : List Arc := (List.range k).map (storeArc F T B L.d d L.st)
theorem laneArcs_succ {L : Lanes} {d k : Nat} (h : k < L.ls.length) : laneArcs L d (k + 1) = laneArcs L d k ++ [laneArc L.d d L.ls[k]] := by
  rw [laneArcs, List.take_succ_eq_append_getElem h, List.map_append]; rfl
theorem storeArcs_succ {F T B : Int} {L : Lanes} {d k : Nat} : storeArcs F T B L d (k + 1) = storeArcs F T B L d k ++ [storeArc F T B L.d d L.st k] := by
  rw [storeArcs, List.range_succ, List.map_append]; rfl
structure LOk (L : Lanes) : Prop where
  d : 2 ≤ L.d ∧ L.d ≤ 6
  n : L.ls.length ≤ 15
  s : (L.st.length : Int) = L.d
  st : ∀ k, k < L.st.length → 0 ≤ L.st.getD k 0 ∧ L.st.getD k 0 ≤ 1000
  ls : ∀ l ∈ L.ls, 0 ≤ l.a ∧ l.a ≤ 5 ∧ 0 ≤ l.b ∧ l.b ≤ 5 ∧ 0 ≤ l.c ∧ l.c ≤ 1000
theorem lanesOk_LOk {L : Lanes} (h : lanesOk L = true) : LOk L := by
  simp only [lanesOk, Bool.and_eq_true, decide_eq_true_eq, List.all_eq_true] at h
  obtain ⟨⟨⟨⟨h1, h2⟩, h3⟩, h4⟩, h5⟩ := h
  simp only [inR, Bool.and_eq_true, decide_eq_true_eq] at h1 h4
  refine ⟨h1, h2, h3, fun k hk => ?_, fun l hl => ?_⟩
  · have := h4 _ (List.getElem_mem hk)
    simpa [List.getD, hk] using this
  · have := h5 l hl
    simp only [laneOk, inR, Bool.and_eq_true, decide_eq_true_eq] at this
    omega
theorem mul_ok {d dep : Int} (hd : 0 ≤ d ∧ d ≤ 7) (h : 2 ≤ dep ∧ dep ≤ 6) : 0 ≤ d * dep ∧ d * dep ≤ 42 := ⟨Int.mul_nonneg hd.1 (by omega), by
  have := Int.mul_le_mul hd.2 h.2 (by omega) (by omega); omega⟩
def net4 (n : Nat) (V : List (Nat × AV)) (p : Int) (L0 : Ob) : List Arc → St
  | [] => ⟨tb n .any V, [(1, .var [.nil, .int .i64 p]), (0, L0)], 2⟩
  | a :: r => ⟨tb n .any V, [(2, .slice 4 (ar4 (a :: r))), (1, .var [.ref 2 none 4 0 (r.length + 1), .int .i64 p]), (0, L0)], 3⟩
theorem net4_snoc {n : Nat} {V : List (Nat × AV)} {p : Int} {L0 : Ob} {l : List Arc} {a : Arc} : net4 n V p L0 (l ++ [a]) = ⟨tb n .any V, [(2, .slice 4 (ar4 (l ++ [a]))), (1, .var [.ref 2 none 4 0 (l.length + 1), .int .i64 p]), (0, L0)], 3⟩ := by
  cases l with
  | nil => rfl
  | cons x l => simp only [List.cons_append, net4, List.length_append, List.length_cons, List.length_nil]
def net5 (n : Nat) (V : List (Nat × AV)) (p : Int) (L0 : Ob) : List Arc → St
  | [] => ⟨tb n .any V, [(1, .var [.int .i64 p, .nil]), (0, L0)], 2⟩
  | a :: r => ⟨tb n .any V, [(2, .slice 5 (ar5 (a :: r))), (1, .var [.int .i64 p, .ref 2 none 5 0 (r.length + 1)]), (0, L0)], 3⟩
theorem net5_snoc {n : Nat} {V : List (Nat × AV)} {p : Int} {L0 : Ob} {l : List Arc} {a : Arc} : net5 n V p L0 (l ++ [a]) = ⟨tb n .any V, [(2, .slice 5 (ar5 (l ++ [a]))), (1, .var [.int .i64 p, .ref 2 none 5 0 (l.length + 1)]), (0, L0)], 3⟩ := by
  cases l with
  | nil => rfl
  | cons x l => simp only [List.cons_append, net5, List.length_append, List.length_cons, List.length_nil]
def arcsS (F T B : Int) (L : Lanes) : Nat → List Arc
  | 0 => []
  | d + 1 => arcsS F T B L d ++ laneArcs L d L.ls.length ++ storeArcs F T B L d L.st.length
def arcsL (L : Lanes) : Nat → List Arc
  | 0 => []
  | d + 1 => arcsL L d ++ laneArcs L d L.ls.length
def arcsT (F T B : Int) (L : Lanes) : Nat → List Arc
  | 0 => []
  | d + 1 => arcsT F T B L d ++ storeArcs F T B L d L.st.length
theorem laneArcs_len (L : Lanes) (d k : Nat) : (laneArcs L d k).length ≤ L.ls.length := by simp [laneArcs]; omega
theorem storeArcs_len {F T B : Int} (L : Lanes) (d k : Nat) : (storeArcs F T B L d k).length = k := by simp [storeArcs]
theorem arcsS_len {F T B : Int} {L : Lanes} (h : LOk L) : ∀ d, (arcsS F T B L d).length ≤ 21 * d
  | 0 => by simp [arcsS]
  | d + 1 => by
    have := arcsS_len (F := F) (T := T) (B := B) h d
    have h1 := laneArcs_len L d L.ls.length
    have h2 := storeArcs_len (F := F) (T := T) (B := B) L d L.st.length
    have := h.n; have := h.s; have := h.d
    simp only [arcsS, List.length_append]; omega
section
variable {C : CT} (hC : Closed Try.prog G0 md0 C)
include hC

theorem t54 (L : Lanes) (F T : Int) (D : Nat) (hD : D ≤ 6) (hL : LOk L) : Ev C 54 [L.av, .int .i64 F, .int .i64 T, .int .i64 D] (.op [.ow 4 (ar4 (arcsS F T 1000000 L D)), .int .i64 (((D : Int) + 1) * L.d)]) := by
  have hd := hL.d
  have hdD := mul_ok (d := (D : Int) + 1) ⟨by omega, by omega⟩ hd
  simp only [Lanes.av]
  refine rT hC Q54 ?_ (by simp only [ownR, ownRL, own_ar4, Bool.and_true])
  simp only [c54, push_cast, ↓J1, ↓J2, N1, N2, N3, reduceCtorEq, N4, N5, N6, reduceIte, N7, I1, I2, I3]
  rw [wrap64 (n := (D : Int) + 1) (by omega) (by omega), wrap64 (by omega) (by omega)]
  generalize ((D : Int) + 1) * L.d = P0
  refine RL_count (fun d => net4 101 [(1, .int .i64 F), (2, .int .i64 T), (3, .int .i64 (D : Int)), (4, .ptr 0 none 0 0 0), (9, .ptr 1 none 0 0 0), (10, .int .i64 (d : Int))] P0 (.var [.int .i64 L.d, .sl (lns L.ls), .sl (ints L.st)]) (arcsS F T 1000000 L d)) (fun _ => True) D 0 (by rw [show arcsS F T 1000000 L 0 = [] from rfl]; exact (hdA [(1, 1), (0, 0)])) (by omega) trivial fun d hdl _ J hJ => ?_
  by_cases hdD2 : d < D
  · have hm0 := mul_ok (d := (d : Int)) ⟨by omega, by omega⟩ hd
    have hm1 := mul_ok (d := (d : Int) + 1) ⟨by omega, by omega⟩ hd
    have w1 : IntKind.i64.wrap ((d : Int) * L.d) = (d : Int) * L.d := wrap64 (by omega) (by omega)
    have w2 : IntKind.i64.wrap ((d : Int) + 1) = (d : Int) + 1 := wrap64 (by omega) (by omega)
    have w3 : IntKind.i64.wrap (((d : Int) + 1) * L.d) = ((d : Int) + 1) * L.d := wrap64 (by omega) (by omega)
    have hal := arcsS_len (F := F) (T := T) (B := 1000000) hL d
    have hn15 := hL.n
    have hsn := hL.s
    rcases hA : arcsS F T 1000000 L d with _ | ⟨a, r0⟩
    all_goals
      simp only [net4, decide_false, w1, w2, w3, lns_length, ints_length, ar4_take1, ar4_length, ar4_cells, push_cast, ↓J1, ↓J2, N1, N2, N3, reduceCtorEq, N4, N5, N6, reduceIte, N7, I1, I2, I3]
      refine ifB_intro (fun _ => ?_) (fun h => by simp at h; omega)
      refine RL_count (fun k => net4 101 [(1, .int .i64 F), (2, .int .i64 T), (3, .int .i64 (D : Int)), (4, .ptr 0 none 0 0 0), (9, .ptr 1 none 0 0 0), (10, .int .i64 (d : Int)), (11, .int .i64 ((d : Int) * L.d)), (12, .int .i64 (((d : Int) + 1) * L.d)), (39, .sl (lns L.ls)), (40, .int .i64 (L.ls.length : Int)), (41, .int .i64 (k : Int))] P0 (.var [.int .i64 L.d, .sl (lns L.ls), .sl (ints L.st)]) (arcsS F T 1000000 L d ++ laneArcs L d k)) (fun _ => True) L.ls.length 0 (by rw [show laneArcs L d 0 = [] from rfl, List.append_nil, hA]; (first | exact head_tb [(1, 1), (0, 0)] rfl (by simp only [keptV_cons, keptV_nil, tb_get, lk_same, lk_ne, lk_nil, ren, renL, lkp, N7, N1, N5, reduceIte, and_true, true_and, Nat.not_lt_zero, if_false, if_true, Nat.add_zero, Nat.zero_add]; (try rw [wrap64 (by omega) (by omega)]); (first | done | (simp; done) | (and_intros <;> rfl))) (by simp only [net4, canR, canB, renO, renL, ren, lkp, hget, N7, N5, Nat.not_lt_zero, if_false, if_true, reduceIte, List.append_nil, List.nil_append]; (first | done | rfl | (rw [← ar4_snoc]; rfl))) | exact head_tb [(2, 2), (1, 1), (0, 0)] rfl (by simp only [keptV_cons, keptV_nil, tb_get, lk_same, lk_ne, lk_nil, ren, renL, lkp, N7, N1, N5, reduceIte, and_true, true_and, Nat.not_lt_zero, if_false, if_true, Nat.add_zero, Nat.zero_add]; (try rw [wrap64 (by omega) (by omega)]); (first | done | (simp; done) | (and_intros <;> rfl))) (by simp only [net4, canR, canB, renO, renL, ren, lkp, hget, N7, N5, Nat.not_lt_zero, if_false, if_true, reduceIte, List.append_nil, List.nil_append]; (first | done | rfl | (rw [← ar4_snoc]; rfl))))) (by omega) trivial fun k hk _ Jx1 hJx1 => ?_
      have hkl : (arcsS F T 1000000 L d ++ laneArcs L d k).length ≤ 1000 := by
        have h1 := laneArcs_len L d k
        have := hL.n
        simp only [List.length_append]; omega
      by_cases h1 : k < L.ls.length
      · have hlk := hL.ls _ (List.getElem_mem h1)
        have w4 : IntKind.i64.wrap ((d : Int) * L.d + L.ls[k].a) = (d : Int) * L.d + L.ls[k].a := wrap64 (by omega) (by omega)
        have w5 : IntKind.i64.wrap (((d : Int) + 1) * L.d + L.ls[k].b) = ((d : Int) + 1) * L.d + L.ls[k].b := wrap64 (by omega) (by omega)
        have e1 : (lns L.ls)[k]? = some [.int .i64 L.ls[k].a, .int .i64 L.ls[k].b, .int .i64 L.ls[k].c] := by simp [lns, lnA, h1]
        rcases hB : arcsS F T 1000000 L d ++ laneArcs L d k with _ | ⟨b, r⟩
        all_goals
          rw [hB] at hkl
          simp only [List.length_cons, List.length_nil] at hkl
          simp only [net4, Int.toNat_natCast, e1, w4, w5, decide_false, w1, w2, w3, lns_length, ints_length, ar4_take1, ar4_length, ar4_cells, push_cast, ↓J1, ↓J2, N1, N2, N3, reduceCtorEq, N4, N5, N6, reduceIte, N7, I1, I2, I3]
          refine ifB_intro (fun _ => ?_) (fun h => by simp at h; omega)
          repeat (refine ⟨by omega, ?_⟩)
          refine hJx1 h1 trivial _ ?_
          rw [laneArcs_succ h1, ← List.append_assoc, hB, net4_snoc]
          (first | exact head_tb [(4, 2), (1, 1), (0, 0)] rfl (by simp only [keptV_cons, keptV_nil, tb_get, lk_same, lk_ne, lk_nil, ren, renL, lkp, N7, N1, N5, reduceIte, and_true, true_and, Nat.not_lt_zero, if_false, if_true, Nat.add_zero, Nat.zero_add]; (try rw [wrap64 (n := (k : Int) + 1) (by omega) (by omega)]); (first | done | (simp; done) | (and_intros <;> rfl))) (by simp only [net4, canR, canB, renO, renL, ren, lkp, hget, N7, N5, Nat.not_lt_zero, if_false, if_true, reduceIte, List.append_nil, List.nil_append]; (first | done | rfl | (rw [← ar4_snoc]; rfl))) | exact head_tb [(5, 2), (1, 1), (0, 0)] rfl (by simp only [keptV_cons, keptV_nil, tb_get, lk_same, lk_ne, lk_nil, ren, renL, lkp, N7, N1, N5, reduceIte, and_true, true_and, Nat.not_lt_zero, if_false, if_true, Nat.add_zero, Nat.zero_add]; (try rw [wrap64 (n := (k : Int) + 1) (by omega) (by omega)]); (first | done | (simp; done) | (and_intros <;> rfl))) (by simp only [net4, canR, canB, renO, renL, ren, lkp, hget, N7, N5, Nat.not_lt_zero, if_false, if_true, reduceIte, List.append_nil, List.nil_append]; (first | done | rfl | (rw [← ar4_snoc]; rfl))))
      · obtain rfl : k = L.ls.length := by omega
        rcases hB : arcsS F T 1000000 L d ++ laneArcs L d L.ls.length with _ | ⟨b, r⟩
        all_goals
          simp only [net4, decide_false, w1, w2, w3, lns_length, ints_length, ar4_take1, ar4_length, ar4_cells, push_cast, ↓J1, ↓J2, N1, N2, N3, reduceCtorEq, N4, N5, N6, reduceIte, N7, I1, I2, I3]
          refine ifB_intro (fun h => by simp at h) (fun h => ?_)
          refine RL_count (fun k => net4 101 [(1, .int .i64 F), (2, .int .i64 T), (3, .int .i64 (D : Int)), (4, .ptr 0 none 0 0 0), (9, .ptr 1 none 0 0 0), (10, .int .i64 (d : Int)), (11, .int .i64 ((d : Int) * L.d)), (12, .int .i64 (((d : Int) + 1) * L.d)), (67, .sl (ints L.st)), (68, .int .i64 (L.st.length : Int)), (69, .int .i64 (k : Int))] P0 (.var [.int .i64 L.d, .sl (lns L.ls), .sl (ints L.st)]) (arcsS F T 1000000 L d ++ laneArcs L d L.ls.length ++ storeArcs F T 1000000 L d k)) (fun _ => True) L.st.length 0 (by rw [show storeArcs F T 1000000 L d 0 = [] from rfl, List.append_nil, hB]; (first | exact head_tb [(1, 1), (0, 0)] rfl (by simp only [keptV_cons, keptV_nil, tb_get, lk_same, lk_ne, lk_nil, ren, renL, lkp, N7, N1, N5, reduceIte, and_true, true_and, Nat.not_lt_zero, if_false, if_true, Nat.add_zero, Nat.zero_add]; (try rw [wrap64 (by omega) (by omega)]); (first | done | (simp; done) | (and_intros <;> rfl))) (by simp only [net4, canR, canB, renO, renL, ren, lkp, hget, N7, N5, Nat.not_lt_zero, if_false, if_true, reduceIte, List.append_nil, List.nil_append]; (first | done | rfl | (rw [← ar4_snoc]; rfl))) | exact head_tb [(2, 2), (1, 1), (0, 0)] rfl (by simp only [keptV_cons, keptV_nil, tb_get, lk_same, lk_ne, lk_nil, ren, renL, lkp, N7, N1, N5, reduceIte, and_true, true_and, Nat.not_lt_zero, if_false, if_true, Nat.add_zero, Nat.zero_add]; (try rw [wrap64 (by omega) (by omega)]); (first | done | (simp; done) | (and_intros <;> rfl))) (by simp only [net4, canR, canB, renO, renL, ren, lkp, hget, N7, N5, Nat.not_lt_zero, if_false, if_true, reduceIte, List.append_nil, List.nil_append]; (first | done | rfl | (rw [← ar4_snoc]; rfl))))) (by omega) trivial fun k hk _ Jx2 hJx2 => ?_
          have hkl : (arcsS F T 1000000 L d ++ laneArcs L d L.ls.length ++ storeArcs F T 1000000 L d k).length ≤ 1000 := by
            have h1 := laneArcs_len L d L.ls.length
            have h2 := storeArcs_len (F := F) (T := T) (B := 1000000) L d k
            have := hL.n; have := hL.s
            simp only [List.length_append]; omega
          by_cases h2 : k < L.st.length
          · have hst := hL.st k h2
            have hs := hL.s
            have w4 : IntKind.i64.wrap ((d : Int) * L.d + k) = (d : Int) * L.d + k := wrap64 (by omega) (by omega)
            have w5 : IntKind.i64.wrap (((d : Int) + 1) * L.d + k) = ((d : Int) + 1) * L.d + k := wrap64 (by omega) (by omega)
            have e1 : (ints L.st)[k]? = some [.int .i64 (L.st.getD k 0)] := cut_ints_get h2
            rcases hC2 : arcsS F T 1000000 L d ++ laneArcs L d L.ls.length ++ storeArcs F T 1000000 L d k with _ | ⟨c, r2⟩
            all_goals
              rw [hC2] at hkl
              simp only [List.length_cons, List.length_nil] at hkl
              cases g1 : decide ((k : Int) = F) <;> cases g2 : decide ((k : Int) = T)
              all_goals
                have e9 : storeArc F T 1000000 L.d d L.st k = ⟨(d : Int) * L.d + k, ((d : Int) + 1) * L.d + k, if decide ((k : Int) = F) || decide ((k : Int) = T) then 1000000 else L.st.getD k 0⟩ := rfl
                simp only [g1, g2, Bool.or_self, Bool.or_true, Bool.true_or, Bool.or_false, Bool.false_or, Bool.false_eq_true, if_true, if_false] at e9
                simp only [net4, Int.toNat_natCast, e1, w4, w5, g1, g2, decide_false, w1, w2, w3, lns_length, ints_length, ar4_take1, ar4_length, ar4_cells, push_cast, ↓J1, ↓J2, N1, N2, N3, reduceCtorEq, N4, N5, N6, reduceIte, N7, I1, I2, I3]
                refine ifB_intro (fun _ => ?_) (fun h => by simp at h; omega)
                repeat (refine ⟨by omega, ?_⟩)
                refine hJx2 h2 trivial _ ?_
                rw [storeArcs_succ, e9, ← List.append_assoc, hC2, net4_snoc]
                (first | exact head_tb [(3, 2), (1, 1), (0, 0)] rfl (by simp only [keptV_cons, keptV_nil, tb_get, lk_same, lk_ne, lk_nil, ren, renL, lkp, N7, N1, N5, reduceIte, and_true, true_and, Nat.not_lt_zero, if_false, if_true, Nat.add_zero, Nat.zero_add]; (try rw [wrap64 (n := (k : Int) + 1) (by omega) (by omega)]); (first | done | (simp; done) | (and_intros <;> rfl))) (by simp only [net4, canR, canB, renO, renL, ren, lkp, hget, N7, N5, Nat.not_lt_zero, if_false, if_true, reduceIte, List.append_nil, List.nil_append]; (first | done | rfl | (rw [← ar4_snoc]; rfl))) | exact head_tb [(4, 2), (1, 1), (0, 0)] rfl (by simp only [keptV_cons, keptV_nil, tb_get, lk_same, lk_ne, lk_nil, ren, renL, lkp, N7, N1, N5, reduceIte, and_true, true_and, Nat.not_lt_zero, if_false, if_true, Nat.add_zero, Nat.zero_add]; (try rw [wrap64 (n := (k : Int) + 1) (by omega) (by omega)]); (first | done | (simp; done) | (and_intros <;> rfl))) (by simp only [net4, canR, canB, renO, renL, ren, lkp, hget, N7, N5, Nat.not_lt_zero, if_false, if_true, reduceIte, List.append_nil, List.nil_append]; (first | done | rfl | (rw [← ar4_snoc]; rfl))))
          · obtain rfl : k = L.st.length := by omega
            rcases hC2 : arcsS F T 1000000 L d ++ laneArcs L d L.ls.length ++ storeArcs F T 1000000 L d L.st.length with _ | ⟨c, r2⟩
            all_goals
              simp only [net4, push_cast, ↓J1, ↓J2, N1, N2, N3, reduceCtorEq, N4, N5, N6, reduceIte, N7, I1, I2, I3]
              refine ifB_intro (fun h => by simp at h) (fun h => ?_)
              refine hJ hdD2 trivial _ ?_
              rw [show arcsS F T 1000000 L (d + 1) = arcsS F T 1000000 L d ++ laneArcs L d L.ls.length ++ storeArcs F T 1000000 L d L.st.length from rfl, hC2]
              (first | exact head_tb [(1, 1), (0, 0)] rfl (by simp only [keptV_cons, keptV_nil, tb_get, lk_same, lk_ne, lk_nil, ren, renL, lkp, N7, N1, N5, reduceIte, and_true, true_and, Nat.not_lt_zero, if_false, if_true, Nat.add_zero, Nat.zero_add]; (try rw [wrap64 (n := (d : Int) + 1) (by omega) (by omega)]); (first | done | (simp; done) | (and_intros <;> rfl))) (by simp only [net4, canR, canB, renO, renL, ren, lkp, hget, N7, N5, Nat.not_lt_zero, if_false, if_true, reduceIte, List.append_nil, List.nil_append]; (first | done | rfl | (rw [← ar4_snoc]; rfl))) | exact head_tb [(2, 2), (1, 1), (0, 0)] rfl (by simp only [keptV_cons, keptV_nil, tb_get, lk_same, lk_ne, lk_nil, ren, renL, lkp, N7, N1, N5, reduceIte, and_true, true_and, Nat.not_lt_zero, if_false, if_true, Nat.add_zero, Nat.zero_add]; (try rw [wrap64 (n := (d : Int) + 1) (by omega) (by omega)]); (first | done | (simp; done) | (and_intros <;> rfl))) (by simp only [net4, canR, canB, renO, renL, ren, lkp, hget, N7, N5, Nat.not_lt_zero, if_false, if_true, reduceIte, List.append_nil, List.nil_append]; (first | done | rfl | (rw [← ar4_snoc]; rfl))))
  · obtain rfl : d = D := by omega
    rcases hA : arcsS F T 1000000 L d with _ | ⟨a, r0⟩
    · simp only [net4, push_cast, ↓J1, ↓J2, N1, N2, N3, reduceCtorEq, N4, N5, N6, reduceIte, N7, I1, I2, I3]
      refine ifB_intro (fun h => by simp at h) (fun h => ?_)
      exact ⟨.op [.nil, .int .i64 P0], _, by simp only [conR, conRL, isF, hget, hdel, if_true, if_false, reduceIte, Nat.reduceEqDiff, reduceCtorEq]; rfl, by simp [NilTo, NilToL, ar4]⟩
    · simp only [net4, push_cast, ↓J1, ↓J2, N1, N2, N3, reduceCtorEq, N4, N5, N6, reduceIte, N7, I1, I2, I3]
      refine ifB_intro (fun h => by simp at h) (fun h => ?_)
      exact RetTo_of (by simp only [conR, conRL, isF, hget, hdel, List.drop_zero, ar4_take1, if_true, if_false, reduceIte, Nat.reduceEqDiff, reduceCtorEq]; rfl)

end
end Go.Proofs.Ytiemjnkblggimaa.X
