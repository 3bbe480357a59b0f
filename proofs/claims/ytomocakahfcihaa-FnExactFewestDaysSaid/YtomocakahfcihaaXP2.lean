/- A part of the proof: lemmas on the machine or on the functions that the law reaches. No condition of its own. -/
import Derived.Test.YtomocakahfcihaaXP1
set_option linter.unusedVariables false
open Nat renaming reduceBEq → N1, reduceAdd → N2, reduceSub → N3, reduceMul → N4, reduceEqDiff → N5, reduceLeDiff → N6, reduceLT → N7
open Int renaming reduceLE → I1, reduceLT → I2, reduceToNat → I3
namespace Go.Proofs.Ytomocakahfcihaa.X
open Go
def dirs : List AV := [.int .i64 1, .int .i64 0, .int .i64 1, .int .i64 (-1), .int .i64 0, .int .i64 (-1), .int .i64 (-1), .int .i64 0, .int .i64 (-1), .int .i64 1, .int .i64 0, .int .i64 1]
def G1 : Glo := fun g => if g = 0 then some dirs else none
theorem ev_dirs {s : St} : ev G1 s (.global 0) = .pf dirs := _root_.id rfl
attribute [push_cast] ev_dirs
end Go.Proofs.Ytomocakahfcihaa.X
set_option maxHeartbeats 1000000
set_option maxRecDepth 8000
set_option linter.unusedSimpArgs false
set_option linter.unusedSectionVars false
set_option linter.unusedVariables false
open Nat renaming reduceBEq → N1, reduceAdd → N2, reduceSub → N3, reduceMul → N4, reduceEqDiff → N5, reduceLeDiff → N6, reduceLT → N7
open Int renaming reduceLE → I1, reduceLT → I2, reduceToNat → I3
namespace Go.Proofs.Ytomocakahfcihaa.X
open Go
def ints (l : List Int) : List (List AV) := l.map fun n => [.int .i64 n]
theorem own_ints (l : List Int) : ownR (.ow 1 (ints l)) = true := by
  simp only [ownR]
  unfold ints
  induction l with
  | nil => rfl
  | cons x l ih => simp only [List.map_cons, ownRLL, ownRL, ownR, Bool.and_true, Bool.true_and]; exact ih
section
variable {C : CT} (hC : Closed Try.prog G0 md0 C)
include hC
theorem t28 (a b c : Int) : Ev C 28 [.int .i64 a, .int .i64 b, .int .i64 c] (.bool (decide (b ≤ a) && decide (a ≤ c))) := by
  refine rT hC Q28 ?_
  simp only [c28, push_cast, ↓J1, ↓J2, N1, N2, N3, reduceCtorEq, N4, N5, N6, reduceIte, N7, I1, I2, I3]
  grind [ifB]
theorem t29 (a b c : Int) : Ev C 29 [.int .i64 a, .int .i64 b, .int .i64 c] (.bool (decide (b ≤ a) && decide (a ≤ c))) := by
  refine rT hC Q29 ?_
  simp only [c29, push_cast, ↓J1, ↓J2, N1, N2, N3, reduceCtorEq, N4, N5, N6, reduceIte, N7, I1, I2, I3]
  grind [ifB]
theorem t38 (a b : Int) (hb : -2^62 ≤ b ∧ b ≤ 2^62) : Ev C 38 [.int .i64 a, .int .i64 b] (.bool (decide (0 ≤ a) && decide (a ≤ b - 1))) := by
  refine rT hC Q38 ?_
  simp only [c38, push_cast, ↓J1, ↓J2, N1, N2, N3, reduceCtorEq, N4, N5, N6, reduceIte, N7, I1, I2, I3]
  refine ⟨_, t29 hC _ _ _, ?_⟩
  simp only [push_cast, ↓J1, ↓J2, N1, N2, N3, reduceCtorEq, N4, N5, N6, reduceIte, N7, I1, I2, I3]
  rw [wrap64 (by omega) (by omega)]
theorem t19 (es : List (List AV)) (v : Int) (hv : -1 ≤ v ∧ v < 2^50) (he : es.length < 2^50) : Ev C 19 [.sl es, .int .i64 v] (.int .i64 (if v < es.length then -1 else v - es.length)) := by
  refine rT hC Q19 ?_
  simp only [c19, push_cast, ↓J1, ↓J2, N1, N2, N3, reduceCtorEq, N4, N5, N6, reduceIte, N7, I1, I2, I3]
  rw [wrap64 (by omega) (by omega)]
  grind [ifB]
theorem t20 (es : List (List AV)) (v : Int) (hv : -1 ≤ v ∧ v < 2^50) (he : es.length < 2^50) : Ev C 20 [.sl es, .int .i64 v] (.int .i64 (if v < es.length then -1 else v - es.length)) := by
  refine rT hC Q20 ?_
  simp only [c20, push_cast, ↓J1, ↓J2, N1, N2, N3, reduceCtorEq, N4, N5, N6, reduceIte, N7, I1, I2, I3]
  rw [wrap64 (by omega) (by omega)]
  grind [ifB]
theorem t41 (a b c d e f : Int) : Ev C 41 [.agg [.int .i64 a, .int .i64 b, .int .i64 c], .agg [.int .i64 d, .int .i64 e, .int .i64 f]] (.bool (a == d && b == e && c == f)) := by
  refine rT hC Q41 ?_
  simp only [c41, push_cast, ↓J1, ↓J2, N1, N2, N3, reduceCtorEq, N4, N5, N6, reduceIte, N7, I1, I2, I3]

  grind [ifB]
theorem t15 (l m : List Int) (hl : l.length < 2^50) (hm : m.length < 2^50) : Ev C 15 [.sl (ints l), .sl (ints m)] (.bool (l == m)) := by
  refine rT hC Q15 ?_
  simp only [c15, ints, List.length_map, push_cast, ↓J1, ↓J2, N1, N2, N3, reduceCtorEq, N4, N5, N6, reduceIte, N7, I1, I2, I3]
  refine ifB_intro (fun h => ?_) (fun h => ?_)
  · have hlm : l.length = m.length := by simp at h; omega
    refine RL_count (fun i => ⟨tb 26 .any [(0, .sl (l.map fun n => [.int .i64 n])), (1, .sl (m.map fun n => [.int .i64 n])), (5, .int .i64 (i : Int))], [], 0⟩) (fun i => l.take i = m.take i) l.length 0 (hdA []) (by omega) rfl fun i hi ht J hJ => ?_
    by_cases h1 : i < l.length
    · have h2 : i < m.length := by omega
      simp only [List.length_map, Int.toNat_natCast, List.getElem?_map, List.getElem?_eq_getElem h1, List.getElem?_eq_getElem h2, push_cast, ↓J1, ↓J2, N1, N2, N3, reduceCtorEq, N4, N5, N6, reduceIte, N7, I1, I2, I3]
      refine ifB_intro (fun _ => ⟨by omega, by omega, ifB_intro (fun h => ?_) (fun h => ?_)⟩) (fun h => by simp at h; omega)
      · refine hJ h1 ?_ _ (hdA [])
        · rw [List.take_succ_eq_append_getElem h1, List.take_succ_eq_append_getElem h2, ht]
          have h' : l[i] = m[i] := by simpa using h
          rw [h']
      · have : ¬ l = m := by rintro rfl; simp at h
        simp [this]
    · simp only [List.length_map, Int.toNat_natCast, List.getElem?_map, push_cast, ↓J1, ↓J2, N1, N2, N3, reduceCtorEq, N4, N5, N6, reduceIte, N7, I1, I2, I3]
      refine ifB_intro (fun h => by simp at h; omega) (fun h => ?_)
      rw [List.take_of_length_le (by omega), List.take_of_length_le (by omega)] at ht
      simp [ht]
  · have : ¬ l = m := by rintro rfl; simp at h
    simp [this]
theorem t24 (l : List Int) (hl : l.length < 2^30) : Ev C 24 [.sl (ints l)] (.ow 1 (ints l)) := by
  refine rT hC Q24 ?_ (own_ints l)
  simp only [c24, ints, List.length_map, push_cast, ↓J1, ↓J2, N1, N2, N3, reduceCtorEq, N4, N5, N6, reduceIte, N7, I1, I2, I3]
  refine ⟨by omega, by omega, by omega, by omega, ?_⟩
  refine RL_count (fun i => ⟨tb 22 .any [(0, .sl (l.map fun n => [.int .i64 n])), (3, .ref 0 none 1 0 l.length), (4, .int .i64 (i : Int))], [(0, .slice 1 ((l.take i).map (fun n => [.int .i64 n]) ++ List.replicate (l.length - i) [.int .i64 0]))], 1⟩) (fun _ => True) l.length 0 (hdA [(0, 0)]) (by omega) trivial fun i hi _ J hJ => ?_
  by_cases h1 : i < l.length
  · rw [show l.length - i = (l.length - (i + 1)) + 1 by omega, List.replicate_succ]
    simp only [List.length_map, Int.toNat_natCast, List.getElem?_map, List.getElem?_eq_getElem h1, mid_get (show ((l.take i).map fun n => [AV.int .i64 n]).length = i by simp; omega), mid_set (show ((l.take i).map fun n => [AV.int .i64 n]).length = i by simp; omega), push_cast, ↓J1, ↓J2, N1, N2, N3, reduceCtorEq, N4, N5, N6, reduceIte, N7, I1, I2, I3]
    refine ifB_intro (fun _ => ⟨by omega, by omega, by omega, ?_⟩) (fun h => by simp at h; omega)
    refine hJ h1 trivial _ (hdA [(0, 0)] (hh := ?_))
    rw [List.take_succ_eq_append_getElem h1, List.map_append, List.append_assoc]
    simp only [canR, canB, renO, renL, ren, lkp, hget, N7, N5, Nat.not_lt_zero, if_false, if_true, reduceIte, List.append_nil, List.nil_append]
    rfl
  · simp only [List.length_map, Int.toNat_natCast, List.getElem?_map, push_cast, ↓J1, ↓J2, N1, N2, N3, reduceCtorEq, N4, N5, N6, reduceIte, N7, I1, I2, I3]
    refine ifB_intro (fun h => by simp at h; omega) (fun h => ?_)
    rw [List.take_of_length_le (by omega), show l.length - i = 0 by omega]
    exact RetTo_ow (by simp [hget]) (by simp)
end
end Go.Proofs.Ytomocakahfcihaa.X
set_option maxHeartbeats 1000000
set_option maxRecDepth 8000
set_option linter.unusedSimpArgs false
set_option linter.unusedSectionVars false
set_option linter.unusedVariables false
open Nat renaming reduceBEq → N1, reduceAdd → N2, reduceSub → N3, reduceMul → N4, reduceEqDiff → N5, reduceLeDiff → N6, reduceLT → N7
open Int renaming reduceLE → I1, reduceLT → I2, reduceToNat → I3
namespace Go.Proofs.Ytomocakahfcihaa.X
open Go
structure Ln where
  a : Int
  b : Int
  c : Int
  deriving DecidableEq
def lnA (p : Ln) : List AV := [.int .i64 p.a, .int .i64 p.b, .int .i64 p.c]
def lns (l : List Ln) : List (List AV) := l.map lnA
def inR (lo hi n : Int) : Bool := decide (lo ≤ n) && decide (n ≤ hi)
theorem own_lns (l : List Ln) : ownR (.ow 3 (lns l)) = true := by
  simp only [ownR]
  unfold lns
  induction l with
  | nil => rfl
  | cons x l ih => simp only [List.map_cons, lnA, ownRLL, ownRL, ownR, Bool.and_true, Bool.true_and]; exact ih
def fidx (p : Int → Bool) (l : List Int) : Int := if l.findIdx p < l.length then (l.findIdx p : Int) else -1
theorem fidx_at {p : Int → Bool} {l : List Int} {i : Nat} (h : i < l.length) (hp : p l[i] = true) (hn : ∀ j (h : j < l.length), j < i → p l[j] = false) : fidx p l = i := by
  have : l.findIdx p = i := (List.findIdx_eq h).2 ⟨hp, fun j hj => hn j (by omega) hj⟩
  simp [fidx, this, h]
theorem fidx_no {p : Int → Bool} {l : List Int} (hn : ∀ j (h : j < l.length), p l[j] = false) : fidx p l = -1 := by
  have : ¬ l.findIdx p < l.length := fun h => by
    have := hn _ h
    rw [List.findIdx_getElem (w := h)] at this
    cases this
  simp only [fidx, this, if_false]
theorem fidx_any (p : Int → Bool) (l : List Int) : decide (0 ≤ fidx p l) = l.any p := by
  by_cases h : l.findIdx p < l.length
  · have h1 : fidx p l = l.findIdx p := if_pos h
    have h2 : l.any p = true := by
      obtain ⟨x, hx, hp⟩ := List.findIdx_lt_length.1 h
      exact List.any_eq_true.2 ⟨x, hx, hp⟩
    rw [h1, h2]
    exact decide_eq_true (by omega)
  · have h1 : fidx p l = -1 := if_neg h
    have h2 : l.any p = false := by
      rw [List.any_eq_false]
      intro x hx hp
      exact h (List.findIdx_lt_length.2 ⟨x, hx, hp⟩)
    rw [h1, h2]
    rfl
theorem frzA_F {h : Heap} {k : Nat} {x : AV} (hx : isF x = true) : frzA h k x = some x := by
  cases x <;> simp [isF] at hx <;> cases k <;> simp [frzA, isF]
theorem frzAL_F {h : Heap} {k : Nat} : ∀ {xs : List AV}, allF xs = true → frzAL h k xs = some xs
  | [], _ => by cases k <;> simp [frzAL]
  | x :: xs, hx => by
    simp only [allF, Bool.and_eq_true] at hx
    cases k <;> simp [frzAL, frzA_F hx.1, frzAL_F hx.2]
theorem ren_F {B : Nat} {ρ : List (Nat × Nat)} {x : AV} (hx : isF x = true) : ren B ρ x = x := by
  cases x <;> simp [isF] at hx <;> simp [ren]
theorem renL_F {B : Nat} {ρ : List (Nat × Nat)} : ∀ {xs : List AV}, allF xs = true → renL B ρ xs = xs
  | [], _ => by simp [renL]
  | x :: xs, hx => by
    simp only [allF, Bool.and_eq_true] at hx
    simp [renL, ren_F hx.1, renL_F hx.2]
theorem frzOkL_F : ∀ {xs : List AV}, allF xs = true → frzOkL xs = true
  | [], _ => by simp [frzOkL]
  | x :: xs, hx => by
    simp only [allF, Bool.and_eq_true] at hx
    simp only [frzOkL, frzOkL_F hx.2, Bool.and_true]
    have := hx.1
    cases x <;> simp [isF] at this <;> simp [frzOk]
section
variable {C : CT} (hC : Closed Try.prog G0 md0 C)
include hC
theorem t36 (a b c : Int) : Ev C 36 [.agg [.int .i64 a, .int .i64 b, .int .i64 c]] (.agg [.int .i64 a, .int .i64 b, .int .i64 c]) := by
  refine rT hC Q36 ?_
  simp only [c36, push_cast, ↓J1, ↓J2, N1, N2, N3, reduceCtorEq, N4, N5, N6, reduceIte, N7, I1, I2, I3]
  exact rtA
theorem t45 (l : List Int) (lo hi : Int) (hl : l.length < 2^50) : Ev C 45 [.sl (ints l), .int .i64 lo, .int .i64 hi] (.bool (l.all (inR lo hi))) := by
  refine rT hC Q45 ?_
  simp only [c45, ints, List.length_map, push_cast, ↓J1, ↓J2, N1, N2, N3, reduceCtorEq, N4, N5, N6, reduceIte, N7, I1, I2, I3]
  refine RL_count (fun i => ⟨tb 21 .any [(1, .int .i64 lo), (2, .int .i64 hi), (9, .sl (l.map fun n => [.int .i64 n])), (10, .int .i64 (l.length : Int)), (11, .int .i64 (i : Int))], [], 0⟩) (fun i => l.all (inR lo hi) = (l.drop i).all (inR lo hi)) l.length 0 (hdA []) (by omega) rfl fun i hi' ht J hJ => ?_
  by_cases h1 : i < l.length
  · simp only [List.length_map, Int.toNat_natCast, List.getElem?_map, List.getElem?_eq_getElem h1, push_cast, ↓J1, ↓J2, N1, N2, N3, reduceCtorEq, N4, N5, N6, reduceIte, N7, I1, I2, I3]
    refine ifB_intro (fun _ => ⟨by omega, _, t28 hC _ _ _, ?_⟩) (fun h => by simp at h; omega)
    rw [List.drop_eq_getElem_cons h1, List.all_cons] at ht
    simp only [push_cast, ↓J1, ↓J2, N1, N2, N3, reduceCtorEq, N4, N5, N6, reduceIte, N7, I1, I2, I3]
    refine ifB_intro (fun h => ?_) (fun h => ?_)
    · refine hJ h1 ?_ _ (hdA [])
      · rw [ht]; simp only [inR] at h ⊢; rw [h]; rfl
    · rw [ht]; simp only [inR] at h ⊢; rw [h]; rfl
  · simp only [List.length_map, Int.toNat_natCast, List.getElem?_map, push_cast, ↓J1, ↓J2, N1, N2, N3, reduceCtorEq, N4, N5, N6, reduceIte, N7, I1, I2, I3]
    refine ifB_intro (fun h => by simp at h; omega) (fun h => ?_)
    rw [ht, List.drop_eq_nil_of_le (by omega)]
    rfl
theorem t23 (l : List Ln) (hl : l.length < 2^30) : Ev C 23 [.sl (lns l)] (.ow 3 (lns l)) := by
  refine rT hC Q23 ?_ (own_lns l)
  simp only [c23, lns, List.length_map, push_cast, ↓J1, ↓J2, N1, N2, N3, reduceCtorEq, N4, N5, N6, reduceIte, N7, I1, I2, I3]
  refine ⟨by omega, by omega, by omega, by omega, ?_⟩
  refine RL_count (fun i => ⟨tb 23 .any [(0, .sl (l.map lnA)), (3, .ref 0 none 3 0 l.length), (4, .int .i64 (i : Int))], [(0, .slice 3 ((l.take i).map lnA ++ List.replicate (l.length - i) [.int .i64 0, .int .i64 0, .int .i64 0]))], 1⟩) (fun _ => True) l.length 0 (hdA [(0, 0)]) (by omega) trivial fun i hi _ J hJ => ?_
  by_cases h1 : i < l.length
  · rw [show l.length - i = (l.length - (i + 1)) + 1 by omega, List.replicate_succ]
    simp only [List.length_map, Int.toNat_natCast, List.getElem?_map, List.getElem?_eq_getElem h1, lnA, push_cast, ↓J1, ↓J2, N1, N2, N3, reduceCtorEq, N4, N5, N6, reduceIte, N7, I1, I2, I3]
    refine ifB_intro (fun _ => ⟨by omega, _, t36 hC _ _ _, ?_⟩) (fun h => by simp at h; omega)
    simp only [Int.toNat_natCast, mid_get (show ((l.take i).map lnA).length = i by simp; omega), mid_set (show ((l.take i).map lnA).length = i by simp; omega), push_cast, ↓J1, ↓J2, N1, N2, N3, reduceCtorEq, N4, N5, N6, reduceIte, N7, I1, I2, I3]
    refine ⟨by omega, by omega, ?_⟩
    refine hJ h1 trivial _ (hdA [(0, 0)] (hh := ?_))
    rw [List.take_succ_eq_append_getElem h1, List.map_append, List.append_assoc]
    simp only [canR, canB, renO, renL, ren, lkp, hget, N7, N5, Nat.not_lt_zero, if_false, if_true, reduceIte, List.append_nil, List.nil_append]
    rfl
  · simp only [List.length_map, Int.toNat_natCast, List.getElem?_map, push_cast, ↓J1, ↓J2, N1, N2, N3, reduceCtorEq, N4, N5, N6, reduceIte, N7, I1, I2, I3]
    refine ifB_intro (fun h => by simp at h; omega) (fun h => ?_)
    rw [List.take_of_length_le (by omega), show l.length - i = 0 by omega]
    exact RetTo_ow (by simp [hget]) (by simp)
theorem t27 (l m : List Ln) (hl : l.length < 2^50) (hm : m.length < 2^50) : Ev C 27 [.sl (lns l), .sl (lns m)] (.bool (decide (l = m))) := by
  refine rT hC Q27 ?_
  simp only [c27, lns, List.length_map, push_cast, ↓J1, ↓J2, N1, N2, N3, reduceCtorEq, N4, N5, N6, reduceIte, N7, I1, I2, I3]
  refine ifB_intro (fun h => ?_) (fun h => ?_)
  · have hlm : l.length = m.length := by simp at h; omega
    refine RL_count (fun i => ⟨tb 27 .any [(0, .sl (l.map lnA)), (1, .sl (m.map lnA)), (5, .int .i64 (i : Int))], [], 0⟩) (fun i => l.take i = m.take i) l.length 0 (hdA []) (by omega) rfl fun i hi ht J hJ => ?_
    by_cases h1 : i < l.length
    · have h2 : i < m.length := by omega
      simp only [List.length_map, Int.toNat_natCast, List.getElem?_map, List.getElem?_eq_getElem h1, List.getElem?_eq_getElem h2, lnA, push_cast, ↓J1, ↓J2, N1, N2, N3, reduceCtorEq, N4, N5, N6, reduceIte, N7, I1, I2, I3]
      refine ifB_intro (fun _ => ⟨by omega, by omega, _, t41 hC _ _ _ _ _ _, ?_⟩) (fun h => by simp at h; omega)
      simp only [push_cast, ↓J1, ↓J2, N1, N2, N3, reduceCtorEq, N4, N5, N6, reduceIte, N7, I1, I2, I3]
      refine ifB_intro (fun h => ?_) (fun h => ?_)
      · refine hJ h1 ?_ _ (hdA [])
        · rw [List.take_succ_eq_append_getElem h1, List.take_succ_eq_append_getElem h2, ht]
          have h' : l[i] = m[i] := by
            simp only [Bool.and_eq_true, beq_iff_eq] at h
            cases hp : l[i]; cases hq : m[i]; simp_all
          rw [h']
      · have : ¬ l = m := by rintro rfl; simp at h
        simp [this]
    · simp only [List.length_map, Int.toNat_natCast, List.getElem?_map, push_cast, ↓J1, ↓J2, N1, N2, N3, reduceCtorEq, N4, N5, N6, reduceIte, N7, I1, I2, I3]
      refine ifB_intro (fun h => by simp at h; omega) (fun h => ?_)
      rw [List.take_of_length_le (by omega), List.take_of_length_le (by omega)] at ht
      simp [ht]
  · have : ¬ l = m := by rintro rfl; simp at h
    simp [this]
theorem t48 (l : List Int) (f : FuncId) (caps : List AV) (p : Int → Bool) (hl : l.length < 2^50) (hm : md0 f = false) (hc : allF caps = true)
    (hp : ∀ n ∈ l, Ev C f (.int .i64 n :: caps) (.bool (p n))) : Ev C 48 [.sl (ints l), .fn f caps] (.int .i64 (fidx p l)) := by
  have hr : renL 0 [] caps = caps := renL_F hc
  refine rT hC Q48 ?_
  simp only [c48, ints, List.length_map, push_cast, ↓J1, ↓J2, N1, N2, N3, reduceCtorEq, N4, N5, N6, reduceIte, N7, I1, I2, I3]
  refine RL_count (fun i => ⟨tb 19 .any [(0, .sl (l.map fun n => [.int .i64 n])), (1, .fn f caps), (7, .int .i64 (l.length : Int)), (8, .int .i64 (i : Int))], [], 0⟩) (fun i => ∀ j (h : j < l.length), j < i → p l[j] = false) l.length 0 (hdA []) (by omega) (by intro j h h'; omega) fun i hi' ht J hJ => ?_
  by_cases h1 : i < l.length
  · simp only [List.length_map, Int.toNat_natCast, List.getElem?_map, List.getElem?_eq_getElem h1, hm, frzAL_F hc, frzOkL_F hc, push_cast, ↓J1, ↓J2, N1, N2, N3, reduceCtorEq, N4, N5, N6, reduceIte, N7, I1, I2, I3]
    refine ifB_intro (fun _ => ⟨by omega, _, hp _ (List.getElem_mem h1), ?_⟩) (fun h => by simp at h; omega)
    simp only [push_cast, ↓J1, ↓J2, N1, N2, N3, reduceCtorEq, N4, N5, N6, reduceIte, N7, I1, I2, I3]
    refine ifB_intro (fun h => ?_) (fun h => ?_)
    · exact (fidx_at h1 h ht).symm
    · refine hJ h1 ?_ _ (hdA [])
      · intro j hj hji
        by_cases hij : j = i
        · subst hij; exact h
        · exact ht j hj (by omega)
  · simp only [List.length_map, Int.toNat_natCast, List.getElem?_map, hm, push_cast, ↓J1, ↓J2, N1, N2, N3, reduceCtorEq, N4, N5, N6, reduceIte, N7, I1, I2, I3]
    refine ifB_intro (fun h => by simp at h; omega) (fun h => ?_)
    exact (fidx_no fun j hj => ht j hj (by omega)).symm
theorem t46 (l : List Int) (f : FuncId) (caps : List AV) (p : Int → Bool) (hl : l.length < 2^50) (hm : md0 f = false) (hc : allF caps = true)
    (hp : ∀ n ∈ l, Ev C f (.int .i64 n :: caps) (.bool (p n))) : Ev C 46 [.sl (ints l), .fn f caps] (.bool (l.any p)) := by
  refine rT hC Q46 ?_
  simp only [c46, push_cast, ↓J1, ↓J2, N1, N2, N3, reduceCtorEq, N4, N5, N6, reduceIte, N7, I1, I2, I3]
  simp only [frzAL_F hc, frzOkL_F hc, push_cast, ↓J1, ↓J2, N1, N2, N3, reduceCtorEq, N4, N5, N6, reduceIte, N7, I1, I2, I3]
  refine ⟨_, t48 hC l f caps p hl hm hc hp, ?_⟩
  simp only [push_cast, ↓J1, ↓J2, N1, N2, N3, reduceCtorEq, N4, N5, N6, reduceIte, N7, I1, I2, I3]
  exact fidx_any p l
theorem t47 (n : Int) : Ev C 47 [.int .i64 n] (.bool (!inR 0 1000 n)) := by
  refine rT hC Q47 ?_
  simp only [c47, push_cast, ↓J1, ↓J2, N1, N2, N3, reduceCtorEq, N4, N5, N6, reduceIte, N7, I1, I2, I3]
  refine ⟨_, t29 hC _ _ _, ?_⟩
  simp only [push_cast, ↓J1, ↓J2, N1, N2, N3, reduceCtorEq, N4, N5, N6, reduceIte, N7, I1, I2, I3]
  rfl
end
end Go.Proofs.Ytomocakahfcihaa.X
set_option maxHeartbeats 1000000
set_option maxRecDepth 8000
set_option linter.unusedSimpArgs false
set_option linter.unusedSectionVars false
set_option linter.unusedVariables false
set_option pp.deepTerms false
set_option pp.deepTerms.threshold 4
open Nat renaming reduceBEq → N1, reduceAdd → N2, reduceSub → N3, reduceMul → N4, reduceEqDiff → N5, reduceLeDiff → N6, reduceLT → N7
open Int renaming reduceLE → I1, reduceLT → I2, reduceToNat → I3
namespace Go.Proofs.Ytomocakahfcihaa.X
open Go
structure Lanes where
  d : Int
  ls : List Ln
  st : List Int
def Lanes.av (L : Lanes) : AV := .agg [.int .i64 L.d, .sl (lns L.ls), .sl (ints L.st)]
def laneOk (d : Int) (p : Ln) : Bool := inR 0 (d - 1) p.a && inR 0 (d - 1) p.b && !decide (p.a = p.b) && inR 0 1000 p.c
def lanesOk (L : Lanes) : Bool := inR 2 6 L.d && decide (L.ls.length ≤ 15) && decide ((L.st.length : Int) = L.d) && L.st.all (inR 0 1000) && L.ls.all (laneOk L.d)
theorem ints_length (l : List Int) : (ints l).length = l.length := by simp [ints]
section
variable {C : CT} (hC : Closed Try.prog G0 md0 C)
include hC
theorem t35 (L : Lanes) (h1 : L.ls.length < 2^50) (h2 : L.st.length < 2^50) : Ev C 35 [L.av] (.bool (lanesOk L)) := by
  obtain ⟨d, ls, st⟩ := L
  simp only [Lanes.av, lanesOk] at *
  refine rT hC Q35 ?_
  simp only [c35, lns, List.length_map, push_cast, ↓J1, ↓J2, N1, N2, N3, reduceCtorEq, N4, N5, N6, reduceIte, N7, I1, I2, I3]
  repeat' (first
    | simp only [List.length_map, ints_length, push_cast, ↓J1, ↓J2, N1, N2, N3, reduceCtorEq, N4, N5, N6, reduceIte, N7, I1, I2, I3]
    | refine ⟨_, t28 hC _ _ _, ?_⟩
    | refine ⟨_, t45 hC st _ _ h2, ?_⟩
    | refine ifB_intro (fun h => ?_) (fun h => ?_))
  all_goals try (rw [ints_length] at *)
  all_goals try (first | (simp_all [inR]; done) | grind [inR]; done)
  · rename_i g1 g2 g3
    have g4 := h
    simp only [Bool.and_eq_true, decide_eq_true_eq] at g1
    have e0 : (inR 2 6 d && decide (ls.length ≤ 15) && decide ((st.length : Int) = d) && st.all (inR 0 1000) && ls.all (laneOk d)) = ls.all (laneOk d) := by
      simp [inR, g1, g4] at g2 g3 ⊢; intros; omega
    rw [e0]
    refine RL_count (fun i => ⟨tb 66 .any [(1, .ptr 0 none 0 0 0), (30, .sl (ls.map lnA)), (31, .int .i64 (ls.length : Int)), (32, .int .i64 (i : Int))], [(0, .var [.int .i64 d, .sl (ls.map lnA), .sl (ints st)])], 1⟩) (fun i => ls.all (laneOk d) = (ls.drop i).all (laneOk d)) ls.length 0 (hdA [(0, 0)]) (by omega) rfl fun i hi' ht J hJ => ?_
    by_cases h1 : i < ls.length
    · rw [List.drop_eq_getElem_cons h1, List.all_cons] at ht
      have hl : i < 2 ^ 50 := by omega
      simp only [List.length_map, Int.toNat_natCast, List.getElem?_map, List.getElem?_eq_getElem h1, lnA, push_cast, ↓J1, ↓J2, N1, N2, N3, reduceCtorEq, N4, N5, N6, reduceIte, N7, I1, I2, I3]
      refine ifB_intro (fun _ => ⟨by omega, ?_⟩) (fun h => by simp at h; omega)
      rw [wrap64 (by omega) (by omega)]
      repeat' (first
    | simp only [wrap64 (show -9223372036854775808 ≤ d - 1 by omega) (show d - 1 ≤ 9223372036854775807 by omega), push_cast, ↓J1, ↓J2, N1, N2, N3, reduceCtorEq, N4, N5, N6, reduceIte, N7, I1, I2, I3]
    | refine ⟨_, t28 hC _ _ _, ?_⟩
    | refine ifB_intro (fun h => ?_) (fun h => ?_))
      all_goals first
        | (rw [ht]; simp_all [inR, laneOk]; done)
        | (rw [ht]; simp only [laneOk]; grind [inR])
        | (refine hJ h1 ?_ _ (hdA [(0, 0)]); rw [ht]; simp_all [inR, laneOk])
        | skip
    · simp only [List.length_map, Int.toNat_natCast, List.getElem?_map, push_cast, ↓J1, ↓J2, N1, N2, N3, reduceCtorEq, N4, N5, N6, reduceIte, N7, I1, I2, I3]
      refine ifB_intro (fun h => by simp at h; omega) (fun h => ?_)
      rw [ht, List.drop_eq_nil_of_le (by omega)]
      rfl
theorem t37 (L : Lanes) (h1 : L.ls.length < 2^50) (h2 : L.st.length < 2^50) : Ev C 37 [L.av] (.bool (lanesOk L)) := by
  obtain ⟨d, ls, st⟩ := L
  simp only [Lanes.av, lanesOk] at *
  refine rT hC Q37 ?_
  simp only [c37, lns, List.length_map, push_cast, ↓J1, ↓J2, N1, N2, N3, reduceCtorEq, N4, N5, N6, reduceIte, N7, I1, I2, I3]
  repeat' (first
    | simp only [List.length_map, ints_length, push_cast, ↓J1, ↓J2, N1, N2, N3, reduceCtorEq, N4, N5, N6, reduceIte, N7, I1, I2, I3]
    | refine ⟨_, t29 hC _ _ _, ?_⟩
    | refine ifB_intro (fun h => ?_) (fun h => ?_))
  all_goals try (rw [ints_length] at *)
  all_goals try (first | (simp_all [inR]; done) | grind [inR]; done)
  · rename_i g1 g2
    have g3 := h
    simp only [Bool.and_eq_true, decide_eq_true_eq] at g1
    have e0 : (inR 2 6 d && decide (ls.length ≤ 15) && decide ((st.length : Int) = d) && st.all (inR 0 1000) && ls.all (laneOk d)) = (ls.all (laneOk d) && st.all (inR 0 1000)) := by
      have a1 : inR 2 6 d = true := by simp [inR, g1]
      have a2 : decide (ls.length ≤ 15) = true := by simp at g2 ⊢; omega
      rw [a1, a2, g3, Bool.true_and, Bool.true_and, Bool.true_and, Bool.and_comm]
    rw [e0]
    refine RL_count (fun i => ⟨tb 62 .any [(1, .ptr 0 none 0 0 0), (24, .sl (ls.map lnA)), (25, .int .i64 (ls.length : Int)), (26, .int .i64 (i : Int))], [(0, .var [.int .i64 d, .sl (ls.map lnA), .sl (ints st)])], 1⟩) (fun i => ls.all (laneOk d) = (ls.drop i).all (laneOk d)) ls.length 0 (hdA [(0, 0)]) (by omega) rfl fun i hi' ht J hJ => ?_
    by_cases h1 : i < ls.length
    · rw [List.drop_eq_getElem_cons h1, List.all_cons] at ht
      have hl : i < 2 ^ 50 := by omega
      simp only [List.length_map, Int.toNat_natCast, List.getElem?_map, List.getElem?_eq_getElem h1, lnA, push_cast, ↓J1, ↓J2, N1, N2, N3, reduceCtorEq, N4, N5, N6, reduceIte, N7, I1, I2, I3]
      refine ifB_intro (fun _ => ⟨by omega, ?_⟩) (fun h => by simp at h; omega)
      repeat' (first
    | simp only [push_cast, ↓J1, ↓J2, N1, N2, N3, reduceCtorEq, N4, N5, N6, reduceIte, N7, I1, I2, I3]
    | refine ⟨_, t38 hC _ _ (by omega), ?_⟩
    | refine ⟨_, t29 hC _ _ _, ?_⟩
    | refine ifB_intro (fun h => ?_) (fun h => ?_))
      all_goals first
        | (rw [ht]; simp_all [inR, laneOk]; done)
        | (rw [ht]; simp only [laneOk]; grind [inR])
        | (refine hJ h1 ?_ _ (hdA [(0, 0)]); rw [ht]; simp_all [inR, laneOk])
        | skip
    · simp only [List.length_map, Int.toNat_natCast, List.getElem?_map, push_cast, ↓J1, ↓J2, N1, N2, N3, reduceCtorEq, N4, N5, N6, reduceIte, N7, I1, I2, I3]
      refine ifB_intro (fun h => by simp at h; omega) (fun h => ?_)
      refine ⟨_, t46 hC st 47 [] _ h2 rfl rfl fun n _ => t47 hC n, ?_⟩
      simp only [push_cast, ↓J1, ↓J2, N1, N2, N3, reduceCtorEq, N4, N5, N6, reduceIte, N7, I1, I2, I3]
      rw [ht, List.drop_eq_nil_of_le (by omega)]
      simp [List.all_eq_not_any_not]
end
end Go.Proofs.Ytomocakahfcihaa.X
set_option maxHeartbeats 1000000
set_option maxRecDepth 8000
set_option linter.unusedSimpArgs false
set_option linter.unusedSectionVars false
set_option linter.unusedVariables false
open Nat renaming reduceBEq → N1, reduceAdd → N2, reduceSub → N3, reduceMul → N4, reduceEqDiff → N5, reduceLeDiff → N6, reduceLT → N7
open Int renaming reduceLE → I1, reduceLT → I2, reduceToNat → I3
namespace Go.Proofs.Ytomocakahfcihaa.X
open Go
def Lanes.ow (L : Lanes) : AV := .agg [.int .i64 L.d, .ow 3 (lns L.ls), .ow 1 (ints L.st)]
def szL (n1 n2 : Nat) (v : Int) : Int := if v < n1 then -1 else if v - n1 < n2 then -1 else v - n1 - n2
theorem lns_length (l : List Ln) : (lns l).length = l.length := by simp [lns]
theorem frzLL_ints (l : List Int) : frzLL (ints l) = ints l := by
  unfold ints
  induction l with
  | nil => rfl
  | cons x l ih => simp only [List.map_cons, frzLL, frzL, frzT, ih]
theorem frzLL_lns (l : List Ln) : frzLL (lns l) = lns l := by
  unfold lns
  induction l with
  | nil => rfl
  | cons x l ih => simp only [List.map_cons, frzLL, lnA, frzL, frzT, ih]
theorem conR_ref {h : Heap} {k id sz len : Nat} {es : List (List AV)} (hg : hget h id = some (.slice sz es)) (hl : es.length = len) : conR k h (.ref id none sz 0 len) = some (.ow sz es, hdel h id) := by
  subst hl
  cases k <;> simp [conR, hg]
theorem own_lanes (L : Lanes) : ownR L.ow = true := by
  have e1 := own_lns L.ls
  have e2 := own_ints L.st
  simp only [ownR] at e1 e2
  simp only [Lanes.ow, ownR, ownRL, e1, e2, Bool.and_true]
section
variable {C : CT} (hC : Closed Try.prog G0 md0 C)
include hC
theorem t6 (L : Lanes) (v : Int) (hv : 0 ≤ v ∧ v < 2^50) (h1 : L.ls.length < 2^50) (h2 : L.st.length < 2^50) : Ev C 6 [L.av, .int .i64 v] (.int .i64 (szL L.ls.length L.st.length v)) := by
  obtain ⟨d, ls, st⟩ := L
  simp only [Lanes.av] at *
  refine rT hC Q6 ?_
  simp only [c6, push_cast, ↓J1, ↓J2, N1, N2, N3, reduceCtorEq, N4, N5, N6, reduceIte, N7, I1, I2, I3]
  refine ⟨_, t19 hC _ _ (by omega) (by rw [lns_length]; exact h1), ?_⟩
  simp only [lns_length, push_cast, ↓J1, ↓J2, N1, N2, N3, reduceCtorEq, N4, N5, N6, reduceIte, N7, I1, I2, I3]
  refine ifB_intro (fun h => ?_) (fun h => ?_)
  · simp only [szL]; grind
  · have h0 : ¬ v < ls.length := by intro hh; simp [hh] at h
    simp only [h0, if_false] at h ⊢
    refine ⟨_, t20 hC _ _ (by omega) (by rw [ints_length]; exact h2), ?_⟩
    simp only [ints_length, push_cast, ↓J1, ↓J2, N1, N2, N3, reduceCtorEq, N4, N5, N6, reduceIte, N7, I1, I2, I3]
    refine ifB_intro (fun h => ?_) (fun h => ?_)
    · simp only [szL]; grind
    · simp only [szL]; grind
theorem t8 (L : Lanes) (h1 : L.ls.length < 2^30) (h2 : L.st.length < 2^30) : Ev C 8 [L.av] L.ow := by
  obtain ⟨d, ls, st⟩ := L
  simp only [Lanes.av] at *
  refine rT hC Q8 ?_ (own_lanes ⟨d, ls, st⟩)
  simp only [c8, push_cast, ↓J1, ↓J2, N1, N2, N3, reduceCtorEq, N4, N5, N6, reduceIte, N7, I1, I2, I3]
  refine ⟨_, t23 hC _ h1, ?_⟩
  simp only [push_cast, ↓J1, ↓J2, N1, N2, N3, reduceCtorEq, N4, N5, N6, reduceIte, N7, I1, I2, I3]
  refine ⟨_, t24 hC _ h2, ?_⟩
  simp only [push_cast, ↓J1, ↓J2, N1, N2, N3, reduceCtorEq, N4, N5, N6, reduceIte, N7, I1, I2, I3]
  simp only [Lanes.ow]
  exact rtA
theorem t10 (L M : Lanes) (h1 : L.ls.length < 2^50) (h2 : L.st.length < 2^50) (h3 : M.ls.length < 2^50) (h4 : M.st.length < 2^50) : Ev C 10 [L.av, M.av] (.bool (decide (L.d = M.d) && decide (L.ls = M.ls) && (L.st == M.st))) := by
  obtain ⟨d, ls, st⟩ := L
  obtain ⟨d', ls', st'⟩ := M
  simp only [Lanes.av] at *
  refine rT hC Q10 ?_
  simp only [c10, push_cast, ↓J1, ↓J2, N1, N2, N3, reduceCtorEq, N4, N5, N6, reduceIte, N7, I1, I2, I3]
  repeat' (first
    | simp only [push_cast, ↓J1, ↓J2, N1, N2, N3, reduceCtorEq, N4, N5, N6, reduceIte, N7, I1, I2, I3]
    | refine ⟨_, t27 hC _ _ h1 h3, ?_⟩
    | refine ⟨_, t15 hC _ _ h2 h4, ?_⟩
    | refine ifB_intro (fun h => ?_) (fun h => ?_))
  all_goals simp_all
end
end Go.Proofs.Ytomocakahfcihaa.X
set_option maxHeartbeats 1000000
set_option maxRecDepth 8000
set_option linter.unusedSimpArgs false
set_option linter.unusedSectionVars false
set_option linter.unusedVariables false
open Nat renaming reduceBEq → N1, reduceAdd → N2, reduceSub → N3, reduceMul → N4, reduceEqDiff → N5, reduceLeDiff → N6, reduceLT → N7
open Int renaming reduceLE → I1, reduceLT → I2, reduceToNat → I3
namespace Go.Proofs.Ytomocakahfcihaa.X
open Go
theorem has_lane {k : Nat} {xs : List AV} (h : Has Try.prog (k + 6) 63 xs) : ∃ p : Ln, xs = lnA p := by
  have h := has_struct sty_63 h
  obtain ⟨x1, r, rfl, _, h1, h⟩ := hasE_cons h
  obtain ⟨x2, r, rfl, _, h2, h⟩ := hasE_cons h
  obtain ⟨x3, r, rfl, _, h3, h⟩ := hasE_cons h
  obtain rfl := hasE_nil h
  obtain ⟨a, rfl, _⟩ := has_int tk_3 h1
  obtain ⟨b, rfl, _⟩ := has_int tk_3 h2
  obtain ⟨c, rfl, _⟩ := has_int tk_3 h3
  exact ⟨⟨a, b, c⟩, rfl⟩
theorem has_ints {k : Nat} {xs : List AV} (h : Has Try.prog (k + 2) 23 xs) : ∃ l, xs = [.sl (ints l)] ∧ l.length < 2 ^ 50 := by
  obtain ⟨es, rfl, _, hb, he⟩ := has_slice tk_23 h
  rw [bo_3] at hb
  obtain ⟨l, rfl⟩ := all_map (f := fun n : Int => [AV.int .i64 n]) (es := es) fun e hx => by
    obtain ⟨n, hn, _⟩ := has_int tk_3 (he e hx).2
    exact ⟨n, hn⟩
  simp only [reachBytes, List.length_map] at hb
  exact ⟨l, rfl, by omega⟩
theorem has_lanes {k : Nat} {xs : List AV} (h : Has Try.prog (k + 7) 22 xs) : ∃ l, xs = [.sl (lns l)] ∧ l.length < 2 ^ 50 := by
  obtain ⟨es, rfl, _, hb, he⟩ := has_slice tk_22 h
  rw [bo_63] at hb
  obtain ⟨l, rfl⟩ := all_map (f := lnA) (es := es) fun e hx => has_lane (he e hx).2
  simp only [reachBytes, List.length_map] at hb
  exact ⟨l, rfl, by omega⟩
end Go.Proofs.Ytomocakahfcihaa.X
