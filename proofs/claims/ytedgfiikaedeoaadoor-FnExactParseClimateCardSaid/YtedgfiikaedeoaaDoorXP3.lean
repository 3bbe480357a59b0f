/- A part of the proof: lemmas on the machine or on the functions that the law reaches. No condition of its own. -/
import Derived.Test.YtedgfiikaedeoaaDoorXM5
import Derived.Test.YtedgfiikaedeoaaDoorXP2
import Derived.Lib.SplitLaws
set_option maxHeartbeats 1000000
set_option maxRecDepth 8000
set_option linter.unusedSimpArgs false
set_option linter.unusedSectionVars false
set_option linter.unusedVariables false
open Nat renaming reduceBEq → N1, reduceAdd → N2, reduceSub → N3, reduceMul → N4, reduceEqDiff → N5, reduceLeDiff → N6, reduceLT → N7
open Int renaming reduceLE → I1, reduceLT → I2, reduceToNat → I3
namespace Go.Proofs.YtedgfiikaedeoaaDoor.X
open Go
variable {mx : Int} {ev1 ev2 : Value}
def intss (W : List (List Int)) : List (List AV) := W.map fun r => [.sl (ints r)]
def owss (W : List (List Int)) : List (List AV) := W.map fun r => [.ow 1 (ints r)]
theorem intss_length (W : List (List Int)) : (intss W).length = W.length := by simp [intss]
theorem owss_length (W : List (List Int)) : (owss W).length = W.length := by simp [owss]
theorem frzLL_owss (W : List (List Int)) : frzLL (owss W) = intss W := by
  unfold owss intss
  induction W with
  | nil => rfl
  | cons x l ih => simp only [List.map_cons, frzLL, frzL, frzT, frzLL_ints, ih]
theorem own_intss (W : List (List Int)) : ownR (.ow 1 (owss W)) = true := by
  simp only [ownR]
  unfold owss
  induction W with
  | nil => rfl
  | cons x l ih =>
    have e2 := own_ints x
    simp only [ownR] at e2
    simp only [List.map_cons, ownRLL, ownRL, ownR, e2, Bool.and_true, Bool.true_and]; exact ih
def lens (W : List (List Int)) : Nat := (W.map List.length).sum
def szRows : List (List Int) → Int → Int
  | [], v => v
  | r :: W, v => if v < r.length then -1 else szRows W (v - r.length)
def szSS (W : List (List Int)) (v : Int) : Int := if v < W.length then -1 else szRows W (v - W.length)
theorem szRows_le {B : Int} : ∀ (W : List (List Int)) (v : Int), 0 ≤ v → v ≤ B → 0 ≤ szRows W v → ∀ r ∈ W, (r.length : Int) ≤ B
  | [], v, _, _, _, r, hr => by simp at hr
  | s :: W, v, h0, hB, h, r, hr => by
    simp only [szRows] at h
    split at h
    · omega
    · rename_i hs
      rcases List.mem_cons.1 hr with rfl | hr
      · omega
      · exact szRows_le W (v - s.length) (by omega) (by omega) h r hr
theorem szSS_le {W : List (List Int)} {v : Int} (h0 : 0 ≤ v) (h : 0 ≤ szSS W v) : (W.length : Int) ≤ v ∧ ∀ r ∈ W, (r.length : Int) ≤ v := by
  simp only [szSS] at h
  split at h
  · omega
  · rename_i hs
    exact ⟨by omega, szRows_le W _ (by omega) (by omega) h⟩
theorem lens_succ {W : List (List Int)} {i : Nat} (h : i < W.length) : lens (W.take (i + 1)) = lens (W.take i) + W[i].length := by
  rw [lens, List.take_succ_eq_append_getElem h, List.map_append, List.sum_append]; simp only [lens, List.map_cons, List.map_nil, List.sum_cons, List.sum_nil, Nat.add_zero]
def sumW (r : List Int) : Int := r.foldl (fun a x => IntKind.i64.wrap (a + x)) 0
theorem sumW_succ {r : List Int} {i : Nat} (h : i < r.length) : sumW (r.take (i + 1)) = IntKind.i64.wrap (sumW (r.take i) + r[i]) := by
  rw [sumW, List.take_succ_eq_append_getElem h, List.foldl_append]; rfl
def rowOk (r : List Int) : Bool := decide (r.length = 3) && r.all (inR 0 36) && decide (sumW r = 36)
def goodW (W : List (List Int)) : Bool := decide (W.length = 3) && W.all rowOk
def clA (W : List (List Int)) : AV := .agg [.sl (intss W)]
def clO (W : List (List Int)) : AV := .agg [.ow 1 (owss W)]
theorem own_cl (W : List (List Int)) : ownR (clO W) = true := by
  have e1 := own_intss W
  simp only [ownR] at e1
  simp only [clO, ownR, ownRL, e1, Bool.and_true]
section
variable {C : CT} (hC : Closed Tryd.prog (Gp mx ev1 ev2) md0 C)
include hC
theorem t14 (W : List (List Int)) (v : Int) (hv : 0 ≤ v ∧ v < 2^50) (hW : W.length < 2^50) (hr : ∀ r ∈ W, r.length < 2^50) : Ev C 14 [.sl (intss W), .int .i64 v] (.int .i64 (szSS W v)) := by
  refine rT hC Q14 ?_
  simp only [c14, intss, List.length_map, push_cast, ↓J1, ↓J2, N1, N2, N3, reduceCtorEq, N4, N5, N6, reduceIte, N7, I1, I2, I3]
  rw [wrap64 (by omega) (by omega)]
  refine ifB_intro (fun h => ?_) (fun h => ?_)
  · simp only [szSS]; simp at h; rw [if_pos (by omega)]
  · simp only [decide_eq_false_iff_not, Int.not_lt] at h
    refine RL_count (fun i => ⟨tb 27 .any [(0, .sl (W.map fun r => [.sl (ints r)])), (1, .int .i64 (v - W.length - lens (W.take i))), (5, .int .i64 (i : Int))], [], 0⟩) (fun i => 0 ≤ v - W.length - lens (W.take i) ∧ szSS W v = szRows (W.drop i) (v - W.length - lens (W.take i))) W.length 0 (head_tb [] rfl (by simp only [keptV_cons, keptV_nil, tb_get, lk_same, lk_ne, lk_nil, ren, renL, lkp, N7, N1, N5, reduceIte, and_true, true_and, Nat.not_lt_zero, if_false, if_true, Nat.add_zero, Nat.zero_add]; simp [lens]) rfl) (by omega) (by simp [lens, szSS]; omega) fun i hi ⟨ht0, ht⟩ J hJ => ?_
    by_cases h1 : i < W.length
    · have hri := hr _ (List.getElem_mem h1)
      simp only [List.length_map, Int.toNat_natCast, List.getElem?_map, List.getElem?_eq_getElem h1, push_cast, ↓J1, ↓J2, N1, N2, N3, reduceCtorEq, N4, N5, N6, reduceIte, N7, I1, I2, I3]
      refine ifB_intro (fun _ => ⟨by omega, _, t27 hC _ _ (by omega) (by rw [ints_length]; exact hri), ?_⟩) (fun h => by simp at h; omega)
      rw [List.drop_eq_getElem_cons h1, szRows] at ht
      simp only [ints_length, push_cast, ↓J1, ↓J2, N1, N2, N3, reduceCtorEq, N4, N5, N6, reduceIte, N7, I1, I2, I3]
      refine ifB_intro (fun h => ?_) (fun h => ?_)
      · rw [ht]
        simp only [decide_eq_true_eq] at h
        split at h <;> rename_i hh
        · rw [if_pos hh]
        · omega
      · simp only [decide_eq_false_iff_not] at h
        have hh : ¬ (v - W.length - lens (W.take i) < W[i].length) := fun hh => h (by rw [if_pos hh]; omega)
        rw [if_neg hh] at ht
        have el : v - (W.length : Int) - lens (W.take (i + 1)) = v - W.length - lens (W.take i) - W[i].length := by
          rw [lens_succ h1]; omega
        refine hJ h1 ⟨by omega, by rw [el]; exact ht⟩ _ (hdA [] (hV := ?_))
        simp only [keptV_cons, keptV_nil, tb_get, lk_same, lk_ne, lk_nil, ren, renL, lkp, N7, N1, N5, reduceIte, and_true, true_and, Nat.not_lt_zero, if_false, if_true, Nat.add_zero, Nat.zero_add]
        rw [wrap64 (by omega) (by omega), if_neg hh, el]
        exact ⟨rfl, rfl⟩
    · simp only [List.length_map, Int.toNat_natCast, List.getElem?_map, push_cast, ↓J1, ↓J2, N1, N2, N3, reduceCtorEq, N4, N5, N6, reduceIte, N7, I1, I2, I3]
      refine ifB_intro (fun h => by simp at h; omega) (fun h => ?_)
      rw [ht, List.drop_eq_nil_of_le (by omega)]
      rfl
theorem t17 (W : List (List Int)) (hW : W.length < 2^30) (hr : ∀ r ∈ W, r.length < 2^30) : Ev C 17 [.sl (intss W)] (.ow 1 (owss W)) := by
  refine rT hC Q17 ?_ (own_intss W)
  simp only [c17, intss, List.length_map, push_cast, ↓J1, ↓J2, N1, N2, N3, reduceCtorEq, N4, N5, N6, reduceIte, N7, I1, I2, I3]
  refine ⟨by omega, by omega, by omega, by omega, ?_⟩
  refine RL_count (fun i => ⟨tb 23 .any [(0, .sl (W.map fun r => [.sl (ints r)])), (3, .ref 0 none 1 0 W.length), (4, .int .i64 (i : Int))], [(0, .slice 1 ((W.take i).map (fun r => [.ow 1 (ints r)]) ++ List.replicate (W.length - i) [.nil]))], 1⟩) (fun _ => True) W.length 0 (hdA [(0, 0)]) (by omega) trivial fun i hi _ J hJ => ?_
  by_cases h1 : i < W.length
  · rw [show W.length - i = (W.length - (i + 1)) + 1 by omega, List.replicate_succ]
    simp only [List.length_map, Int.toNat_natCast, List.getElem?_map, List.getElem?_eq_getElem h1, push_cast, ↓J1, ↓J2, N1, N2, N3, reduceCtorEq, N4, N5, N6, reduceIte, N7, I1, I2, I3]
    refine ifB_intro (fun _ => ⟨by omega, _, t30 hC _ (hr _ (List.getElem_mem h1)), ?_⟩) (fun h => by simp at h; omega)
    simp only [Int.toNat_natCast, mid_get (show ((W.take i).map fun r => [AV.ow 1 (ints r)]).length = i by simp; omega), mid_set (show ((W.take i).map fun r => [AV.ow 1 (ints r)]).length = i by simp; omega), push_cast, ↓J1, ↓J2, N1, N2, N3, reduceCtorEq, N4, N5, N6, reduceIte, N7, I1, I2, I3]
    refine ⟨by omega, by omega, ?_⟩
    refine hJ h1 trivial _ (hdA [(0, 0)] (hh := ?_))
    rw [List.take_succ_eq_append_getElem h1, List.map_append, List.append_assoc]
    simp only [hdel, canR, canB, renO, renL, ren, lkp, hget, N7, N5, Nat.not_lt_zero, if_false, if_true, reduceIte, List.append_nil, List.nil_append]
    rfl
  · simp only [List.length_map, Int.toNat_natCast, List.getElem?_map, push_cast, ↓J1, ↓J2, N1, N2, N3, reduceCtorEq, N4, N5, N6, reduceIte, N7, I1, I2, I3]
    refine ifB_intro (fun h => by simp at h; omega) (fun h => ?_)
    rw [List.take_of_length_le (by omega), show W.length - i = 0 by omega]
    exact RetTo_ow (by simp [hget, owss]) (by simp [owss])
theorem t20 (W V : List (List Int)) (hW : W.length < 2^50) (hV : V.length < 2^50) (hr : ∀ r ∈ W, r.length < 2^50) (hs : ∀ r ∈ V, r.length < 2^50) : Ev C 20 [.sl (intss W), .sl (intss V)] (.bool (decide (W = V))) := by
  refine rT hC Q20 ?_
  simp only [c20, intss, List.length_map, push_cast, ↓J1, ↓J2, N1, N2, N3, reduceCtorEq, N4, N5, N6, reduceIte, N7, I1, I2, I3]
  refine ifB_intro (fun h => ?_) (fun h => ?_)
  · have hlm : W.length = V.length := by simp at h; omega
    refine RL_count (fun i => ⟨tb 27 .any [(0, .sl (W.map fun r => [.sl (ints r)])), (1, .sl (V.map fun r => [.sl (ints r)])), (5, .int .i64 (i : Int))], [], 0⟩) (fun i => W.take i = V.take i) W.length 0 (hdA []) (by omega) rfl fun i hi ht J hJ => ?_
    by_cases h1 : i < W.length
    · have h2 : i < V.length := by omega
      simp only [List.length_map, Int.toNat_natCast, List.getElem?_map, List.getElem?_eq_getElem h1, List.getElem?_eq_getElem h2, push_cast, ↓J1, ↓J2, N1, N2, N3, reduceCtorEq, N4, N5, N6, reduceIte, N7, I1, I2, I3]
      refine ifB_intro (fun _ => ⟨by omega, by omega, _, t36 hC _ _ (hr _ (List.getElem_mem h1)) (hs _ (List.getElem_mem h2)), ?_⟩) (fun h => by simp at h; omega)
      simp only [push_cast, ↓J1, ↓J2, N1, N2, N3, reduceCtorEq, N4, N5, N6, reduceIte, N7, I1, I2, I3]
      refine ifB_intro (fun h => ?_) (fun h => ?_)
      · refine hJ h1 ?_ _ (hdA [])
        rw [List.take_succ_eq_append_getElem h1, List.take_succ_eq_append_getElem h2, ht]
        have h' : W[i] = V[i] := by simpa using h
        rw [h']
      · have : ¬ W = V := by rintro rfl; simp at h
        simp [this]
    · simp only [List.length_map, Int.toNat_natCast, List.getElem?_map, push_cast, ↓J1, ↓J2, N1, N2, N3, reduceCtorEq, N4, N5, N6, reduceIte, N7, I1, I2, I3]
      refine ifB_intro (fun h => by simp at h; omega) (fun h => ?_)
      rw [List.take_of_length_le (by omega), List.take_of_length_le (by omega)] at ht
      simp [ht]
  · have : ¬ W = V := by rintro rfl; simp at h
    simp [this]
theorem t5 (W : List (List Int)) (v : Int) (hv : 0 ≤ v ∧ v < 2^50) (hW : W.length < 2^50) (hr : ∀ r ∈ W, r.length < 2^50) : Ev C 5 [clA W, .int .i64 v] (.int .i64 (if szSS W v < 0 then -1 else szSS W v)) := by
  simp only [clA]
  refine rT hC Q5 ?_
  simp only [c5, push_cast, ↓J1, ↓J2, N1, N2, N3, reduceCtorEq, N4, N5, N6, reduceIte, N7, I1, I2, I3]
  repeat' (first
    | simp only [push_cast, ↓J1, ↓J2, N1, N2, N3, reduceCtorEq, N4, N5, N6, reduceIte, N7, I1, I2, I3]
    | refine ⟨_, t14 hC W v hv hW hr, ?_⟩
    | refine ifB_intro (fun h => ?_) (fun h => ?_))
  all_goals simp_all
  all_goals omega
theorem t7 (W : List (List Int)) (hW : W.length < 2^30) (hr : ∀ r ∈ W, r.length < 2^30) : Ev C 7 [clA W] (clO W) := by
  simp only [clA]
  refine rT hC Q7 ?_ (own_cl W)
  simp only [c7, push_cast, ↓J1, ↓J2, N1, N2, N3, reduceCtorEq, N4, N5, N6, reduceIte, N7, I1, I2, I3]
  refine ⟨_, t17 hC _ hW hr, ?_⟩
  simp only [push_cast, ↓J1, ↓J2, N1, N2, N3, reduceCtorEq, N4, N5, N6, reduceIte, N7, I1, I2, I3]
  simp only [clO]
  exact rtA
theorem t9 (W V : List (List Int)) (hW : W.length < 2^50) (hV : V.length < 2^50) (hr : ∀ r ∈ W, r.length < 2^50) (hs : ∀ r ∈ V, r.length < 2^50) : Ev C 9 [clA W, clA V] (.bool (decide (W = V))) := by
  simp only [clA]
  refine rT hC Q9 ?_
  simp only [c9, push_cast, ↓J1, ↓J2, N1, N2, N3, reduceCtorEq, N4, N5, N6, reduceIte, N7, I1, I2, I3]
  repeat' (first
    | simp only [push_cast, ↓J1, ↓J2, N1, N2, N3, reduceCtorEq, N4, N5, N6, reduceIte, N7, I1, I2, I3]
    | refine ⟨_, t20 hC W V hW hV hr hs, ?_⟩
    | refine ifB_intro (fun h => ?_) (fun h => ?_))
  all_goals simp_all
end
end Go.Proofs.YtedgfiikaedeoaaDoor.X
set_option maxHeartbeats 1000000
set_option maxRecDepth 8000
set_option linter.unusedSimpArgs false
set_option linter.unusedVariables false
open Nat renaming reduceBEq → N1, reduceAdd → N2, reduceSub → N3, reduceMul → N4, reduceEqDiff → N5, reduceLeDiff → N6, reduceLT → N7
open Int renaming reduceLE → I1, reduceLT → I2, reduceToNat → I3
namespace Go.Proofs.YtedgfiikaedeoaaDoor.X
open Go
variable {mx : Int} {ev1 ev2 : Value}
theorem sum3 {a b c : Int} (ha : inR 0 36 a = true) (hb : inR 0 36 b = true) (hc : inR 0 36 c = true) : sumW [a, b, c] = a + b + c := by
  simp only [inR, Bool.and_eq_true, decide_eq_true_eq] at ha hb hc
  simp only [sumW, List.foldl]
  rw [Int.zero_add, wrap64 (n := a) (by omega) (by omega), wrap64 (n := a + b) (by omega) (by omega), wrap64 (by omega) (by omega)]
section
variable {C : CT} (hC : Closed Tryd.prog (Gp mx ev1 ev2) md0 C)
include hC
theorem t31 (r : List Int) (hr : r.length < 2^50) : Ev C 31 [.sl (ints r)] (.int .i64 (sumW r)) := by
  refine rT hC Q31 ?_
  simp only [c31, ints, List.length_map, push_cast, ↓J1, ↓J2, N1, N2, N3, reduceCtorEq, N4, N5, N6, reduceIte, N7, I1, I2, I3]
  refine RL_count (fun i => ⟨tb 17 .any [(3, .int .i64 (sumW (r.take i))), (6, .sl (r.map fun n => [.int .i64 n])), (7, .int .i64 (r.length : Int)), (8, .int .i64 (i : Int))], [], 0⟩) (fun _ => True) r.length 0 (head_tb [] rfl (by simp only [keptV_cons, keptV_nil, tb_get, lk_same, lk_ne, lk_nil, ren, renL, lkp, N7, N1, N5, reduceIte, and_true, true_and, Nat.not_lt_zero, if_false, if_true, Nat.add_zero, Nat.zero_add]; simp [sumW]) rfl) (by omega) trivial fun i hi _ J hJ => ?_
  by_cases h1 : i < r.length
  · simp only [List.length_map, Int.toNat_natCast, List.getElem?_map, List.getElem?_eq_getElem h1, push_cast, ↓J1, ↓J2, N1, N2, N3, reduceCtorEq, N4, N5, N6, reduceIte, N7, I1, I2, I3]
    refine ifB_intro (fun _ => ⟨by omega, ?_⟩) (fun h => by simp at h; omega)
    refine hJ h1 trivial _ (hdA [] (hV := ?_))
    simp only [keptV_cons, keptV_nil, tb_get, lk_same, lk_ne, lk_nil, ren, renL, lkp, N7, N1, N5, reduceIte, and_true, true_and, Nat.not_lt_zero, if_false, if_true, Nat.add_zero, Nat.zero_add]
    rw [wrap64 (n := (i : Int) + 1) (by omega) (by omega), sumW_succ h1]
    simp
  · simp only [List.length_map, Int.toNat_natCast, List.getElem?_map, push_cast, ↓J1, ↓J2, N1, N2, N3, reduceCtorEq, N4, N5, N6, reduceIte, N7, I1, I2, I3]
    refine ifB_intro (fun h => by simp at h; omega) (fun h => ?_)
    rw [List.take_of_length_le (by omega)]
theorem t15 (W : List (List Int)) (hW : W.length < 2^50) (hr : ∀ r ∈ W, r.length < 2^50) : Ev C 15 [clA W] (.bool (goodW W)) := by
  simp only [clA, goodW]
  refine rT hC Q15 ?_
  simp only [c15, intss, List.length_map, push_cast, ↓J1, ↓J2, N1, N2, N3, reduceCtorEq, N4, N5, N6, reduceIte, N7, I1, I2, I3]
  refine ifB_intro (fun h => ?_) (fun h => ?_)
  · have h3 : W.length = 3 := by simp at h; omega
    rw [show (decide (W.length = 3) && W.all rowOk) = W.all rowOk by simp [h3]]
    refine RL_count (fun i => ⟨tb 39 .any [(10, .sl (W.map fun r => [.sl (ints r)])), (11, .int .i64 (W.length : Int)), (12, .int .i64 (i : Int))], [], 0⟩) (fun i => W.all rowOk = (W.drop i).all rowOk) W.length 0 (hdA []) (by omega) rfl fun i hi ht J hJ => ?_
    by_cases h1 : i < W.length
    · have hri := hr _ (List.getElem_mem h1)
      rw [List.drop_eq_getElem_cons h1, List.all_cons] at ht
      simp only [List.length_map, Int.toNat_natCast, List.getElem?_map, List.getElem?_eq_getElem h1, push_cast, ↓J1, ↓J2, N1, N2, N3, reduceCtorEq, N4, N5, N6, reduceIte, N7, I1, I2, I3]
      generalize W[i] = r at *
      refine ifB_intro (fun _ => ⟨by omega, ?_⟩) (fun h => by simp at h; omega)
      rw [ints_length]
      refine ifB_intro (fun h => ?_) (fun h => ?_)
      · refine ⟨_, t28 hC r _ _ hri, ?_⟩
        simp only [push_cast, ↓J1, ↓J2, N1, N2, N3, reduceCtorEq, N4, N5, N6, reduceIte, N7, I1, I2, I3]
        have h5 : r.length = 3 := by simp at h; omega
        refine ifB_intro (fun h => ?_) (fun h => ?_)
        · obtain ⟨a, b, c, rfl⟩ : ∃ a b c, r = [a, b, c] := by
            match r, h5 with
            | [a, b, c], _ => exact ⟨a, b, c, rfl⟩
          simp only [ints, push_cast, ↓J1, ↓J2, N1, N2, N3, reduceCtorEq, N4, N5, N6, reduceIte, N7, I1, I2, I3]
          simp only [List.all_cons, List.all_nil, Bool.and_true, Bool.and_eq_true] at h
          have e3 := sum3 h.1 h.2.1 h.2.2
          have e4 : rowOk [a, b, c] = decide (a + b + c = 36) := by
            simp [rowOk, e3, h.1, h.2.1, h.2.2]
          have b1 := h.1; have b2 := h.2.1; have b3 := h.2.2
          simp only [inR, Bool.and_eq_true, decide_eq_true_eq] at b1 b2 b3
          rw [wrap64 (n := a + b) (by omega) (by omega), wrap64 (n := a + b + c) (by omega) (by omega)]
          refine ifB_intro (fun hh => ?_) (fun hh => ?_)
          · refine hJ h1 ?_ _ (hdA [])
            rw [ht, e4, hh]; rfl
          · rw [ht, e4, hh]; rfl
        · rw [ht]; simp only [rowOk, h, Bool.and_false, Bool.false_and]
      · have h5 : ¬ r.length = 3 := by simp at h; omega
        rw [ht]; simp [rowOk, h5]
    · simp only [List.length_map, Int.toNat_natCast, List.getElem?_map, push_cast, ↓J1, ↓J2, N1, N2, N3, reduceCtorEq, N4, N5, N6, reduceIte, N7, I1, I2, I3]
      refine ifB_intro (fun h => by simp at h; omega) (fun h => ?_)
      rw [ht, List.drop_eq_nil_of_le (by omega)]
      rfl
  · have h3 : ¬ W.length = 3 := by simp at h; omega
    simp [h3]
theorem t18 (W : List (List Int)) (hW : W.length < 2^50) (hr : ∀ r ∈ W, r.length < 2^50) : Ev C 18 [clA W] (.bool (goodW W)) := by
  simp only [clA, goodW]
  refine rT hC Q18 ?_
  simp only [c18, intss, List.length_map, push_cast, ↓J1, ↓J2, N1, N2, N3, reduceCtorEq, N4, N5, N6, reduceIte, N7, I1, I2, I3]
  refine ifB_intro (fun h => ?_) (fun h => ?_)
  · have h3 : W.length = 3 := by simp at h; omega
    rw [show (decide (W.length = 3) && W.all rowOk) = W.all rowOk by simp [h3]]
    refine RL_count (fun i => ⟨tb 37 .any [(12, .sl (W.map fun r => [.sl (ints r)])), (13, .int .i64 (W.length : Int)), (14, .int .i64 (i : Int))], [], 0⟩) (fun i => W.all rowOk = (W.drop i).all rowOk) W.length 0 (hdA []) (by omega) rfl fun i hi ht J hJ => ?_
    by_cases h1 : i < W.length
    · have hri := hr _ (List.getElem_mem h1)
      rw [List.drop_eq_getElem_cons h1, List.all_cons] at ht
      simp only [List.length_map, Int.toNat_natCast, List.getElem?_map, List.getElem?_eq_getElem h1, push_cast, ↓J1, ↓J2, N1, N2, N3, reduceCtorEq, N4, N5, N6, reduceIte, N7, I1, I2, I3]
      generalize W[i] = r at *
      refine ifB_intro (fun _ => ⟨by omega, ?_⟩) (fun h => by simp at h; omega)
      rw [ints_length]
      refine ifB_intro (fun h => ?_) (fun h => ?_)
      · refine ⟨_, t31 hC r hri, ?_⟩
        simp only [push_cast, ↓J1, ↓J2, N1, N2, N3, reduceCtorEq, N4, N5, N6, reduceIte, N7, I1, I2, I3]
        have h5 : r.length = 3 := by simp at h; omega
        refine ifB_intro (fun h => ?_) (fun h => ?_)
        · have e4 : rowOk r = r.all (inR 0 36) := by
            simp only [rowOk, h5, h, decide_true, Bool.true_and, Bool.and_true]
          refine RL_count (fun k => ⟨tb 37 .any [(12, .sl (W.map fun r => [.sl (ints r)])), (13, .int .i64 (W.length : Int)), (14, .int .i64 (i : Int)), (26, .sl (r.map fun n => [.int .i64 n])), (27, .int .i64 (r.length : Int)), (28, .int .i64 (k : Int))], [], 0⟩) (fun k => r.all (inR 0 36) = (r.drop k).all (inR 0 36)) r.length 0 (head_tb [] rfl (by simp only [ints, List.length_map, keptV_cons, keptV_nil, tb_get, lk_same, lk_ne, lk_nil, ren, renL, lkp, N7, N1, N5, reduceIte, and_true, true_and, Nat.not_lt_zero, if_false, if_true, Nat.add_zero, Nat.zero_add]; simp) rfl) (by omega) rfl fun k hk hkt J' hJ' => ?_
          by_cases h6 : k < r.length
          · rw [List.drop_eq_getElem_cons h6, List.all_cons] at hkt
            simp only [List.length_map, Int.toNat_natCast, List.getElem?_map, List.getElem?_eq_getElem h6, push_cast, ↓J1, ↓J2, N1, N2, N3, reduceCtorEq, N4, N5, N6, reduceIte, N7, I1, I2, I3]
            refine ifB_intro (fun _ => ⟨by omega, _, t32 hC _ _ _, ?_⟩) (fun h => by simp at h; omega)
            simp only [push_cast, ↓J1, ↓J2, N1, N2, N3, reduceCtorEq, N4, N5, N6, reduceIte, N7, I1, I2, I3]
            refine ifB_intro (fun hh => ?_) (fun hh => ?_)
            · refine hJ' h6 ?_ _ (hdA [])
              rw [hkt]; simp only [inR] at hh ⊢; rw [hh]; rfl
            · rw [ht, e4, hkt]; simp only [inR] at hh ⊢; rw [hh]; rfl
          · simp only [List.length_map, Int.toNat_natCast, List.getElem?_map, push_cast, ↓J1, ↓J2, N1, N2, N3, reduceCtorEq, N4, N5, N6, reduceIte, N7, I1, I2, I3]
            refine ifB_intro (fun h => by simp at h; omega) (fun h => ?_)
            rw [List.drop_eq_nil_of_le (by omega)] at hkt
            refine hJ h1 ?_ _ (hdA [])
            rw [ht, e4, hkt]; rfl
        · rw [ht]; simp only [rowOk, h, Bool.and_false, Bool.false_and]
      · have h5 : ¬ r.length = 3 := by simp at h; omega
        rw [ht]; simp [rowOk, h5]
    · simp only [List.length_map, Int.toNat_natCast, List.getElem?_map, push_cast, ↓J1, ↓J2, N1, N2, N3, reduceCtorEq, N4, N5, N6, reduceIte, N7, I1, I2, I3]
      refine ifB_intro (fun h => by simp at h; omega) (fun h => ?_)
      rw [ht, List.drop_eq_nil_of_le (by omega)]
      rfl
  · have h3 : ¬ W.length = 3 := by simp at h; omega
    simp [h3]
end
end Go.Proofs.YtedgfiikaedeoaaDoor.X
set_option maxHeartbeats 4000000
set_option maxRecDepth 8000
set_option linter.unusedVariables false
set_option linter.unusedSimpArgs false
open Nat renaming reduceBEq → N1, reduceAdd → N2, reduceSub → N3, reduceMul → N4, reduceEqDiff → N5, reduceLeDiff → N6, reduceLT → N7
open Int renaming reduceLE → I1, reduceLT → I2, reduceToNat → I3
namespace Go.Proofs.YtedgfiikaedeoaaDoor.X
open Go Go.RowKit
structure LibT (C : CT) : Prop where
  itoa : ∀ i : Nat, i < 100 → Ev C 43 [.int .i64 i] (.str ⟨(Lib.decDigits i).toArray⟩)
  join : ∀ (l : List ByteArray) (sep : ByteArray), l ≠ [] → l.length < 2^40 → (Lib.join (l.map (·.data.toList)) sep.data.toList).length < 2^40 → Ev C 44 [.sl (strs l), .str sep] (.str ⟨(Lib.join (l.map (·.data.toList)) sep.data.toList).toArray⟩)
  grow : ∀ n : Nat, 0 < n → n ≤ 1000 → Ev C 45 [.nil, .int .i64 n] (.ow 1 [])
theorem lib_itoa (G : Glo) (i : Nat) (hi : i < 100) : Ev (CS Tryd.prog G) 43 [.int .i64 i] (.str ⟨(Lib.decDigits i).toArray⟩) := by
  refine ev_below ⟨_, Tryd.func43, by simp [Tryd.f43], by simp [Tryd.f43]⟩ rfl fun w vals h => ?_
  simp only [TV, T] at h
  obtain ⟨v, vs, F1, F2, rfl, hF, ⟨rfl, rfl⟩, rfl, rfl⟩ := h
  refine (shItoa i hi w).mono ?_
  rintro e w' ⟨rfl, rfl⟩
  exact ⟨rfl, Below.refl _ _⟩
theorem lib_join (G : Glo) (l : List ByteArray) (sep : ByteArray) (hne : l ≠ []) (h1 : l.length < 2^40) (h2 : (Lib.join (l.map (·.data.toList)) sep.data.toList).length < 2^40) : Ev (CS Tryd.prog G) 44 [.sl (strs l), .str sep] (.str ⟨(Lib.join (l.map (·.data.toList)) sep.data.toList).toArray⟩) := by
  refine ev_below ⟨_, Tryd.func44, by simp [Tryd.f44], by simp [Tryd.f44]⟩ rfl fun w vals h => ?_
  simp only [TV] at h
  obtain ⟨v, vs, F1, F2, rfl, hF, ht, v2, vs2, F3, F4, rfl, rfl, ht2, rfl, rfl⟩ := h
  simp only [T] at ht2
  obtain ⟨rfl, rfl⟩ := ht2
  obtain rfl : F1 = [] := by cases F1 with
    | nil => rfl
    | cons a b => simp at hF
  obtain ⟨b, o, c, rfl, hc, hb, hcell⟩ := strs_at ht hne (fun _ h => h)
  exact shJoin b o c l sep w hcell hb (by omega) hc (by omega)
theorem lib_grow (G : Glo) (n : Nat) (hn : 0 < n) (hb : n ≤ 1000) : Ev (CS Tryd.prog G) 45 [.nil, .int .i64 n] (.ow 1 []) := by
  refine ⟨fun v h' n' => v = .ref 0 none 1 0 0 ∧ h' = [(0, .slice 1 [])] ∧ n' = 1, ⟨⟨_, Tryd.func45, by simp [Tryd.f45], by simp [Tryd.f45]⟩, fun M I hd Fp w vals hr hv => ?_⟩, rfl, ?_⟩
  · simp only [SV, S] at hv
    obtain ⟨v1, _, rfl, rfl, v2, _, rfl, rfl, rfl⟩ := hv
    refine (grow_walk n hn hb w).mono ?_
    rintro e w' ⟨rfl, rfl⟩
    have hGn : n ≤ grownCap w n 0 3 := grownCap_ge w _ _ _
    have hGm := grownCap_le_maxLen w n 0 3 (by unfold maxLen; omega)
    generalize grownCap w n 0 3 = c at *
    have hsz : (Builtin.zeroCells (Value.int .i64 0).cells n ++ Builtin.zeroCells (Value.int .i64 0).cells (c - n)).size = c := by
      simp [Builtin.zeroCells, Value.cells]; omega
    generalize Builtin.zeroCells (Value.int .i64 0).cells n ++ Builtin.zeroCells (Value.int .i64 0).cells (c - n) = cur at *
    have hold : ∀ b, b < w.heap.size → (w.drew.alloc (.cells cur 3)).heap[b]? = w.heap[b]? := fun b hb => heap_alloc_old w.drew _ hb
    have hnew : (w.drew.alloc (.cells cur 3)).heap[w.heap.size]? = some (.cells cur 3 (0, 0)) := heap_alloc_new w.drew _
    have hs : w.heap.size ≤ (w.drew.alloc (.cells cur 3)).heap.size := by
      show w.heap.size ≤ (w.heap.push _).size
      rw [Array.size_push]; omega
    have hk : Keep M w (w.drew.alloc (.cells cur 3)) := ⟨rfl, rfl, rfl, hs, fun b hb _ => hold b hb⟩
    have hr1 := hr.grown hs hold
    generalize w.drew.alloc (.cells cur 3) = W at *
    have hr2 := hr1.add (.slice 1 []) (.slice (some ⟨w.heap.size, 0, none⟩) 0 c) [w.heap.size] (by simp) (fun b hb => by
        rw [List.mem_singleton.1 hb]; exact hr.news _ (Nat.le_refl _)) (fun b hb hI => by
        have := (hr.imm b hI).1
        rw [List.mem_singleton.1 hb] at this; omega) (fun id u hu => by simp [hget] at hu) (fun hd' _ => by
        simp only [ObjR, T]
        exact .inr ⟨w.heap.size, 0, c, cur, 3, [], [], rfl, hnew, Nat.zero_le _, hGm, by omega, trivial, by simp, by simp [TLL], rfl⟩)
    refine ⟨_, .ref 0 none 1 0 0, _, 1, I, _, _, rfl, ⟨rfl, rfl, rfl⟩, hr2, ?_, ⟨hk, fun b hb => ⟨hb, hold b (hr.imm b hb).1⟩, fun id hid => by omega⟩, by omega⟩
    simp only [S, HdOf]
    exact ⟨by omega, _, rfl, .inl ⟨w.heap.size, 0, 0, c, c, by rw [upd_same], by simp, by omega, by omega, by omega⟩⟩
  · rintro v h' n' ⟨rfl, rfl, rfl⟩
    exact ⟨.ow 1 [], [], by simp [conR, hget, hdel], NilTo.refl _⟩
end Go.Proofs.YtedgfiikaedeoaaDoor.X
set_option maxHeartbeats 4000000
set_option maxRecDepth 8000
set_option linter.unusedVariables false
set_option linter.unusedSimpArgs false
open Nat renaming reduceBEq → N1, reduceAdd → N2, reduceSub → N3, reduceMul → N4, reduceEqDiff → N5, reduceLeDiff → N6, reduceLT → N7
open Int renaming reduceLE → I1, reduceLT → I2, reduceToNat → I3
namespace Go.Proofs.YtedgfiikaedeoaaDoor.X
open Go
variable {mx : Int} {ev1 ev2 : Value}
attribute [local irreducible] Ev
def numB (n : Nat) : ByteArray := ⟨(Lib.decDigits n).toArray⟩
def spB : ByteArray := ⟨⟨[32]⟩⟩
def txB (l : List Nat) : ByteArray := ⟨(Lib.join (l.map Lib.decDigits) [32]).toArray⟩
theorem ba_app (a b : List UInt8) : (⟨a.toArray⟩ : ByteArray) ++ ⟨b.toArray⟩ = ⟨(a ++ b).toArray⟩ := by
  apply ByteArray.ext
  simp [ByteArray.data_append]
theorem ba_size (a : List UInt8) : (⟨a.toArray⟩ : ByteArray).size = a.length := rfl
theorem join_snoc (sep : List UInt8) : ∀ (xs : List (List UInt8)) (y : List UInt8), xs ≠ [] → Lib.join (xs ++ [y]) sep = Lib.join xs sep ++ sep ++ y
  | [], _, h => absurd rfl h
  | x :: r, y, _ => by
    rw [List.cons_append, Lib.join_cons, Lib.join_cons]
    simp [Lib.joinTail]
theorem txB_zero (l : List Nat) : txB (l.take 0) = ⟨⟨[]⟩⟩ := rfl
theorem txB_one {l : List Nat} (h : 0 < l.length) : txB (l.take 1) = ⟨⟨[]⟩⟩ ++ numB (l.getD 0 0) := by
  cases l with
  | nil => simp at h
  | cons x r =>
    simp only [txB, numB, List.take_succ_cons, List.take_zero, List.map_cons, List.map_nil, Lib.join_one]
    rw [show (⟨⟨[]⟩⟩ : ByteArray) = ⟨([] : List UInt8).toArray⟩ from rfl, ba_app]; rfl
theorem txB_succ {l : List Nat} {m : Nat} (h : m < l.length) (h0 : m ≠ 0) : txB (l.take (m + 1)) = txB (l.take m) ++ spB ++ numB (l.getD m 0) := by
  have e : l.getD m 0 = l[m] := by simp [List.getD, h]
  have hne : (l.take m).map Lib.decDigits ≠ [] := by
    intro hz
    have := congrArg List.length hz
    simp only [List.length_map, List.length_take, List.length_nil] at this; omega
  rw [e, txB, txB, List.take_succ_eq_append_getElem h, List.map_append, List.map_cons, List.map_nil, join_snoc _ _ _ hne, numB, show spB = ⟨([32] : List UInt8).toArray⟩ from rfl, ba_app, ba_app]
theorem dec_len {n : Nat} (h : n < 100) : (Lib.decDigits n).length ≤ 2 := by
  by_cases h1 : n < 10
  · rw [Lib.decDigits_one h1]; simp
  · rw [Lib.decDigits_two h1 h]; simp
theorem txB_size {l : List Nat} (hl : ∀ m, m < l.length → l.getD m 0 < 100) : ∀ m, m ≤ l.length → (txB (l.take m)).size ≤ 3 * m
  | 0, _ => Nat.le_of_eq rfl
  | m + 1, hm => by
    have ih := txB_size hl m (by omega)
    have hd := dec_len (hl m (by omega))
    by_cases h0 : m = 0
    · subst h0
      rw [txB_one (by omega), numB, show (⟨⟨[]⟩⟩ : ByteArray) = ⟨([] : List UInt8).toArray⟩ from rfl, ba_app, ba_size]
      simp only [List.nil_append]; omega
    · rw [txB_succ (by omega) h0]
      simp only [txB, spB, numB] at ih ⊢
      rw [show (⟨⟨[32]⟩⟩ : ByteArray) = ⟨([32] : List UInt8).toArray⟩ from rfl, ba_app, ba_app, ba_size]
      rw [ba_size] at ih
      simp only [List.length_append, List.length_cons, List.length_nil]; omega
structure Nine (W : List (List Int)) (l : List Nat) : Prop where
  len : l.length = 9
  lt : ∀ m, m < 9 → l.getD m 0 < 37
  wl : W.length = 3
  row : ∀ i, i < 3 → ∃ r : List Int, W[i]? = some r ∧ r.length = 3 ∧ (∀ k, k < 3 → r[k]? = some ((l.getD (3 * i + k) 0 : Nat) : Int))
theorem nine {W : List (List Int)} (h : goodW W = true) : ∃ l, Nine W l := by
  simp only [goodW, Bool.and_eq_true, decide_eq_true_eq, List.all_eq_true] at h
  obtain ⟨hl, hr⟩ := h
  match W, hl with
  | [r0, r1, r2], _ =>
    have q0 := hr r0 (by simp); have q1 := hr r1 (by simp); have q2 := hr r2 (by simp)
    simp only [rowOk, Bool.and_eq_true, decide_eq_true_eq, List.all_eq_true] at q0 q1 q2
    match r0, r1, r2, q0, q1, q2 with
    | [a, b, c], [d, e, f], [g, h, i], q0, q1, q2 =>
      have k0 : (0 ≤ a ∧ a ≤ 36) ∧ (0 ≤ b ∧ b ≤ 36) ∧ (0 ≤ c ∧ c ≤ 36) := by simpa [inR] using q0.1.2
      have k1 : (0 ≤ d ∧ d ≤ 36) ∧ (0 ≤ e ∧ e ≤ 36) ∧ (0 ≤ f ∧ f ≤ 36) := by simpa [inR] using q1.1.2
      have k2 : (0 ≤ g ∧ g ≤ 36) ∧ (0 ≤ h ∧ h ≤ 36) ∧ (0 ≤ i ∧ i ≤ 36) := by simpa [inR] using q2.1.2
      refine ⟨[a.toNat, b.toNat, c.toNat, d.toNat, e.toNat, f.toNat, g.toNat, h.toNat, i.toNat], rfl, ?_, rfl, ?_⟩
      · intro m hm
        match m, hm with
        | 0, _ | 1, _ | 2, _ | 3, _ | 4, _ | 5, _ | 6, _ | 7, _ | 8, _ => simp [List.getD]; omega
      · intro j hj
        match j, hj with
        | 0, _ => refine ⟨[a, b, c], rfl, rfl, fun k hk => ?_⟩; match k, hk with | 0, _ | 1, _ | 2, _ => simp [List.getD]; omega
        | 1, _ => refine ⟨[d, e, f], rfl, rfl, fun k hk => ?_⟩; match k, hk with | 0, _ | 1, _ | 2, _ => simp [List.getD]; omega
        | 2, _ => refine ⟨[g, h, i], rfl, rfl, fun k hk => ?_⟩; match k, hk with | 0, _ | 1, _ | 2, _ => simp [List.getD]; omega
section
variable {C : CT} (hC : Closed Tryd.prog (Gp mx ev1 ev2) md0 C)
include hC
theorem tNum1 (n : Nat) (h : n < 10) : Ev C 29 [.int .i64 n] (.str (numB n)) := by
  have e : decide ((n : Int) < 10) = true := decide_eq_true (by omega)
  have w1 : IntKind.i64.wrap (48 + (n : Int)) = 48 + (n : Int) := wrap64 (by omega) (by omega)
  have w2 : IntKind.u8.wrap (48 + (n : Int)) = 48 + (n : Int) := by simp [IntKind.wrap, IntKind.bits, IntKind.signed]; omega
  have e2 : (48 + (n : Int)).toNat = 48 + n := by omega
  rw [numB, Lib.decDigits_one h]
  refine rT hC Q29 ?_
  simp only [c29, e, w1, w2, e2, push_cast, ↓J1, ↓J2, N1, N2, N3, reduceCtorEq, N4, N5, N6, reduceIte, N7, I1, I2, I3]
theorem t29 (n : Nat) (h : n < 100) : Ev C 29 [.int .i64 n] (.str (numB n)) := by
  by_cases h1 : n < 10
  · exact tNum1 hC n h1
  have e : decide ((n : Int) < 10) = false := decide_eq_false (by omega)
  have q1 : Int.tdiv (n : Int) 10 = ((n / 10 : Nat) : Int) := rfl
  have q2 : Int.tmod (n : Int) 10 = ((n % 10 : Nat) : Int) := rfl
  have c1 := tNum1 hC (n / 10) (by omega)
  have hm : n % 10 < 10 := by omega
  have hd : n / 10 < 10 := by omega
  rw [numB, Lib.decDigits_one hd] at c1
  rw [numB, Lib.decDigits_two h1 h, show [UInt8.ofNat (48 + n / 10), UInt8.ofNat (48 + n % 10)] = [UInt8.ofNat (48 + n / 10)] ++ [UInt8.ofNat (48 + n % 10)] from rfl, ← ba_app]
  generalize n / 10 = d at *
  generalize n % 10 = m at *
  have w0 : IntKind.i64.wrap (d : Int) = (d : Int) := wrap64 (by omega) (by omega)
  have w1 : IntKind.i64.wrap (48 + (m : Int)) = 48 + (m : Int) := wrap64 (by omega) (by omega)
  have w2 : IntKind.u8.wrap (48 + (m : Int)) = 48 + (m : Int) := by simp [IntKind.wrap, IntKind.bits, IntKind.signed]; omega
  have e2 : (48 + (m : Int)).toNat = 48 + m := by omega
  refine rT hC Q29 ?_
  simp only [c29, e, q1, q2, w0, w1, w2, e2, push_cast, ↓J1, ↓J2, N1, N2, N3, reduceCtorEq, N4, N5, N6, reduceIte, N7, I1, I2, I3]
  repeat' (first | refine ⟨_, c1, ?_⟩ | simp only [e, q1, q2, w0, w1, w2, e2, push_cast, ↓J1, ↓J2, N1, N2, N3, reduceCtorEq, N4, N5, N6, reduceIte, N7, I1, I2, I3] | refine And.intro ?_ ?_)
  all_goals first | decide | (simp only [ByteArray.size, List.size_toArray, List.length_cons, List.length_nil]; omega) | trace_state
end
end Go.Proofs.YtedgfiikaedeoaaDoor.X
set_option maxHeartbeats 1000000
set_option linter.unusedVariables false
set_option maxRecDepth 8000
set_option linter.unusedSimpArgs false
open Nat renaming reduceBEq → N1, reduceAdd → N2, reduceSub → N3, reduceMul → N4, reduceEqDiff → N5, reduceLeDiff → N6, reduceLT → N7
open Int renaming reduceLE → I1, reduceLT → I2, reduceToNat → I3
namespace Go.Proofs.YtedgfiikaedeoaaDoor.X
open Go
def spl : List UInt8 → List (List UInt8)
  | [] => [[]]
  | b :: r => if b = 32 then [] :: spl r else match spl r with | [] => [[b]] | p :: ps => (b :: p) :: ps
theorem spl_ne : ∀ l, spl l ≠ []
  | [] => by simp [spl]
  | b :: r => by
    simp only [spl]
    split
    · simp
    · split <;> simp
theorem splitK_ne (b : UInt8) (h : b ≠ 32) (l : List UInt8) : ∀ k, Lib.splitK [32] 0 k (b :: l) = match Lib.splitK [32] 0 k l with | [] => [[b]] | p :: ps => (b :: p) :: ps
  | 0 => rfl
  | k + 1 => by
    have hp : ([32] : List UInt8).isPrefixOf (b :: l) = false := by simp [List.isPrefixOf, Ne.symm h]
    have hix : Lib.index (b :: l) [32] = if Lib.index l [32] == -1 then -1 else Lib.index l [32] + 1 := by rw [Lib.index, hp]; simp
    by_cases hm : Lib.index l [32] = -1
    · simp [Lib.splitK, hix, hm]
    · have hge := Lib.index_ge l [32]
      obtain ⟨j, hj⟩ : ∃ j : Nat, Lib.index l [32] = j := ⟨(Lib.index l [32]).toNat, by omega⟩
      have e1 : ¬ (((j : Int) + 1) = -1) := by omega
      have e2 : ¬ ((j : Int) = -1) := by omega
      have e3 : ((j : Int) + 1).toNat = j + 1 := by omega
      simp [Lib.splitK, hix, hj, e1, e2, e3]
theorem split_spl : ∀ l, Lib.split l [32] = spl l
  | [] => by rw [Lib.split, Lib.count_one]; rfl
  | b :: r => by
    have ih := split_spl r
    by_cases h : b = 32
    · subst h
      rw [Lib.split, Lib.count_cons_eq, Nat.add_comm, spl, if_pos rfl, ← ih, Lib.split]
      have hix : Lib.index ((32 : UInt8) :: r) [32] = 0 := by rw [Lib.index]; simp [List.isPrefixOf]
      simp [Lib.splitK, hix]
    · rw [Lib.split, Lib.count_cons_ne _ _ _ h, splitK_ne b h, spl, if_neg h, ← ih, Lib.split]
theorem spl_snoc (b : UInt8) : ∀ l, spl (l ++ [b]) = if b = 32 then spl l ++ [[]] else (spl l).dropLast ++ [(spl l).getLastD [] ++ [b]]
  | [] => by simp only [spl, List.nil_append]; split <;> simp_all
  | c :: r => by
    have ih := spl_snoc b r
    have hn := spl_ne r
    rw [List.cons_append, spl, ih, spl]
    cases hs : spl r with
    | nil => exact absurd hs hn
    | cons p ps =>
      by_cases h1 : c = 32 <;> by_cases h2 : b = 32 <;> simp [h1, h2]
      · cases ps with
        | nil => simp
        | cons q qs => simp [List.dropLast, List.getLastD]
theorem join_spl : ∀ l, Lib.join (spl l) [32] = l
  | [] => rfl
  | b :: r => by
    have ih := join_spl r
    have hn := spl_ne r
    rw [spl]
    cases hs : spl r with
    | nil => exact absurd hs hn
    | cons p ps =>
      rw [hs, Lib.join_cons] at ih
      by_cases h1 : b = 32
      · subst h1; simp only [if_true]; rw [Lib.join_cons, ← ih]; simp [Lib.joinTail]
      · simp only [h1, if_false]; rw [Lib.join_cons, List.cons_append, ih]
def rdR : List UInt8 → Int
  | l => if l.length < 1 ∨ 6 < l.length ∨ (l.head? = some 48 ∧ 1 < l.length) ∨ ¬ l.all (fun b => 48 ≤ b ∧ b ≤ 57) then -1 else ((l.foldl (fun n b => 10 * n + (b.toNat - 48)) 0 : Nat) : Int)
end Go.Proofs.YtedgfiikaedeoaaDoor.X
set_option maxHeartbeats 4000000
set_option maxRecDepth 100000
set_option linter.unusedVariables false
set_option linter.unusedSimpArgs false
open Nat renaming reduceBEq → N1, reduceAdd → N2, reduceSub → N3, reduceMul → N4, reduceEqDiff → N5, reduceLeDiff → N6, reduceLT → N7
open Int renaming reduceLE → I1, reduceLT → I2, reduceToNat → I3
namespace Go.Proofs.YtedgfiikaedeoaaDoor.X
open Go
structure LibP (C : CT) : Prop where
  rdi : ∀ s : ByteArray, s.size < 2^40 → Ev C 39 [.str s] (.tup [.int .i64 ((rdI s).getD 0), .bool (rdI s).isSome])
  split : ∀ s : ByteArray, s.size < 2^30 → Ev C 38 [.str s, .str ⟨⟨[32]⟩⟩] (.ow 1 (strs ((spl s.data.toList).map fun l => ⟨l.toArray⟩)))
theorem lib_rdi {e1 e2 : Value} (m : Int) (he1 : ∃ te pe, e1 = .iface te pe) (he2 : ∃ te pe, e2 = .iface te pe) (s : ByteArray) (hs : s.size < 2^40) : Ev (CS Tryd.prog (Gp m e1 e2)) 39 [.str s] (.tup [.int .i64 ((rdI s).getD 0), .bool (rdI s).isSome]) := by
  refine ev_belowG ⟨_, Tryd.func39, by simp [Tryd.f39], by simp [Tryd.f39]⟩ rfl fun w vals hG h => ?_
  simp only [TV, T] at h
  obtain ⟨v, vs, F1, F2, rfl, hF, ⟨rfl, rfl⟩, rfl, rfl⟩ := h
  obtain ⟨t1, f1, r1⟩ := glo_row (hG 1 _ rfl) rfl
  obtain ⟨t2, f2, r2⟩ := glo_row (hG 2 _ rfl) rfl
  obtain ⟨t3, f3, r3⟩ := glo_row (hG 3 _ rfl) (by decide)
  have hg : Tryd.prog.globalNamed "internal/strconv.uint64pow10" = some 3 := by kernel_rfl
  exact rdI_walk s (by omega) e1 e2 w (by rw [cell_of_row r1]; rfl) he1 (by rw [cell_of_row r2]; rfl) he2 (tab_of_row hg r3) ⟨3, hg, lt_of_row r3⟩
theorem own_strs1 : ∀ l : List ByteArray, ownRLL (strs l) = true
  | [] => rfl
  | x :: r => by simp only [strs, List.map_cons, ownRLL, ownRL, ownR, Bool.true_and]; exact own_strs1 r
theorem own_strs (l : List ByteArray) : ownR (.ow 1 (strs l)) = true := by simp only [ownR]; exact own_strs1 l
theorem each_strs : ∀ l : List ByteArray, Each 1 (strs l)
  | [] => by simp [strs, Each]
  | x :: r => by simp only [strs, List.map_cons, Each]; exact ⟨rfl, each_strs r⟩
theorem lib_split {e1 e2 : Value} (m : Int) (s : ByteArray) (hs : s.size < 2^30) : Ev (CS Tryd.prog (Gp m e1 e2)) 38 [.str s, .str ⟨⟨[32]⟩⟩] (.ow 1 (strs ((spl s.data.toList).map fun l => ⟨l.toArray⟩))) := by
  have hsp : Lib.splitB ⟨⟨[32]⟩⟩ 0 (Lib.countB s ⟨⟨[32]⟩⟩) s = (spl s.data.toList).map fun l => ⟨l.toArray⟩ := by
    have h := Lib.splitB_data ⟨⟨[32]⟩⟩ 0 (Lib.countB s ⟨⟨[32]⟩⟩) s
    have e : Lib.splitK (⟨⟨[32]⟩⟩ : ByteArray).data.toList 0 (Lib.countB s ⟨⟨[32]⟩⟩) s.data.toList = spl s.data.toList := split_spl s.data.toList
    rw [e] at h
    rw [← h, List.map_map]
    exact (List.map_id _).symm
  have hlen := Lib.splitB_all ⟨⟨[32]⟩⟩ (by decide) 0 _ s rfl
  rw [hsp] at hlen
  have hle := Lib.countB_le ⟨⟨[32]⟩⟩ (by decide) s.size s (Nat.le_refl _)
  generalize hl : ((spl s.data.toList).map fun l => (⟨l.toArray⟩ : ByteArray)) = l at *
  refine ⟨fun v h' n' => v = .ref 0 none 1 0 l.length ∧ h' = [(0, .slice 1 (strs l))] ∧ n' = 1, ⟨⟨_, Tryd.func38, by simp [Tryd.f38], by simp [Tryd.f38]⟩, fun M I hd Fp w vals hr hv => ?_⟩, own_strs l, ?_⟩
  · simp only [SV, S] at hv
    obtain ⟨v1, _, rfl, rfl, v2, _, rfl, rfl, rfl⟩ := hv
    obtain ⟨t0, f0, r0⟩ := glo_row (hr.glo 0 _ rfl) rfl
    refine (shSplit s ⟨⟨[32]⟩⟩ m w (by omega) (by rw [cell_of_row r0]; rfl) (by decide)).mono ?_
    rintro e w' ⟨rfl, rfl⟩
    rw [hsp, ← hlen]
    obtain ⟨cur, hcur⟩ : ∃ cur, cur = (l.map Value.string).toArray := ⟨_, rfl⟩
    rw [← hcur]
    have hsz : cur.size = l.length := by rw [hcur]; simp
    have hold : ∀ b, b < w.heap.size → (w.alloc (.cells cur 9)).heap[b]? = w.heap[b]? := fun b hb => heap_alloc_old w _ hb
    have hnew : (w.alloc (.cells cur 9)).heap[w.heap.size]? = some (.cells cur 9 (0, 0)) := heap_alloc_new w _
    have hs : w.heap.size ≤ (w.alloc (.cells cur 9)).heap.size := by
      show w.heap.size ≤ (w.heap.push _).size
      rw [Array.size_push]; omega
    have hk : Keep M w (w.alloc (.cells cur 9)) := ⟨rfl, rfl, rfl, hs, fun b hb _ => hold b hb⟩
    have hr1 := hr.grown hs hold
    generalize w.alloc (.cells cur 9) = W at *
    have hstr : ∀ (w0 : World) (I0 : Nat → Prop) (l : List ByteArray), TLL w0 I0 (strs l) (l.map Value.string) [] := by
      intro w0 I0 l
      induction l with
      | nil => simp [strs, TLL]
      | cons x r ih =>
        simp only [strs, List.map_cons, TLL]
        exact ⟨[.string x], r.map Value.string, [], [], rfl, rfl, by simp only [TL, T]; exact ⟨_, [], [], [], rfl, rfl, rfl, ⟨rfl, rfl⟩, rfl, rfl⟩, ih⟩
    have hlb : l.length < 2^40 := by omega
    have e9 : List.take ((strs l).length * 1) (List.drop 0 cur.toList) = l.map Value.string := by
      rw [hcur, List.drop_zero, Nat.mul_one]
      exact List.take_of_length_le (by simp [strs])
    have hr2 := hr1.add (.slice 1 (strs l)) (.slice (some ⟨w.heap.size, 0, none⟩) l.length l.length) [w.heap.size] (by simp) (fun b hb => by
        rw [List.mem_singleton.1 hb]; exact hr.news _ (Nat.le_refl _)) (fun b hb hI => by
        have := (hr.imm b hI).1
        rw [List.mem_singleton.1 hb] at this; omega) (fun id u hu => by simp [hget] at hu) (fun hd' _ => by
        simp only [ObjR, T]
        exact .inr ⟨w.heap.size, 0, l.length, cur, 9, l.map Value.string, [], by simp [strs], hnew, by simp [strs], by unfold maxLen; omega, by omega, each_strs l, e9, hstr _ _ _, rfl⟩)
    refine ⟨_, .ref 0 none 1 0 l.length, _, 1, I, _, _, rfl, ⟨rfl, rfl, rfl⟩, hr2, ?_, ⟨hk, fun b hb => ⟨hb, hold b (hr.imm b hb).1⟩, fun id hid => by omega⟩, by omega⟩
    simp only [S, HdOf]
    exact ⟨by omega, _, rfl, .inl ⟨w.heap.size, 0, l.length, l.length, l.length, by rw [upd_same], by simp, by omega, by omega, by omega⟩⟩
  · rintro v h' n' ⟨rfl, rfl, rfl⟩
    have ht : List.take l.length (strs l) = strs l := List.take_of_length_le (by simp [strs])
    exact ⟨.ow 1 (strs l), [], by simp [conR, hget, hdel, ht], NilTo.refl _⟩
end Go.Proofs.YtedgfiikaedeoaaDoor.X
set_option maxHeartbeats 4000000
set_option maxRecDepth 8000
set_option linter.unusedVariables false
set_option linter.unusedSimpArgs false
open Nat renaming reduceBEq → N1, reduceAdd → N2, reduceSub → N3, reduceMul → N4, reduceEqDiff → N5, reduceLeDiff → N6, reduceLT → N7
open Int renaming reduceLE → I1, reduceLT → I2, reduceToNat → I3
namespace Go.Proofs.YtedgfiikaedeoaaDoor.X
open Go
variable {mx : Int} {ev1 ev2 : Value}
attribute [local irreducible] Ev
theorem nine_row {W : List (List Int)} {l : List Nat} (h : Nine W l) {i : Nat} (hi : i < 3) : ∃ r : List Int, (intss W)[i]? = some [.sl (ints r)] ∧ r.length = 3 ∧ (∀ k, k < 3 → (ints r)[k]? = some [.int .i64 ((l.getD (3 * i + k) 0 : Nat) : Int)]) ∧ ∀ k, k < 3 → r[k]? = some ((l.getD (3 * i + k) 0 : Nat) : Int) := by
  obtain ⟨r, h1, h2, h3⟩ := h.row i hi
  exact ⟨r, by simp [intss, h1], h2, fun k hk => by simp [ints, h3 k hk], h3⟩
theorem txB_len {W : List (List Int)} {l : List Nat} (h : Nine W l) {m : Nat} (hm : m ≤ 9) : (txB (l.take m)).size ≤ 27 := by
  have := txB_size (l := l) (fun m hm => by have := h.lt m (by rw [h.len] at hm; exact hm); omega) m (by rw [h.len]; exact hm)
  omega
theorem strs_snoc {l : List ByteArray} {x : ByteArray} : strs l ++ [[.str x]] = strs (l ++ [x]) := by simp [strs]
theorem strs_length {l : List ByteArray} : (strs l).length = l.length := by simp [strs]
theorem strs_sc (l : List ByteArray) : allScs (strs l) = true := by
  unfold strs
  induction l with
  | nil => rfl
  | cons x l ih => simp only [List.map_cons, allScs, allSc, isSc, Bool.and_true, Bool.true_and]; exact ih
theorem frzLL_strs (l : List ByteArray) : frzLL (strs l) = strs l := by
  unfold strs
  induction l with
  | nil => rfl
  | cons x l ih => simp only [List.map_cons, frzLL, frzL, frzT, ih]
theorem ba_tail (r : List UInt8) : (⟨(32 :: r).toArray⟩ : ByteArray).extract 0 1 = ⟨⟨[32]⟩⟩ ∧ (⟨(32 :: r).toArray⟩ : ByteArray).extract 1 (r.length + 1) = ⟨r.toArray⟩ := by
  constructor
  · apply ByteArray.ext
    simp [ByteArray.data_extract]
  · apply ByteArray.ext
    simp [ByteArray.data_extract]
section
variable {C : CT} (hC : Closed Tryd.prog (Gp mx ev1 ev2) md0 C)
include hC
theorem t16 (W : List (List Int)) (l : List Nat) (h : Nine W l) : Ev C 16 [clA W] (.str (txB l)) := by
  have hwl := h.wl
  have hll := h.len
  have hs : (intss W).length = 3 := by rw [intss_length, hwl]
  have et : txB l = txB (l.take 9) := by rw [List.take_of_length_le (by omega)]
  rw [et]
  simp only [clA]
  refine rT hC Q16 ?_
  simp only [c16, hs, push_cast, ↓J1, ↓J2, N1, N2, N3, reduceCtorEq, N4, N5, N6, reduceIte, N7, I1, I2, I3]
  refine RL_count (fun i => ⟨tb 36 .any [(3, .str (txB (l.take (3 * i)))), (9, .sl (intss W)), (10, .int .i64 3), (11, .int .i64 (i : Int))], [], 0⟩) (fun _ => True) 3 0 (hdA []) (by omega) trivial fun i hi _ J hJ => ?_
  by_cases h1 : i < 3
  rotate_left
  · have hlt : decide ((i : Int) < 3) = false := decide_eq_false (by omega)
    rw [show 3 * i = 9 by omega]
    simp only [hlt, push_cast, ↓J1, ↓J2, N1, N2, N3, reduceCtorEq, N4, N5, N6, reduceIte, N7, I1, I2, I3]
    all_goals first | rfl | trivial | exact rtA
  have hK := hJ h1 trivial
  clear hJ
  have hlt : decide ((i : Int) < 3) = true := decide_eq_true (by omega)
  obtain ⟨r, e1, e2, e3, e9⟩ := nine_row h h1
  have hrl : (ints r).length = 3 := by rw [ints_length, e2]
  have w3 : IntKind.i64.wrap ((i : Int) + 1) = (i : Int) + 1 := wrap64 (by omega) (by omega)
  simp only [hlt, Int.toNat_natCast, e1, hrl, w3, push_cast, ↓J1, ↓J2, N1, N2, N3, reduceCtorEq, N4, N5, N6, reduceIte, N7, I1, I2, I3]
  repeat (refine ⟨by omega, ?_⟩)
  refine RL_count (fun k => ⟨tb 36 .any [(3, .str (txB (l.take (3 * i + k)))), (4, .int .i64 (i : Int)), (9, .sl (intss W)), (10, .int .i64 3), (11, .int .i64 (i : Int)), (16, .sl (ints r)), (17, .int .i64 3), (18, .int .i64 (k : Int))], [], 0⟩) (fun _ => True) 3 0 (hdA []) (by omega) trivial fun k hk _ Jb hJb => ?_
  by_cases h2 : k < 3
  rotate_left
  · have hltk : decide ((k : Int) < 3) = false := decide_eq_false (by omega)
    rw [show 3 * (i + 1) = 3 * i + k by omega] at hK
    simp only [hltk, w3, push_cast, ↓J1, ↓J2, N1, N2, N3, reduceCtorEq, N4, N5, N6, reduceIte, N7, I1, I2, I3]
    exact hK _ (hdA [])
  have hK2 := hJb h2 trivial
  clear hJb hK
  have hlt2 : decide ((k : Int) < 3) = true := decide_eq_true (by omega)
  have e4 := e3 k h2
  have w4 : IntKind.i64.wrap ((k : Int) + 1) = (k : Int) + 1 := wrap64 (by omega) (by omega)
  have w5 : IntKind.i64.wrap ((i : Int) + (k : Int)) = (i : Int) + (k : Int) := wrap64 (by omega) (by omega)
  have hn := h.lt (3 * i + k) (by omega)
  have c1 := t29 hC (l.getD (3 * i + k) 0) (by omega)
  have s1 := txB_len h (m := 3 * i + k) (by omega)
  have s2 := txB_len h (m := 3 * i + k + 1) (by omega)
  rw [show 3 * i + (k + 1) = 3 * i + k + 1 by omega] at hK2
  simp only [hlt2, Int.toNat_natCast, e4, w4, w5, push_cast, ↓J1, ↓J2, N1, N2, N3, reduceCtorEq, N4, N5, N6, reduceIte, N7, I1, I2, I3]
  repeat (refine ⟨by omega, ?_⟩)
  by_cases h0 : 3 * i + k = 0
  · have d0 : decide (0 < (i : Int) + (k : Int)) = false := decide_eq_false (by omega)
    rw [h0] at c1 s1 s2 hK2 ⊢
    rw [txB_one (by omega)] at s2 hK2
    rw [txB_zero] at s1 ⊢
    simp only [d0, push_cast, ↓J1, ↓J2, N1, N2, N3, reduceCtorEq, N4, N5, N6, reduceIte, N7, I1, I2, I3]
    refine ⟨_, c1, ?_⟩
    simp only [w4, push_cast, ↓J1, ↓J2, N1, N2, N3, reduceCtorEq, N4, N5, N6, reduceIte, N7, I1, I2, I3]
    rw [ByteArray.size_append] at s2
    refine ⟨by omega, ?_⟩
    exact hK2 _ (hdA [])
  · have d0 : decide (0 < (i : Int) + (k : Int)) = true := decide_eq_true (by omega)
    rw [txB_succ (by omega) h0] at s2 hK2
    rw [ByteArray.size_append, ByteArray.size_append] at s2
    rw [show spB = ⟨⟨[32]⟩⟩ from rfl] at s2 hK2
    simp only [d0, push_cast, ↓J1, ↓J2, N1, N2, N3, reduceCtorEq, N4, N5, N6, reduceIte, N7, I1, I2, I3]
    refine ⟨by omega, ?_⟩
    refine ⟨_, c1, ?_⟩
    simp only [w4, ByteArray.size_append, push_cast, ↓J1, ↓J2, N1, N2, N3, reduceCtorEq, N4, N5, N6, reduceIte, N7, I1, I2, I3]
    refine ⟨by omega, ?_⟩
    exact hK2 _ (hdA [])
theorem t6 (W : List (List Int)) (hW : W.length < 2^50) (hr : ∀ r ∈ W, r.length < 2^50) (l : List Nat) (hl : goodW W = true → Nine W l) : Ev C 6 [clA W] (.tup [.str (if goodW W then txB l else ⟨⟨[]⟩⟩), .bool (goodW W)]) := by
  have c1 := t15 hC W hW hr
  have c2 := fun g => t16 hC W l (hl g)
  simp only [clA] at *
  refine rT hC Q6 ?_
  simp only [c6, push_cast, ↓J1, ↓J2, N1, N2, N3, reduceCtorEq, N4, N5, N6, reduceIte, N7, I1, I2, I3]
  refine ⟨_, c1, ?_⟩
  cases g : goodW W
  · simp only [Bool.false_eq_true, if_false, Bool.not_false, push_cast, ↓J1, ↓J2, N1, N2, N3, reduceCtorEq, N4, N5, N6, reduceIte, N7, I1, I2, I3]
    all_goals first | rfl | trivial | exact ⟨rfl, rfl⟩ | exact rtA
  · simp only [Bool.not_true, push_cast, ↓J1, ↓J2, N1, N2, N3, reduceCtorEq, N4, N5, N6, reduceIte, N7, I1, I2, I3]
    refine ⟨_, c2 g, ?_⟩
    simp only [if_true, push_cast, ↓J1, ↓J2, N1, N2, N3, reduceCtorEq, N4, N5, N6, reduceIte, N7, I1, I2, I3]
    all_goals first | rfl | trivial | exact ⟨rfl, rfl⟩ | exact rtA
theorem tHas (r : List UInt8) (h : r.length < 2^40) : Ev C 48 [.str ⟨(32 :: r).toArray⟩, .str ⟨⟨[32]⟩⟩] (.bool true) := by
  have e1 : ((⟨(32 :: r).toArray⟩ : ByteArray).size : Int) = (r.length : Int) + 1 := rfl
  have e2 : ((⟨⟨[32]⟩⟩ : ByteArray).size : Int) = 1 := rfl
  have e3 : (⟨(32 :: r).toArray⟩ : ByteArray).extract 0 1 = ⟨⟨[32]⟩⟩ := (ba_tail r).1
  have e4 : decide ((1 : Int) ≤ (r.length : Int) + 1) = true := decide_eq_true (by omega)
  refine rT hC Q48 ?_
  simp only [c48, e1, e2, e3, e4, push_cast, ↓J1, ↓J2, N1, N2, N3, reduceCtorEq, N4, N5, N6, reduceIte, N7, I1, I2, I3]
  all_goals (and_intros <;> first | rfl | omega | trivial)
theorem tTrimI (r : List UInt8) (h : r.length < 2^40) : Ev C 42 [.str ⟨(32 :: r).toArray⟩, .str ⟨⟨[32]⟩⟩] (.str ⟨r.toArray⟩) := by
  have e1 : ((⟨(32 :: r).toArray⟩ : ByteArray).size : Int) = (r.length : Int) + 1 := rfl
  have e2 : ((⟨⟨[32]⟩⟩ : ByteArray).size : Int) = 1 := rfl
  have e3 : (⟨(32 :: r).toArray⟩ : ByteArray).extract 1 (r.length + 1) = ⟨r.toArray⟩ := (ba_tail r).2
  have e5 : ((r.length : Int) + 1).toNat = r.length + 1 := by omega
  have c1 := tHas hC r h
  refine rT hC Q42 ?_
  simp only [c42, push_cast, ↓J1, ↓J2, N1, N2, N3, reduceCtorEq, N4, N5, N6, reduceIte, N7, I1, I2, I3]
  refine ⟨_, c1, ?_⟩
  simp only [e1, e2, e3, e5, push_cast, ↓J1, ↓J2, N1, N2, N3, reduceCtorEq, N4, N5, N6, reduceIte, N7, I1, I2, I3]
  repeat (refine ⟨by omega, ?_⟩)
  all_goals first | omega | rfl | trivial | exact rtA
theorem t33 (r : List UInt8) (h : r.length < 2^40) : Ev C 33 [.str ⟨(32 :: r).toArray⟩, .str ⟨⟨[32]⟩⟩] (.str ⟨r.toArray⟩) := by
  have c1 := tTrimI hC r h
  refine rT hC Q33 ?_
  simp only [c33, push_cast, ↓J1, ↓J2, N1, N2, N3, reduceCtorEq, N4, N5, N6, reduceIte, N7, I1, I2, I3]
  refine ⟨_, c1, ?_⟩
  simp only [push_cast, ↓J1, ↓J2, N1, N2, N3, reduceCtorEq, N4, N5, N6, reduceIte, N7, I1, I2, I3]
  all_goals first | rfl | trivial | exact rtA
theorem t35 (hB : LibT C) (W : List (List Int)) (l : List Nat) (h : Nine W l) : Ev C 35 [.sl (intss W)] (.ow 1 (ints (l.map fun n : Nat => Int.ofNat n))) := by
  have hwl := h.wl
  have hll := h.len
  have hs : (intss W).length = 3 := by rw [intss_length, hwl]
  have hlm : (l.map fun n : Nat => Int.ofNat n).length = 9 := by simp [hll]
  refine rT hC Q35 ?_ (own_ints _)
  simp only [c35, hs, push_cast, ↓J1, ↓J2, N1, N2, N3, reduceCtorEq, N4, N5, N6, reduceIte, N7, I1, I2, I3]
  refine RL_count (fun i => ⟨tb 36 .any [(0, .sl (intss W)), (3, .int .i64 (3 * (i : Int))), (9, .sl (intss W)), (10, .int .i64 3), (11, .int .i64 (i : Int))], [], 0⟩) (fun _ => True) 3 0 (hdA []) (by omega) trivial fun i hi _ J hJ => ?_
  by_cases h1 : i < 3
  · have hK := hJ h1 trivial
    have hlt : decide ((i : Int) < 3) = true := decide_eq_true (by omega)
    obtain ⟨r, e1, e2, e3, e9⟩ := nine_row h h1
    have hrl : ((ints r).length : Int) = 3 := by rw [ints_length, e2]; rfl
    have w3 : IntKind.i64.wrap ((i : Int) + 1) = (i : Int) + 1 := wrap64 (by omega) (by omega)
    have w4 : IntKind.i64.wrap (3 * (i : Int) + 3) = 3 * (i : Int) + 3 := wrap64 (by omega) (by omega)
    have d1 : decide (3 * (i : Int) + 3 < 0) = false := decide_eq_false (by omega)
    simp only [hlt, Int.toNat_natCast, e1, hrl, w3, w4, d1, push_cast, ↓J1, ↓J2, N1, N2, N3, reduceCtorEq, N4, N5, N6, reduceIte, N7, I1, I2, I3]
    repeat (refine ⟨by omega, ?_⟩)
    refine hK _ (head_tb [] (by simp [rhoOk, objIds]) ?_ ?_)
    · simp only [keptV_cons, keptV_nil, tb_get, lk_same, lk_ne, lk_nil, ren, renL, lkp, N7, N1, N5, reduceIte, and_true, true_and, Nat.not_lt_zero, if_false, if_true, Nat.add_zero, Nat.zero_add]
      rw [show 3 * ((i + 1 : Nat) : Int) = 3 * (i : Int) + 3 by omega]
      and_intros <;> first | rfl | simp
    · simp [canR, canB]
  have hlt : decide ((i : Int) < 3) = false := decide_eq_false (by omega)
  have i3 : 3 * (i : Int) = 9 := by omega
  have c1 := hB.grow 9 (by omega) (by omega)
  clear hJ
  simp only [hlt, i3, push_cast, ↓J1, ↓J2, N1, N2, N3, reduceCtorEq, N4, N5, N6, reduceIte, N7, I1, I2, I3]
  refine ⟨_, c1, ?_⟩
  simp only [hs, push_cast, ↓J1, ↓J2, N1, N2, N3, reduceCtorEq, N4, N5, N6, reduceIte, N7, I1, I2, I3]
  refine RL_count (fun i => ⟨tb 36 .any [(6, .ref 0 none 1 0 (3 * i)), (25, .sl (intss W)), (26, .int .i64 3), (27, .int .i64 (i : Int))], [(0, .slice 1 (ints ((l.take (3 * i)).map fun n : Nat => Int.ofNat n)))], 1⟩) (fun _ => True) 3 0 (hdA [(0, 0)]) (by omega) trivial fun i hi _ J hJ => ?_
  have hln : ((l.take (3 * i)).map fun n : Nat => Int.ofNat n).length = 3 * i := by simp [hll]; omega
  by_cases h1 : i < 3
  rotate_left
  · have hlt : decide ((i : Int) < 3) = false := decide_eq_false (by omega)
    rw [show 3 * i = 9 by omega, List.take_of_length_le (by omega)]
    simp only [hlt, push_cast, ↓J1, ↓J2, N1, N2, N3, reduceCtorEq, N4, N5, N6, reduceIte, N7, I1, I2, I3]
    exact RetTo_ow rfl (by rw [ints_length]; exact hlm.symm)
  have hK := hJ h1 trivial
  have hlt : decide ((i : Int) < 3) = true := decide_eq_true (by omega)
  obtain ⟨r, e1, e2, e3, e9⟩ := nine_row h h1
  have hrl : (ints r).length = 3 := by rw [ints_length, e2]
  have hra : (ints r).all (fun e => e.length == 1) = true := by simp [ints]
  have w3 : IntKind.i64.wrap ((i : Int) + 1) = (i : Int) + 1 := wrap64 (by omega) (by omega)
  have tk : List.take (3 * i) (ints ((l.take (3 * i)).map fun n : Nat => Int.ofNat n)) = ints ((l.take (3 * i)).map fun n : Nat => Int.ofNat n) := List.take_of_length_le (by rw [ints_length, hln]; omega)
  have hap : ints ((l.take (3 * i)).map fun n : Nat => Int.ofNat n) ++ ints r = ints ((l.take (3 * (i + 1))).map fun n : Nat => Int.ofNat n) := by
    have e10 : r = (List.drop (3 * i) (l.take (3 * (i + 1)))).map fun n : Nat => Int.ofNat n := by
      refine List.ext_getElem? fun k => ?_
      by_cases hk : k < 3
      · rw [e9 k hk, List.getElem?_map, List.getElem?_drop, List.getElem?_take, if_pos (by omega), List.getElem?_eq_getElem (by omega)]
        simp [List.getD, show 3 * i + k < l.length by omega]
      · rw [List.getElem?_eq_none (by omega), List.getElem?_eq_none (by simp; omega)]
    rw [← List.take_append_drop (3 * i) (l.take (3 * (i + 1))), List.take_take, Nat.min_eq_left (by omega), List.map_append, ← e10]
    simp only [ints, List.map_append]
  simp only [hlt, Int.toNat_natCast, e1, hrl, hra, w3, tk, ints_length, hln, if_true, push_cast, ↓J1, ↓J2, N1, N2, N3, reduceCtorEq, N4, N5, N6, reduceIte, N7, I1, I2, I3]
  repeat (refine ⟨by omega, ?_⟩)
  refine hK _ (hdA [(1, 0)] (hh := ?_))
  simp only [canR, canB, renO, renL, ren, lkp, hget, N7, N5, Nat.not_lt_zero, if_false, if_true, reduceIte, List.append_nil, List.nil_append, hap]
  all_goals rfl
end
end Go.Proofs.YtedgfiikaedeoaaDoor.X
set_option maxHeartbeats 1000000
set_option maxRecDepth 8000
set_option linter.unusedSimpArgs false
set_option linter.unusedVariables false
open Nat renaming reduceBEq → N1, reduceAdd → N2, reduceSub → N3, reduceMul → N4, reduceEqDiff → N5, reduceLeDiff → N6, reduceLT → N7
open Int renaming reduceLE → I1, reduceLT → I2, reduceToNat → I3
namespace Go.Proofs.YtedgfiikaedeoaaDoor.X
open Go
variable {mx : Int} {ev1 ev2 : Value}
def w64 (n : Int) : Int := IntKind.i64.wrap n
theorem w64_id {n : Int} (h1 : -9223372036854775808 ≤ n) (h2 : n ≤ 9223372036854775807) : w64 n = n := wrap64 h1 h2
def dmod (x m : Int) : Int := (w64 (x.tmod m + m)).tmod m
def mixA (a b x : Int) : Int := (w64 (w64 (w64 (16807 * a) + dmod x 2147483647) + b)).tmod 2147483647
def mixB (a' b x : Int) : Int := (w64 (w64 (w64 (39373 * b) + dmod x 2147483629) + a')).tmod 2147483629
def mixS (ab : Int × Int) (x : Int) : Int × Int := (mixA ab.1 ab.2 x, mixB (mixA ab.1 ab.2 x) ab.2 x)
def mixF (l : List Int) (n : Int) : Int × Int := l.foldl mixS (7, w64 (n + 1))
def mixL (l : List Int) : Int × Int := mixF (l ++ [1, 1, 1]) l.length
theorem mixF_succ {l : List Int} {n : Int} {i : Nat} (h : i < l.length) : mixF (l.take (i + 1)) n = mixS (mixF (l.take i) n) l[i] := by
  simp only [mixF, List.take_succ_eq_append_getElem h, List.foldl_append, List.foldl_cons, List.foldl_nil]
section
variable {C : CT} (hC : Closed Tryd.prog (Gp mx ev1 ev2) md0 C)
include hC
end
end Go.Proofs.YtedgfiikaedeoaaDoor.X
