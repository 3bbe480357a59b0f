/- A part of the proof: lemmas on the machine or on the functions that the law reaches. No condition of its own. -/
import Derived.Test.YtjaccjeejeiphaaGreatDoorXP2
import Derived.Test.YtjaccjeejeiphaaGreatDoorXP4
set_option maxHeartbeats 1000000
set_option maxRecDepth 8000
set_option linter.unusedSimpArgs false
set_option linter.unusedSectionVars false
set_option linter.unusedVariables false
open Nat renaming reduceBEq → N1, reduceAdd → N2, reduceSub → N3, reduceMul → N4, reduceEqDiff → N5, reduceLeDiff → N6, reduceLT → N7
open Int renaming reduceLE → I1, reduceLT → I2, reduceToNat → I3
namespace Go.Proofs.YtjaccjeejeiphaaGreatDoor.X
open Go
def intss (W : List (List Int)) : List (List AV) := W.map fun r => [.sl (ints r)]
def owss (W : List (List Int)) : List (List AV) := W.map fun r => [.ow 1 (ints r)]
theorem intss_length (W : List (List Int)) : (intss W).length = W.length := by simp [intss]
theorem owss_length (W : List (List Int)) : (owss W).length = W.length := by simp [owss]
theorem frzLL_owss (W : List (List Int)) : frzLL (owss W) = intss W := by
  unfold owss intss
  induction W with
  | nil => rfl
  | cons x l ih => simp only [List.map_cons, frzLL, frzL, frzT, frzLL_ints, ih]
theorem own_intss (W : List (List Int)) : ownR (.ow 1 (owss W)) = true := by
  simp only [ownR]
  unfold owss
  induction W with
  | nil => rfl
  | cons x l ih =>
    have e2 := own_ints x
    simp only [ownR] at e2
    simp only [List.map_cons, ownRLL, ownRL, ownR, e2, Bool.and_true, Bool.true_and]; exact ih
def lens (W : List (List Int)) : Nat := (W.map List.length).sum
def szRows : List (List Int) → Int → Int
  | [], v => v
  | r :: W, v => if v < r.length then -1 else szRows W (v - r.length)
def szSS (W : List (List Int)) (v : Int) : Int := if v < W.length then -1 else szRows W (v - W.length)
theorem szRows_le {B : Int} : ∀ (W : List (List Int)) (v : Int), 0 ≤ v → v ≤ B → 0 ≤ szRows W v → ∀ r ∈ W, (r.length : Int) ≤ B
  | [], v, _, _, _, r, hr => by simp at hr
  | s :: W, v, h0, hB, h, r, hr => by
    simp only [szRows] at h
    split at h
    · omega
    · rename_i hs
      rcases List.mem_cons.1 hr with rfl | hr
      · omega
      · exact szRows_le W (v - s.length) (by omega) (by omega) h r hr
theorem szSS_le {W : List (List Int)} {v : Int} (h0 : 0 ≤ v) (h : 0 ≤ szSS W v) : (W.length : Int) ≤ v ∧ ∀ r ∈ W, (r.length : Int) ≤ v := by
  simp only [szSS] at h
  split at h
  · omega
  · rename_i hs
    exact ⟨by omega, szRows_le W _ (by omega) (by omega) h⟩
theorem lens_succ {W : List (List Int)} {i : Nat} (h : i < W.length) : lens (W.take (i + 1)) = lens (W.take i) + W[i].length := by
  rw [lens, List.take_succ_eq_append_getElem h, List.map_append, List.sum_append]; simp only [lens, List.map_cons, List.map_nil, List.sum_cons, List.sum_nil, Nat.add_zero]
def sumW (r : List Int) : Int := r.foldl (fun a x => IntKind.i64.wrap (a + x)) 0
theorem sumW_succ {r : List Int} {i : Nat} (h : i < r.length) : sumW (r.take (i + 1)) = IntKind.i64.wrap (sumW (r.take i) + r[i]) := by
  rw [sumW, List.take_succ_eq_append_getElem h, List.foldl_append]; rfl
def rowOk (r : List Int) : Bool := decide (r.length = 3) && r.all (inR 0 36) && decide (sumW r = 36)
def goodW (W : List (List Int)) : Bool := decide (W.length = 3) && W.all rowOk
def clA (W : List (List Int)) : AV := .agg [.sl (intss W)]
def clO (W : List (List Int)) : AV := .agg [.ow 1 (owss W)]
theorem own_cl (W : List (List Int)) : ownR (clO W) = true := by
  have e1 := own_intss W
  simp only [ownR] at e1
  simp only [clO, ownR, ownRL, e1, Bool.and_true]
section
variable {C : CT} (hC : Closed Tryz.prog G1 md0 C)
include hC
theorem t75 (W : List (List Int)) (v : Int) (hv : 0 ≤ v ∧ v < 2^50) (hW : W.length < 2^50) (hr : ∀ r ∈ W, r.length < 2^50) : Ev C 75 [.sl (intss W), .int .i64 v] (.int .i64 (szSS W v)) := by
  refine rT hC Q75 ?_
  simp only [c75, intss, List.length_map, push_cast, ↓J1, ↓J2, N1, N2, N3, reduceCtorEq, N4, N5, N6, reduceIte, N7, I1, I2, I3]
  rw [wrap64 (by omega) (by omega)]
  refine ifB_intro (fun h => ?_) (fun h => ?_)
  · simp only [szSS]; simp at h; rw [if_pos (by omega)]
  · simp only [decide_eq_false_iff_not, Int.not_lt] at h
    refine RL_count (fun i => ⟨tb 27 .any [(0, .sl (W.map fun r => [.sl (ints r)])), (1, .int .i64 (v - W.length - lens (W.take i))), (5, .int .i64 (i : Int))], [], 0⟩) (fun i => 0 ≤ v - W.length - lens (W.take i) ∧ szSS W v = szRows (W.drop i) (v - W.length - lens (W.take i))) W.length 0 (head_tb [] rfl (by simp only [keptV_cons, keptV_nil, tb_get, lk_same, lk_ne, lk_nil, ren, renL, lkp, N7, N1, N5, reduceIte, and_true, true_and, Nat.not_lt_zero, if_false, if_true, Nat.add_zero, Nat.zero_add]; simp [lens]) rfl) (by omega) (by simp [lens, szSS]; omega) fun i hi ⟨ht0, ht⟩ J hJ => ?_
    by_cases h1 : i < W.length
    · have hri := hr _ (List.getElem_mem h1)
      simp only [List.length_map, Int.toNat_natCast, List.getElem?_map, List.getElem?_eq_getElem h1, push_cast, ↓J1, ↓J2, N1, N2, N3, reduceCtorEq, N4, N5, N6, reduceIte, N7, I1, I2, I3]
      refine ifB_intro (fun _ => ⟨by omega, _, t60 hC _ _ (by omega) (by rw [ints_length]; exact hri), ?_⟩) (fun h => by simp at h; omega)
      rw [List.drop_eq_getElem_cons h1, szRows] at ht
      simp only [ints_length, push_cast, ↓J1, ↓J2, N1, N2, N3, reduceCtorEq, N4, N5, N6, reduceIte, N7, I1, I2, I3]
      refine ifB_intro (fun h => ?_) (fun h => ?_)
      · rw [ht]
        simp only [decide_eq_true_eq] at h
        split at h <;> rename_i hh
        · rw [if_pos hh]
        · omega
      · simp only [decide_eq_false_iff_not] at h
        have hh : ¬ (v - W.length - lens (W.take i) < W[i].length) := fun hh => h (by rw [if_pos hh]; omega)
        rw [if_neg hh] at ht
        have el : v - (W.length : Int) - lens (W.take (i + 1)) = v - W.length - lens (W.take i) - W[i].length := by
          rw [lens_succ h1]; omega
        refine hJ h1 ⟨by omega, by rw [el]; exact ht⟩ _ (hdA [] (hV := ?_))
        simp only [keptV_cons, keptV_nil, tb_get, lk_same, lk_ne, lk_nil, ren, renL, lkp, N7, N1, N5, reduceIte, and_true, true_and, Nat.not_lt_zero, if_false, if_true, Nat.add_zero, Nat.zero_add]
        rw [wrap64 (by omega) (by omega), if_neg hh, el]
        exact ⟨rfl, rfl⟩
    · simp only [List.length_map, Int.toNat_natCast, List.getElem?_map, push_cast, ↓J1, ↓J2, N1, N2, N3, reduceCtorEq, N4, N5, N6, reduceIte, N7, I1, I2, I3]
      refine ifB_intro (fun h => by simp at h; omega) (fun h => ?_)
      rw [ht, List.drop_eq_nil_of_le (by omega)]
      rfl
theorem t80 (W : List (List Int)) (hW : W.length < 2^30) (hr : ∀ r ∈ W, r.length < 2^30) : Ev C 80 [.sl (intss W)] (.ow 1 (owss W)) := by
  refine rT hC Q80 ?_ (own_intss W)
  simp only [c80, intss, List.length_map, push_cast, ↓J1, ↓J2, N1, N2, N3, reduceCtorEq, N4, N5, N6, reduceIte, N7, I1, I2, I3]
  refine ⟨by omega, by omega, by omega, by omega, ?_⟩
  refine RL_count (fun i => ⟨tb 23 .any [(0, .sl (W.map fun r => [.sl (ints r)])), (3, .ref 0 none 1 0 W.length), (4, .int .i64 (i : Int))], [(0, .slice 1 ((W.take i).map (fun r => [.ow 1 (ints r)]) ++ List.replicate (W.length - i) [.nil]))], 1⟩) (fun _ => True) W.length 0 (hdA [(0, 0)]) (by omega) trivial fun i hi _ J hJ => ?_
  by_cases h1 : i < W.length
  · rw [show W.length - i = (W.length - (i + 1)) + 1 by omega, List.replicate_succ]
    simp only [List.length_map, Int.toNat_natCast, List.getElem?_map, List.getElem?_eq_getElem h1, push_cast, ↓J1, ↓J2, N1, N2, N3, reduceCtorEq, N4, N5, N6, reduceIte, N7, I1, I2, I3]
    refine ifB_intro (fun _ => ⟨by omega, _, t66 hC _ (hr _ (List.getElem_mem h1)), ?_⟩) (fun h => by simp at h; omega)
    simp only [Int.toNat_natCast, mid_get (show ((W.take i).map fun r => [AV.ow 1 (ints r)]).length = i by simp; omega), mid_set (show ((W.take i).map fun r => [AV.ow 1 (ints r)]).length = i by simp; omega), push_cast, ↓J1, ↓J2, N1, N2, N3, reduceCtorEq, N4, N5, N6, reduceIte, N7, I1, I2, I3]
    refine ⟨by omega, by omega, ?_⟩
    refine hJ h1 trivial _ (hdA [(0, 0)] (hh := ?_))
    rw [List.take_succ_eq_append_getElem h1, List.map_append, List.append_assoc]
    simp only [hdel, canR, canB, renO, renL, ren, lkp, hget, N7, N5, Nat.not_lt_zero, if_false, if_true, reduceIte, List.append_nil, List.nil_append]
    rfl
  · simp only [List.length_map, Int.toNat_natCast, List.getElem?_map, push_cast, ↓J1, ↓J2, N1, N2, N3, reduceCtorEq, N4, N5, N6, reduceIte, N7, I1, I2, I3]
    refine ifB_intro (fun h => by simp at h; omega) (fun h => ?_)
    rw [List.take_of_length_le (by omega), show W.length - i = 0 by omega]
    exact RetTo_ow (by simp [hget, owss]) (by simp [owss])
theorem t85 (W V : List (List Int)) (hW : W.length < 2^50) (hV : V.length < 2^50) (hr : ∀ r ∈ W, r.length < 2^50) (hs : ∀ r ∈ V, r.length < 2^50) : Ev C 85 [.sl (intss W), .sl (intss V)] (.bool (decide (W = V))) := by
  refine rT hC Q85 ?_
  simp only [c85, intss, List.length_map, push_cast, ↓J1, ↓J2, N1, N2, N3, reduceCtorEq, N4, N5, N6, reduceIte, N7, I1, I2, I3]
  refine ifB_intro (fun h => ?_) (fun h => ?_)
  · have hlm : W.length = V.length := by simp at h; omega
    refine RL_count (fun i => ⟨tb 27 .any [(0, .sl (W.map fun r => [.sl (ints r)])), (1, .sl (V.map fun r => [.sl (ints r)])), (5, .int .i64 (i : Int))], [], 0⟩) (fun i => W.take i = V.take i) W.length 0 (hdA []) (by omega) rfl fun i hi ht J hJ => ?_
    by_cases h1 : i < W.length
    · have h2 : i < V.length := by omega
      simp only [List.length_map, Int.toNat_natCast, List.getElem?_map, List.getElem?_eq_getElem h1, List.getElem?_eq_getElem h2, push_cast, ↓J1, ↓J2, N1, N2, N3, reduceCtorEq, N4, N5, N6, reduceIte, N7, I1, I2, I3]
      refine ifB_intro (fun _ => ⟨by omega, by omega, _, t72 hC _ _ (hr _ (List.getElem_mem h1)) (hs _ (List.getElem_mem h2)), ?_⟩) (fun h => by simp at h; omega)
      simp only [push_cast, ↓J1, ↓J2, N1, N2, N3, reduceCtorEq, N4, N5, N6, reduceIte, N7, I1, I2, I3]
      refine ifB_intro (fun h => ?_) (fun h => ?_)
      · refine hJ h1 ?_ _ (hdA [])
        rw [List.take_succ_eq_append_getElem h1, List.take_succ_eq_append_getElem h2, ht]
        have h' : W[i] = V[i] := by simpa using h
        rw [h']
      · have : ¬ W = V := by rintro rfl; simp at h
        simp [this]
    · simp only [List.length_map, Int.toNat_natCast, List.getElem?_map, push_cast, ↓J1, ↓J2, N1, N2, N3, reduceCtorEq, N4, N5, N6, reduceIte, N7, I1, I2, I3]
      refine ifB_intro (fun h => by simp at h; omega) (fun h => ?_)
      rw [List.take_of_length_le (by omega), List.take_of_length_le (by omega)] at ht
      simp [ht]
  · have : ¬ W = V := by rintro rfl; simp at h
    simp [this]
theorem t74 (W : List (List Int)) (v : Int) (hv : 0 ≤ v ∧ v < 2^50) (hW : W.length < 2^50) (hr : ∀ r ∈ W, r.length < 2^50) : Ev C 74 [clA W, .int .i64 v] (.int .i64 (if szSS W v < 0 then -1 else szSS W v)) := by
  simp only [clA]
  refine rT hC Q74 ?_
  simp only [c74, push_cast, ↓J1, ↓J2, N1, N2, N3, reduceCtorEq, N4, N5, N6, reduceIte, N7, I1, I2, I3]
  repeat' (first
    | simp only [push_cast, ↓J1, ↓J2, N1, N2, N3, reduceCtorEq, N4, N5, N6, reduceIte, N7, I1, I2, I3]
    | refine ⟨_, t75 hC W v hv hW hr, ?_⟩
    | refine ifB_intro (fun h => ?_) (fun h => ?_))
  all_goals simp_all
  all_goals omega
theorem t79 (W : List (List Int)) (hW : W.length < 2^30) (hr : ∀ r ∈ W, r.length < 2^30) : Ev C 79 [clA W] (clO W) := by
  simp only [clA]
  refine rT hC Q79 ?_ (own_cl W)
  simp only [c79, push_cast, ↓J1, ↓J2, N1, N2, N3, reduceCtorEq, N4, N5, N6, reduceIte, N7, I1, I2, I3]
  refine ⟨_, t80 hC _ hW hr, ?_⟩
  simp only [push_cast, ↓J1, ↓J2, N1, N2, N3, reduceCtorEq, N4, N5, N6, reduceIte, N7, I1, I2, I3]
  simp only [clO]
  exact rtA
theorem t84 (W V : List (List Int)) (hW : W.length < 2^50) (hV : V.length < 2^50) (hr : ∀ r ∈ W, r.length < 2^50) (hs : ∀ r ∈ V, r.length < 2^50) : Ev C 84 [clA W, clA V] (.bool (decide (W = V))) := by
  simp only [clA]
  refine rT hC Q84 ?_
  simp only [c84, push_cast, ↓J1, ↓J2, N1, N2, N3, reduceCtorEq, N4, N5, N6, reduceIte, N7, I1, I2, I3]
  repeat' (first
    | simp only [push_cast, ↓J1, ↓J2, N1, N2, N3, reduceCtorEq, N4, N5, N6, reduceIte, N7, I1, I2, I3]
    | refine ⟨_, t85 hC W V hW hV hr hs, ?_⟩
    | refine ifB_intro (fun h => ?_) (fun h => ?_))
  all_goals simp_all
end
end Go.Proofs.YtjaccjeejeiphaaGreatDoor.X
set_option maxHeartbeats 1000000
set_option maxRecDepth 8000
set_option linter.unusedSimpArgs false
set_option linter.unusedVariables false
open Nat renaming reduceBEq → N1, reduceAdd → N2, reduceSub → N3, reduceMul → N4, reduceEqDiff → N5, reduceLeDiff → N6, reduceLT → N7
open Int renaming reduceLE → I1, reduceLT → I2, reduceToNat → I3
namespace Go.Proofs.YtjaccjeejeiphaaGreatDoor.X
open Go
theorem sum3 {a b c : Int} (ha : inR 0 36 a = true) (hb : inR 0 36 b = true) (hc : inR 0 36 c = true) : sumW [a, b, c] = a + b + c := by
  simp only [inR, Bool.and_eq_true, decide_eq_true_eq] at ha hb hc
  simp only [sumW, List.foldl]
  rw [Int.zero_add, wrap64 (n := a) (by omega) (by omega), wrap64 (n := a + b) (by omega) (by omega), wrap64 (by omega) (by omega)]
section
variable {C : CT} (hC : Closed Tryz.prog G1 md0 C)
include hC
theorem t268 (r : List Int) (hr : r.length < 2^50) : Ev C 268 [.sl (ints r)] (.int .i64 (sumW r)) := by
  refine rT hC Q268 ?_
  simp only [c268, ints, List.length_map, push_cast, ↓J1, ↓J2, N1, N2, N3, reduceCtorEq, N4, N5, N6, reduceIte, N7, I1, I2, I3]
  refine RL_count (fun i => ⟨tb 17 .any [(3, .int .i64 (sumW (r.take i))), (6, .sl (r.map fun n => [.int .i64 n])), (7, .int .i64 (r.length : Int)), (8, .int .i64 (i : Int))], [], 0⟩) (fun _ => True) r.length 0 (head_tb [] rfl (by simp only [keptV_cons, keptV_nil, tb_get, lk_same, lk_ne, lk_nil, ren, renL, lkp, N7, N1, N5, reduceIte, and_true, true_and, Nat.not_lt_zero, if_false, if_true, Nat.add_zero, Nat.zero_add]; simp [sumW]) rfl) (by omega) trivial fun i hi _ J hJ => ?_
  by_cases h1 : i < r.length
  · simp only [List.length_map, Int.toNat_natCast, List.getElem?_map, List.getElem?_eq_getElem h1, push_cast, ↓J1, ↓J2, N1, N2, N3, reduceCtorEq, N4, N5, N6, reduceIte, N7, I1, I2, I3]
    refine ifB_intro (fun _ => ⟨by omega, ?_⟩) (fun h => by simp at h; omega)
    refine hJ h1 trivial _ (hdA [] (hV := ?_))
    simp only [keptV_cons, keptV_nil, tb_get, lk_same, lk_ne, lk_nil, ren, renL, lkp, N7, N1, N5, reduceIte, and_true, true_and, Nat.not_lt_zero, if_false, if_true, Nat.add_zero, Nat.zero_add]
    rw [wrap64 (n := (i : Int) + 1) (by omega) (by omega), sumW_succ h1]
    simp
  · simp only [List.length_map, Int.toNat_natCast, List.getElem?_map, push_cast, ↓J1, ↓J2, N1, N2, N3, reduceCtorEq, N4, N5, N6, reduceIte, N7, I1, I2, I3]
    refine ifB_intro (fun h => by simp at h; omega) (fun h => ?_)
    rw [List.take_of_length_le (by omega)]
theorem t213 (W : List (List Int)) (hW : W.length < 2^50) (hr : ∀ r ∈ W, r.length < 2^50) : Ev C 213 [clA W] (.bool (goodW W)) := by
  simp only [clA, goodW]
  refine rT hC Q213 ?_
  simp only [c213, intss, List.length_map, push_cast, ↓J1, ↓J2, N1, N2, N3, reduceCtorEq, N4, N5, N6, reduceIte, N7, I1, I2, I3]
  refine ifB_intro (fun h => ?_) (fun h => ?_)
  · have h3 : W.length = 3 := by simp at h; omega
    rw [show (decide (W.length = 3) && W.all rowOk) = W.all rowOk by simp [h3]]
    refine RL_count (fun i => ⟨tb 39 .any [(10, .sl (W.map fun r => [.sl (ints r)])), (11, .int .i64 (W.length : Int)), (12, .int .i64 (i : Int))], [], 0⟩) (fun i => W.all rowOk = (W.drop i).all rowOk) W.length 0 (hdA []) (by omega) rfl fun i hi ht J hJ => ?_
    by_cases h1 : i < W.length
    · have hri := hr _ (List.getElem_mem h1)
      rw [List.drop_eq_getElem_cons h1, List.all_cons] at ht
      simp only [List.length_map, Int.toNat_natCast, List.getElem?_map, List.getElem?_eq_getElem h1, push_cast, ↓J1, ↓J2, N1, N2, N3, reduceCtorEq, N4, N5, N6, reduceIte, N7, I1, I2, I3]
      generalize W[i] = r at *
      refine ifB_intro (fun _ => ⟨by omega, ?_⟩) (fun h => by simp at h; omega)
      rw [ints_length]
      refine ifB_intro (fun h => ?_) (fun h => ?_)
      · refine ⟨_, t203 hC r _ _ hri, ?_⟩
        simp only [push_cast, ↓J1, ↓J2, N1, N2, N3, reduceCtorEq, N4, N5, N6, reduceIte, N7, I1, I2, I3]
        have h5 : r.length = 3 := by simp at h; omega
        refine ifB_intro (fun h => ?_) (fun h => ?_)
        · obtain ⟨a, b, c, rfl⟩ : ∃ a b c, r = [a, b, c] := by
            match r, h5 with
            | [a, b, c], _ => exact ⟨a, b, c, rfl⟩
          simp only [ints, push_cast, ↓J1, ↓J2, N1, N2, N3, reduceCtorEq, N4, N5, N6, reduceIte, N7, I1, I2, I3]
          simp only [List.all_cons, List.all_nil, Bool.and_true, Bool.and_eq_true] at h
          have e3 := sum3 h.1 h.2.1 h.2.2
          have e4 : rowOk [a, b, c] = decide (a + b + c = 36) := by
            simp [rowOk, e3, h.1, h.2.1, h.2.2]
          have b1 := h.1; have b2 := h.2.1; have b3 := h.2.2
          simp only [inR, Bool.and_eq_true, decide_eq_true_eq] at b1 b2 b3
          rw [wrap64 (n := a + b) (by omega) (by omega), wrap64 (n := a + b + c) (by omega) (by omega)]
          refine ifB_intro (fun hh => ?_) (fun hh => ?_)
          · refine hJ h1 ?_ _ (hdA [])
            rw [ht, e4, hh]; rfl
          · rw [ht, e4, hh]; rfl
        · rw [ht]; simp only [rowOk, h, Bool.and_false, Bool.false_and]
      · have h5 : ¬ r.length = 3 := by simp at h; omega
        rw [ht]; simp [rowOk, h5]
    · simp only [List.length_map, Int.toNat_natCast, List.getElem?_map, push_cast, ↓J1, ↓J2, N1, N2, N3, reduceCtorEq, N4, N5, N6, reduceIte, N7, I1, I2, I3]
      refine ifB_intro (fun h => by simp at h; omega) (fun h => ?_)
      rw [ht, List.drop_eq_nil_of_le (by omega)]
      rfl
  · have h3 : ¬ W.length = 3 := by simp at h; omega
    simp [h3]
theorem t217 (W : List (List Int)) (hW : W.length < 2^50) (hr : ∀ r ∈ W, r.length < 2^50) : Ev C 217 [clA W] (.bool (goodW W)) := by
  simp only [clA, goodW]
  refine rT hC Q217 ?_
  simp only [c217, intss, List.length_map, push_cast, ↓J1, ↓J2, N1, N2, N3, reduceCtorEq, N4, N5, N6, reduceIte, N7, I1, I2, I3]
  refine ifB_intro (fun h => ?_) (fun h => ?_)
  · have h3 : W.length = 3 := by simp at h; omega
    rw [show (decide (W.length = 3) && W.all rowOk) = W.all rowOk by simp [h3]]
    refine RL_count (fun i => ⟨tb 37 .any [(12, .sl (W.map fun r => [.sl (ints r)])), (13, .int .i64 (W.length : Int)), (14, .int .i64 (i : Int))], [], 0⟩) (fun i => W.all rowOk = (W.drop i).all rowOk) W.length 0 (hdA []) (by omega) rfl fun i hi ht J hJ => ?_
    by_cases h1 : i < W.length
    · have hri := hr _ (List.getElem_mem h1)
      rw [List.drop_eq_getElem_cons h1, List.all_cons] at ht
      simp only [List.length_map, Int.toNat_natCast, List.getElem?_map, List.getElem?_eq_getElem h1, push_cast, ↓J1, ↓J2, N1, N2, N3, reduceCtorEq, N4, N5, N6, reduceIte, N7, I1, I2, I3]
      generalize W[i] = r at *
      refine ifB_intro (fun _ => ⟨by omega, ?_⟩) (fun h => by simp at h; omega)
      rw [ints_length]
      refine ifB_intro (fun h => ?_) (fun h => ?_)
      · refine ⟨_, t268 hC r hri, ?_⟩
        simp only [push_cast, ↓J1, ↓J2, N1, N2, N3, reduceCtorEq, N4, N5, N6, reduceIte, N7, I1, I2, I3]
        have h5 : r.length = 3 := by simp at h; omega
        refine ifB_intro (fun h => ?_) (fun h => ?_)
        · have e4 : rowOk r = r.all (inR 0 36) := by
            simp only [rowOk, h5, h, decide_true, Bool.true_and, Bool.and_true]
          refine RL_count (fun k => ⟨tb 37 .any [(12, .sl (W.map fun r => [.sl (ints r)])), (13, .int .i64 (W.length : Int)), (14, .int .i64 (i : Int)), (26, .sl (r.map fun n => [.int .i64 n])), (27, .int .i64 (r.length : Int)), (28, .int .i64 (k : Int))], [], 0⟩) (fun k => r.all (inR 0 36) = (r.drop k).all (inR 0 36)) r.length 0 (head_tb [] rfl (by simp only [ints, List.length_map, keptV_cons, keptV_nil, tb_get, lk_same, lk_ne, lk_nil, ren, renL, lkp, N7, N1, N5, reduceIte, and_true, true_and, Nat.not_lt_zero, if_false, if_true, Nat.add_zero, Nat.zero_add]; simp) rfl) (by omega) rfl fun k hk hkt J' hJ' => ?_
          by_cases h6 : k < r.length
          · rw [List.drop_eq_getElem_cons h6, List.all_cons] at hkt
            simp only [List.length_map, Int.toNat_natCast, List.getElem?_map, List.getElem?_eq_getElem h6, push_cast, ↓J1, ↓J2, N1, N2, N3, reduceCtorEq, N4, N5, N6, reduceIte, N7, I1, I2, I3]
            refine ifB_intro (fun _ => ⟨by omega, _, t109 hC _ _ _, ?_⟩) (fun h => by simp at h; omega)
            simp only [push_cast, ↓J1, ↓J2, N1, N2, N3, reduceCtorEq, N4, N5, N6, reduceIte, N7, I1, I2, I3]
            refine ifB_intro (fun hh => ?_) (fun hh => ?_)
            · refine hJ' h6 ?_ _ (hdA [])
              rw [hkt]; simp only [inR] at hh ⊢; rw [hh]; rfl
            · rw [ht, e4, hkt]; simp only [inR] at hh ⊢; rw [hh]; rfl
          · simp only [List.length_map, Int.toNat_natCast, List.getElem?_map, push_cast, ↓J1, ↓J2, N1, N2, N3, reduceCtorEq, N4, N5, N6, reduceIte, N7, I1, I2, I3]
            refine ifB_intro (fun h => by simp at h; omega) (fun h => ?_)
            rw [List.drop_eq_nil_of_le (by omega)] at hkt
            refine hJ h1 ?_ _ (hdA [])
            rw [ht, e4, hkt]; rfl
        · rw [ht]; simp only [rowOk, h, Bool.and_false, Bool.false_and]
      · have h5 : ¬ r.length = 3 := by simp at h; omega
        rw [ht]; simp [rowOk, h5]
    · simp only [List.length_map, Int.toNat_natCast, List.getElem?_map, push_cast, ↓J1, ↓J2, N1, N2, N3, reduceCtorEq, N4, N5, N6, reduceIte, N7, I1, I2, I3]
      refine ifB_intro (fun h => by simp at h; omega) (fun h => ?_)
      rw [ht, List.drop_eq_nil_of_le (by omega)]
      rfl
  · have h3 : ¬ W.length = 3 := by simp at h; omega
    simp [h3]
theorem t322 (n : Int) : Ev C 322 [.int .i64 n] (.bool (inR 0 2 n)) := by
  refine rT hC Q322 ?_
  simp only [c322, push_cast, ↓J1, ↓J2, N1, N2, N3, reduceCtorEq, N4, N5, N6, reduceIte, N7, I1, I2, I3]
  refine ⟨_, t109 hC _ _ _, ?_⟩
  simp only [push_cast, ↓J1, ↓J2, N1, N2, N3, reduceCtorEq, N4, N5, N6, reduceIte, N7, I1, I2, I3]
  rfl
end
end Go.Proofs.YtjaccjeejeiphaaGreatDoor.X
set_option maxHeartbeats 4000000
set_option maxRecDepth 8000
set_option linter.unusedSimpArgs false
set_option linter.unusedVariables false
open Nat renaming reduceBEq → N1, reduceAdd → N2, reduceSub → N3, reduceMul → N4, reduceEqDiff → N5, reduceLeDiff → N6, reduceLT → N7
open Int renaming reduceLE → I1, reduceLT → I2, reduceToNat → I3
namespace Go.Proofs.YtjaccjeejeiphaaGreatDoor.X
open Go
attribute [local irreducible] Ev
structure Od where
  a : Int
  b : Int
  deriving DecidableEq
def odA (o : Od) : List AV := [.int .i64 o.a, .int .i64 o.b]
def ods (l : List Od) : List (List AV) := l.map odA
theorem ods_length (l : List Od) : (ods l).length = l.length := by simp [ods]
theorem frzLL_ods (l : List Od) : frzLL (ods l) = ods l := by
  unfold ods
  induction l with
  | nil => rfl
  | cons x l ih => simp only [List.map_cons, frzLL, odA, frzL, frzT, ih]
theorem own_ods (l : List Od) : ownRLL (ods l) = true := by
  unfold ods
  induction l with
  | nil => rfl
  | cons x l ih => simp only [List.map_cons, ownRLL, odA, ownRL, ownR, Bool.and_true, Bool.true_and]; exact ih
theorem own_owss (W : List (List Int)) : ownRLL (owss W) = true := by have := own_intss W; simpa only [ownR] using this
structure Ct where
  cs : List Od
  d : Int
  rs : List (List Int)
  deriving DecidableEq
def ctF (t : Ct) : List AV := [.sl (ods t.cs), .int .i64 t.d, .sl (intss t.rs)]
def ctO (t : Ct) : List AV := [.ow 2 (ods t.cs), .int .i64 t.d, .ow 1 (owss t.rs)]
structure SSB (B : Nat) (W : List (List Int)) : Prop where
  l : W.length < B
  r : ∀ r ∈ W, r.length < B
structure CtB (B : Nat) (t : Ct) : Prop where
  c : t.cs.length < B
  r : SSB B t.rs
def sz1 (l : List Od) (v : Int) : Int := sub1 v l.length
def szCt (t : Ct) : Int → Int := andThen (sz1 t.cs) (szSS t.rs)
def szCl (W : List (List Int)) (v : Int) : Int := if szSS W v < 0 then -1 else szSS W v
theorem szRows_rng : ∀ (W : List (List Int)) (v : Int), 0 ≤ v → -1 ≤ szRows W v ∧ szRows W v ≤ v
  | [], v, h => by simp only [szRows]; omega
  | r :: W, v, h => by
    simp only [szRows]
    split
    · omega
    · have := szRows_rng W (v - r.length) (by omega); omega
theorem szSS_rng {W : List (List Int)} {v : Int} (h : 0 ≤ v) : -1 ≤ szSS W v ∧ szSS W v ≤ v := by
  simp only [szSS]
  split
  · omega
  · have := szRows_rng W (v - W.length) (by omega); omega
theorem szSS_pos {W : List (List Int)} {v : Int} (h0 : 0 ≤ v) (hv : v ≤ 1048576) (h : 0 ≤ szSS W v) : SSB (2 ^ 21) W := by
  have := szSS_le h0 h
  exact ⟨by omega, fun r hr => by have := this.2 r hr; omega⟩
theorem szCl_rng {W : List (List Int)} {v : Int} (h : 0 ≤ v) : -1 ≤ szCl W v ∧ szCl W v ≤ v := by
  have := szSS_rng (W := W) h
  simp only [szCl]; split <;> omega
theorem szCt_rng {t : Ct} {v : Int} (h : 0 ≤ v) : -1 ≤ szCt t v ∧ szCt t v ≤ v := by
  have h1 : -1 ≤ sz1 t.cs v ∧ sz1 t.cs v ≤ v := sub1_le h
  simp only [szCt, andThen]
  split
  · omega
  · have := szSS_rng (W := t.rs) (v := sz1 t.cs v) (by omega)
    split <;> omega
theorem SSB.mono {A B : Nat} {W : List (List Int)} (h : A ≤ B) (hb : SSB A W) : SSB B W := ⟨by have := hb.l; omega, fun r hr => by have := hb.r r hr; omega⟩
theorem CtB.mono {A B : Nat} {t : Ct} (h : A ≤ B) (hb : CtB A t) : CtB B t := ⟨by have := hb.c; omega, hb.r.mono h⟩
theorem szCt_pos {t : Ct} {v : Int} (h0 : 0 ≤ v) (hv : v ≤ 1048576) (h : 0 ≤ szCt t v) : CtB (2 ^ 21) t := by
  have h1 : -1 ≤ sz1 t.cs v ∧ sz1 t.cs v ≤ v := sub1_le h0
  simp only [szCt, andThen] at h
  split at h
  · omega
  split at h
  · omega
  have h2 := sub1_pos (v := v) (n := t.cs.length) (by show 0 ≤ sz1 t.cs v; omega)
  exact ⟨by omega, szSS_pos (by omega) (by omega) h⟩
def od0 : Od := ⟨0, 0⟩
def prevO (cs : List Od) (i : Nat) : Od := cs.getD (i - 1) od0
def odOk (cs : List Od) (i : Nat) (o : Od) : Bool := inR 1 20 o.a && inR 1 20 o.b && !(decide (0 < (i : Int)) && decide (IntKind.i64.wrap (o.a * (prevO cs i).b) ≤ IntKind.i64.wrap ((prevO cs i).a * o.b)))
def ctRow (n : Nat) (r : List Int) : Bool := decide ((r.length : Int) = (n : Int)) && r.all (inR 0 7)
def ctOk (t : Ct) : Bool := inR 1 8 t.cs.length && inR 1 2 t.d && decide ((t.rs.length : Int) = 5 * t.d + 1) && allI (odOk t.cs) t.cs && t.rs.all (ctRow t.cs.length)
section
variable {C : CT} (hC : Closed Tryz.prog G1 md0 C)
include hC
theorem t156 (l : List Od) (v : Int) (hv : 0 ≤ v ∧ v < 2^50) (hl : l.length < 2^50) : Ev C 156 [.sl (ods l), .int .i64 v] (.int .i64 (sz1 l v)) := by
  refine rT hC Q156 ?_
  simp only [c156, ods_length, push_cast, ↓J1, ↓J2, N1, N2, N3, reduceCtorEq, N4, N5, N6, reduceIte, N7, I1, I2, I3]
  rw [wrap64 (by omega) (by omega)]
  refine ifB_intro (fun h => ?_) (fun h => ?_)
  · have h' : v < l.length := by simp at h; omega
    simp only [sz1, sub1, if_pos h']
  · have h' : ¬ v < l.length := by simp at h; omega
    simp only [sz1, sub1, if_neg h']
theorem t73 (t : Ct) (v : Int) (hv : 0 ≤ v ∧ v < 2^50) (hb : CtB (2^50) t) : Ev C 73 [.agg (ctF t), .int .i64 v] (.int .i64 (szCt t v)) := by
  have h1 := sub1_le (n := t.cs.length) hv.1
  simp only [ctF]
  refine rT hC Q73 ?_
  simp only [c73, push_cast, ↓J1, ↓J2, N1, N2, N3, reduceCtorEq, N4, N5, N6, reduceIte, N7, I1, I2, I3]
  refine ⟨_, t156 hC _ _ hv hb.c, ?_⟩
  simp only [push_cast, ↓J1, ↓J2, N1, N2, N3, reduceCtorEq, N4, N5, N6, reduceIte, N7, I1, I2, I3]
  refine ifB_intro (fun h => ?_) (fun h => ?_)
  · simp only [szCt, andThen, if_pos (of_decide_eq_true h)]
  · have hn := of_decide_eq_false h
    refine ⟨_, t75 hC _ _ ⟨by omega, by simp only [sz1] at *; omega⟩ hb.r.l hb.r.r, ?_⟩
    simp only [push_cast, ↓J1, ↓J2, N1, N2, N3, reduceCtorEq, N4, N5, N6, reduceIte, N7, I1, I2, I3]
    refine ifB_intro (fun h => ?_) (fun h => ?_)
    · simp only [szCt, andThen, if_neg hn, if_pos (of_decide_eq_true h)]
    · simp only [szCt, andThen, if_neg hn, if_neg (of_decide_eq_false h)]
theorem t215 (o : Od) : Ev C 215 [.agg (odA o)] (.agg (odA o)) := by
  simp only [odA]
  refine rT hC Q215 ?_
  simp only [c215, push_cast, ↓J1, ↓J2, N1, N2, N3, reduceCtorEq, N4, N5, N6, reduceIte, N7, I1, I2, I3]
  exact rtA
theorem t159 (l : List Od) (hl : l.length < 2^30) : Ev C 159 [.sl (ods l)] (.ow 2 (ods l)) := by
  refine rT hC Q159 ?_ (by simp only [ownR, own_ods])
  simp only [c159, ods_length, push_cast, ↓J1, ↓J2, N1, N2, N3, reduceCtorEq, N4, N5, N6, reduceIte, N7, I1, I2, I3]
  repeat (refine ⟨by omega, ?_⟩)
  refine RL_count (fun i => ⟨tb 23 .any [(0, .sl (ods l)), (3, .ref 0 none 2 0 l.length), (4, .int .i64 (i : Int))], [(0, .slice 2 ((l.take i).map odA ++ List.replicate (l.length - i) [.int .i64 0, .int .i64 0]))], 1⟩) (fun _ => True) l.length 0 (hdA [(0, 0)]) (by omega) trivial fun i hi _ J hJ => ?_
  by_cases h1 : i < l.length
  · have e1 : (ods l)[i]? = some (odA l[i]) := by simp [ods, h1]
    rw [show l.length - i = (l.length - (i + 1)) + 1 by omega, List.replicate_succ]
    simp only [ods_length, Int.toNat_natCast, e1, odA, push_cast, ↓J1, ↓J2, N1, N2, N3, reduceCtorEq, N4, N5, N6, reduceIte, N7, I1, I2, I3]
    refine ifB_intro (fun _ => ?_) (fun h => by simp at h; omega)
    repeat (refine ⟨by omega, ?_⟩)
    refine ⟨_, t215 hC l[i], ?_⟩
    simp only [Int.toNat_natCast, odA, odA, List.take_length, mid_get (show ((l.take i).map odA).length = i by simp; omega), mid_set (show ((l.take i).map odA).length = i by simp; omega), push_cast, ↓J1, ↓J2, N1, N2, N3, reduceCtorEq, N4, N5, N6, reduceIte, N7, I1, I2, I3]
    repeat (refine ⟨by omega, ?_⟩)
    refine hJ h1 trivial _ (hdA [(0, 0)] (hh := ?_))
    rw [List.take_succ_eq_append_getElem h1, List.map_append, List.append_assoc]
    simp only [hdel, canR, canB, renO, renL, ren, lkp, hget, N7, N5, Nat.not_lt_zero, if_false, if_true, reduceIte, List.append_nil, List.nil_append]
    rfl
  · simp only [ods_length, Int.toNat_natCast, push_cast, ↓J1, ↓J2, N1, N2, N3, reduceCtorEq, N4, N5, N6, reduceIte, N7, I1, I2, I3]
    refine ifB_intro (fun h => by simp at h; omega) (fun h => ?_)
    rw [List.take_of_length_le (by omega), show l.length - i = 0 by omega]
    exact RetTo_ow (by simp [hget, ods]) (by simp [ods])
theorem t78 (t : Ct) (hb : CtB (2^30) t) : Ev C 78 [.agg (ctF t)] (.agg (ctO t)) := by
  simp only [ctF, ctO]
  refine rT hC Q78 ?_ (by simp only [ownR, ownRL, own_ods, own_owss, Bool.and_true])
  simp only [c78, push_cast, ↓J1, ↓J2, N1, N2, N3, reduceCtorEq, N4, N5, N6, reduceIte, N7, I1, I2, I3]
  refine ⟨_, t159 hC _ hb.c, ?_⟩
  simp only [push_cast, ↓J1, ↓J2, N1, N2, N3, reduceCtorEq, N4, N5, N6, reduceIte, N7, I1, I2, I3]
  refine ⟨_, t80 hC _ hb.r.l hb.r.r, ?_⟩
  simp only [push_cast, ↓J1, ↓J2, N1, N2, N3, reduceCtorEq, N4, N5, N6, reduceIte, N7, I1, I2, I3]
  exact rtA
theorem t219 (t u : Od) : Ev C 219 [.agg (odA t), .agg (odA u)] (.bool (decide (t = u))) := by
  obtain ⟨a1, a2⟩ := t
  obtain ⟨b1, b2⟩ := u
  simp only [odA]
  refine rT hC Q219 ?_
  simp only [c219, push_cast, ↓J1, ↓J2, N1, N2, N3, reduceCtorEq, N4, N5, N6, reduceIte, N7, I1, I2, I3]
  repeat' (first
    | simp only [push_cast, ↓J1, ↓J2, N1, N2, N3, reduceCtorEq, N4, N5, N6, reduceIte, N7, I1, I2, I3]
    | refine ifB_intro (fun h => ?_) (fun h => ?_))
  all_goals simp_all
theorem t161 (l m : List Od) (hl : l.length < 2^50) (hm : m.length < 2^50) : Ev C 161 [.sl (ods l), .sl (ods m)] (.bool (decide (l = m))) := by
  refine rT hC Q161 ?_
  simp only [c161, ods_length, push_cast, ↓J1, ↓J2, N1, N2, N3, reduceCtorEq, N4, N5, N6, reduceIte, N7, I1, I2, I3]
  refine ifB_intro (fun h => ?_) (fun h => ?_)
  · have hlm : l.length = m.length := by simp at h; omega
    refine RL_count (fun i => ⟨tb 27 .any [(0, .sl (ods l)), (1, .sl (ods m)), (5, .int .i64 (i : Int))], [], 0⟩) (fun i => l.take i = m.take i) l.length 0 (hdA []) (by omega) rfl fun i hi ht J hJ => ?_
    by_cases h1 : i < l.length
    · have h2 : i < m.length := by omega
      have e1 : (ods l)[i]? = some (odA l[i]) := by simp [ods, h1]
      have e2 : (ods m)[i]? = some (odA m[i]) := by simp [ods, h2]
      simp only [ods_length, Int.toNat_natCast, e1, e2, odA, push_cast, ↓J1, ↓J2, N1, N2, N3, reduceCtorEq, N4, N5, N6, reduceIte, N7, I1, I2, I3]
      refine ifB_intro (fun _ => ?_) (fun h => by simp at h; omega)
      repeat (refine ⟨by omega, ?_⟩)
      refine ⟨_, t219 hC l[i] m[i], ?_⟩
      simp only [push_cast, ↓J1, ↓J2, N1, N2, N3, reduceCtorEq, N4, N5, N6, reduceIte, N7, I1, I2, I3]
      refine ifB_intro (fun h => ?_) (fun h => ?_)
      · refine hJ h1 ?_ _ (hdA [])
        rw [List.take_succ_eq_append_getElem h1, List.take_succ_eq_append_getElem h2, ht, of_decide_eq_true h]
      · have : ¬ l = m := by rintro rfl; simp at h
        simp [this]
    · simp only [ods_length, Int.toNat_natCast, push_cast, ↓J1, ↓J2, N1, N2, N3, reduceCtorEq, N4, N5, N6, reduceIte, N7, I1, I2, I3]
      refine ifB_intro (fun h => by simp at h; omega) (fun h => ?_)
      rw [List.take_of_length_le (by omega), List.take_of_length_le (by omega)] at ht
      simp [ht]
  · have : ¬ l = m := by rintro rfl; simp at h
    simp [this]
theorem t83 (t u : Ct) (h1 : CtB (2^50) t) (h2 : CtB (2^50) u) : Ev C 83 [.agg (ctF t), .agg (ctF u)] (.bool (decide (t = u))) := by
  have c1 := t161 hC t.cs u.cs h1.c h2.c
  have c2 := t85 hC t.rs u.rs h1.r.l h2.r.l h1.r.r h2.r.r
  clear h1 h2
  obtain ⟨a1, a2, a3⟩ := t
  obtain ⟨b1, b2, b3⟩ := u
  simp only [ctF] at *
  refine rT hC Q83 ?_
  simp only [c83, push_cast, ↓J1, ↓J2, N1, N2, N3, reduceCtorEq, N4, N5, N6, reduceIte, N7, I1, I2, I3]
  repeat' (first
    | simp only [push_cast, ↓J1, ↓J2, N1, N2, N3, reduceCtorEq, N4, N5, N6, reduceIte, N7, I1, I2, I3]
    | refine ⟨_, c1, ?_⟩
    | refine ⟨_, c2, ?_⟩
    | refine ifB_intro (fun h => ?_) (fun h => ?_))
  all_goals (clear c1 c2; simp_all)
theorem t264 (d : Int) (hd : 1 ≤ d ∧ d ≤ 2) : Ev C 264 [.int .i64 d] (.int .i64 (5 * d + 1)) := by
  refine rT hC Q264 ?_
  simp only [c264, push_cast, ↓J1, ↓J2, N1, N2, N3, reduceCtorEq, N4, N5, N6, reduceIte, N7, I1, I2, I3]
  rw [wrap64 (n := 5 * d) (by omega) (by omega), wrap64 (by omega) (by omega)]
theorem t267 (x : Int) : Ev C 267 [.int .i64 x] (.bool (inR 0 7 x)) := by
  refine rT hC Q267 ?_
  simp only [c267, push_cast, ↓J1, ↓J2, N1, N2, N3, reduceCtorEq, N4, N5, N6, reduceIte, N7, I1, I2, I3]
  refine ⟨_, tRange hC _ _ _, ?_⟩
  simp only [push_cast, ↓J1, ↓J2, N1, N2, N3, reduceCtorEq, N4, N5, N6, reduceIte, N7, I1, I2, I3]
theorem t266 (x : Int) : Ev C 266 [.int .i64 x] (.bool (!inR 0 7 x)) := by
  refine rT hC Q266 ?_
  simp only [c266, push_cast, ↓J1, ↓J2, N1, N2, N3, reduceCtorEq, N4, N5, N6, reduceIte, N7, I1, I2, I3]
  refine ⟨_, t267 hC _, ?_⟩
  simp only [push_cast, ↓J1, ↓J2, N1, N2, N3, reduceCtorEq, N4, N5, N6, reduceIte, N7, I1, I2, I3]
theorem t212 (t : Ct) (hb : CtB (2^50) t) : Ev C 212 [.agg (ctF t)] (.bool (ctOk t)) := by
  have b1 := hb.c
  have b2 := hb.r.l
  simp only [ctF]
  refine rT hC Q212 ?_
  simp only [c212, ods_length, intss_length, push_cast, ↓J1, ↓J2, N1, N2, N3, reduceCtorEq, N4, N5, N6, reduceIte, N7, I1, I2, I3]
  refine ⟨_, tIn hC _ _ _, ?_⟩
  cases g1 : inR 1 8 (t.cs.length : Int)
  · simp only [ctOk, g1, push_cast, ↓J1, ↓J2, N1, N2, N3, reduceCtorEq, N4, N5, N6, reduceIte, N7, I1, I2, I3]
  simp only [push_cast, ↓J1, ↓J2, N1, N2, N3, reduceCtorEq, N4, N5, N6, reduceIte, N7, I1, I2, I3]
  refine ⟨_, tIn hC _ _ _, ?_⟩
  cases g2 : inR 1 2 t.d
  · simp only [ctOk, g1, g2, push_cast, ↓J1, ↓J2, N1, N2, N3, reduceCtorEq, N4, N5, N6, reduceIte, N7, I1, I2, I3]
  have hd := g2
  simp only [inR, Bool.and_eq_true, decide_eq_true_eq] at hd
  simp only [intss_length, push_cast, ↓J1, ↓J2, N1, N2, N3, reduceCtorEq, N4, N5, N6, reduceIte, N7, I1, I2, I3]
  refine ⟨_, t264 hC _ hd, ?_⟩
  simp only [push_cast, ↓J1, ↓J2, N1, N2, N3, reduceCtorEq, N4, N5, N6, reduceIte, N7, I1, I2, I3]
  cases g3 : decide ((t.rs.length : Int) = 5 * t.d + 1)
  · simp only [ctOk, g1, g2, g3, push_cast, ↓J1, ↓J2, N1, N2, N3, reduceCtorEq, N4, N5, N6, reduceIte, N7, I1, I2, I3]
  simp only [ods_length, push_cast, ↓J1, ↓J2, N1, N2, N3, reduceCtorEq, N4, N5, N6, reduceIte, N7, I1, I2, I3]
  refine RL_count (fun i => ⟨tb 90 .any [(1, .ptr 0 none 0 0 0), (28, .sl (ods t.cs)), (29, .int .i64 (t.cs.length : Int)), (30, .int .i64 (i : Int))], [(0, .var (ctF t))], 1⟩) (fun i => ∀ j (h : j < t.cs.length), j < i → odOk t.cs j t.cs[j] = true) t.cs.length 0 (hdA [(0, 0)]) (by omega) (by intro j h h'; omega) fun i hi' ht J hJ => ?_
  simp only [ctF]
  by_cases h1 : i < t.cs.length
  · have e1 : (ods t.cs)[i]? = some (odA t.cs[i]) := by simp [ods, h1]
    have fin : odOk t.cs i t.cs[i] = true → ∀ (s : St), Head 0 s ⟨tb 90 .any [(1, .ptr 0 none 0 0 0), (28, .sl (ods t.cs)), (29, .int .i64 (t.cs.length : Int)), (30, .int .i64 ((i + 1 : Nat) : Int))], [(0, .var (ctF t))], 1⟩ → J s := fun hf => by
      refine hJ h1 (fun j hj hji => ?_)
      by_cases hij : j = i
      · subst hij; exact hf
      · exact ht j hj (by omega)
    have bad : odOk t.cs i t.cs[i] = false → ctOk t = false := fun hf => by simp only [ctOk, allI_no h1 hf, Bool.and_false, Bool.false_and]
    clear hJ ht
    have eo : odOk t.cs i t.cs[i] = (inR 1 20 t.cs[i].a && inR 1 20 t.cs[i].b && !(decide (0 < (i : Int)) && decide (IntKind.i64.wrap (t.cs[i].a * (prevO t.cs i).b) ≤ IntKind.i64.wrap ((prevO t.cs i).a * t.cs[i].b)))) := rfl
    rw [eo] at fin bad
    clear eo
    generalize t.cs[i] = o at *
    simp only [Int.toNat_natCast, e1, odA, push_cast, ↓J1, ↓J2, N1, N2, N3, reduceCtorEq, N4, N5, N6, reduceIte, N7, I1, I2, I3]
    refine ifB_intro (fun _ => ?_) (fun h => by simp at h; omega)
    repeat (refine ⟨by omega, ?_⟩)
    refine ⟨_, tIn hC _ _ _, ?_⟩
    cases g4 : inR 1 20 o.a
    · simp only [bad (by rw [g4]; rfl), push_cast, ↓J1, ↓J2, N1, N2, N3, reduceCtorEq, N4, N5, N6, reduceIte, N7, I1, I2, I3]
    simp only [push_cast, ↓J1, ↓J2, N1, N2, N3, reduceCtorEq, N4, N5, N6, reduceIte, N7, I1, I2, I3]
    refine ⟨_, tIn hC _ _ _, ?_⟩
    cases g5 : inR 1 20 o.b
    · simp only [bad (by rw [g4, g5]; rfl), push_cast, ↓J1, ↓J2, N1, N2, N3, reduceCtorEq, N4, N5, N6, reduceIte, N7, I1, I2, I3]
    simp only [push_cast, ↓J1, ↓J2, N1, N2, N3, reduceCtorEq, N4, N5, N6, reduceIte, N7, I1, I2, I3]
    by_cases h0 : i = 0
    · have ei : decide (0 < (i : Int)) = false := decide_eq_false (by omega)
      simp only [ei, push_cast, ↓J1, ↓J2, N1, N2, N3, reduceCtorEq, N4, N5, N6, reduceIte, N7, I1, I2, I3]
      exact fin (by rw [g4, g5, ei]; rfl) _ (hdA [(0, 0)])
    · have ei : decide (0 < (i : Int)) = true := decide_eq_true (by omega)
      have ep : (ods t.cs)[i - 1]? = some (odA (prevO t.cs i)) := by simp [ods, prevO, List.getD, show i - 1 < t.cs.length by omega]
      have en : ((i : Int) - 1).toNat = i - 1 := by omega
      generalize prevO t.cs i = p at *
      simp only [ei, wrap64 (n := (i : Int) - 1) (by omega) (by omega), en, ep, odA, push_cast, ↓J1, ↓J2, N1, N2, N3, reduceCtorEq, N4, N5, N6, reduceIte, N7, I1, I2, I3]
      repeat (refine ⟨by omega, ?_⟩)
      cases g6 : decide (IntKind.i64.wrap (o.a * p.b) ≤ IntKind.i64.wrap (p.a * o.b))
      · simp only [push_cast, ↓J1, ↓J2, N1, N2, N3, reduceCtorEq, N4, N5, N6, reduceIte, N7, I1, I2, I3]
        exact fin (by rw [g4, g5, ei, g6]; rfl) _ (hdA [(0, 0)])
      · simp only [bad (by rw [g4, g5, ei, g6]; rfl), push_cast, ↓J1, ↓J2, N1, N2, N3, reduceCtorEq, N4, N5, N6, reduceIte, N7, I1, I2, I3]
  · simp only [ods_length, intss_length, push_cast, ↓J1, ↓J2, N1, N2, N3, reduceCtorEq, N4, N5, N6, reduceIte, N7, I1, I2, I3]
    refine ifB_intro (fun h => by simp at h; omega) (fun h => ?_)
    have gt : allI (odOk t.cs) t.cs = true := allI_yes fun j hj => ht j hj (by omega)
    clear ht hJ
    rw [show ctOk t = t.rs.all (ctRow t.cs.length) by simp only [ctOk, g1, g2, g3, gt, Bool.true_and]]
    refine RL_count (fun i => ⟨tb 90 .any [(1, .ptr 0 none 0 0 0), (72, .sl (intss t.rs)), (73, .int .i64 (t.rs.length : Int)), (74, .int .i64 (i : Int))], [(0, .var (ctF t))], 1⟩) (fun i => t.rs.all (ctRow t.cs.length) = (t.rs.drop i).all (ctRow t.cs.length)) t.rs.length 0 (hdA [(0, 0)]) (by omega) rfl fun i hi' ht J hJ => ?_
    simp only [ctF]
    by_cases h1 : i < t.rs.length
    · have e1 : (intss t.rs)[i]? = some [.sl (ints t.rs[i])] := by simp [intss, h1]
      have hr := hb.r.r _ (List.getElem_mem h1)
      rw [List.drop_eq_getElem_cons h1, List.all_cons] at ht
      generalize t.rs[i] = r at *
      have c1 := t203 hC r 0 7 hr
      simp only [Int.toNat_natCast, e1, push_cast, ↓J1, ↓J2, N1, N2, N3, reduceCtorEq, N4, N5, N6, reduceIte, N7, I1, I2, I3]
      refine ifB_intro (fun _ => ?_) (fun h => by simp at h; omega)
      repeat (refine ⟨by omega, ?_⟩)
      simp only [ints_length, ods_length, push_cast, ↓J1, ↓J2, N1, N2, N3, reduceCtorEq, N4, N5, N6, reduceIte, N7, I1, I2, I3]
      cases g4 : decide ((r.length : Int) = (t.cs.length : Int))
      · rw [ht, show ctRow t.cs.length r = false by simp only [ctRow, g4, Bool.false_and]]
        simp only [push_cast, ↓J1, ↓J2, N1, N2, N3, reduceCtorEq, N4, N5, N6, reduceIte, N7, I1, I2, I3]
      simp only [push_cast, ↓J1, ↓J2, N1, N2, N3, reduceCtorEq, N4, N5, N6, reduceIte, N7, I1, I2, I3]
      refine ⟨_, c1, ?_⟩
      cases g5 : r.all (inR 0 7)
      · rw [ht, show ctRow t.cs.length r = false by simp only [ctRow, g4, g5, Bool.and_false]]
        simp only [push_cast, ↓J1, ↓J2, N1, N2, N3, reduceCtorEq, N4, N5, N6, reduceIte, N7, I1, I2, I3]
      · simp only [push_cast, ↓J1, ↓J2, N1, N2, N3, reduceCtorEq, N4, N5, N6, reduceIte, N7, I1, I2, I3]
        refine hJ h1 ?_ _ (hdA [(0, 0)])
        rw [ht, show ctRow t.cs.length r = true by simp only [ctRow, g4, g5, Bool.and_true], Bool.true_and]
    · simp only [intss_length, push_cast, ↓J1, ↓J2, N1, N2, N3, reduceCtorEq, N4, N5, N6, reduceIte, N7, I1, I2, I3]
      refine ifB_intro (fun h => by simp at h; omega) (fun h => ?_)
      rw [ht, List.drop_eq_nil_of_le (by omega)]
      rfl
theorem t216 (t : Ct) (hb : CtB (2^50) t) : Ev C 216 [.agg (ctF t)] (.bool (ctOk t)) := by
  have b1 := hb.c
  have b2 := hb.r.l
  simp only [ctF]
  refine rT hC Q216 ?_
  simp only [c216, ods_length, intss_length, push_cast, ↓J1, ↓J2, N1, N2, N3, reduceCtorEq, N4, N5, N6, reduceIte, N7, I1, I2, I3]
  refine ⟨_, tRange hC _ _ _, ?_⟩
  cases g1 : inR 1 8 (t.cs.length : Int)
  · simp only [ctOk, g1, push_cast, ↓J1, ↓J2, N1, N2, N3, reduceCtorEq, N4, N5, N6, reduceIte, N7, I1, I2, I3]
  simp only [push_cast, ↓J1, ↓J2, N1, N2, N3, reduceCtorEq, N4, N5, N6, reduceIte, N7, I1, I2, I3]
  refine ⟨_, tRange hC _ _ _, ?_⟩
  cases g2 : inR 1 2 t.d
  · simp only [ctOk, g1, g2, push_cast, ↓J1, ↓J2, N1, N2, N3, reduceCtorEq, N4, N5, N6, reduceIte, N7, I1, I2, I3]
  have hd := g2
  simp only [inR, Bool.and_eq_true, decide_eq_true_eq] at hd
  simp only [intss_length, push_cast, ↓J1, ↓J2, N1, N2, N3, reduceCtorEq, N4, N5, N6, reduceIte, N7, I1, I2, I3]
  rw [wrap64 (n := 5 * t.d) (by omega) (by omega), wrap64 (n := 5 * t.d + 1) (by omega) (by omega)]
  cases g3 : decide ((t.rs.length : Int) = 5 * t.d + 1)
  · simp only [ctOk, g1, g2, g3, push_cast, ↓J1, ↓J2, N1, N2, N3, reduceCtorEq, N4, N5, N6, reduceIte, N7, I1, I2, I3]
  simp only [ods_length, push_cast, ↓J1, ↓J2, N1, N2, N3, reduceCtorEq, N4, N5, N6, reduceIte, N7, I1, I2, I3]
  refine RL_count (fun i => ⟨tb 90 .any [(1, .ptr 0 none 0 0 0), (29, .sl (ods t.cs)), (30, .int .i64 (t.cs.length : Int)), (31, .int .i64 (i : Int))], [(0, .var (ctF t))], 1⟩) (fun i => ∀ j (h : j < t.cs.length), j < i → odOk t.cs j t.cs[j] = true) t.cs.length 0 (hdA [(0, 0)]) (by omega) (by intro j h h'; omega) fun i hi' ht J hJ => ?_
  simp only [ctF]
  by_cases h1 : i < t.cs.length
  · have e1 : (ods t.cs)[i]? = some (odA t.cs[i]) := by simp [ods, h1]
    have fin : odOk t.cs i t.cs[i] = true → ∀ (s : St), Head 0 s ⟨tb 90 .any [(1, .ptr 0 none 0 0 0), (29, .sl (ods t.cs)), (30, .int .i64 (t.cs.length : Int)), (31, .int .i64 ((i + 1 : Nat) : Int))], [(0, .var (ctF t))], 1⟩ → J s := fun hf => by
      refine hJ h1 (fun j hj hji => ?_)
      by_cases hij : j = i
      · subst hij; exact hf
      · exact ht j hj (by omega)
    have bad : odOk t.cs i t.cs[i] = false → ctOk t = false := fun hf => by simp only [ctOk, allI_no h1 hf, Bool.and_false, Bool.false_and]
    clear hJ ht
    have eo : odOk t.cs i t.cs[i] = (inR 1 20 t.cs[i].a && inR 1 20 t.cs[i].b && !(decide (0 < (i : Int)) && decide (IntKind.i64.wrap (t.cs[i].a * (prevO t.cs i).b) ≤ IntKind.i64.wrap ((prevO t.cs i).a * t.cs[i].b)))) := rfl
    rw [eo] at fin bad
    clear eo
    generalize t.cs[i] = o at *
    simp only [Int.toNat_natCast, e1, odA, push_cast, ↓J1, ↓J2, N1, N2, N3, reduceCtorEq, N4, N5, N6, reduceIte, N7, I1, I2, I3]
    refine ifB_intro (fun _ => ?_) (fun h => by simp at h; omega)
    repeat (refine ⟨by omega, ?_⟩)
    refine ⟨_, tRange hC _ _ _, ?_⟩
    cases g4 : inR 1 20 o.a
    · simp only [bad (by rw [g4]; rfl), push_cast, ↓J1, ↓J2, N1, N2, N3, reduceCtorEq, N4, N5, N6, reduceIte, N7, I1, I2, I3]
    simp only [push_cast, ↓J1, ↓J2, N1, N2, N3, reduceCtorEq, N4, N5, N6, reduceIte, N7, I1, I2, I3]
    refine ⟨_, tRange hC _ _ _, ?_⟩
    cases g5 : inR 1 20 o.b
    · simp only [bad (by rw [g4, g5]; rfl), push_cast, ↓J1, ↓J2, N1, N2, N3, reduceCtorEq, N4, N5, N6, reduceIte, N7, I1, I2, I3]
    simp only [push_cast, ↓J1, ↓J2, N1, N2, N3, reduceCtorEq, N4, N5, N6, reduceIte, N7, I1, I2, I3]
    by_cases h0 : i = 0
    · have ei : decide (0 < (i : Int)) = false := decide_eq_false (by omega)
      simp only [ei, push_cast, ↓J1, ↓J2, N1, N2, N3, reduceCtorEq, N4, N5, N6, reduceIte, N7, I1, I2, I3]
      exact fin (by rw [g4, g5, ei]; rfl) _ (hdA [(0, 0)])
    · have ei : decide (0 < (i : Int)) = true := decide_eq_true (by omega)
      have ep : (ods t.cs)[i - 1]? = some (odA (prevO t.cs i)) := by simp [ods, prevO, List.getD, show i - 1 < t.cs.length by omega]
      have en : ((i : Int) - 1).toNat = i - 1 := by omega
      generalize prevO t.cs i = p at *
      simp only [ei, wrap64 (n := (i : Int) - 1) (by omega) (by omega), en, ep, odA, push_cast, ↓J1, ↓J2, N1, N2, N3, reduceCtorEq, N4, N5, N6, reduceIte, N7, I1, I2, I3]
      repeat (refine ⟨by omega, ?_⟩)
      cases g6 : decide (IntKind.i64.wrap (o.a * p.b) ≤ IntKind.i64.wrap (p.a * o.b))
      · simp only [push_cast, ↓J1, ↓J2, N1, N2, N3, reduceCtorEq, N4, N5, N6, reduceIte, N7, I1, I2, I3]
        exact fin (by rw [g4, g5, ei, g6]; rfl) _ (hdA [(0, 0)])
      · simp only [bad (by rw [g4, g5, ei, g6]; rfl), push_cast, ↓J1, ↓J2, N1, N2, N3, reduceCtorEq, N4, N5, N6, reduceIte, N7, I1, I2, I3]
  · simp only [ods_length, intss_length, push_cast, ↓J1, ↓J2, N1, N2, N3, reduceCtorEq, N4, N5, N6, reduceIte, N7, I1, I2, I3]
    refine ifB_intro (fun h => by simp at h; omega) (fun h => ?_)
    have gt : allI (odOk t.cs) t.cs = true := allI_yes fun j hj => ht j hj (by omega)
    clear ht hJ
    rw [show ctOk t = t.rs.all (ctRow t.cs.length) by simp only [ctOk, g1, g2, g3, gt, Bool.true_and]]
    refine RL_count (fun i => ⟨tb 90 .any [(1, .ptr 0 none 0 0 0), (73, .sl (intss t.rs)), (74, .int .i64 (t.rs.length : Int)), (75, .int .i64 (i : Int))], [(0, .var (ctF t))], 1⟩) (fun i => t.rs.all (ctRow t.cs.length) = (t.rs.drop i).all (ctRow t.cs.length)) t.rs.length 0 (hdA [(0, 0)]) (by omega) rfl fun i hi' ht J hJ => ?_
    simp only [ctF]
    by_cases h1 : i < t.rs.length
    · have e1 : (intss t.rs)[i]? = some [.sl (ints t.rs[i])] := by simp [intss, h1]
      have hr := hb.r.r _ (List.getElem_mem h1)
      rw [List.drop_eq_getElem_cons h1, List.all_cons] at ht
      generalize t.rs[i] = r at *
      have c1 := t169 hC r 266 [] _ hr rfl rfl fun x _ => t266 hC x
      have e7 : (r.any fun x => !inR 0 7 x) = !r.all (inR 0 7) := by rw [← all_not]; simp
      rw [e7] at c1
      simp only [Int.toNat_natCast, e1, push_cast, ↓J1, ↓J2, N1, N2, N3, reduceCtorEq, N4, N5, N6, reduceIte, N7, I1, I2, I3]
      refine ifB_intro (fun _ => ?_) (fun h => by simp at h; omega)
      repeat (refine ⟨by omega, ?_⟩)
      simp only [ints_length, ods_length, push_cast, ↓J1, ↓J2, N1, N2, N3, reduceCtorEq, N4, N5, N6, reduceIte, N7, I1, I2, I3]
      cases g4 : decide ((r.length : Int) = (t.cs.length : Int))
      · rw [ht, show ctRow t.cs.length r = false by simp only [ctRow, g4, Bool.false_and]]
        simp only [push_cast, ↓J1, ↓J2, N1, N2, N3, reduceCtorEq, N4, N5, N6, reduceIte, N7, I1, I2, I3]
      simp only [push_cast, ↓J1, ↓J2, N1, N2, N3, reduceCtorEq, N4, N5, N6, reduceIte, N7, I1, I2, I3]
      refine ⟨_, c1, ?_⟩
      cases g5 : r.all (inR 0 7)
      · rw [ht, show ctRow t.cs.length r = false by simp only [ctRow, g4, g5, Bool.and_false]]
        simp only [push_cast, ↓J1, ↓J2, N1, N2, N3, reduceCtorEq, N4, N5, N6, reduceIte, N7, I1, I2, I3]
      · simp only [push_cast, ↓J1, ↓J2, N1, N2, N3, reduceCtorEq, N4, N5, N6, reduceIte, N7, I1, I2, I3]
        refine hJ h1 ?_ _ (hdA [(0, 0)])
        rw [ht, show ctRow t.cs.length r = true by simp only [ctRow, g4, g5, Bool.and_true], Bool.true_and]
    · simp only [intss_length, push_cast, ↓J1, ↓J2, N1, N2, N3, reduceCtorEq, N4, N5, N6, reduceIte, N7, I1, I2, I3]
      refine ifB_intro (fun h => by simp at h; omega) (fun h => ?_)
      rw [ht, List.drop_eq_nil_of_le (by omega)]
      rfl
end
end Go.Proofs.YtjaccjeejeiphaaGreatDoor.X
