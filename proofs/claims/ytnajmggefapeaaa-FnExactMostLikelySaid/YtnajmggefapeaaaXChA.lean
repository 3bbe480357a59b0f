import Derived.Test.YtnajmggefapeaaaXMkB
set_option maxHeartbeats 2000000
set_option linter.unusedSimpArgs false
set_option linter.unusedVariables false
namespace Go.Proofs.Ytnajmggefapeaaa.X
open Go
attribute [local irreducible] Ev
def inn (x : Int) (row v : List Int) : Nat → List Int
  | 0 => v
  | k + 1 => (inn x row v k).set k (w64 ((inn x row v k).getD k 0 + w64 (x * row.getD k 0)))
def outS (W : List (List Int)) (o v : List Int) : Nat → List Int
  | 0 => v
  | i + 1 => inn (o.getD i 0) (W.getD i []) (outS W o v i) 3
def chS (W : List (List Int)) (o : List Int) : Nat → List Int
  | 0 => o
  | m + 1 => outS W (chS W o m) [0, 0, 0] 3
theorem inn_length (x : Int) (row v : List Int) : ∀ k, (inn x row v k).length = v.length
  | 0 => rfl
  | k + 1 => by simp [inn, inn_length x row v k]
theorem outS_length (W : List (List Int)) (o : List Int) {v : List Int} (h : v.length = 3) : ∀ i, (outS W o v i).length = 3
  | 0 => h
  | i + 1 => by rw [outS, inn_length, outS_length W o h i]
theorem chS_length (W : List (List Int)) {o : List Int} (h : o.length = 3) : ∀ m, (chS W o m).length = 3
  | 0 => h
  | m + 1 => outS_length W _ rfl 3
theorem good_rows {W : List (List Int)} (hg : goodW W = true) : W.length = 3 ∧ ∀ i, i < 3 → W[i]? = some (W.getD i []) ∧ (W.getD i []).length = 3 := by
  simp only [goodW, Bool.and_eq_true, decide_eq_true_eq] at hg
  refine ⟨hg.1, fun i hi => ?_⟩
  have hl : i < W.length := by omega
  have e : W.getD i [] = W[i] := by simp [List.getD, hl]
  have hr := List.all_eq_true.1 hg.2 _ (List.getElem_mem hl)
  simp only [rowOk, Bool.and_eq_true, decide_eq_true_eq] at hr
  rw [e]
  exact ⟨List.getElem?_eq_getElem hl, hr.1.1⟩
section
variable {C : CT} (hC : Closed Try.prog G0 md0 C)
include hC
theorem t44 (W : List (List Int)) (w n : Int) (hg : goodW W = true) (hw : inR 0 2 w = true) (hn : inR 0 6 n = true) : Ev C 44 [clA W, .int .i64 w, .int .i64 n] (.ow 1 (ints (chS W ([0, 0, 0].set w.toNat 1) n.toNat))) := by
  obtain ⟨hW3, hrow⟩ := good_rows hg
  simp only [inR, Bool.and_eq_true, decide_eq_true_eq] at hw hn
  simp only [clA]
  refine Ev.runT hC Try.func44 h44 nt44 r44 (by decide) (Nat.le_of_ble_eq_true rfl) (own_ints _) ?_
  simp only [c44, push_cast, ↓ifB_true, ↓ifB_false, Nat.reduceBEq, Nat.reduceAdd, Nat.reduceSub, reduceCtorEq, Nat.reduceMul, Nat.reduceEqDiff, Nat.reduceLeDiff, reduceIte, Nat.reduceLT, Int.reduceLE, Int.reduceLT, Int.reduceToNat]
  repeat (refine ⟨by omega, ?_⟩)
  rw [show ([[AV.int .i64 0], [AV.int .i64 0], [AV.int .i64 0]] : List (List AV)) = ints [0, 0, 0] from rfl]
  have e0 : (ints [0, 0, 0])[w.toNat]? = some [.int .i64 (([0, 0, 0] : List Int).getD w.toNat 0)] := ints_get (by simp; omega)
  simp only [e0, ints_set, Nat.zero_add, push_cast, ↓ifB_true, ↓ifB_false, Nat.reduceBEq, Nat.reduceAdd, Nat.reduceSub, reduceCtorEq, Nat.reduceMul, Nat.reduceEqDiff, Nat.reduceLeDiff, reduceIte, Nat.reduceLT, Int.reduceLE, Int.reduceLT, Int.reduceToNat]
  repeat (refine ⟨by omega, ?_⟩)
  have ho : (([0, 0, 0] : List Int).set w.toNat 1).length = 3 := by simp
  generalize ([0, 0, 0] : List Int).set w.toNat 1 = o at ho ⊢
  obtain ⟨N, rfl⟩ : ∃ N : Nat, n = N := ⟨n.toNat, by omega⟩
  simp only [Int.toNat_natCast]
  refine RL_count (fun m => ⟨tb 53 .any [(2, .int .i64 ((N : Int) - m)), (3, .ptr 0 none 0 0 0), (7, .ref 1 none 1 0 3)], [(0, .var [.sl (intss W)]), (1, .slice 1 (ints (chS W o m)))], 2⟩) (fun _ => True) N 0 (head_tb [(0, 0), (1, 1)] rfl (by simp only [keptV_cons, keptV_nil, tb_get, lk_same, lk_ne, lk_nil, ren, renL, lkp, Nat.reduceLT, Nat.reduceBEq, Nat.reduceEqDiff, reduceIte, and_true, true_and, Nat.not_lt_zero, if_false, if_true, Nat.add_zero, Nat.zero_add]; (try rw [wrap64 (by omega) (by omega)]); (first | done | (simp; done) | (simp [*]; done) | (simp; omega) | (and_intros <;> rfl))) (by simp only [canR, canB, renO, renL, ren, lkp, hget, Nat.reduceLT, Nat.reduceEqDiff, Nat.not_lt_zero, if_false, if_true, reduceIte, List.append_nil, List.nil_append]; (first | done | rfl))) (by omega) trivial fun m hm _ J hJ => ?_
  have hcl := chS_length W ho m
  by_cases hm1 : m < N
  · simp only [push_cast, ↓ifB_true, ↓ifB_false, Nat.reduceBEq, Nat.reduceAdd, Nat.reduceSub, reduceCtorEq, Nat.reduceMul, Nat.reduceEqDiff, Nat.reduceLeDiff, reduceIte, Nat.reduceLT, Int.reduceLE, Int.reduceLT, Int.reduceToNat]
    refine ifB_intro (fun _ => ?_) (fun h => by simp at h; omega)
    repeat (refine ⟨by omega, ?_⟩)
    refine RL_count (fun i => ⟨tb 53 .any [(2, .int .i64 ((N : Int) - m)), (3, .ptr 0 none 0 0 0), (8, .ref 2 none 1 0 3), (22, .ref 1 none 1 0 3), (23, .int .i64 3), (24, .int .i64 (i : Int))], [(0, .var [.sl (intss W)]), (1, .slice 1 (ints (chS W o m))), (2, .slice 1 (ints (outS W (chS W o m) [0, 0, 0] i)))], 3⟩) (fun _ => True) 3 0 (head_tb [(0, 0), (1, 1), (2, 2)] rfl (by simp only [keptV_cons, keptV_nil, tb_get, lk_same, lk_ne, lk_nil, ren, renL, lkp, Nat.reduceLT, Nat.reduceBEq, Nat.reduceEqDiff, reduceIte, and_true, true_and, Nat.not_lt_zero, if_false, if_true, Nat.add_zero, Nat.zero_add]; (try rw [wrap64 (by omega) (by omega)]); (first | done | (simp; done) | (simp [*]; done) | (simp; omega) | (and_intros <;> rfl))) (by simp only [canR, canB, renO, renL, ren, lkp, hget, Nat.reduceLT, Nat.reduceEqDiff, Nat.not_lt_zero, if_false, if_true, reduceIte, List.append_nil, List.nil_append]; (first | done | rfl))) (by omega) trivial fun i hi _ J1 hJ1 => ?_
    have hol := outS_length W (chS W o m) (v := [0, 0, 0]) rfl i
    by_cases hi1 : i < 3
    · obtain ⟨e1, e2⟩ := hrow i hi1
      have e3 : (ints (chS W o m))[i]? = some [.int .i64 ((chS W o m).getD i 0)] := ints_get (by omega)
      simp only [intss, Int.toNat_natCast, List.getElem?_map, e1, e3, push_cast, ↓ifB_true, ↓ifB_false, Nat.reduceBEq, Nat.reduceAdd, Nat.reduceSub, reduceCtorEq, Nat.reduceMul, Nat.reduceEqDiff, Nat.reduceLeDiff, reduceIte, Nat.reduceLT, Int.reduceLE, Int.reduceLT, Int.reduceToNat]
      refine ifB_intro (fun _ => ?_) (fun h => by simp at h; omega)
      repeat (refine ⟨by omega, ?_⟩)
      simp only [ints_length, e2]
      refine RL_count (fun k => ⟨tb 53 .any [(2, .int .i64 ((N : Int) - m)), (3, .ptr 0 none 0 0 0), (8, .ref 2 none 1 0 3), (10, .int .i64 ((chS W o m).getD i 0)), (22, .ref 1 none 1 0 3), (23, .int .i64 3), (24, .int .i64 (i : Int)), (33, .sl (ints (W.getD i []))), (34, .int .i64 3), (35, .int .i64 (k : Int))], [(0, .var [.sl (intss W)]), (1, .slice 1 (ints (chS W o m))), (2, .slice 1 (ints (inn ((chS W o m).getD i 0) (W.getD i []) (outS W (chS W o m) [0, 0, 0] i) k)))], 3⟩) (fun _ => True) 3 0 (head_tb [(0, 0), (1, 1), (2, 2)] rfl (by simp only [keptV_cons, keptV_nil, tb_get, lk_same, lk_ne, lk_nil, ren, renL, lkp, Nat.reduceLT, Nat.reduceBEq, Nat.reduceEqDiff, reduceIte, and_true, true_and, Nat.not_lt_zero, if_false, if_true, Nat.add_zero, Nat.zero_add]; (try rw [wrap64 (by omega) (by omega)]); (first | done | (simp; done) | (simp [*]; done) | (simp; omega) | (and_intros <;> rfl))) (by simp only [canR, canB, renO, renL, ren, lkp, hget, Nat.reduceLT, Nat.reduceEqDiff, Nat.not_lt_zero, if_false, if_true, reduceIte, List.append_nil, List.nil_append]; (first | done | rfl))) (by omega) trivial fun k hk _ J2 hJ2 => ?_
      have hil := inn_length ((chS W o m).getD i 0) (W.getD i []) (outS W (chS W o m) [0, 0, 0] i) k
      by_cases hk1 : k < 3
      · have e4 : (ints (W.getD i []))[k]? = some [.int .i64 ((W.getD i []).getD k 0)] := ints_get (by omega)
        have e5 : (ints (inn ((chS W o m).getD i 0) (W.getD i []) (outS W (chS W o m) [0, 0, 0] i) k))[k]? = some [.int .i64 ((inn ((chS W o m).getD i 0) (W.getD i []) (outS W (chS W o m) [0, 0, 0] i) k).getD k 0)] := ints_get (by omega)
        simp only [Int.toNat_natCast, e4, e5, ints_set, push_cast, ↓ifB_true, ↓ifB_false, Nat.reduceBEq, Nat.reduceAdd, Nat.reduceSub, reduceCtorEq, Nat.reduceMul, Nat.reduceEqDiff, Nat.reduceLeDiff, reduceIte, Nat.reduceLT, Int.reduceLE, Int.reduceLT, Int.reduceToNat]
        refine ifB_intro (fun _ => ?_) (fun h => by simp at h; omega)
        repeat (refine ⟨by omega, ?_⟩)
        refine hJ2 hk1 trivial _ (head_tb [(0, 0), (1, 1), (2, 2)] rfl (by simp only [keptV_cons, keptV_nil, tb_get, lk_same, lk_ne, lk_nil, ren, renL, lkp, Nat.reduceLT, Nat.reduceBEq, Nat.reduceEqDiff, reduceIte, and_true, true_and, Nat.not_lt_zero, if_false, if_true, Nat.add_zero, Nat.zero_add]; (try rw [wrap64 (by omega) (by omega)]); (first | done | (simp; done) | (simp [*]; done) | (simp; omega) | (and_intros <;> rfl))) (by simp only [canR, canB, renO, renL, ren, lkp, hget, Nat.reduceLT, Nat.reduceEqDiff, Nat.not_lt_zero, if_false, if_true, reduceIte, List.append_nil, List.nil_append]; (first | done | rfl)))
      · obtain rfl : k = 3 := by omega
        simp only [push_cast, ↓ifB_true, ↓ifB_false, Nat.reduceBEq, Nat.reduceAdd, Nat.reduceSub, reduceCtorEq, Nat.reduceMul, Nat.reduceEqDiff, Nat.reduceLeDiff, reduceIte, Nat.reduceLT, Int.reduceLE, Int.reduceLT, Int.reduceToNat]
        refine ifB_intro (fun h => by simp at h) (fun h => ?_)
        refine hJ1 hi1 trivial _ (head_tb [(0, 0), (1, 1), (2, 2)] rfl (by simp only [keptV_cons, keptV_nil, tb_get, lk_same, lk_ne, lk_nil, ren, renL, lkp, Nat.reduceLT, Nat.reduceBEq, Nat.reduceEqDiff, reduceIte, and_true, true_and, Nat.not_lt_zero, if_false, if_true, Nat.add_zero, Nat.zero_add]; (try rw [wrap64 (by omega) (by omega)]); (first | done | (simp; done) | (simp [*]; done) | (simp; omega) | (and_intros <;> rfl))) (by simp only [canR, canB, renO, renL, ren, lkp, hget, Nat.reduceLT, Nat.reduceEqDiff, Nat.not_lt_zero, if_false, if_true, reduceIte, List.append_nil, List.nil_append]; (first | done | rfl)))
    · obtain rfl : i = 3 := by omega
      simp only [push_cast, ↓ifB_true, ↓ifB_false, Nat.reduceBEq, Nat.reduceAdd, Nat.reduceSub, reduceCtorEq, Nat.reduceMul, Nat.reduceEqDiff, Nat.reduceLeDiff, reduceIte, Nat.reduceLT, Int.reduceLE, Int.reduceLT, Int.reduceToNat]
      refine ifB_intro (fun h => by simp at h) (fun h => ?_)
      refine hJ hm1 trivial _ (head_tb [(0, 0), (2, 1)] rfl (by simp only [keptV_cons, keptV_nil, tb_get, lk_same, lk_ne, lk_nil, ren, renL, lkp, Nat.reduceLT, Nat.reduceBEq, Nat.reduceEqDiff, reduceIte, and_true, true_and, Nat.not_lt_zero, if_false, if_true, Nat.add_zero, Nat.zero_add]; (try rw [wrap64 (by omega) (by omega)]); (first | done | (simp; done) | (simp [*]; done) | (simp; omega) | (and_intros <;> rfl))) (by simp only [canR, canB, renO, renL, ren, lkp, hget, Nat.reduceLT, Nat.reduceEqDiff, Nat.not_lt_zero, if_false, if_true, reduceIte, List.append_nil, List.nil_append]; (first | done | rfl)))
  · obtain rfl : m = N := by omega
    simp only [push_cast, ↓ifB_true, ↓ifB_false, Nat.reduceBEq, Nat.reduceAdd, Nat.reduceSub, reduceCtorEq, Nat.reduceMul, Nat.reduceEqDiff, Nat.reduceLeDiff, reduceIte, Nat.reduceLT, Int.reduceLE, Int.reduceLT, Int.reduceToNat]
    refine ifB_intro (fun h => by simp at h; try omega) (fun h => ?_)
    exact RetTo_ow (by simp [hget]) (by rw [ints_length, hcl])

theorem t47 (W : List (List Int)) (w n : Int) (hg : goodW W = true) (hw : inR 0 2 w = true) (hn : inR 0 6 n = true) : Ev C 47 [clA W, .int .i64 w, .int .i64 n] (.ow 1 (ints (chS W ([0, 0, 0].set w.toNat 1) n.toNat))) := by
  obtain ⟨hW3, hrow⟩ := good_rows hg
  simp only [inR, Bool.and_eq_true, decide_eq_true_eq] at hw hn
  simp only [clA]
  refine Ev.runT hC Try.func47 h47 nt47 r47 (by decide) (Nat.le_of_ble_eq_true rfl) (own_ints _) ?_
  simp only [c47, push_cast, ↓ifB_true, ↓ifB_false, Nat.reduceBEq, Nat.reduceAdd, Nat.reduceSub, reduceCtorEq, Nat.reduceMul, Nat.reduceEqDiff, Nat.reduceLeDiff, reduceIte, Nat.reduceLT, Int.reduceLE, Int.reduceLT, Int.reduceToNat]
  repeat (refine ⟨by omega, ?_⟩)
  rw [show ([[AV.int .i64 0], [AV.int .i64 0], [AV.int .i64 0]] : List (List AV)) = ints [0, 0, 0] from rfl]
  have e0 : (ints [0, 0, 0])[w.toNat]? = some [.int .i64 (([0, 0, 0] : List Int).getD w.toNat 0)] := ints_get (by simp; omega)
  simp only [e0, ints_set, Nat.zero_add, push_cast, ↓ifB_true, ↓ifB_false, Nat.reduceBEq, Nat.reduceAdd, Nat.reduceSub, reduceCtorEq, Nat.reduceMul, Nat.reduceEqDiff, Nat.reduceLeDiff, reduceIte, Nat.reduceLT, Int.reduceLE, Int.reduceLT, Int.reduceToNat]
  repeat (refine ⟨by omega, ?_⟩)
  have ho : (([0, 0, 0] : List Int).set w.toNat 1).length = 3 := by simp
  generalize ([0, 0, 0] : List Int).set w.toNat 1 = o at ho ⊢
  obtain ⟨N, rfl⟩ : ∃ N : Nat, n = N := ⟨n.toNat, by omega⟩
  simp only [Int.toNat_natCast]
  refine RL_count (fun m => ⟨tb 53 .any [(17, .int .i64 (N : Int)), (18, .int .i64 (m : Int)), (3, .ptr 0 none 0 0 0), (7, .ref 1 none 1 0 3)], [(0, .var [.sl (intss W)]), (1, .slice 1 (ints (chS W o m)))], 2⟩) (fun _ => True) N 0 (head_tb [(0, 0), (1, 1)] rfl (by simp only [keptV_cons, keptV_nil, tb_get, lk_same, lk_ne, lk_nil, ren, renL, lkp, Nat.reduceLT, Nat.reduceBEq, Nat.reduceEqDiff, reduceIte, and_true, true_and, Nat.not_lt_zero, if_false, if_true, Nat.add_zero, Nat.zero_add]; (try rw [wrap64 (by omega) (by omega)]); (first | done | (simp; done) | (simp [*]; done) | (simp; omega) | (and_intros <;> rfl))) (by simp only [canR, canB, renO, renL, ren, lkp, hget, Nat.reduceLT, Nat.reduceEqDiff, Nat.not_lt_zero, if_false, if_true, reduceIte, List.append_nil, List.nil_append]; (first | done | rfl))) (by omega) trivial fun m hm _ J hJ => ?_
  have hcl := chS_length W ho m
  by_cases hm1 : m < N
  · simp only [push_cast, ↓ifB_true, ↓ifB_false, Nat.reduceBEq, Nat.reduceAdd, Nat.reduceSub, reduceCtorEq, Nat.reduceMul, Nat.reduceEqDiff, Nat.reduceLeDiff, reduceIte, Nat.reduceLT, Int.reduceLE, Int.reduceLT, Int.reduceToNat]
    refine ifB_intro (fun _ => ?_) (fun h => by simp at h; omega)
    repeat (refine ⟨by omega, ?_⟩)
    refine RL_count (fun i => ⟨tb 53 .any [(17, .int .i64 (N : Int)), (18, .int .i64 (m : Int)), (3, .ptr 0 none 0 0 0), (8, .ref 2 none 1 0 3), (21, .ref 1 none 1 0 3), (22, .int .i64 3), (23, .int .i64 (i : Int))], [(0, .var [.sl (intss W)]), (1, .slice 1 (ints (chS W o m))), (2, .slice 1 (ints (outS W (chS W o m) [0, 0, 0] i)))], 3⟩) (fun _ => True) 3 0 (head_tb [(0, 0), (1, 1), (2, 2)] rfl (by simp only [keptV_cons, keptV_nil, tb_get, lk_same, lk_ne, lk_nil, ren, renL, lkp, Nat.reduceLT, Nat.reduceBEq, Nat.reduceEqDiff, reduceIte, and_true, true_and, Nat.not_lt_zero, if_false, if_true, Nat.add_zero, Nat.zero_add]; (try rw [wrap64 (by omega) (by omega)]); (first | done | (simp; done) | (simp [*]; done) | (simp; omega) | (and_intros <;> rfl))) (by simp only [canR, canB, renO, renL, ren, lkp, hget, Nat.reduceLT, Nat.reduceEqDiff, Nat.not_lt_zero, if_false, if_true, reduceIte, List.append_nil, List.nil_append]; (first | done | rfl))) (by omega) trivial fun i hi _ J1 hJ1 => ?_
    have hol := outS_length W (chS W o m) (v := [0, 0, 0]) rfl i
    by_cases hi1 : i < 3
    · obtain ⟨e1, e2⟩ := hrow i hi1
      have e3 : (ints (chS W o m))[i]? = some [.int .i64 ((chS W o m).getD i 0)] := ints_get (by omega)
      simp only [intss, Int.toNat_natCast, List.getElem?_map, e1, e3, push_cast, ↓ifB_true, ↓ifB_false, Nat.reduceBEq, Nat.reduceAdd, Nat.reduceSub, reduceCtorEq, Nat.reduceMul, Nat.reduceEqDiff, Nat.reduceLeDiff, reduceIte, Nat.reduceLT, Int.reduceLE, Int.reduceLT, Int.reduceToNat]
      refine ifB_intro (fun _ => ?_) (fun h => by simp at h; omega)
      repeat (refine ⟨by omega, ?_⟩)
      simp only [ints_length, e2]
      refine RL_count (fun k => ⟨tb 53 .any [(17, .int .i64 (N : Int)), (18, .int .i64 (m : Int)), (3, .ptr 0 none 0 0 0), (8, .ref 2 none 1 0 3), (10, .int .i64 ((chS W o m).getD i 0)), (21, .ref 1 none 1 0 3), (22, .int .i64 3), (23, .int .i64 (i : Int)), (32, .sl (ints (W.getD i []))), (33, .int .i64 3), (34, .int .i64 (k : Int))], [(0, .var [.sl (intss W)]), (1, .slice 1 (ints (chS W o m))), (2, .slice 1 (ints (inn ((chS W o m).getD i 0) (W.getD i []) (outS W (chS W o m) [0, 0, 0] i) k)))], 3⟩) (fun _ => True) 3 0 (head_tb [(0, 0), (1, 1), (2, 2)] rfl (by simp only [keptV_cons, keptV_nil, tb_get, lk_same, lk_ne, lk_nil, ren, renL, lkp, Nat.reduceLT, Nat.reduceBEq, Nat.reduceEqDiff, reduceIte, and_true, true_and, Nat.not_lt_zero, if_false, if_true, Nat.add_zero, Nat.zero_add]; (try rw [wrap64 (by omega) (by omega)]); (first | done | (simp; done) | (simp [*]; done) | (simp; omega) | (and_intros <;> rfl))) (by simp only [canR, canB, renO, renL, ren, lkp, hget, Nat.reduceLT, Nat.reduceEqDiff, Nat.not_lt_zero, if_false, if_true, reduceIte, List.append_nil, List.nil_append]; (first | done | rfl))) (by omega) trivial fun k hk _ J2 hJ2 => ?_
      have hil := inn_length ((chS W o m).getD i 0) (W.getD i []) (outS W (chS W o m) [0, 0, 0] i) k
      by_cases hk1 : k < 3
      · have e4 : (ints (W.getD i []))[k]? = some [.int .i64 ((W.getD i []).getD k 0)] := ints_get (by omega)
        have e5 : (ints (inn ((chS W o m).getD i 0) (W.getD i []) (outS W (chS W o m) [0, 0, 0] i) k))[k]? = some [.int .i64 ((inn ((chS W o m).getD i 0) (W.getD i []) (outS W (chS W o m) [0, 0, 0] i) k).getD k 0)] := ints_get (by omega)
        simp only [Int.toNat_natCast, e4, e5, ints_set, push_cast, ↓ifB_true, ↓ifB_false, Nat.reduceBEq, Nat.reduceAdd, Nat.reduceSub, reduceCtorEq, Nat.reduceMul, Nat.reduceEqDiff, Nat.reduceLeDiff, reduceIte, Nat.reduceLT, Int.reduceLE, Int.reduceLT, Int.reduceToNat]
        refine ifB_intro (fun _ => ?_) (fun h => by simp at h; omega)
        repeat (refine ⟨by omega, ?_⟩)
        refine hJ2 hk1 trivial _ (head_tb [(0, 0), (1, 1), (2, 2)] rfl (by simp only [keptV_cons, keptV_nil, tb_get, lk_same, lk_ne, lk_nil, ren, renL, lkp, Nat.reduceLT, Nat.reduceBEq, Nat.reduceEqDiff, reduceIte, and_true, true_and, Nat.not_lt_zero, if_false, if_true, Nat.add_zero, Nat.zero_add]; (try rw [wrap64 (by omega) (by omega)]); (first | done | (simp; done) | (simp [*]; done) | (simp; omega) | (and_intros <;> rfl))) (by simp only [canR, canB, renO, renL, ren, lkp, hget, Nat.reduceLT, Nat.reduceEqDiff, Nat.not_lt_zero, if_false, if_true, reduceIte, List.append_nil, List.nil_append]; (first | done | rfl)))
      · obtain rfl : k = 3 := by omega
        simp only [push_cast, ↓ifB_true, ↓ifB_false, Nat.reduceBEq, Nat.reduceAdd, Nat.reduceSub, reduceCtorEq, Nat.reduceMul, Nat.reduceEqDiff, Nat.reduceLeDiff, reduceIte, Nat.reduceLT, Int.reduceLE, Int.reduceLT, Int.reduceToNat]
        refine ifB_intro (fun h => by simp at h) (fun h => ?_)
        refine hJ1 hi1 trivial _ (head_tb [(0, 0), (1, 1), (2, 2)] rfl (by simp only [keptV_cons, keptV_nil, tb_get, lk_same, lk_ne, lk_nil, ren, renL, lkp, Nat.reduceLT, Nat.reduceBEq, Nat.reduceEqDiff, reduceIte, and_true, true_and, Nat.not_lt_zero, if_false, if_true, Nat.add_zero, Nat.zero_add]; (try rw [wrap64 (by omega) (by omega)]); (first | done | (simp; done) | (simp [*]; done) | (simp; omega) | (and_intros <;> rfl))) (by simp only [canR, canB, renO, renL, ren, lkp, hget, Nat.reduceLT, Nat.reduceEqDiff, Nat.not_lt_zero, if_false, if_true, reduceIte, List.append_nil, List.nil_append]; (first | done | rfl)))
    · obtain rfl : i = 3 := by omega
      simp only [push_cast, ↓ifB_true, ↓ifB_false, Nat.reduceBEq, Nat.reduceAdd, Nat.reduceSub, reduceCtorEq, Nat.reduceMul, Nat.reduceEqDiff, Nat.reduceLeDiff, reduceIte, Nat.reduceLT, Int.reduceLE, Int.reduceLT, Int.reduceToNat]
      refine ifB_intro (fun h => by simp at h) (fun h => ?_)
      refine hJ hm1 trivial _ (head_tb [(0, 0), (2, 1)] rfl (by simp only [keptV_cons, keptV_nil, tb_get, lk_same, lk_ne, lk_nil, ren, renL, lkp, Nat.reduceLT, Nat.reduceBEq, Nat.reduceEqDiff, reduceIte, and_true, true_and, Nat.not_lt_zero, if_false, if_true, Nat.add_zero, Nat.zero_add]; (try rw [wrap64 (by omega) (by omega)]); (first | done | (simp; done) | (simp [*]; done) | (simp; omega) | (and_intros <;> rfl))) (by simp only [canR, canB, renO, renL, ren, lkp, hget, Nat.reduceLT, Nat.reduceEqDiff, Nat.not_lt_zero, if_false, if_true, reduceIte, List.append_nil, List.nil_append]; (first | done | rfl)))
  · obtain rfl : m = N := by omega
    simp only [push_cast, ↓ifB_true, ↓ifB_false, Nat.reduceBEq, Nat.reduceAdd, Nat.reduceSub, reduceCtorEq, Nat.reduceMul, Nat.reduceEqDiff, Nat.reduceLeDiff, reduceIte, Nat.reduceLT, Int.reduceLE, Int.reduceLT, Int.reduceToNat]
    refine ifB_intro (fun h => by simp at h; try omega) (fun h => ?_)
    exact RetTo_ow (by simp [hget]) (by rw [ints_length, hcl])

end
end Go.Proofs.Ytnajmggefapeaaa.X
