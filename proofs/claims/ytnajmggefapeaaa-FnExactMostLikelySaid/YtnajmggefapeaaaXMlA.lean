import Derived.Test.YtnajmggefapeaaaXWfA
set_option maxHeartbeats 2000000
set_option linter.unusedSimpArgs false
set_option linter.unusedVariables false
namespace Go.Proofs.Ytnajmggefapeaaa.X
open Go
attribute [local irreducible] Ev szSS szRows
/-- The likelihood after i steps. -/
def lkS (W : List (List Int)) (l : List Int) : Nat → Int
  | 0 => 1
  | i + 1 => w64 (lkS W l i * (W.getD (l.getD i 0).toNat []).getD (l.getD (i + 1) 0).toNat 0)
/-- The digits of a code, from the last on: after j steps. -/
def digs (n : Nat) (code : Int) : Nat → List Int × Int
  | 0 => (List.replicate n 0, code)
  | j + 1 => ((digs n code j).1.set (n - 1 - j) ((digs n code j).2.tmod 3), (digs n code j).2.tdiv 3)
theorem digs_length (n : Nat) (code : Int) : ∀ j, (digs n code j).1.length = n
  | 0 => by simp [digs]
  | j + 1 => by simp [digs, digs_length n code j]
theorem digs_in (n : Nat) (code : Int) (h0 : 0 ≤ code ∧ code < 2^30) : ∀ j, (0 ≤ (digs n code j).2 ∧ (digs n code j).2 < 2^30) ∧ ∀ x ∈ (digs n code j).1, inR 0 2 x = true
  | 0 => ⟨h0, by intro x hx; simp [digs] at hx; rw [hx.2]; rfl⟩
  | j + 1 => by
    obtain ⟨h1, h2⟩ := digs_in n code h0 j
    have h3 := Int.tmod_lt_of_pos (digs n code j).2 (show (0 : Int) < 3 by omega)
    have h4 := Int.tmod_nonneg 3 h1.1
    have h5 := Int.tdiv_nonneg h1.1 (show (0 : Int) ≤ 3 by omega)
    have h6 := Int.tdiv_le_self (b := 3) h1.1
    refine ⟨⟨h5, by simp only [digs]; omega⟩, fun x hx => ?_⟩
    simp only [digs] at hx
    rcases List.mem_or_eq_of_mem_set hx with hx | rfl
    · exact h2 x hx
    · simp only [inR, Bool.and_eq_true, decide_eq_true_eq]; omega
def dg (n : Nat) (m : Nat) : List Int := (digs n (m : Int) n).1
/-- The best so far, and how likely it is. -/
def bst (W : List (List Int)) (w : Int) (n : Nat) : Nat → List Int × Int
  | 0 => ([], -1)
  | m + 1 => if (bst W w n m).2 < lkS W (w :: dg n m) n then (dg n m, lkS W (w :: dg n m) n) else bst W w n m
theorem bst_length (W : List (List Int)) (w : Int) (n : Nat) : ∀ m, (bst W w n m).1.length ≤ n
  | 0 => by simp [bst]
  | m + 1 => by
    rw [bst]
    split
    · simp only [dg, digs_length]; omega
    · exact bst_length W w n m
theorem ints_cons {w : Int} {l : List Int} : [AV.int .i64 w] :: ints l = ints (w :: l) := rfl
theorem ints_rep {n : Nat} : List.replicate n [AV.int .i64 0] = ints (List.replicate n 0) := by simp [ints]
theorem RetTo_no {h : Heap} : RetTo h .nil (.ow 1 []) := ⟨.nil, h, by simp [conR, isF], by simp [NilTo]⟩
def pw (i : Nat) : Nat := 3 ^ i
theorem pw_succ (i : Nat) : pw (i + 1) = pw i * 3 := Nat.pow_succ 3 i
theorem pow3 {i : Nat} (h : i ≤ 6) : pw i ≤ 729 := Nat.pow_le_pow_right (show 0 < 3 by omega) h
section
variable {C : CT} (hC : Closed Try.prog G0 md0 C)
include hC
theorem t57 (l : List Int) (hl : l.length < 2^30) : Ev C 57 [.sl (ints l)] (.ow 1 (ints l)) := by
  refine Ev.runT hC Try.func57 h57 nt57 r57 (by decide) (Nat.le_of_ble_eq_true rfl) (own_ints l) ?_
  simp only [c57, push_cast, ↓ifB_true, ↓ifB_false, Nat.reduceBEq, Nat.reduceAdd, Nat.reduceSub, reduceCtorEq, Nat.reduceMul, Nat.reduceEqDiff, Nat.reduceLeDiff, reduceIte, Nat.reduceLT, Int.reduceLE, Int.reduceLT, Int.reduceToNat]
  intro b hb
  refine ifB_intro (fun h => ?_) (fun h => ?_)
  · have := hb h
    rw [this]
    exact RetTo_no
  · have e : ((ints l).all fun e => e.length == 1) = true := by simp [ints]
    simp only [e, ints_length, Nat.zero_add, push_cast, ↓ifB_true, ↓ifB_false, Nat.reduceBEq, Nat.reduceAdd, Nat.reduceSub, reduceCtorEq, Nat.reduceMul, Nat.reduceEqDiff, Nat.reduceLeDiff, reduceIte, Nat.reduceLT, Int.reduceLE, Int.reduceLT, Int.reduceToNat]
    refine ⟨by omega, ?_⟩
    exact RetTo_ow (by simp [hget]) (by rw [ints_length])

theorem t55 (W : List (List Int)) (l : List Int) (hg : goodW W = true) (hl : 0 < l.length ∧ l.length < 2^50) (hin : ∀ x ∈ l, inR 0 2 x = true) : Ev C 55 [clA W, .sl (ints l)] (.int .i64 (lkS W l (l.length - 1))) := by
  obtain ⟨hW3, hrow⟩ := good_rows hg
  simp only [clA]
  refine Ev.runT hC Try.func55 h55 nt55 r55 (by decide) (Nat.le_of_ble_eq_true rfl) (rfl) ?_
  simp only [c55, push_cast, ↓ifB_true, ↓ifB_false, Nat.reduceBEq, Nat.reduceAdd, Nat.reduceSub, reduceCtorEq, Nat.reduceMul, Nat.reduceEqDiff, Nat.reduceLeDiff, reduceIte, Nat.reduceLT, Int.reduceLE, Int.reduceLT, Int.reduceToNat]
  refine RL_count (fun i => ⟨tb 31 .any [(1, .sl (ints l)), (2, .ptr 0 none 0 0 0), (5, .int .i64 (lkS W l i)), (6, .int .i64 ((i : Int) + 1))], [(0, .var [.sl (intss W)])], 1⟩) (fun _ => True) (l.length - 1) 0 (head_tb [(0, 0)] rfl (by simp only [keptV_cons, keptV_nil, tb_get, lk_same, lk_ne, lk_nil, ren, renL, lkp, Nat.reduceLT, Nat.reduceBEq, Nat.reduceEqDiff, reduceIte, and_true, true_and, Nat.not_lt_zero, if_false, if_true, Nat.add_zero, Nat.zero_add]; (try rw [wrap64 (by omega) (by omega)]); (first | done | (simp; done) | (simp [*]; done) | (simp; omega) | (and_intros <;> rfl))) (by simp only [canR, canB, renO, renL, ren, lkp, hget, Nat.reduceLT, Nat.reduceEqDiff, Nat.not_lt_zero, if_false, if_true, reduceIte, List.append_nil, List.nil_append]; (first | done | rfl))) (by omega) trivial fun i hi _ J hJ => ?_
  by_cases h1 : i < l.length - 1
  · have e1 : (ints l)[i]? = some [.int .i64 (l.getD i 0)] := ints_get (by omega)
    have e2 : (ints l)[i + 1]? = some [.int .i64 (l.getD (i + 1) 0)] := ints_get (by omega)
    have in1 : inR 0 2 (l.getD i 0) = true := by simp only [List.getD, List.getElem?_eq_getElem (show i < l.length by omega)]; exact hin _ (List.getElem_mem _)
    have in2 : inR 0 2 (l.getD (i + 1) 0) = true := by simp only [List.getD, List.getElem?_eq_getElem (show i + 1 < l.length by omega)]; exact hin _ (List.getElem_mem _)
    simp only [inR, Bool.and_eq_true, decide_eq_true_eq] at in1 in2
    obtain ⟨r1, r2⟩ := hrow (l.getD i 0).toNat (by omega)
    have e3 : (ints (W.getD (l.getD i 0).toNat []))[(l.getD (i + 1) 0).toNat]? = some [.int .i64 ((W.getD (l.getD i 0).toNat []).getD (l.getD (i + 1) 0).toNat 0)] := ints_get (by omega)
    have z1 : IntKind.i64.wrap ((i : Int) + 1 - 1) = i := by rw [wrap64 (by omega) (by omega)]; omega
    have z2 : ((i : Int) + 1).toNat = i + 1 := by omega
    simp only [intss, z1, z2, Int.toNat_natCast, List.getElem?_map, e1, e2, e3, r1, push_cast, ↓ifB_true, ↓ifB_false, Nat.reduceBEq, Nat.reduceAdd, Nat.reduceSub, reduceCtorEq, Nat.reduceMul, Nat.reduceEqDiff, Nat.reduceLeDiff, reduceIte, Nat.reduceLT, Int.reduceLE, Int.reduceLT, Int.reduceToNat]
    refine ifB_intro (fun _ => ?_) (fun h => by simp [ints_length] at h; omega)
    repeat (refine ⟨by omega, ?_⟩)
    refine hJ h1 trivial _ (head_tb [(0, 0)] rfl ?_ (by simp only [canR, canB, renO, renL, ren, lkp, hget, Nat.reduceLT, Nat.reduceEqDiff, Nat.not_lt_zero, if_false, if_true, reduceIte, List.append_nil, List.nil_append]; (first | done | rfl)))
    simp only [keptV_cons, keptV_nil, tb_get, lk_same, lk_ne, lk_nil, ren, renL, lkp, Nat.reduceLT, Nat.reduceBEq, Nat.reduceEqDiff, reduceIte, and_true, true_and, Nat.not_lt_zero, if_false, if_true, Nat.add_zero, Nat.zero_add]
    rw [wrap64 (n := (i : Int) + 1 + 1) (by omega) (by omega)]
    and_intros <;> rfl
  · obtain rfl : i = l.length - 1 := by omega
    simp only [ints_length, push_cast, ↓ifB_true, ↓ifB_false, Nat.reduceBEq, Nat.reduceAdd, Nat.reduceSub, reduceCtorEq, Nat.reduceMul, Nat.reduceEqDiff, Nat.reduceLeDiff, reduceIte, Nat.reduceLT, Int.reduceLE, Int.reduceLT, Int.reduceToNat]
    refine ifB_intro (fun h => by simp at h; omega) (fun h => trivial)

theorem t56 (W : List (List Int)) (l : List Int) (hg : goodW W = true) (hl : 0 < l.length ∧ l.length < 2^50) (hin : ∀ x ∈ l, inR 0 2 x = true) : Ev C 56 [clA W, .sl (ints l)] (.int .i64 (lkS W l (l.length - 1))) := by
  obtain ⟨hW3, hrow⟩ := good_rows hg
  simp only [clA]
  refine Ev.runT hC Try.func56 h56 nt56 r56 (by decide) (Nat.le_of_ble_eq_true rfl) (rfl) ?_
  simp only [c56, push_cast, ↓ifB_true, ↓ifB_false, Nat.reduceBEq, Nat.reduceAdd, Nat.reduceSub, reduceCtorEq, Nat.reduceMul, Nat.reduceEqDiff, Nat.reduceLeDiff, reduceIte, Nat.reduceLT, Int.reduceLE, Int.reduceLT, Int.reduceToNat]
  refine RL_count (fun i => ⟨tb 31 .any [(1, .sl (ints l)), (2, .ptr 0 none 0 0 0), (5, .int .i64 (lkS W l i)), (6, .int .i64 ((i : Int) + 1))], [(0, .var [.sl (intss W)])], 1⟩) (fun _ => True) (l.length - 1) 0 (head_tb [(0, 0)] rfl (by simp only [keptV_cons, keptV_nil, tb_get, lk_same, lk_ne, lk_nil, ren, renL, lkp, Nat.reduceLT, Nat.reduceBEq, Nat.reduceEqDiff, reduceIte, and_true, true_and, Nat.not_lt_zero, if_false, if_true, Nat.add_zero, Nat.zero_add]; (try rw [wrap64 (by omega) (by omega)]); (first | done | (simp; done) | (simp [*]; done) | (simp; omega) | (and_intros <;> rfl))) (by simp only [canR, canB, renO, renL, ren, lkp, hget, Nat.reduceLT, Nat.reduceEqDiff, Nat.not_lt_zero, if_false, if_true, reduceIte, List.append_nil, List.nil_append]; (first | done | rfl))) (by omega) trivial fun i hi _ J hJ => ?_
  by_cases h1 : i < l.length - 1
  · have e1 : (ints l)[i]? = some [.int .i64 (l.getD i 0)] := ints_get (by omega)
    have e2 : (ints l)[i + 1]? = some [.int .i64 (l.getD (i + 1) 0)] := ints_get (by omega)
    have in1 : inR 0 2 (l.getD i 0) = true := by simp only [List.getD, List.getElem?_eq_getElem (show i < l.length by omega)]; exact hin _ (List.getElem_mem _)
    have in2 : inR 0 2 (l.getD (i + 1) 0) = true := by simp only [List.getD, List.getElem?_eq_getElem (show i + 1 < l.length by omega)]; exact hin _ (List.getElem_mem _)
    simp only [inR, Bool.and_eq_true, decide_eq_true_eq] at in1 in2
    obtain ⟨r1, r2⟩ := hrow (l.getD i 0).toNat (by omega)
    have e3 : (ints (W.getD (l.getD i 0).toNat []))[(l.getD (i + 1) 0).toNat]? = some [.int .i64 ((W.getD (l.getD i 0).toNat []).getD (l.getD (i + 1) 0).toNat 0)] := ints_get (by omega)
    have z1 : IntKind.i64.wrap ((i : Int) + 1 - 1) = i := by rw [wrap64 (by omega) (by omega)]; omega
    have z2 : ((i : Int) + 1).toNat = i + 1 := by omega
    simp only [intss, z1, z2, Int.toNat_natCast, List.getElem?_map, e1, e2, e3, r1, push_cast, ↓ifB_true, ↓ifB_false, Nat.reduceBEq, Nat.reduceAdd, Nat.reduceSub, reduceCtorEq, Nat.reduceMul, Nat.reduceEqDiff, Nat.reduceLeDiff, reduceIte, Nat.reduceLT, Int.reduceLE, Int.reduceLT, Int.reduceToNat]
    refine ifB_intro (fun _ => ?_) (fun h => by simp [ints_length] at h; omega)
    repeat (refine ⟨by omega, ?_⟩)
    refine hJ h1 trivial _ (head_tb [(0, 0)] rfl ?_ (by simp only [canR, canB, renO, renL, ren, lkp, hget, Nat.reduceLT, Nat.reduceEqDiff, Nat.not_lt_zero, if_false, if_true, reduceIte, List.append_nil, List.nil_append]; (first | done | rfl)))
    simp only [keptV_cons, keptV_nil, tb_get, lk_same, lk_ne, lk_nil, ren, renL, lkp, Nat.reduceLT, Nat.reduceBEq, Nat.reduceEqDiff, reduceIte, and_true, true_and, Nat.not_lt_zero, if_false, if_true, Nat.add_zero, Nat.zero_add]
    rw [wrap64 (n := (i : Int) + 1 + 1) (by omega) (by omega)]
    and_intros <;> rfl
  · obtain rfl : i = l.length - 1 := by omega
    simp only [ints_length, push_cast, ↓ifB_true, ↓ifB_false, Nat.reduceBEq, Nat.reduceAdd, Nat.reduceSub, reduceCtorEq, Nat.reduceMul, Nat.reduceEqDiff, Nat.reduceLeDiff, reduceIte, Nat.reduceLT, Int.reduceLE, Int.reduceLT, Int.reduceToNat]
    refine ifB_intro (fun h => by simp at h; omega) (fun h => trivial)

omit hC in
theorem ppp : True := trivial
def askML (W : List (List Int)) (w n : Int) : Bool := goodW W && inR 0 2 w && inR 0 6 n
def resML (W : List (List Int)) (w n : Int) : List Int := if askML W w n then (bst W w n.toNat (pw n.toNat)).1 else []
omit hC in
theorem resML_length (W : List (List Int)) (w n : Int) : (resML W w n).length ≤ 6 := by
  unfold resML
  split
  · rename_i h
    simp only [askML, inR, Bool.and_eq_true, decide_eq_true_eq] at h
    have := bst_length W w n.toNat (pw n.toNat)
    omega
  · simp
theorem t25 (W : List (List Int)) (w n : Int) (hW : W.length < 2^50) (hr : ∀ r ∈ W, r.length < 2^50) : Ev C 25 [clA W, .int .i64 w, .int .i64 n] (.tup [.ow 1 (ints (resML W w n)), .bool (askML W w n)]) := by
  have h1 := t42 hC W w hW hr
  simp only [clA] at *
  refine Ev.runT hC Try.func25 h25 nt25 r25 (by decide) (Nat.le_of_ble_eq_true rfl) (own_lb _ _) ?_
  simp only [c25, push_cast, ↓ifB_true, ↓ifB_false, Nat.reduceBEq, Nat.reduceAdd, Nat.reduceSub, reduceCtorEq, Nat.reduceMul, Nat.reduceEqDiff, Nat.reduceLeDiff, reduceIte, Nat.reduceLT, Int.reduceLE, Int.reduceLT, Int.reduceToNat]
  repeat' (first
    | refine ⟨_, h1, ?_⟩
    | refine ⟨_, t43 hC _ _ _, ?_⟩
    | refine ifB_intro (fun h => ?_) (fun h => ?_)
    | simp only [push_cast, ↓ifB_true, ↓ifB_false, Nat.reduceBEq, Nat.reduceAdd, Nat.reduceSub, reduceCtorEq, Nat.reduceMul, Nat.reduceEqDiff, Nat.reduceLeDiff, reduceIte, Nat.reduceLT, Int.reduceLE, Int.reduceLT, Int.reduceToNat])
  · have ha : askML W w n = true := by simp_all [askML, inR]
    rw [ha, show resML W w n = (bst W w n.toNat (pw n.toNat)).1 by simp [resML, ha]]
    simp only [askML, Bool.and_eq_true] at ha
    have hn := ha.2
    simp only [inR, Bool.and_eq_true, decide_eq_true_eq] at hn
    obtain ⟨N, rfl⟩ : ∃ N : Nat, n = N := ⟨n.toNat, by omega⟩
    simp only [Int.toNat_natCast]
    have p3 := pow3 (i := N) (by omega)
    refine RL_count (fun i => ⟨tb 66 .any [(1, .int .i64 w), (2, .int .i64 (N : Int)), (3, .ptr 0 none 0 0 0), (8, .int .i64 ((pw i : Nat) : Int)), (9, .int .i64 (i : Int))], [(0, .var [.sl (intss W)])], 1⟩) (fun _ => True) N 0 (head_tb [(0, 0)] rfl (by simp only [keptV_cons, keptV_nil, tb_get, lk_same, lk_ne, lk_nil, ren, renL, lkp, Nat.reduceLT, Nat.reduceBEq, Nat.reduceEqDiff, reduceIte, and_true, true_and, Nat.not_lt_zero, if_false, if_true, Nat.add_zero, Nat.zero_add]; (try rw [wrap64 (by omega) (by omega)]); (first | done | (simp; done) | (simp [*]; done) | (simp; omega) | (and_intros <;> rfl))) (by simp only [canR, canB, renO, renL, ren, lkp, hget, Nat.reduceLT, Nat.reduceEqDiff, Nat.not_lt_zero, if_false, if_true, reduceIte, List.append_nil, List.nil_append]; (first | done | rfl))) (by omega) trivial fun i hi _ J hJ => ?_
    have p3i := pow3 (i := i) (by omega)
    by_cases h1 : i < N
    · simp only [push_cast, ↓ifB_true, ↓ifB_false, Nat.reduceBEq, Nat.reduceAdd, Nat.reduceSub, reduceCtorEq, Nat.reduceMul, Nat.reduceEqDiff, Nat.reduceLeDiff, reduceIte, Nat.reduceLT, Int.reduceLE, Int.reduceLT, Int.reduceToNat]
      refine ifB_intro (fun _ => ?_) (fun h => by simp at h; omega)
      refine hJ h1 trivial _ (head_tb [(0, 0)] rfl ?_ (by simp only [canR, canB, renO, renL, ren, lkp, hget, Nat.reduceLT, Nat.reduceEqDiff, Nat.not_lt_zero, if_false, if_true, reduceIte, List.append_nil, List.nil_append]; (first | done | rfl)))
      simp only [keptV_cons, keptV_nil, tb_get, lk_same, lk_ne, lk_nil, ren, renL, lkp, Nat.reduceLT, Nat.reduceBEq, Nat.reduceEqDiff, reduceIte, and_true, true_and, Nat.not_lt_zero, if_false, if_true, Nat.add_zero, Nat.zero_add]
      rw [wrap64 (n := (i : Int) + 1) (by omega) (by omega), wrap64 (by omega) (by omega), pw_succ]
      simp
    · obtain rfl : i = N := by omega
      simp only [push_cast, ↓ifB_true, ↓ifB_false, Nat.reduceBEq, Nat.reduceAdd, Nat.reduceSub, reduceCtorEq, Nat.reduceMul, Nat.reduceEqDiff, Nat.reduceLeDiff, reduceIte, Nat.reduceLT, Int.reduceLE, Int.reduceLT, Int.reduceToNat]
      refine ifB_intro (fun h => by simp at h) (fun h => ?_)
      refine RL_count (fun m => ⟨tb 66 .any [(10, .ref 1 none 1 0 (bst W w i m).1.length), (1, .int .i64 w), (2, .int .i64 (i : Int)), (3, .ptr 0 none 0 0 0), (8, .int .i64 ((pw i : Nat) : Int)), (11, .int .i64 (bst W w i m).2), (12, .int .i64 (m : Int))], [(1, .slice 1 (ints (bst W w i m).1)), (0, .var [.sl (intss W)])], 2⟩) (fun _ => True) (pw i) 0 (head_obj 10 1 1 [(0, 0)] rfl (by simp only [keptV_cons, keptV_nil, tb_get, lk_same, lk_ne, lk_nil, ren, renL, lkp, Nat.reduceLT, Nat.reduceBEq, Nat.reduceEqDiff, reduceIte, and_true, true_and, Nat.not_lt_zero, if_false, if_true, Nat.add_zero, Nat.zero_add]) (by decide) (by simp only [keptV_cons, keptV_nil, tb_get, lk_same, lk_ne, lk_nil, ren, renL, lkp, Nat.reduceLT, Nat.reduceBEq, Nat.reduceEqDiff, reduceIte, and_true, true_and, Nat.not_lt_zero, if_false, if_true, Nat.add_zero, Nat.zero_add]; (first | done | (simp; done) | (and_intros <;> rfl))) (by simp) (by simp only [canR, canB, renO, renL, ren, lkp, hget, Nat.reduceLT, Nat.reduceEqDiff, Nat.not_lt_zero, if_false, if_true, reduceIte, List.append_nil, List.nil_append]; rfl)) (by omega) trivial fun m hm _ J1 hJ1 => ?_
      by_cases h2 : m < pw i
      · simp only [ints_rep, Int.toNat_natCast, push_cast, ↓ifB_true, ↓ifB_false, Nat.reduceBEq, Nat.reduceAdd, Nat.reduceSub, reduceCtorEq, Nat.reduceMul, Nat.reduceEqDiff, Nat.reduceLeDiff, reduceIte, Nat.reduceLT, Int.reduceLE, Int.reduceLT, Int.reduceToNat]
        refine ifB_intro (fun _ => ?_) (fun h => by simp at h; omega)
        repeat (refine ⟨by omega, ?_⟩)
        have dl := digs_length i (m : Int)
        have di := digs_in i (m : Int) (by omega)
        refine RL_count (fun j => ⟨tb 66 .any [(10, .ref 1 none 1 0 (bst W w i m).1.length), (1, .int .i64 w), (2, .int .i64 (i : Int)), (3, .ptr 0 none 0 0 0), (8, .int .i64 ((pw i : Nat) : Int)), (11, .int .i64 (bst W w i m).2), (12, .int .i64 (m : Int)), (13, .ref 2 none 1 0 i), (14, .int .i64 (digs i m j).2), (15, .int .i64 ((i : Int) - 1 - j))], [(2, .slice 1 (ints (digs i m j).1)), (1, .slice 1 (ints (bst W w i m).1)), (0, .var [.sl (intss W)])], 3⟩) (fun _ => True) i 0 (head_tb [(2, 2), (1, 1), (0, 0)] rfl (by simp only [keptV_cons, keptV_nil, tb_get, lk_same, lk_ne, lk_nil, ren, renL, lkp, Nat.reduceLT, Nat.reduceBEq, Nat.reduceEqDiff, reduceIte, and_true, true_and, Nat.not_lt_zero, if_false, if_true, Nat.add_zero, Nat.zero_add]; rw [wrap64 (by omega) (by omega)]; simp [digs]) (by simp only [canR, canB, renO, renL, ren, lkp, hget, Nat.reduceLT, Nat.reduceEqDiff, Nat.not_lt_zero, if_false, if_true, reduceIte, List.append_nil, List.nil_append]; rfl)) (by omega) trivial fun j hj _ J2 hJ2 => ?_
        by_cases h3 : j < i
        · have e1 : (ints (digs i m j).1)[i - 1 - j]? = some [.int .i64 ((digs i m j).1.getD (i - 1 - j) 0)] := ints_get (by rw [dl]; omega)
          have z : ((i : Int) - 1 - j).toNat = i - 1 - j := by omega
          have d2 := (di j).1
          simp only [z, e1, ints_set, push_cast, ↓ifB_true, ↓ifB_false, Nat.reduceBEq, Nat.reduceAdd, Nat.reduceSub, reduceCtorEq, Nat.reduceMul, Nat.reduceEqDiff, Nat.reduceLeDiff, reduceIte, Nat.reduceLT, Int.reduceLE, Int.reduceLT, Int.reduceToNat]
          refine ifB_intro (fun _ => ?_) (fun h => by simp at h; omega)
          repeat (refine ⟨by omega, ?_⟩)
          refine hJ2 h3 trivial _ (head_tb [(2, 2), (1, 1), (0, 0)] rfl ?_ (by simp only [canR, canB, renO, renL, ren, lkp, hget, Nat.reduceLT, Nat.reduceEqDiff, Nat.not_lt_zero, if_false, if_true, reduceIte, List.append_nil, List.nil_append]; (first | done | rfl)))
          simp only [keptV_cons, keptV_nil, tb_get, lk_same, lk_ne, lk_nil, ren, renL, lkp, Nat.reduceLT, Nat.reduceBEq, Nat.reduceEqDiff, reduceIte, and_true, true_and, Nat.not_lt_zero, if_false, if_true, Nat.add_zero, Nat.zero_add]
          rw [wrap64 (n := (i : Int) - 1 - j - 1) (by omega) (by omega), wrap64 (by have := Int.tdiv_nonneg d2.1 (show (0 : Int) ≤ 3 by omega); omega) (by have := Int.tdiv_le_self (b := 3) d2.1; omega)]
          simp [digs]; omega
        · obtain rfl : j = i := by omega
          simp only [push_cast, ↓ifB_true, ↓ifB_false, Nat.reduceBEq, Nat.reduceAdd, Nat.reduceSub, reduceCtorEq, Nat.reduceMul, Nat.reduceEqDiff, Nat.reduceLeDiff, reduceIte, Nat.reduceLT, Int.reduceLE, Int.reduceLT, Int.reduceToNat]
          refine ifB_intro (fun h => by simp at h; omega) (fun h => ?_)
          have hin : ∀ x ∈ w :: dg j m, inR 0 2 x = true := by
            intro x hx
            rcases List.mem_cons.1 hx with rfl | hx
            · exact ha.1.2
            · exact (di j).2 x hx
          have dgl : (dg j m).length = j := dl j
          have hlk := t55 hC W (w :: dg j m) ha.1.1 ⟨by simp, by simp [dgl]; omega⟩ hin
          rw [show (w :: dg j m).length - 1 = j by simp [dgl]] at hlk
          simp only [clA] at hlk
          rw [show (digs j (m : Int) j).1 = dg j m from rfl] at *
          have tk1 : List.take j (ints (dg j m)) = ints (dg j m) := List.take_of_length_le (by rw [ints_length, dgl]; omega)
          have tk2 : List.take (1 + j) (ints (w :: dg j m)) = ints (w :: dg j m) := List.take_of_length_le (by rw [ints_length, List.length_cons, dgl]; omega)
          have hb : bst W w j (m + 1) = if (bst W w j m).2 < lkS W (w :: dg j m) j then (dg j m, lkS W (w :: dg j m) j) else bst W w j m := rfl
          simp only [tk1, tk2, ints_length, dgl, allScs_ints, ints_cons, frzLL_ints, push_cast, ↓ifB_true, ↓ifB_false, Nat.reduceBEq, Nat.reduceAdd, Nat.reduceSub, reduceCtorEq, Nat.reduceMul, Nat.reduceEqDiff, Nat.reduceLeDiff, reduceIte, Nat.reduceLT, Int.reduceLE, Int.reduceLT, Int.reduceToNat]
          refine ⟨⟨by omega, _, hlk, ?_⟩, ⟨by omega, _, hlk, ?_⟩, by omega, _, hlk, ?_⟩ <;> (
            simp only [push_cast, ↓ifB_true, ↓ifB_false, Nat.reduceBEq, Nat.reduceAdd, Nat.reduceSub, reduceCtorEq, Nat.reduceMul, Nat.reduceEqDiff, Nat.reduceLeDiff, reduceIte, Nat.reduceLT, Int.reduceLE, Int.reduceLT, Int.reduceToNat]
            refine ifB_intro (fun h => ?_) (fun h => ?_)
            · have hp := of_decide_eq_true h
              rw [if_pos hp] at hb
              refine hJ1 h2 trivial _ (head_tb [(2, 1), (0, 0)] rfl ?_ ?_)
              · simp only [keptV_cons, keptV_nil, tb_get, lk_same, lk_ne, lk_nil, ren, renL, lkp, Nat.reduceLT, Nat.reduceBEq, Nat.reduceEqDiff, reduceIte, and_true, true_and, Nat.not_lt_zero, if_false, if_true, Nat.add_zero, Nat.zero_add]
                rw [wrap64 (n := (m : Int) + 1) (by omega) (by omega), hb]
                simp [dgl]
              · simp only [hb, canR, canB, renO, renL, ren, lkp, hget, Nat.reduceLT, Nat.reduceEqDiff, Nat.not_lt_zero, if_false, if_true, reduceIte, List.append_nil, List.nil_append]
            · have hp := of_decide_eq_false h
              rw [if_neg hp] at hb
              refine hJ1 h2 trivial _ (head_tb [(1, 1), (0, 0)] rfl ?_ ?_)
              · simp only [keptV_cons, keptV_nil, tb_get, lk_same, lk_ne, lk_nil, ren, renL, lkp, Nat.reduceLT, Nat.reduceBEq, Nat.reduceEqDiff, reduceIte, and_true, true_and, Nat.not_lt_zero, if_false, if_true, Nat.add_zero, Nat.zero_add]
                rw [wrap64 (n := (m : Int) + 1) (by omega) (by omega), hb]
                simp
              · simp only [hb, canR, canB, renO, renL, ren, lkp, hget, Nat.reduceLT, Nat.reduceEqDiff, Nat.not_lt_zero, if_false, if_true, reduceIte, List.append_nil, List.nil_append])
      · obtain rfl : m = pw i := by omega
        simp only [push_cast, ↓ifB_true, ↓ifB_false, Nat.reduceBEq, Nat.reduceAdd, Nat.reduceSub, reduceCtorEq, Nat.reduceMul, Nat.reduceEqDiff, Nat.reduceLeDiff, reduceIte, Nat.reduceLT, Int.reduceLE, Int.reduceLT, Int.reduceToNat]
        refine ifB_intro (fun h => by simp at h) (fun h => ?_)
        exact RetTo_lb rfl (by rw [ints_length])
  · rw [show askML W w n = false by grind [askML, inR], show resML W w n = [] by grind [resML, askML, inR]]
    exact RetTo_nb
  · rw [show askML W w n = false by grind [askML, inR], show resML W w n = [] by grind [resML, askML, inR]]
    exact RetTo_nb

theorem t26 (W : List (List Int)) (w n : Int) (hW : W.length < 2^50) (hr : ∀ r ∈ W, r.length < 2^50) : Ev C 26 [clA W, .int .i64 w, .int .i64 n] (.tup [.ow 1 (ints (resML W w n)), .bool (askML W w n)]) := by
  have h1 := t46 hC W w hW hr
  simp only [clA] at *
  refine Ev.runT hC Try.func26 h26 nt26 r26 (by decide) (Nat.le_of_ble_eq_true rfl) (own_lb _ _) ?_
  simp only [c26, push_cast, ↓ifB_true, ↓ifB_false, Nat.reduceBEq, Nat.reduceAdd, Nat.reduceSub, reduceCtorEq, Nat.reduceMul, Nat.reduceEqDiff, Nat.reduceLeDiff, reduceIte, Nat.reduceLT, Int.reduceLE, Int.reduceLT, Int.reduceToNat]
  repeat' (first
    | refine ⟨_, h1, ?_⟩
    | refine ⟨_, t36 hC _ _ _, ?_⟩
    | refine ifB_intro (fun h => ?_) (fun h => ?_)
    | simp only [push_cast, ↓ifB_true, ↓ifB_false, Nat.reduceBEq, Nat.reduceAdd, Nat.reduceSub, reduceCtorEq, Nat.reduceMul, Nat.reduceEqDiff, Nat.reduceLeDiff, reduceIte, Nat.reduceLT, Int.reduceLE, Int.reduceLT, Int.reduceToNat])
  · have ha : askML W w n = true := by simp_all [askML, inR]
    rw [ha, show resML W w n = (bst W w n.toNat (pw n.toNat)).1 by simp [resML, ha]]
    simp only [askML, Bool.and_eq_true] at ha
    have hn := ha.2
    simp only [inR, Bool.and_eq_true, decide_eq_true_eq] at hn
    obtain ⟨N, rfl⟩ : ∃ N : Nat, n = N := ⟨n.toNat, by omega⟩
    simp only [Int.toNat_natCast]
    have p3 := pow3 (i := N) (by omega)
    refine RL_count (fun i => ⟨tb 67 .any [(1, .int .i64 w), (2, .int .i64 (N : Int)), (3, .ptr 0 none 0 0 0), (8, .int .i64 ((pw i : Nat) : Int)), (25, .int .i64 (N : Int)), (26, .int .i64 (i : Int))], [(0, .var [.sl (intss W)])], 1⟩) (fun _ => True) N 0 (head_tb [(0, 0)] rfl (by simp only [keptV_cons, keptV_nil, tb_get, lk_same, lk_ne, lk_nil, ren, renL, lkp, Nat.reduceLT, Nat.reduceBEq, Nat.reduceEqDiff, reduceIte, and_true, true_and, Nat.not_lt_zero, if_false, if_true, Nat.add_zero, Nat.zero_add]; (try rw [wrap64 (by omega) (by omega)]); (first | done | (simp; done) | (simp [*]; done) | (simp; omega) | (and_intros <;> rfl))) (by simp only [canR, canB, renO, renL, ren, lkp, hget, Nat.reduceLT, Nat.reduceEqDiff, Nat.not_lt_zero, if_false, if_true, reduceIte, List.append_nil, List.nil_append]; (first | done | rfl))) (by omega) trivial fun i hi _ J hJ => ?_
    have p3i := pow3 (i := i) (by omega)
    by_cases h1 : i < N
    · simp only [push_cast, ↓ifB_true, ↓ifB_false, Nat.reduceBEq, Nat.reduceAdd, Nat.reduceSub, reduceCtorEq, Nat.reduceMul, Nat.reduceEqDiff, Nat.reduceLeDiff, reduceIte, Nat.reduceLT, Int.reduceLE, Int.reduceLT, Int.reduceToNat]
      refine ifB_intro (fun _ => ?_) (fun h => by simp at h; omega)
      refine hJ h1 trivial _ (head_tb [(0, 0)] rfl ?_ (by simp only [canR, canB, renO, renL, ren, lkp, hget, Nat.reduceLT, Nat.reduceEqDiff, Nat.not_lt_zero, if_false, if_true, reduceIte, List.append_nil, List.nil_append]; (first | done | rfl)))
      simp only [keptV_cons, keptV_nil, tb_get, lk_same, lk_ne, lk_nil, ren, renL, lkp, Nat.reduceLT, Nat.reduceBEq, Nat.reduceEqDiff, reduceIte, and_true, true_and, Nat.not_lt_zero, if_false, if_true, Nat.add_zero, Nat.zero_add]
      rw [wrap64 (n := (i : Int) + 1) (by omega) (by omega), wrap64 (by omega) (by omega), pw_succ]
      simp
    · obtain rfl : i = N := by omega
      simp only [push_cast, ↓ifB_true, ↓ifB_false, Nat.reduceBEq, Nat.reduceAdd, Nat.reduceSub, reduceCtorEq, Nat.reduceMul, Nat.reduceEqDiff, Nat.reduceLeDiff, reduceIte, Nat.reduceLT, Int.reduceLE, Int.reduceLT, Int.reduceToNat]
      refine ifB_intro (fun h => by simp at h) (fun h => ?_)
      refine RL_ind (fun k s' => ∃ (m off len : Nat) (es : List (List AV)), m + k = pw i ∧ s' = ⟨tb 67 .any [(1, .int .i64 w), (2, .int .i64 (i : Int)), (3, .ptr 0 none 0 0 0), (9, .ref 1 none 1 off len), (10, .int .i64 (bst W w i m).2), (32, .int .i64 ((pw i : Nat) : Int)), (33, .int .i64 (m : Int))], [(1, .slice 1 es), (0, .var [.sl (intss W)])], 2⟩ ∧ (es.drop off).take len = ints (bst W w i m).1) (pw i) _ (head_tb [(1, 1), (0, 0)] rfl (by simp only [keptV_cons, keptV_nil, tb_get, lk_same, lk_ne, lk_nil, ren, renL, lkp, Nat.reduceLT, Nat.reduceBEq, Nat.reduceEqDiff, reduceIte, and_true, true_and, Nat.not_lt_zero, if_false, if_true, Nat.add_zero, Nat.zero_add]; (try rw [wrap64 (by omega) (by omega)]); (first | done | (simp; done) | (simp [*]; done) | (simp; omega) | (and_intros <;> rfl))) (by simp only [canR, canB, renO, renL, ren, lkp, hget, Nat.reduceLT, Nat.reduceEqDiff, Nat.not_lt_zero, if_false, if_true, reduceIte, List.append_nil, List.nil_append]; (first | done | rfl))) ⟨0, 0, 0, [], by omega, rfl, rfl⟩ ?_
      rintro k s' ⟨m, off, len, es, hm, rfl, he⟩ J1 hJ1
      have z0 : ((i : Int) + 1).toNat = i + 1 := by omega
      have z2 : ((i : Int) + 1 - 1).toNat = i := by omega
      have z3 : IntKind.i64.wrap ((i : Int) + 1) = (i : Int) + 1 := wrap64 (by omega) (by omega)
      by_cases h2 : m < pw i
      · have e0 : (ints (0 :: List.replicate i 0))[0]? = some [.int .i64 0] := rfl
        simp only [ints_rep, z0, z3, e0, ints_set, push_cast, ↓ifB_true, ↓ifB_false, Nat.reduceBEq, Nat.reduceAdd, Nat.reduceSub, reduceCtorEq, Nat.reduceMul, Nat.reduceEqDiff, Nat.reduceLeDiff, reduceIte, Nat.reduceLT, Int.reduceLE, Int.reduceLT, Int.reduceToNat]
        refine ifB_intro (fun _ => ?_) (fun h => by simp at h; omega)
        repeat (refine ⟨by omega, ?_⟩)
        have dl := digs_length i (m : Int)
        have di := digs_in i (m : Int) (by omega)
        refine RL_count (fun j => ⟨tb 67 .any [(1, .int .i64 w), (2, .int .i64 (i : Int)), (3, .ptr 0 none 0 0 0), (9, .ref 1 none 1 off len), (10, .int .i64 (bst W w i m).2), (12, .ref 2 none 1 0 (i + 1)), (13, .int .i64 (digs i m j).2), (14, .int .i64 ((i : Int) - j)), (32, .int .i64 ((pw i : Nat) : Int)), (33, .int .i64 (m : Int))], [(2, .slice 1 (ints (w :: (digs i m j).1))), (1, .slice 1 es), (0, .var [.sl (intss W)])], 3⟩) (fun _ => True) i 0 (head_tb [(2, 2), (1, 1), (0, 0)] rfl (by simp only [keptV_cons, keptV_nil, tb_get, lk_same, lk_ne, lk_nil, ren, renL, lkp, Nat.reduceLT, Nat.reduceBEq, Nat.reduceEqDiff, reduceIte, and_true, true_and, Nat.not_lt_zero, if_false, if_true, Nat.add_zero, Nat.zero_add]; simp [digs]) (by simp only [canR, canB, renO, renL, ren, lkp, hget, Nat.reduceLT, Nat.reduceEqDiff, Nat.not_lt_zero, if_false, if_true, reduceIte, List.append_nil, List.nil_append]; rfl)) (by omega) trivial fun j hj _ J2 hJ2 => ?_
        by_cases h3 : j < i
        · have e1 : (ints (w :: (digs i m j).1))[i - j]? = some [.int .i64 ((w :: (digs i m j).1).getD (i - j) 0)] := ints_get (by rw [List.length_cons, dl]; omega)
          have e2 : (w :: (digs i m j).1).set (i - j) ((digs i m j).2.tmod 3) = w :: (digs i m (j + 1)).1 := by
            rw [show i - j = (i - 1 - j) + 1 by omega, List.set_cons_succ]; rfl
          have z : ((i : Int) - j).toNat = i - j := by omega
          have d2 := (di j).1
          simp only [z, e1, e2, ints_set, push_cast, ↓ifB_true, ↓ifB_false, Nat.reduceBEq, Nat.reduceAdd, Nat.reduceSub, reduceCtorEq, Nat.reduceMul, Nat.reduceEqDiff, Nat.reduceLeDiff, reduceIte, Nat.reduceLT, Int.reduceLE, Int.reduceLT, Int.reduceToNat]
          refine ifB_intro (fun _ => ?_) (fun h => by simp at h; omega)
          repeat (refine ⟨by omega, ?_⟩)
          refine hJ2 h3 trivial _ (head_tb [(2, 2), (1, 1), (0, 0)] rfl ?_ (by simp only [canR, canB, renO, renL, ren, lkp, hget, Nat.reduceLT, Nat.reduceEqDiff, Nat.not_lt_zero, if_false, if_true, reduceIte, List.append_nil, List.nil_append]; (first | done | rfl)))
          simp only [keptV_cons, keptV_nil, tb_get, lk_same, lk_ne, lk_nil, ren, renL, lkp, Nat.reduceLT, Nat.reduceBEq, Nat.reduceEqDiff, reduceIte, and_true, true_and, Nat.not_lt_zero, if_false, if_true, Nat.add_zero, Nat.zero_add]
          rw [wrap64 (n := (i : Int) - j - 1) (by omega) (by omega), wrap64 (by have := Int.tdiv_nonneg d2.1 (show (0 : Int) ≤ 3 by omega); omega) (by have := Int.tdiv_le_self (b := 3) d2.1; omega)]
          simp [digs]; omega
        · obtain rfl : j = i := by omega
          simp only [push_cast, ↓ifB_true, ↓ifB_false, Nat.reduceBEq, Nat.reduceAdd, Nat.reduceSub, reduceCtorEq, Nat.reduceMul, Nat.reduceEqDiff, Nat.reduceLeDiff, reduceIte, Nat.reduceLT, Int.reduceLE, Int.reduceLT, Int.reduceToNat]
          refine ifB_intro (fun h => by simp at h) (fun h => ?_)
          have hin : ∀ x ∈ w :: dg j m, inR 0 2 x = true := by
            intro x hx
            rcases List.mem_cons.1 hx with rfl | hx
            · exact ha.1.2
            · exact (di j).2 x hx
          have dgl : (dg j m).length = j := dl j
          have hlk := t56 hC W (w :: dg j m) ha.1.1 ⟨by simp, by simp [dgl]; omega⟩ hin
          rw [show (w :: dg j m).length - 1 = j by simp [dgl]] at hlk
          simp only [clA] at hlk
          rw [show (digs j (m : Int) j).1 = dg j m from rfl] at *
          have tk2 : List.take (j + 1) (ints (w :: dg j m)) = ints (w :: dg j m) := List.take_of_length_le (by rw [ints_length, List.length_cons, dgl]; omega)
          have hb : bst W w j (m + 1) = if (bst W w j m).2 < lkS W (w :: dg j m) j then (dg j m, lkS W (w :: dg j m) j) else bst W w j m := rfl
          simp only [tk2, frzLL_ints, push_cast, ↓ifB_true, ↓ifB_false, Nat.reduceBEq, Nat.reduceAdd, Nat.reduceSub, reduceCtorEq, Nat.reduceMul, Nat.reduceEqDiff, Nat.reduceLeDiff, reduceIte, Nat.reduceLT, Int.reduceLE, Int.reduceLT, Int.reduceToNat]
          refine ⟨_, hlk, ?_⟩
          simp only [z2, push_cast, ↓ifB_true, ↓ifB_false, Nat.reduceBEq, Nat.reduceAdd, Nat.reduceSub, reduceCtorEq, Nat.reduceMul, Nat.reduceEqDiff, Nat.reduceLeDiff, reduceIte, Nat.reduceLT, Int.reduceLE, Int.reduceLT, Int.reduceToNat]
          refine ifB_intro (fun h => ?_) (fun h => ?_)
          · have hp := of_decide_eq_true h
            rw [if_pos hp] at hb
            repeat (refine ⟨by omega, ?_⟩)
            refine hJ1 (k - 1) _ _ (by omega) ⟨m + 1, 1, j, ints (w :: dg j m), by omega, rfl, ?_⟩ (head_tb [(2, 1), (0, 0)] rfl ?_ ?_)
            · rw [hb]
              simp only [ints, List.map_cons, List.drop_succ_cons, List.drop_zero]
              exact List.take_of_length_le (by simp [dgl])
            · simp only [keptV_cons, keptV_nil, tb_get, lk_same, lk_ne, lk_nil, ren, renL, lkp, Nat.reduceLT, Nat.reduceBEq, Nat.reduceEqDiff, reduceIte, and_true, true_and, Nat.not_lt_zero, if_false, if_true, Nat.add_zero, Nat.zero_add]
              rw [wrap64 (n := (m : Int) + 1) (by omega) (by omega), hb]
              simp
            · simp only [canR, canB, renO, renL, ren, lkp, hget, Nat.reduceLT, Nat.reduceEqDiff, Nat.not_lt_zero, if_false, if_true, reduceIte, List.append_nil, List.nil_append]
          · have hp := of_decide_eq_false h
            rw [if_neg hp] at hb
            refine hJ1 (k - 1) _ _ (by omega) ⟨m + 1, off, len, es, by omega, rfl, by rw [hb]; exact he⟩ (head_tb [(1, 1), (0, 0)] rfl ?_ ?_)
            · simp only [keptV_cons, keptV_nil, tb_get, lk_same, lk_ne, lk_nil, ren, renL, lkp, Nat.reduceLT, Nat.reduceBEq, Nat.reduceEqDiff, reduceIte, and_true, true_and, Nat.not_lt_zero, if_false, if_true, Nat.add_zero, Nat.zero_add]
              rw [wrap64 (n := (m : Int) + 1) (by omega) (by omega), hb]
              simp
            · simp only [canR, canB, renO, renL, ren, lkp, hget, Nat.reduceLT, Nat.reduceEqDiff, Nat.not_lt_zero, if_false, if_true, reduceIte, List.append_nil, List.nil_append]
      · obtain rfl : m = pw i := by omega
        have hbl := bst_length W w i (pw i)
        simp only [he, frzLL_ints, push_cast, ↓ifB_true, ↓ifB_false, Nat.reduceBEq, Nat.reduceAdd, Nat.reduceSub, reduceCtorEq, Nat.reduceMul, Nat.reduceEqDiff, Nat.reduceLeDiff, reduceIte, Nat.reduceLT, Int.reduceLE, Int.reduceLT, Int.reduceToNat]
        refine ifB_intro (fun h => by simp at h) (fun h => ?_)
        refine ⟨_, t57 hC _ (by omega), ?_⟩
        simp only [push_cast, ↓ifB_true, ↓ifB_false, Nat.reduceBEq, Nat.reduceAdd, Nat.reduceSub, reduceCtorEq, Nat.reduceMul, Nat.reduceEqDiff, Nat.reduceLeDiff, reduceIte, Nat.reduceLT, Int.reduceLE, Int.reduceLT, Int.reduceToNat]
        exact RetTo_lb rfl rfl
  · rw [show askML W w n = false by grind [askML, inR], show resML W w n = [] by grind [resML, askML, inR]]
    exact RetTo_nb
  · rw [show askML W w n = false by grind [askML, inR], show resML W w n = [] by grind [resML, askML, inR]]
    exact RetTo_nb

theorem t6 (W : List (List Int)) (w n : Int) (hW : W.length < 2^50) (hr : ∀ r ∈ W, r.length < 2^50) : Ev C 6 [clA W, .int .i64 w, .int .i64 n] (.bool true) := by
  have h1 := t14 hC W 1048576 (by omega) hW hr
  simp only [clA] at *
  refine Ev.runT hC Try.func6 h6 nt6 r6 (by decide) (Nat.le_of_ble_eq_true rfl) (rfl) ?_
  simp only [c6, push_cast, ↓ifB_true, ↓ifB_false, Nat.reduceBEq, Nat.reduceAdd, Nat.reduceSub, reduceCtorEq, Nat.reduceMul, Nat.reduceEqDiff, Nat.reduceLeDiff, reduceIte, Nat.reduceLT, Int.reduceLE, Int.reduceLT, Int.reduceToNat]
  refine ⟨_, h1, ?_⟩
  simp only [push_cast, ↓ifB_true, ↓ifB_false, Nat.reduceBEq, Nat.reduceAdd, Nat.reduceSub, reduceCtorEq, Nat.reduceMul, Nat.reduceEqDiff, Nat.reduceLeDiff, reduceIte, Nat.reduceLT, Int.reduceLE, Int.reduceLT, Int.reduceToNat]
  refine ifB_intro (fun h => trivial) (fun h => ?_)
  have g : 0 ≤ szSS W 1048576 := by
    simp only [decide_eq_false_iff_not] at h
    split at h
    · omega
    · omega
  have g1 := szSS_le (by omega) g
  have g2 := szSS_lens (by omega) g
  have gW : W.length < 2^30 := by omega
  have gr : ∀ r ∈ W, r.length < 2^30 := fun r h => by have := g1.2 r h; omega
  have h2 := t16 hC W gW gr
  have h3 := t25 hC W w n hW hr
  have h4 := t26 hC W w n hW hr
  have h5 := t19 hC W W hW hW hr hr
  have hrl := resML_length W w n
  generalize resML W w n = res at *
  generalize askML W w n = ask at *
  have h6 := t18 hC res res (by omega) (by omega)
  have h7 := t22 hC 1 res.length (by omega) (by omega)
  simp only [clA, clO] at *
  refine ⟨_, h2, ?_⟩
  simp only [frzLL_owss, push_cast, ↓ifB_true, ↓ifB_false, Nat.reduceBEq, Nat.reduceAdd, Nat.reduceSub, reduceCtorEq, Nat.reduceMul, Nat.reduceEqDiff, Nat.reduceLeDiff, reduceIte, Nat.reduceLT, Int.reduceLE, Int.reduceLT, Int.reduceToNat]
  refine ⟨_, h3, ?_⟩
  simp only [frzLL_owss, push_cast, ↓ifB_true, ↓ifB_false, Nat.reduceBEq, Nat.reduceAdd, Nat.reduceSub, reduceCtorEq, Nat.reduceMul, Nat.reduceEqDiff, Nat.reduceLeDiff, reduceIte, Nat.reduceLT, Int.reduceLE, Int.reduceLT, Int.reduceToNat]
  refine ⟨_, h2, ?_⟩
  simp only [frzLL_owss, push_cast, ↓ifB_true, ↓ifB_false, Nat.reduceBEq, Nat.reduceAdd, Nat.reduceSub, reduceCtorEq, Nat.reduceMul, Nat.reduceEqDiff, Nat.reduceLeDiff, reduceIte, Nat.reduceLT, Int.reduceLE, Int.reduceLT, Int.reduceToNat]
  refine ⟨_, h4, ?_⟩
  simp only [frzLL_owss, frzLL_ints, push_cast, ↓ifB_true, ↓ifB_false, Nat.reduceBEq, Nat.reduceAdd, Nat.reduceSub, reduceCtorEq, Nat.reduceMul, Nat.reduceEqDiff, Nat.reduceLeDiff, reduceIte, Nat.reduceLT, Int.reduceLE, Int.reduceLT, Int.reduceToNat]
  refine ⟨_, h6, ?_⟩
  simp only [frzLL_owss, push_cast, ↓ifB_true, ↓ifB_false, Nat.reduceBEq, Nat.reduceAdd, Nat.reduceSub, reduceCtorEq, Nat.reduceMul, Nat.reduceEqDiff, Nat.reduceLeDiff, reduceIte, Nat.reduceLT, Int.reduceLE, Int.reduceLT, Int.reduceToNat]
  refine ⟨_, h2, ?_⟩
  simp only [frzLL_owss, push_cast, ↓ifB_true, ↓ifB_false, Nat.reduceBEq, Nat.reduceAdd, Nat.reduceSub, reduceCtorEq, Nat.reduceMul, Nat.reduceEqDiff, Nat.reduceLeDiff, reduceIte, Nat.reduceLT, Int.reduceLE, Int.reduceLT, Int.reduceToNat]
  refine ⟨_, h5, ?_⟩
  simp only [frzLL_owss, push_cast, ↓ifB_true, ↓ifB_false, Nat.reduceBEq, Nat.reduceAdd, Nat.reduceSub, reduceCtorEq, Nat.reduceMul, Nat.reduceEqDiff, Nat.reduceLeDiff, reduceIte, Nat.reduceLT, Int.reduceLE, Int.reduceLT, Int.reduceToNat]
  rw [owss_length]
  have d1 : decide (1 + (lens W : Int) < 0) = false := by simp; omega
  have d2 : decide (1 + (res.length : Int) < 0) = false := by simp; omega
  have tk : List.take res.length (ints (run 1 res.length)) = ints (run 1 res.length) := List.take_of_length_le (by rw [ints_length, run_length]; omega)
  have tk2 : List.take res.length (ints res) = ints res := List.take_of_length_le (by rw [ints_length]; omega)
  refine ⟨_, t20 hC W 1 _ 3 7 rfl (by simp [below, canB, renO, ren, renL]) (by simp [solid, killH, killL, killS]) (by omega) hW (by omega) hr, ?_⟩
  rintro v h' n' ⟨rfl, rfl, rfl⟩ _
  simp only [d1, frzLL_ints, push_cast, ↓ifB_true, ↓ifB_false, Nat.reduceBEq, Nat.reduceAdd, Nat.reduceSub, reduceCtorEq, Nat.reduceMul, Nat.reduceEqDiff, Nat.reduceLeDiff, reduceIte, Nat.reduceLT, Int.reduceLE, Int.reduceLT, Int.reduceToNat]
  refine ⟨_, h6, ?_⟩
  simp only [frzLL_ints, push_cast, ↓ifB_true, ↓ifB_false, Nat.reduceBEq, Nat.reduceAdd, Nat.reduceSub, reduceCtorEq, Nat.reduceMul, Nat.reduceEqDiff, Nat.reduceLeDiff, reduceIte, Nat.reduceLT, Int.reduceLE, Int.reduceLT, Int.reduceToNat]
  rw [ints_length]
  refine ⟨_, t21 hC res 1 _ 5 8 rfl (by simp [below, canB, renO, ren, renL]) (by omega) (by omega), ?_⟩
  rintro v h' n' ⟨rfl, rfl, rfl⟩ _
  rw [mk_run]
  simp only [frzLL_ints, tk, tk2, push_cast, ↓ifB_true, ↓ifB_false, Nat.reduceBEq, Nat.reduceAdd, Nat.reduceSub, reduceCtorEq, Nat.reduceMul, Nat.reduceEqDiff, Nat.reduceLeDiff, reduceIte, Nat.reduceLT, Int.reduceLE, Int.reduceLT, Int.reduceToNat]
  refine ⟨_, h7, ?_⟩
  simp only [frzLL_ints, tk, tk2, d2, push_cast, ↓ifB_true, ↓ifB_false, Nat.reduceBEq, Nat.reduceAdd, Nat.reduceSub, reduceCtorEq, Nat.reduceMul, Nat.reduceEqDiff, Nat.reduceLeDiff, reduceIte, Nat.reduceLT, Int.reduceLE, Int.reduceLT, Int.reduceToNat]
  refine ⟨_, h2, ?_⟩
  simp only [frzLL_owss, push_cast, ↓ifB_true, ↓ifB_false, Nat.reduceBEq, Nat.reduceAdd, Nat.reduceSub, reduceCtorEq, Nat.reduceMul, Nat.reduceEqDiff, Nat.reduceLeDiff, reduceIte, Nat.reduceLT, Int.reduceLE, Int.reduceLT, Int.reduceToNat]
  refine ⟨_, h4, ?_⟩
  simp only [frzLL_ints, tk, tk2, push_cast, ↓ifB_true, ↓ifB_false, Nat.reduceBEq, Nat.reduceAdd, Nat.reduceSub, reduceCtorEq, Nat.reduceMul, Nat.reduceEqDiff, Nat.reduceLeDiff, reduceIte, Nat.reduceLT, Int.reduceLE, Int.reduceLT, Int.reduceToNat]
  refine ⟨_, h6, ?_⟩
  simp only [frzLL_ints, tk, tk2, push_cast, ↓ifB_true, ↓ifB_false, Nat.reduceBEq, Nat.reduceAdd, Nat.reduceSub, reduceCtorEq, Nat.reduceMul, Nat.reduceEqDiff, Nat.reduceLeDiff, reduceIte, Nat.reduceLT, Int.reduceLE, Int.reduceLT, Int.reduceToNat]
  refine ⟨_, h7, ?_⟩
  simp only [frzLL_ints, tk, tk2, d2, push_cast, ↓ifB_true, ↓ifB_false, Nat.reduceBEq, Nat.reduceAdd, Nat.reduceSub, reduceCtorEq, Nat.reduceMul, Nat.reduceEqDiff, Nat.reduceLeDiff, reduceIte, Nat.reduceLT, Int.reduceLE, Int.reduceLT, Int.reduceToNat]

end
end Go.Proofs.Ytnajmggefapeaaa.X
