import Derived.Test.YtnajmggefapeaaaXClC
set_option maxHeartbeats 1000000
set_option linter.unusedSimpArgs false
set_option linter.unusedVariables false
namespace Go.Proofs.Ytnajmggefapeaaa.X
open Go
attribute [local irreducible] Ev szSS szRows
/-- The next weather of a row: what is subtracted; what is summed. -/
def nextS : List Int → Int → Int → Int
  | [], _, _ => 0
  | y :: ys, x, k => if x < y then k else nextS ys (w64 (x - y)) (k + 1)
def nextI : List Int → Int → Int → Int → Int
  | [], _, _, _ => 2
  | y :: ys, s, x, k => if x < w64 (s + y) then k else nextI ys (w64 (s + y)) x (k + 1)
def belowOf (seed i n : Int) : Int := (mixL [seed, i, n]).1.tmod n
def rowAt (W : List (List Int)) (w : Int) : List Int := W.getD w.toNat []
theorem rowAt_some {W : List (List Int)} {w : Int} (hg : goodW W = true) (hw : inR 0 2 w = true) : w.toNat < W.length ∧ W[w.toNat]? = some (rowAt W w) ∧ ∃ a b c, rowAt W w = [a, b, c] ∧ inR 0 36 a = true ∧ inR 0 36 b = true ∧ inR 0 36 c = true ∧ a + b + c = 36 := by
  simp only [goodW, Bool.and_eq_true, decide_eq_true_eq] at hg
  simp only [inR, Bool.and_eq_true, decide_eq_true_eq] at hw
  have hl : w.toNat < W.length := by omega
  have e : rowAt W w = W[w.toNat] := by simp [rowAt, List.getD, hl]
  have hr := List.all_eq_true.1 hg.2 _ (List.getElem_mem hl)
  rw [← e] at hr
  refine ⟨hl, by rw [e]; exact List.getElem?_eq_getElem hl, ?_⟩
  generalize rowAt W w = r at hr
  simp only [rowOk, Bool.and_eq_true, decide_eq_true_eq] at hr
  obtain ⟨⟨h1, h2⟩, h3⟩ := hr
  match r, h1 with
  | [a, b, c], _ =>
    simp only [List.all_cons, List.all_nil, Bool.and_true, Bool.and_eq_true] at h2
    rw [sum3 h2.1 h2.2.1 h2.2.2] at h3
    exact ⟨a, b, c, rfl, h2.1, h2.2.1, h2.2.2, h3⟩
theorem next_eq {a b c x : Int} (ha : inR 0 36 a = true) (hb : inR 0 36 b = true) (hc : inR 0 36 c = true) (hs : a + b + c = 36) (hx : -36 < x ∧ x < 36) : nextS [a, b, c] x 0 = nextI [a, b, c] 0 x 0 := by
  simp only [inR, Bool.and_eq_true, decide_eq_true_eq] at ha hb hc
  simp only [nextS, nextI]
  rw [w64_id (n := x - a) (by omega) (by omega), w64_id (n := x - a - b) (by omega) (by omega), show (0 : Int) + a = a from Int.zero_add a, w64_id (n := a) (by omega) (by omega), w64_id (n := a + b) (by omega) (by omega), w64_id (n := a + b + c) (by omega) (by omega)]
  split
  · rfl
  · by_cases n2 : x - a < b
    · rw [if_pos n2, if_pos (by omega)]
    · rw [if_neg n2, if_pos (show x - a - b < c by omega), if_neg (by omega), if_pos (by omega)]
theorem below36 (a b : Int) : -36 < belowOf a b 36 ∧ belowOf a b 36 < 36 := by
  have h1 := Int.lt_tmod_of_pos (mixL [a, b, 36]).1 (show (0 : Int) < 36 by omega)
  have h2 := Int.tmod_lt_of_pos (mixL [a, b, 36]).1 (show (0 : Int) < 36 by omega)
  exact ⟨h1, h2⟩
section
variable {C : CT} (hC : Closed Try.prog G0 md0 C)
include hC
theorem t72 (a b c : Int) (hc : c ≠ 0) : Ev C 72 [.int .i64 a, .int .i64 b, .int .i64 c] (.int .i64 (belowOf a b c)) := by
  refine Ev.runT hC Try.func72 h72 nt72 r72 (by decide) (Nat.le_of_ble_eq_true rfl) (rfl) ?_
  simp only [c72, push_cast, ↓ifB_true, ↓ifB_false, Nat.reduceBEq, Nat.reduceAdd, Nat.reduceSub, reduceCtorEq, Nat.reduceMul, Nat.reduceEqDiff, Nat.reduceLeDiff, reduceIte, Nat.reduceLT, Int.reduceLE, Int.reduceLT, Int.reduceToNat]
  refine ⟨_, t76 hC [a, b, c] (by simp), ?_⟩
  simp only [push_cast, ↓ifB_true, ↓ifB_false, Nat.reduceBEq, Nat.reduceAdd, Nat.reduceSub, reduceCtorEq, Nat.reduceMul, Nat.reduceEqDiff, Nat.reduceLeDiff, reduceIte, Nat.reduceLT, Int.reduceLE, Int.reduceLT, Int.reduceToNat]
  exact ⟨hc, rfl⟩
theorem t73 (a b c : Int) (hc : c ≠ 0) : Ev C 73 [.int .i64 a, .int .i64 b, .int .i64 c] (.int .i64 (belowOf a b c)) := by
  refine Ev.runT hC Try.func73 h73 nt73 r73 (by decide) (Nat.le_of_ble_eq_true rfl) (rfl) ?_
  simp only [c73, push_cast, ↓ifB_true, ↓ifB_false, Nat.reduceBEq, Nat.reduceAdd, Nat.reduceSub, reduceCtorEq, Nat.reduceMul, Nat.reduceEqDiff, Nat.reduceLeDiff, reduceIte, Nat.reduceLT, Int.reduceLE, Int.reduceLT, Int.reduceToNat]
  refine ⟨_, t77 hC [a, b, c] (by simp), ?_⟩
  simp only [push_cast, ↓ifB_true, ↓ifB_false, Nat.reduceBEq, Nat.reduceAdd, Nat.reduceSub, reduceCtorEq, Nat.reduceMul, Nat.reduceEqDiff, Nat.reduceLeDiff, reduceIte, Nat.reduceLT, Int.reduceLE, Int.reduceLT, Int.reduceToNat]
  exact ⟨hc, rfl⟩
theorem t51 (W : List (List Int)) (w seed turn : Int) (hg : goodW W = true) (hw : inR 0 2 w = true) : Ev C 51 [clA W, .int .i64 w, .int .i64 seed, .int .i64 turn] (.int .i64 (nextS (rowAt W w) (belowOf seed turn 36) 0)) := by
  obtain ⟨hl, hr, a, b, c, hra, _⟩ := rowAt_some hg hw
  have hw' := hw
  simp only [inR, Bool.and_eq_true, decide_eq_true_eq] at hw'
  simp only [clA]
  refine Ev.runT hC Try.func51 h51 nt51 r51 (by decide) (Nat.le_of_ble_eq_true rfl) (rfl) ?_
  simp only [c51, intss, push_cast, ↓ifB_true, ↓ifB_false, Nat.reduceBEq, Nat.reduceAdd, Nat.reduceSub, reduceCtorEq, Nat.reduceMul, Nat.reduceEqDiff, Nat.reduceLeDiff, reduceIte, Nat.reduceLT, Int.reduceLE, Int.reduceLT, Int.reduceToNat]
  refine ⟨_, t72 hC _ _ _ (by omega), ?_⟩
  simp only [List.getElem?_map, hr, push_cast, ↓ifB_true, ↓ifB_false, Nat.reduceBEq, Nat.reduceAdd, Nat.reduceSub, reduceCtorEq, Nat.reduceMul, Nat.reduceEqDiff, Nat.reduceLeDiff, reduceIte, Nat.reduceLT, Int.reduceLE, Int.reduceLT, Int.reduceToNat]
  refine ⟨by omega, ?_⟩
  generalize belowOf seed turn 36 = x
  generalize rowAt W w = r at *
  have hrl : r.length = 3 := by rw [hra]; rfl
  refine RL_count (fun i => ⟨tb 34 .any [(9, .int .i64 ((r.take i).foldl (fun x y => w64 (x - y)) x)), (19, .sl (r.map fun n => [.int .i64 n])), (20, .int .i64 (r.length : Int)), (21, .int .i64 (i : Int))], [], 0⟩) (fun i => nextS r x 0 = nextS (r.drop i) ((r.take i).foldl (fun x y => w64 (x - y)) x) i) r.length 0 (head_tb [] rfl (by simp only [keptV_cons, keptV_nil, tb_get, lk_same, lk_ne, lk_nil, ren, renL, lkp, Nat.reduceLT, Nat.reduceBEq, Nat.reduceEqDiff, reduceIte, and_true, true_and, Nat.not_lt_zero, if_false, if_true, Nat.add_zero, Nat.zero_add]; simp [ints]) rfl) (by omega) rfl fun i hi ht J hJ => ?_
  by_cases h1 : i < r.length
  · rw [List.drop_eq_getElem_cons h1, nextS] at ht
    simp only [List.length_map, Int.toNat_natCast, List.getElem?_map, List.getElem?_eq_getElem h1, push_cast, ↓ifB_true, ↓ifB_false, Nat.reduceBEq, Nat.reduceAdd, Nat.reduceSub, reduceCtorEq, Nat.reduceMul, Nat.reduceEqDiff, Nat.reduceLeDiff, reduceIte, Nat.reduceLT, Int.reduceLE, Int.reduceLT, Int.reduceToNat]
    refine ifB_intro (fun _ => ⟨by omega, ifB_intro (fun h => ?_) (fun h => ?_)⟩) (fun h => by simp at h; omega)
    · rw [ht, if_pos (by simpa using h)]
    · have e1 : (r.take (i + 1)).foldl (fun x y => w64 (x - y)) x = w64 ((r.take i).foldl (fun x y => w64 (x - y)) x - r[i]) := by
        rw [List.take_succ_eq_append_getElem h1, List.foldl_append]; rfl
      refine hJ h1 ?_ _ (head_tb [] rfl ?_ (by simp only [canR, canB, renO, renL, ren, lkp, hget, Nat.reduceLT, Nat.reduceEqDiff, Nat.not_lt_zero, if_false, if_true, reduceIte, List.append_nil, List.nil_append]; (first | done | rfl)))
      · rw [ht, if_neg (by simpa using h), e1]; rfl
      · simp only [keptV_cons, keptV_nil, tb_get, lk_same, lk_ne, lk_nil, ren, renL, lkp, Nat.reduceLT, Nat.reduceBEq, Nat.reduceEqDiff, reduceIte, and_true, true_and, Nat.not_lt_zero, if_false, if_true, Nat.add_zero, Nat.zero_add]
        rw [wrap64 (n := (i : Int) + 1) (by omega) (by omega), e1]
        and_intros <;> rfl
  · simp only [List.length_map, Int.toNat_natCast, List.getElem?_map, push_cast, ↓ifB_true, ↓ifB_false, Nat.reduceBEq, Nat.reduceAdd, Nat.reduceSub, reduceCtorEq, Nat.reduceMul, Nat.reduceEqDiff, Nat.reduceLeDiff, reduceIte, Nat.reduceLT, Int.reduceLE, Int.reduceLT, Int.reduceToNat]
    refine ifB_intro (fun h => by simp at h; omega) (fun h => ?_)
    rw [ht, List.drop_eq_nil_of_le (by omega)]
    rfl
theorem t54 (W : List (List Int)) (w seed turn : Int) (hg : goodW W = true) (hw : inR 0 2 w = true) : Ev C 54 [clA W, .int .i64 w, .int .i64 seed, .int .i64 turn] (.int .i64 (nextS (rowAt W w) (belowOf seed turn 36) 0)) := by
  obtain ⟨hl, hr, a, b, c, hra, ha, hb, hcc, hsum⟩ := rowAt_some hg hw
  have hw' := hw
  simp only [inR, Bool.and_eq_true, decide_eq_true_eq] at hw'
  rw [hra, next_eq ha hb hcc hsum (below36 _ _), ← hra]
  simp only [clA]
  refine Ev.runT hC Try.func54 h54 nt54 r54 (by decide) (Nat.le_of_ble_eq_true rfl) (rfl) ?_
  simp only [c54, intss, push_cast, ↓ifB_true, ↓ifB_false, Nat.reduceBEq, Nat.reduceAdd, Nat.reduceSub, reduceCtorEq, Nat.reduceMul, Nat.reduceEqDiff, Nat.reduceLeDiff, reduceIte, Nat.reduceLT, Int.reduceLE, Int.reduceLT, Int.reduceToNat]
  refine ⟨_, t73 hC _ _ _ (by omega), ?_⟩
  simp only [List.getElem?_map, hr, push_cast, ↓ifB_true, ↓ifB_false, Nat.reduceBEq, Nat.reduceAdd, Nat.reduceSub, reduceCtorEq, Nat.reduceMul, Nat.reduceEqDiff, Nat.reduceLeDiff, reduceIte, Nat.reduceLT, Int.reduceLE, Int.reduceLT, Int.reduceToNat]
  refine ⟨by omega, ?_⟩
  generalize belowOf seed turn 36 = x
  generalize rowAt W w = r at *
  have hrl : r.length = 3 := by rw [hra]; rfl
  refine RL_count (fun i => ⟨tb 35 .any [(9, .int .i64 x), (10, .int .i64 ((r.take i).foldl (fun x y => w64 (x + y)) 0)), (20, .sl (r.map fun n => [.int .i64 n])), (21, .int .i64 (r.length : Int)), (22, .int .i64 (i : Int))], [], 0⟩) (fun i => nextI r 0 x 0 = nextI (r.drop i) ((r.take i).foldl (fun x y => w64 (x + y)) 0) x i) r.length 0 (head_tb [] rfl (by simp only [keptV_cons, keptV_nil, tb_get, lk_same, lk_ne, lk_nil, ren, renL, lkp, Nat.reduceLT, Nat.reduceBEq, Nat.reduceEqDiff, reduceIte, and_true, true_and, Nat.not_lt_zero, if_false, if_true, Nat.add_zero, Nat.zero_add]; simp [ints]) rfl) (by omega) rfl fun i hi ht J hJ => ?_
  by_cases h1 : i < r.length
  · rw [List.drop_eq_getElem_cons h1, nextI] at ht
    simp only [List.length_map, Int.toNat_natCast, List.getElem?_map, List.getElem?_eq_getElem h1, push_cast, ↓ifB_true, ↓ifB_false, Nat.reduceBEq, Nat.reduceAdd, Nat.reduceSub, reduceCtorEq, Nat.reduceMul, Nat.reduceEqDiff, Nat.reduceLeDiff, reduceIte, Nat.reduceLT, Int.reduceLE, Int.reduceLT, Int.reduceToNat]
    refine ifB_intro (fun _ => ⟨by omega, ifB_intro (fun h => ?_) (fun h => ?_)⟩) (fun h => by simp at h; omega)
    · rw [ht]
      exact (if_pos (show x < w64 _ from of_decide_eq_true h)).symm
    · have e1 : (r.take (i + 1)).foldl (fun x y => w64 (x + y)) 0 = w64 ((r.take i).foldl (fun x y => w64 (x + y)) 0 + r[i]) := by
        rw [List.take_succ_eq_append_getElem h1, List.foldl_append]; rfl
      refine hJ h1 ?_ _ (head_tb [] rfl ?_ (by simp only [canR, canB, renO, renL, ren, lkp, hget, Nat.reduceLT, Nat.reduceEqDiff, Nat.not_lt_zero, if_false, if_true, reduceIte, List.append_nil, List.nil_append]; (first | done | rfl)))
      · rw [ht, if_neg (show ¬ x < w64 _ from of_decide_eq_false h), e1]; rfl
      · simp only [keptV_cons, keptV_nil, tb_get, lk_same, lk_ne, lk_nil, ren, renL, lkp, Nat.reduceLT, Nat.reduceBEq, Nat.reduceEqDiff, reduceIte, and_true, true_and, Nat.not_lt_zero, if_false, if_true, Nat.add_zero, Nat.zero_add]
        rw [wrap64 (n := (i : Int) + 1) (by omega) (by omega), e1]
        and_intros <;> rfl
  · simp only [List.length_map, Int.toNat_natCast, List.getElem?_map, push_cast, ↓ifB_true, ↓ifB_false, Nat.reduceBEq, Nat.reduceAdd, Nat.reduceSub, reduceCtorEq, Nat.reduceMul, Nat.reduceEqDiff, Nat.reduceLeDiff, reduceIte, Nat.reduceLT, Int.reduceLE, Int.reduceLT, Int.reduceToNat]
    refine ifB_intro (fun h => by simp at h; omega) (fun h => ?_)
    rw [ht, List.drop_eq_nil_of_le (by omega)]
    rfl
def askNext (W : List (List Int)) (w seed turn : Int) : Bool := goodW W && inR 0 2 w && inR 0 4611686016279904236 seed && inR 0 30 turn
def resNext (W : List (List Int)) (w seed turn : Int) : Int := if askNext W w seed turn then nextS (rowAt W w) (belowOf seed turn 36) 0 else 0
theorem t23 (W : List (List Int)) (w seed turn : Int) (hW : W.length < 2^50) (hr : ∀ r ∈ W, r.length < 2^50) : Ev C 23 [clA W, .int .i64 w, .int .i64 seed, .int .i64 turn] (.tup [.int .i64 (resNext W w seed turn), .bool (askNext W w seed turn)]) := by
  have h1 := t42 hC W w hW hr
  have h2 := t51 hC W w seed turn
  simp only [clA] at *
  refine Ev.runT hC Try.func23 h23 nt23 r23 (by decide) (Nat.le_of_ble_eq_true rfl) (rfl) ?_
  simp only [c23, push_cast, ↓ifB_true, ↓ifB_false, Nat.reduceBEq, Nat.reduceAdd, Nat.reduceSub, reduceCtorEq, Nat.reduceMul, Nat.reduceEqDiff, Nat.reduceLeDiff, reduceIte, Nat.reduceLT, Int.reduceLE, Int.reduceLT, Int.reduceToNat]
  repeat' (first
    | refine ⟨_, h1, ?_⟩
    | refine ⟨_, t50 hC _, ?_⟩
    | refine ⟨_, t43 hC _ _ _, ?_⟩
    | refine ⟨_, h2 (by simp_all) (by simp_all), ?_⟩
    | refine ifB_intro (fun h => ?_) (fun h => ?_)
    | simp only [push_cast, ↓ifB_true, ↓ifB_false, Nat.reduceBEq, Nat.reduceAdd, Nat.reduceSub, reduceCtorEq, Nat.reduceMul, Nat.reduceEqDiff, Nat.reduceLeDiff, reduceIte, Nat.reduceLT, Int.reduceLE, Int.reduceLT, Int.reduceToNat])
  all_goals grind [resNext, askNext, inR]
theorem t24 (W : List (List Int)) (w seed turn : Int) (hW : W.length < 2^50) (hr : ∀ r ∈ W, r.length < 2^50) : Ev C 24 [clA W, .int .i64 w, .int .i64 seed, .int .i64 turn] (.tup [.int .i64 (resNext W w seed turn), .bool (askNext W w seed turn)]) := by
  have h1 := t46 hC W w hW hr
  have h2 := t54 hC W w seed turn
  simp only [clA] at *
  refine Ev.runT hC Try.func24 h24 nt24 r24 (by decide) (Nat.le_of_ble_eq_true rfl) (rfl) ?_
  simp only [c24, push_cast, ↓ifB_true, ↓ifB_false, Nat.reduceBEq, Nat.reduceAdd, Nat.reduceSub, reduceCtorEq, Nat.reduceMul, Nat.reduceEqDiff, Nat.reduceLeDiff, reduceIte, Nat.reduceLT, Int.reduceLE, Int.reduceLT, Int.reduceToNat]
  repeat' (first
    | refine ⟨_, h1, ?_⟩
    | refine ⟨_, t52 hC _, ?_⟩
    | refine ⟨_, t53 hC _, ?_⟩
    | refine ⟨_, h2 (by simp_all) (by simp_all), ?_⟩
    | refine ifB_intro (fun h => ?_) (fun h => ?_)
    | simp only [push_cast, ↓ifB_true, ↓ifB_false, Nat.reduceBEq, Nat.reduceAdd, Nat.reduceSub, reduceCtorEq, Nat.reduceMul, Nat.reduceEqDiff, Nat.reduceLeDiff, reduceIte, Nat.reduceLT, Int.reduceLE, Int.reduceLT, Int.reduceToNat])
  all_goals grind [resNext, askNext, inR]
theorem t5 (W : List (List Int)) (w seed turn : Int) (hW : W.length < 2^50) (hr : ∀ r ∈ W, r.length < 2^50) : Ev C 5 [clA W, .int .i64 w, .int .i64 seed, .int .i64 turn] (.bool true) := by
  have h1 := t14 hC W 1048576 (by omega) hW hr
  simp only [clA] at *
  refine Ev.runT hC Try.func5 h5 nt5 r5 (by decide) (Nat.le_of_ble_eq_true rfl) (rfl) ?_
  simp only [c5, push_cast, ↓ifB_true, ↓ifB_false, Nat.reduceBEq, Nat.reduceAdd, Nat.reduceSub, reduceCtorEq, Nat.reduceMul, Nat.reduceEqDiff, Nat.reduceLeDiff, reduceIte, Nat.reduceLT, Int.reduceLE, Int.reduceLT, Int.reduceToNat]
  refine ⟨_, h1, ?_⟩
  simp only [push_cast, ↓ifB_true, ↓ifB_false, Nat.reduceBEq, Nat.reduceAdd, Nat.reduceSub, reduceCtorEq, Nat.reduceMul, Nat.reduceEqDiff, Nat.reduceLeDiff, reduceIte, Nat.reduceLT, Int.reduceLE, Int.reduceLT, Int.reduceToNat]
  refine ifB_intro (fun h => trivial) (fun h => ?_)
  have g : 0 ≤ szSS W 1048576 := by
    simp only [decide_eq_false_iff_not] at h
    split at h
    · omega
    · omega
  have g1 := szSS_le (by omega) g
  have gW : W.length < 2^30 := by omega
  have gr : ∀ r ∈ W, r.length < 2^30 := fun r h => by have := g1.2 r h; omega
  have h2 := t16 hC W gW gr
  have h3 := t23 hC W w seed turn hW hr
  have h4 := t24 hC W w seed turn hW hr
  have h5 := t19 hC W W hW hW hr hr
  simp only [clA, clO] at *
  refine ⟨_, h2, ?_⟩
  simp only [frzLL_owss, push_cast, ↓ifB_true, ↓ifB_false, Nat.reduceBEq, Nat.reduceAdd, Nat.reduceSub, reduceCtorEq, Nat.reduceMul, Nat.reduceEqDiff, Nat.reduceLeDiff, reduceIte, Nat.reduceLT, Int.reduceLE, Int.reduceLT, Int.reduceToNat]
  refine ⟨_, h3, ?_⟩
  simp only [frzLL_owss, push_cast, ↓ifB_true, ↓ifB_false, Nat.reduceBEq, Nat.reduceAdd, Nat.reduceSub, reduceCtorEq, Nat.reduceMul, Nat.reduceEqDiff, Nat.reduceLeDiff, reduceIte, Nat.reduceLT, Int.reduceLE, Int.reduceLT, Int.reduceToNat]
  refine ⟨_, h2, ?_⟩
  simp only [frzLL_owss, push_cast, ↓ifB_true, ↓ifB_false, Nat.reduceBEq, Nat.reduceAdd, Nat.reduceSub, reduceCtorEq, Nat.reduceMul, Nat.reduceEqDiff, Nat.reduceLeDiff, reduceIte, Nat.reduceLT, Int.reduceLE, Int.reduceLT, Int.reduceToNat]
  refine ⟨_, h4, ?_⟩
  simp only [frzLL_owss, push_cast, ↓ifB_true, ↓ifB_false, Nat.reduceBEq, Nat.reduceAdd, Nat.reduceSub, reduceCtorEq, Nat.reduceMul, Nat.reduceEqDiff, Nat.reduceLeDiff, reduceIte, Nat.reduceLT, Int.reduceLE, Int.reduceLT, Int.reduceToNat]
  refine ⟨_, h2, ?_⟩
  simp only [frzLL_owss, push_cast, ↓ifB_true, ↓ifB_false, Nat.reduceBEq, Nat.reduceAdd, Nat.reduceSub, reduceCtorEq, Nat.reduceMul, Nat.reduceEqDiff, Nat.reduceLeDiff, reduceIte, Nat.reduceLT, Int.reduceLE, Int.reduceLT, Int.reduceToNat]
  refine ⟨_, h5, ?_⟩
  simp only [frzLL_owss, push_cast, ↓ifB_true, ↓ifB_false, Nat.reduceBEq, Nat.reduceAdd, Nat.reduceSub, reduceCtorEq, Nat.reduceMul, Nat.reduceEqDiff, Nat.reduceLeDiff, reduceIte, Nat.reduceLT, Int.reduceLE, Int.reduceLT, Int.reduceToNat]
end
end Go.Proofs.Ytnajmggefapeaaa.X
