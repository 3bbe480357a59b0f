import Derived.Test.YtnajmggefapeaaaXIsD
set_option maxHeartbeats 2000000
set_option linter.unusedSimpArgs false
set_option linter.unusedVariables false
namespace Go.Proofs.Ytnajmggefapeaaa.X
open Go
attribute [local irreducible] Ev
def ncT (x : AV) (K : AV → Prop) : Prop :=
  match x with
  | .ptr id sub sz i c => K (.ptr id sub sz i c)
  | .pf cs => K (.pf cs)
  | _ => False
theorem p_nilc {P : Program} {G : Glo} {C : CT} {md : FuncId → Bool} {s : St} {K : AV → St → Prop} {x : Operand} : opK P G C md (.nilCheck x) s K = ncT (ev G s x) (fun v => K v s) := by
  simp only [opK, ncT]
  cases ev G s x <;> rfl
theorem nc_ptr {id : Nat} {sub : Option (Nat × Nat × Nat)} {sz i c : Nat} {K : AV → Prop} : ncT (.ptr id sub sz i c) K = K (.ptr id sub sz i c) := _root_.id rfl
attribute [push_cast] p_nilc nc_ptr
theorem cut_ints_get {v : List Int} {k : Nat} (h : k < v.length) : (ints v)[k]? = some [.int .i64 (v.getD k 0)] := by
  simp [ints, List.getD, h]
/-- All of the first n. -/
def upto (n : Nat) (p : Nat → Bool) : Bool := (List.range n).all p
theorem upto_no {n i : Nat} {p : Nat → Bool} (h : i < n) (hp : p i = false) : upto n p = false := by
  simp only [upto, List.all_eq_false]
  exact ⟨i, by simp [h], by simp [hp]⟩
theorem upto_yes {n : Nat} {p : Nat → Bool} (h : ∀ j, j < n → p j = true) : upto n p = true := by
  simp only [upto, List.all_eq_true]
  exact fun x hx => h x (by simpa using hx)
def risP (l : List Int) (lo hi : Int) (i : Nat) : Bool := inR lo hi (l.getD i 0) && (decide (i = 0) || decide (l.getD (i - 1) 0 < l.getD i 0))
def incP (l : List Int) (i : Nat) : Bool := decide (l.getD i 0 < l.getD (i + 1) 0)
def hasB (l : List Int) (x : Int) : Bool := l.any fun y => decide (y = x)
section
variable {C : CT} (hC : Closed Try.prog G0 md0 C)
include hC
theorem t58 (l : List Int) (lo hi : Int) (hl : l.length < 2^50) : Ev C 58 [.sl (ints l), .int .i64 lo, .int .i64 hi] (.bool (upto l.length (risP l lo hi))) := by
  refine Ev.runT hC Try.func58 h58 nt58 r58 (by decide) (Nat.le_of_ble_eq_true rfl) (rfl) ?_
  simp only [c58, ints_length, push_cast, ↓ifB_true, ↓ifB_false, Nat.reduceBEq, Nat.reduceAdd, Nat.reduceSub, reduceCtorEq, Nat.reduceMul, Nat.reduceEqDiff, Nat.reduceLeDiff, reduceIte, Nat.reduceLT, Int.reduceLE, Int.reduceLT, Int.reduceToNat]
  refine RL_count (fun i => ⟨tb 35 .any [(0, .sl (ints l)), (1, .int .i64 lo), (2, .int .i64 hi), (9, .sl (ints l)), (10, .int .i64 (l.length : Int)), (11, .int .i64 (i : Int))], [], 0⟩) (fun i => ∀ j, j < i → risP l lo hi j = true) l.length 0 (head_tb [] rfl (by simp only [keptV_cons, keptV_nil, tb_get, lk_same, lk_ne, lk_nil, ren, renL, lkp, Nat.reduceLT, Nat.reduceBEq, Nat.reduceEqDiff, reduceIte, and_true, true_and, Nat.not_lt_zero, if_false, if_true, Nat.add_zero, Nat.zero_add]; (try rw [wrap64 (by omega) (by omega)]); (first | done | (simp; done) | (simp [*]; done) | (simp; omega) | (and_intros <;> rfl))) (by simp only [canR, canB, renO, renL, ren, lkp, hget, Nat.reduceLT, Nat.reduceEqDiff, Nat.not_lt_zero, if_false, if_true, reduceIte, List.append_nil, List.nil_append]; (first | done | rfl))) (by omega) (by omega) fun i hi' ht J hJ => ?_
  by_cases h1 : i < l.length
  · have e1 : (ints l)[i]? = some [.int .i64 (l.getD i 0)] := cut_ints_get h1
    simp only [Int.toNat_natCast, e1, push_cast, ↓ifB_true, ↓ifB_false, Nat.reduceBEq, Nat.reduceAdd, Nat.reduceSub, reduceCtorEq, Nat.reduceMul, Nat.reduceEqDiff, Nat.reduceLeDiff, reduceIte, Nat.reduceLT, Int.reduceLE, Int.reduceLT, Int.reduceToNat]
    refine ifB_intro (fun _ => ?_) (fun h => by simp at h; omega)
    repeat (refine ⟨by omega, ?_⟩)
    refine ⟨_, t43 hC _ _ _, ?_⟩
    simp only [push_cast, ↓ifB_true, ↓ifB_false, Nat.reduceBEq, Nat.reduceAdd, Nat.reduceSub, reduceCtorEq, Nat.reduceMul, Nat.reduceEqDiff, Nat.reduceLeDiff, reduceIte, Nat.reduceLT, Int.reduceLE, Int.reduceLT, Int.reduceToNat]
    have go : risP l lo hi i = true → ∀ s, Head 0 s ⟨tb 35 .any [(0, .sl (ints l)), (1, .int .i64 lo), (2, .int .i64 hi), (9, .sl (ints l)), (10, .int .i64 (l.length : Int)), (11, .int .i64 ((i + 1 : Nat) : Int))], [], 0⟩ → J s := fun hp => hJ h1 (by
      intro j hj
      by_cases h : j = i
      · subst h; exact hp
      · exact ht j (by omega))
    refine ifB_intro (fun h => ?_) (fun h => ?_)
    · refine ifB_intro (fun h2 => ?_) (fun h2 => ?_)
      · have hi0 : 0 < i := by simp at h2; omega
        have z : IntKind.i64.wrap ((i : Int) - 1) = ((i - 1 : Nat) : Int) := by rw [wrap64 (by omega) (by omega)]; omega
        have e2 : (ints l)[i - 1]? = some [.int .i64 (l.getD (i - 1) 0)] := cut_ints_get (by omega)
        simp only [z, Int.toNat_natCast, e2, push_cast, ↓ifB_true, ↓ifB_false, Nat.reduceBEq, Nat.reduceAdd, Nat.reduceSub, reduceCtorEq, Nat.reduceMul, Nat.reduceEqDiff, Nat.reduceLeDiff, reduceIte, Nat.reduceLT, Int.reduceLE, Int.reduceLT, Int.reduceToNat]
        repeat (refine ⟨by omega, ?_⟩)
        refine ifB_intro (fun h3 => ?_) (fun h3 => ?_)
        · rw [upto_no h1]
          have : ¬ l.getD (i - 1) 0 < l.getD i 0 := by simp only [decide_eq_true_eq] at h3; omega
          simp only [risP, this, decide_false, Bool.or_false, show ¬ i = 0 by omega, Bool.and_false]
        · refine go ?_ _ (head_tb [] rfl (by simp only [keptV_cons, keptV_nil, tb_get, lk_same, lk_ne, lk_nil, ren, renL, lkp, Nat.reduceLT, Nat.reduceBEq, Nat.reduceEqDiff, reduceIte, and_true, true_and, Nat.not_lt_zero, if_false, if_true, Nat.add_zero, Nat.zero_add]; (try rw [wrap64 (by omega) (by omega)]); (first | done | (simp; done) | (simp [*]; done) | (simp; omega) | (and_intros <;> rfl))) (by simp only [canR, canB, renO, renL, ren, lkp, hget, Nat.reduceLT, Nat.reduceEqDiff, Nat.not_lt_zero, if_false, if_true, reduceIte, List.append_nil, List.nil_append]; (first | done | rfl)))
          have : l.getD (i - 1) 0 < l.getD i 0 := by simp only [decide_eq_false_iff_not] at h3; omega
          simp only [risP, inR, h, this, decide_true, Bool.or_true, Bool.and_true]
      · refine go ?_ _ (head_tb [] rfl (by simp only [keptV_cons, keptV_nil, tb_get, lk_same, lk_ne, lk_nil, ren, renL, lkp, Nat.reduceLT, Nat.reduceBEq, Nat.reduceEqDiff, reduceIte, and_true, true_and, Nat.not_lt_zero, if_false, if_true, Nat.add_zero, Nat.zero_add]; (try rw [wrap64 (by omega) (by omega)]); (first | done | (simp; done) | (simp [*]; done) | (simp; omega) | (and_intros <;> rfl))) (by simp only [canR, canB, renO, renL, ren, lkp, hget, Nat.reduceLT, Nat.reduceEqDiff, Nat.not_lt_zero, if_false, if_true, reduceIte, List.append_nil, List.nil_append]; (first | done | rfl)))
        have : i = 0 := by simp at h2; omega
        simp only [risP, inR, h, this, decide_true, Bool.true_or, Bool.and_true]
        subst this; simpa using h
    · rw [upto_no h1]
      simp only [risP, inR, h, Bool.false_and]
  · obtain rfl : i = l.length := by omega
    simp only [push_cast, ↓ifB_true, ↓ifB_false, Nat.reduceBEq, Nat.reduceAdd, Nat.reduceSub, reduceCtorEq, Nat.reduceMul, Nat.reduceEqDiff, Nat.reduceLeDiff, reduceIte, Nat.reduceLT, Int.reduceLE, Int.reduceLT, Int.reduceToNat]
    refine ifB_intro (fun h => by simp at h) (fun h => ?_)
    exact (upto_yes ht).symm
theorem t61 (l : List Int) (hl : l.length < 2^50) : Ev C 61 [.sl (ints l)] (.bool (upto (l.length - 1) (incP l))) := by
  refine Ev.runT hC Try.func61 h61 nt61 r61 (by decide) (Nat.le_of_ble_eq_true rfl) (rfl) ?_
  simp only [c61, ints_length, push_cast, ↓ifB_true, ↓ifB_false, Nat.reduceBEq, Nat.reduceAdd, Nat.reduceSub, reduceCtorEq, Nat.reduceMul, Nat.reduceEqDiff, Nat.reduceLeDiff, reduceIte, Nat.reduceLT, Int.reduceLE, Int.reduceLT, Int.reduceToNat]
  refine RL_count (fun i => ⟨tb 20 .any [(0, .sl (ints l)), (3, .int .i64 ((i : Int) + 1))], [], 0⟩) (fun i => ∀ j, j < i → incP l j = true) (l.length - 1) 0 (head_tb [] rfl (by simp only [keptV_cons, keptV_nil, tb_get, lk_same, lk_ne, lk_nil, ren, renL, lkp, Nat.reduceLT, Nat.reduceBEq, Nat.reduceEqDiff, reduceIte, and_true, true_and, Nat.not_lt_zero, if_false, if_true, Nat.add_zero, Nat.zero_add]; (try rw [wrap64 (by omega) (by omega)]); (first | done | (simp; done) | (simp [*]; done) | (simp; omega) | (and_intros <;> rfl))) (by simp only [canR, canB, renO, renL, ren, lkp, hget, Nat.reduceLT, Nat.reduceEqDiff, Nat.not_lt_zero, if_false, if_true, reduceIte, List.append_nil, List.nil_append]; (first | done | rfl))) (by omega) (by omega) fun i hi' ht J hJ => ?_
  by_cases h1 : i < l.length - 1
  · have e1 : (ints l)[i]? = some [.int .i64 (l.getD i 0)] := cut_ints_get (by omega)
    have e2 : (ints l)[i + 1]? = some [.int .i64 (l.getD (i + 1) 0)] := cut_ints_get (by omega)
    have z1 : IntKind.i64.wrap ((i : Int) + 1 - 1) = i := by rw [wrap64 (by omega) (by omega)]; omega
    have z2 : ((i : Int) + 1).toNat = i + 1 := by omega
    simp only [Int.toNat_natCast, z1, z2, e1, e2, ints_length, push_cast, ↓ifB_true, ↓ifB_false, Nat.reduceBEq, Nat.reduceAdd, Nat.reduceSub, reduceCtorEq, Nat.reduceMul, Nat.reduceEqDiff, Nat.reduceLeDiff, reduceIte, Nat.reduceLT, Int.reduceLE, Int.reduceLT, Int.reduceToNat]
    refine ifB_intro (fun _ => ?_) (fun h => by simp at h; omega)
    repeat (refine ⟨by omega, ?_⟩)
    refine ifB_intro (fun h3 => ?_) (fun h3 => ?_)
    · rw [upto_no h1]
      have : ¬ l.getD i 0 < l.getD (i + 1) 0 := by simp only [decide_eq_true_eq] at h3; omega
      simp only [incP, this, decide_false]
    · refine hJ h1 ?_ _ (head_tb [] rfl ?_ (by simp only [canR, canB, renO, renL, ren, lkp, hget, Nat.reduceLT, Nat.reduceEqDiff, Nat.not_lt_zero, if_false, if_true, reduceIte, List.append_nil, List.nil_append]; (first | done | rfl)))
      · intro j hj
        by_cases h : j = i
        · subst h
          simp only [decide_eq_false_iff_not] at h3
          exact decide_eq_true (by omega)
        · exact ht j (by omega)
      · simp only [keptV_cons, keptV_nil, tb_get, lk_same, lk_ne, lk_nil, ren, renL, lkp, Nat.reduceLT, Nat.reduceBEq, Nat.reduceEqDiff, reduceIte, and_true, true_and, Nat.not_lt_zero, if_false, if_true, Nat.add_zero, Nat.zero_add]
        rw [wrap64 (n := (i : Int) + 1 + 1) (by omega) (by omega)]
        simp
  · obtain rfl : i = l.length - 1 := by omega
    simp only [ints_length, push_cast, ↓ifB_true, ↓ifB_false, Nat.reduceBEq, Nat.reduceAdd, Nat.reduceSub, reduceCtorEq, Nat.reduceMul, Nat.reduceEqDiff, Nat.reduceLeDiff, reduceIte, Nat.reduceLT, Int.reduceLE, Int.reduceLT, Int.reduceToNat]
    refine ifB_intro (fun h => by simp at h; omega) (fun h => ?_)
    exact (upto_yes ht).symm
theorem t60 (l : List Int) (x : Int) (hl : l.length < 2^50) : Ev C 60 [.sl (ints l), .int .i64 x] (.bool (hasB l x)) := by
  refine Ev.runT hC Try.func60 h60 nt60 r60 (by decide) (Nat.le_of_ble_eq_true rfl) (rfl) ?_
  simp only [c60, ints_length, push_cast, ↓ifB_true, ↓ifB_false, Nat.reduceBEq, Nat.reduceAdd, Nat.reduceSub, reduceCtorEq, Nat.reduceMul, Nat.reduceEqDiff, Nat.reduceLeDiff, reduceIte, Nat.reduceLT, Int.reduceLE, Int.reduceLT, Int.reduceToNat]
  refine RL_count (fun i => ⟨tb 17 .any [(1, .int .i64 x), (7, .sl (ints l)), (8, .int .i64 (l.length : Int)), (9, .int .i64 (i : Int))], [], 0⟩) (fun i => hasB l x = hasB (l.drop i) x) l.length 0 (head_tb [] rfl (by simp only [keptV_cons, keptV_nil, tb_get, lk_same, lk_ne, lk_nil, ren, renL, lkp, Nat.reduceLT, Nat.reduceBEq, Nat.reduceEqDiff, reduceIte, and_true, true_and, Nat.not_lt_zero, if_false, if_true, Nat.add_zero, Nat.zero_add]; (try rw [wrap64 (by omega) (by omega)]); (first | done | (simp; done) | (simp [*]; done) | (simp; omega) | (and_intros <;> rfl))) (by simp only [canR, canB, renO, renL, ren, lkp, hget, Nat.reduceLT, Nat.reduceEqDiff, Nat.not_lt_zero, if_false, if_true, reduceIte, List.append_nil, List.nil_append]; (first | done | rfl))) (by omega) rfl fun i hi' ht J hJ => ?_
  by_cases h1 : i < l.length
  · have e1 : (ints l)[i]? = some [.int .i64 l[i]] := by simp [ints, h1]
    simp only [Int.toNat_natCast, e1, push_cast, ↓ifB_true, ↓ifB_false, Nat.reduceBEq, Nat.reduceAdd, Nat.reduceSub, reduceCtorEq, Nat.reduceMul, Nat.reduceEqDiff, Nat.reduceLeDiff, reduceIte, Nat.reduceLT, Int.reduceLE, Int.reduceLT, Int.reduceToNat]
    rw [List.drop_eq_getElem_cons h1] at ht
    simp only [hasB, List.any_cons] at ht
    refine ifB_intro (fun _ => ?_) (fun h => by simp at h; omega)
    repeat (refine ⟨by omega, ?_⟩)
    refine ifB_intro (fun h => ?_) (fun h => ?_)
    · rw [hasB, ht, h]; rfl
    · refine hJ h1 ?_ _ (head_tb [] rfl (by simp only [keptV_cons, keptV_nil, tb_get, lk_same, lk_ne, lk_nil, ren, renL, lkp, Nat.reduceLT, Nat.reduceBEq, Nat.reduceEqDiff, reduceIte, and_true, true_and, Nat.not_lt_zero, if_false, if_true, Nat.add_zero, Nat.zero_add]; (try rw [wrap64 (by omega) (by omega)]); (first | done | (simp; done) | (simp [*]; done) | (simp; omega) | (and_intros <;> rfl))) (by simp only [canR, canB, renO, renL, ren, lkp, hget, Nat.reduceLT, Nat.reduceEqDiff, Nat.not_lt_zero, if_false, if_true, reduceIte, List.append_nil, List.nil_append]; (first | done | rfl)))
      rw [hasB, ht, h]; rfl
  · simp only [push_cast, ↓ifB_true, ↓ifB_false, Nat.reduceBEq, Nat.reduceAdd, Nat.reduceSub, reduceCtorEq, Nat.reduceMul, Nat.reduceEqDiff, Nat.reduceLeDiff, reduceIte, Nat.reduceLT, Int.reduceLE, Int.reduceLT, Int.reduceToNat]
    refine ifB_intro (fun h => by simp at h; omega) (fun h => ?_)
    rw [ht, List.drop_eq_nil_of_le (by omega)]
    rfl
theorem t74 (l : List Int) (x : Int) (hl : l.length < 2^50) : Ev C 74 [.sl (ints l), .int .i64 x] (.int .i64 (fidx (fun y => decide (x = y)) l)) := by
  refine Ev.runT hC Try.func74 h74 nt74 r74 (by decide) (Nat.le_of_ble_eq_true rfl) (rfl) ?_
  simp only [c74, ints_length, push_cast, ↓ifB_true, ↓ifB_false, Nat.reduceBEq, Nat.reduceAdd, Nat.reduceSub, reduceCtorEq, Nat.reduceMul, Nat.reduceEqDiff, Nat.reduceLeDiff, reduceIte, Nat.reduceLT, Int.reduceLE, Int.reduceLT, Int.reduceToNat]
  refine RL_count (fun i => ⟨tb 19 .any [(0, .sl (ints l)), (1, .int .i64 x), (7, .int .i64 (l.length : Int)), (8, .int .i64 (i : Int))], [], 0⟩) (fun i => ∀ j (h : j < l.length), j < i → decide (x = l[j]) = false) l.length 0 (head_tb [] rfl (by simp only [keptV_cons, keptV_nil, tb_get, lk_same, lk_ne, lk_nil, ren, renL, lkp, Nat.reduceLT, Nat.reduceBEq, Nat.reduceEqDiff, reduceIte, and_true, true_and, Nat.not_lt_zero, if_false, if_true, Nat.add_zero, Nat.zero_add]; (try rw [wrap64 (by omega) (by omega)]); (first | done | (simp; done) | (simp [*]; done) | (simp; omega) | (and_intros <;> rfl))) (by simp only [canR, canB, renO, renL, ren, lkp, hget, Nat.reduceLT, Nat.reduceEqDiff, Nat.not_lt_zero, if_false, if_true, reduceIte, List.append_nil, List.nil_append]; (first | done | rfl))) (by omega) (by intro j h h'; omega) fun i hi' ht J hJ => ?_
  by_cases h1 : i < l.length
  · have e1 : (ints l)[i]? = some [.int .i64 l[i]] := by simp [ints, h1]
    simp only [Int.toNat_natCast, e1, push_cast, ↓ifB_true, ↓ifB_false, Nat.reduceBEq, Nat.reduceAdd, Nat.reduceSub, reduceCtorEq, Nat.reduceMul, Nat.reduceEqDiff, Nat.reduceLeDiff, reduceIte, Nat.reduceLT, Int.reduceLE, Int.reduceLT, Int.reduceToNat]
    refine ifB_intro (fun _ => ?_) (fun h => by simp at h; omega)
    repeat (refine ⟨by omega, ?_⟩)
    refine ifB_intro (fun h => ?_) (fun h => ?_)
    · exact (fidx_at (p := fun y => decide (x = y)) h1 h ht).symm
    · refine hJ h1 ?_ _ (head_tb [] rfl (by simp only [keptV_cons, keptV_nil, tb_get, lk_same, lk_ne, lk_nil, ren, renL, lkp, Nat.reduceLT, Nat.reduceBEq, Nat.reduceEqDiff, reduceIte, and_true, true_and, Nat.not_lt_zero, if_false, if_true, Nat.add_zero, Nat.zero_add]; (try rw [wrap64 (by omega) (by omega)]); (first | done | (simp; done) | (simp [*]; done) | (simp; omega) | (and_intros <;> rfl))) (by simp only [canR, canB, renO, renL, ren, lkp, hget, Nat.reduceLT, Nat.reduceEqDiff, Nat.not_lt_zero, if_false, if_true, reduceIte, List.append_nil, List.nil_append]; (first | done | rfl)))
      intro j hj hji
      by_cases hij : j = i
      · subst hij; exact h
      · exact ht j hj (by omega)
  · simp only [push_cast, ↓ifB_true, ↓ifB_false, Nat.reduceBEq, Nat.reduceAdd, Nat.reduceSub, reduceCtorEq, Nat.reduceMul, Nat.reduceEqDiff, Nat.reduceLeDiff, reduceIte, Nat.reduceLT, Int.reduceLE, Int.reduceLT, Int.reduceToNat]
    refine ifB_intro (fun h => by simp at h; omega) (fun h => ?_)
    exact (fidx_no fun j hj => ht j hj (by omega)).symm
theorem t64 (l : List Int) (x : Int) (hl : l.length < 2^50) : Ev C 64 [.sl (ints l), .int .i64 x] (.bool (hasB l x)) := by
  refine Ev.runT hC Try.func64 h64 nt64 r64 (by decide) (Nat.le_of_ble_eq_true rfl) (rfl) ?_
  simp only [c64, push_cast, ↓ifB_true, ↓ifB_false, Nat.reduceBEq, Nat.reduceAdd, Nat.reduceSub, reduceCtorEq, Nat.reduceMul, Nat.reduceEqDiff, Nat.reduceLeDiff, reduceIte, Nat.reduceLT, Int.reduceLE, Int.reduceLT, Int.reduceToNat]
  refine ⟨_, t74 hC l x hl, ?_⟩
  simp only [push_cast, ↓ifB_true, ↓ifB_false, Nat.reduceBEq, Nat.reduceAdd, Nat.reduceSub, reduceCtorEq, Nat.reduceMul, Nat.reduceEqDiff, Nat.reduceLeDiff, reduceIte, Nat.reduceLT, Int.reduceLE, Int.reduceLT, Int.reduceToNat]
  rw [fidx_any, hasB]
  congr 1
  funext y
  rw [Bool.eq_iff_iff]; simp; exact eq_comm
theorem t62 (L : Lanes) (n D : Int) (hD : 0 ≤ D ∧ D ≤ 6) (hd : 2 ≤ L.d ∧ L.d ≤ 6) : Ev C 62 [.int .i64 n, .pf [.int .i64 D], .pf [.int .i64 L.d, .sl (lns L.ls), .sl (ints L.st)]] (.bool (!inR 0 ((D + 1) * L.d - 1) n)) := by
  have hb : 0 ≤ (D + 1) * L.d ∧ (D + 1) * L.d ≤ 42 := ⟨Int.mul_nonneg (by omega) (by omega), by
    have := Int.mul_le_mul (show D + 1 ≤ 7 by omega) hd.2 (by omega) (by omega); omega⟩
  refine Ev.runT hC Try.func62 h62 nt62 r62 (by decide) (Nat.le_of_ble_eq_true rfl) (rfl) ?_
  simp only [c62, push_cast, ↓ifB_true, ↓ifB_false, Nat.reduceBEq, Nat.reduceAdd, Nat.reduceSub, reduceCtorEq, Nat.reduceMul, Nat.reduceEqDiff, Nat.reduceLeDiff, reduceIte, Nat.reduceLT, Int.reduceLE, Int.reduceLT, Int.reduceToNat]
  rw [wrap64 (n := D + 1) (by omega) (by omega), wrap64 (by omega) (by omega)]
  refine ⟨_, t37 hC _ _ (by omega), ?_⟩
  simp only [push_cast, ↓ifB_true, ↓ifB_false, Nat.reduceBEq, Nat.reduceAdd, Nat.reduceSub, reduceCtorEq, Nat.reduceMul, Nat.reduceEqDiff, Nat.reduceLeDiff, reduceIte, Nat.reduceLT, Int.reduceLE, Int.reduceLT, Int.reduceToNat]
  rfl
end
end Go.Proofs.Ytnajmggefapeaaa.X
