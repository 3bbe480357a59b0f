/- A part of the proof: lemmas on the functions that the law reaches. No condition of its own. -/
import Derived.Test.YtlddjlchgibdfaaDoorXCBdW
set_option maxHeartbeats 4000000
set_option maxRecDepth 8000
set_option linter.unusedSimpArgs false
set_option linter.unusedVariables false
namespace Go.Proofs.YtlddjlchgibdfaaDoor.X
open Go
attribute [local irreducible] Ev
section
variable {C : CT} (hC : Closed Tryd.prog G1 md0 C)
include hC
theorem t171 (s : ByteArray) (hs : s.size < 2^50) : Ev C 171 [.str s] (.bool (okName s)) := by
  refine Ev.runT hC Tryd.func171 h171 nt171 r171 (by decide) (Nat.le_of_ble_eq_true rfl) (rfl) ?_
  simp only [c171, push_cast, ↓ifB_true, ↓ifB_false, Nat.reduceBEq, Nat.reduceAdd, Nat.reduceSub, reduceCtorEq, Nat.reduceMul, Nat.reduceEqDiff, Nat.reduceLeDiff, reduceIte, Nat.reduceLT, Int.reduceLE, Int.reduceLT, Int.reduceToNat]
  refine RL_count (fun i => ⟨tb 23 .any [(0, .str s), (3, .int .i64 (i : Int))], [], 0⟩) (fun i => ∀ j, j < i → (decide (97 ≤ bt s j) && decide (bt s j ≤ 122)) = true) s.size 0 (head_tb [] rfl (by simp only [keptV_cons, keptV_nil, tb_get, lk_same, lk_ne, lk_nil, ren, renL, lkp, Nat.reduceLT, Nat.reduceBEq, Nat.reduceEqDiff, reduceIte, and_true, true_and, Nat.not_lt_zero, if_false, if_true, Nat.add_zero, Nat.zero_add]; (try rw [wrap64 (by omega) (by omega)]); (first | done | (simp; done) | (simp [*]; done) | (simp; omega) | (and_intros <;> rfl))) (by simp only [canR, canB, renO, renL, ren, lkp, hget, Nat.reduceLT, Nat.reduceEqDiff, Nat.not_lt_zero, if_false, if_true, reduceIte, List.append_nil, List.nil_append]; (first | done | rfl))) (by omega) (by omega) fun i hi' ht J hJ => ?_
  by_cases h1 : i < s.size
  · simp only [push_cast, ↓ifB_true, ↓ifB_false, Nat.reduceBEq, Nat.reduceAdd, Nat.reduceSub, reduceCtorEq, Nat.reduceMul, Nat.reduceEqDiff, Nat.reduceLeDiff, reduceIte, Nat.reduceLT, Int.reduceLE, Int.reduceLT, Int.reduceToNat]
    refine ifB_intro (fun _ => ?_) (fun h => by simp at h; omega)
    repeat (refine ⟨by omega, ?_⟩)
    refine ifB_intro (fun h => ?_) (fun h => ?_)
    · simp only [okName]
      rw [upto_no h1 (by simp at h ⊢; omega)]; rfl
    · repeat (refine ⟨by omega, ?_⟩)
      refine ifB_intro (fun h2 => ?_) (fun h2 => ?_)
      · simp only [okName]
        rw [upto_no h1 (by simp at h2 ⊢; omega)]; rfl
      · refine hJ h1 ?_ _ (head_tb [] rfl (by simp only [keptV_cons, keptV_nil, tb_get, lk_same, lk_ne, lk_nil, ren, renL, lkp, Nat.reduceLT, Nat.reduceBEq, Nat.reduceEqDiff, reduceIte, and_true, true_and, Nat.not_lt_zero, if_false, if_true, Nat.add_zero, Nat.zero_add]; (try rw [wrap64 (by omega) (by omega)]); (first | done | (simp; done) | (simp [*]; done) | (simp; omega) | (and_intros <;> rfl))) (by simp only [canR, canB, renO, renL, ren, lkp, hget, Nat.reduceLT, Nat.reduceEqDiff, Nat.not_lt_zero, if_false, if_true, reduceIte, List.append_nil, List.nil_append]; (first | done | rfl)))
        intro j hj
        by_cases hij : j = i
        · subst hij; simp at h h2 ⊢; omega
        · exact ht j (by omega)
  · simp only [push_cast, ↓ifB_true, ↓ifB_false, Nat.reduceBEq, Nat.reduceAdd, Nat.reduceSub, reduceCtorEq, Nat.reduceMul, Nat.reduceEqDiff, Nat.reduceLeDiff, reduceIte, Nat.reduceLT, Int.reduceLE, Int.reduceLT, Int.reduceToNat]
    refine ifB_intro (fun h => by simp at h; omega) (fun h => ?_)
    refine ⟨_, tRange hC _ _ _, ?_⟩
    simp only [push_cast, ↓ifB_true, ↓ifB_false, Nat.reduceBEq, Nat.reduceAdd, Nat.reduceSub, reduceCtorEq, Nat.reduceMul, Nat.reduceEqDiff, Nat.reduceLeDiff, reduceIte, Nat.reduceLT, Int.reduceLE, Int.reduceLT, Int.reduceToNat]
    simp only [okName]
    rw [upto_yes fun j hj => ht j (by omega)]; rfl
omit hC in
theorem all_not {l : List Int} {p : Int → Bool} : (!l.any fun x => !p x) = l.all p := by simp [List.all_eq_not_any_not]
theorem t172 (x : Int) : Ev C 172 [.int .i64 x] (.bool (!inR 0 9 x)) := by
  refine Ev.runT hC Tryd.func172 h172 nt172 r172 (by decide) (Nat.le_of_ble_eq_true rfl) (rfl) ?_
  simp only [c172, push_cast, ↓ifB_true, ↓ifB_false, Nat.reduceBEq, Nat.reduceAdd, Nat.reduceSub, reduceCtorEq, Nat.reduceMul, Nat.reduceEqDiff, Nat.reduceLeDiff, reduceIte, Nat.reduceLT, Int.reduceLE, Int.reduceLT, Int.reduceToNat]
  refine ⟨_, tRange hC _ _ _, ?_⟩
  simp only [push_cast, ↓ifB_true, ↓ifB_false, Nat.reduceBEq, Nat.reduceAdd, Nat.reduceSub, reduceCtorEq, Nat.reduceMul, Nat.reduceEqDiff, Nat.reduceLeDiff, reduceIte, Nat.reduceLT, Int.reduceLE, Int.reduceLT, Int.reduceToNat]
omit hC in
/-- What the program asks of a terrain. -/
theorem terB_eq (r : Rul) (i : Nat) (t : Ter) : terOk r i t = ((okName t.n && decide ((t.c.length : Int) = (r.ks.length : Int)) && inR (-3) 3 t.s && inR 0 3 t.h && t.c.all (inR 0 9)) && decide (gidx (fun x => decide (x.n = t.n)) r.ts = i)) := by
  simp only [terOk]
  cases okName t.n <;> cases decide (gidx (fun x => decide (x.n = t.n)) r.ts = i) <;> cases decide ((t.c.length : Int) = (r.ks.length : Int)) <;> cases inR (-3) 3 t.s <;> cases inR 0 3 t.h <;> cases t.c.all (inR 0 9) <;> rfl
omit hC in
theorem kinB_eq (r : Rul) (i : Nat) (k : Kin) : kinOk r i k = ((okName k.n && inR 1 9 k.st && inR 0 9 k.mv && inR 1 4 k.sp && inR 0 4 k.v) && decide (gidx (fun x => decide (x.n = k.n)) r.ks = i)) := by
  simp only [kinOk]
  cases okName k.n <;> cases decide (gidx (fun x => decide (x.n = k.n)) r.ks = i) <;> cases inR 1 9 k.st <;> cases inR 0 9 k.mv <;> cases inR 1 4 k.sp <;> cases inR 0 4 k.v <;> rfl
theorem t152 (t : Ter) (k : Int) (h1 : t.n.size < 2^50) (h2 : t.c.length < 2^50) : Ev C 152 [.agg (terF t), .int .i64 k] (.bool (okName t.n && decide ((t.c.length : Int) = k) && inR (-3) 3 t.s && inR 0 3 t.h && t.c.all (inR 0 9))) := by
  have c1 := t116 hC t.c 172 [] _ h2 rfl rfl fun x _ => t172 hC x
  simp only [terF]
  refine Ev.runT hC Tryd.func152 h152 nt152 r152 (by decide) (Nat.le_of_ble_eq_true rfl) (rfl) ?_
  simp only [c152, push_cast, ↓ifB_true, ↓ifB_false, Nat.reduceBEq, Nat.reduceAdd, Nat.reduceSub, reduceCtorEq, Nat.reduceMul, Nat.reduceEqDiff, Nat.reduceLeDiff, reduceIte, Nat.reduceLT, Int.reduceLE, Int.reduceLT, Int.reduceToNat]
  refine ⟨_, t171 hC _ h1, ?_⟩
  cases okName t.n
  · simp only [push_cast, ↓ifB_true, ↓ifB_false, Nat.reduceBEq, Nat.reduceAdd, Nat.reduceSub, reduceCtorEq, Nat.reduceMul, Nat.reduceEqDiff, Nat.reduceLeDiff, reduceIte, Nat.reduceLT, Int.reduceLE, Int.reduceLT, Int.reduceToNat]
  simp only [ints_length, push_cast, ↓ifB_true, ↓ifB_false, Nat.reduceBEq, Nat.reduceAdd, Nat.reduceSub, reduceCtorEq, Nat.reduceMul, Nat.reduceEqDiff, Nat.reduceLeDiff, reduceIte, Nat.reduceLT, Int.reduceLE, Int.reduceLT, Int.reduceToNat]
  cases decide ((t.c.length : Int) = k)
  · simp only [push_cast, ↓ifB_true, ↓ifB_false, Nat.reduceBEq, Nat.reduceAdd, Nat.reduceSub, reduceCtorEq, Nat.reduceMul, Nat.reduceEqDiff, Nat.reduceLeDiff, reduceIte, Nat.reduceLT, Int.reduceLE, Int.reduceLT, Int.reduceToNat]
  simp only [push_cast, ↓ifB_true, ↓ifB_false, Nat.reduceBEq, Nat.reduceAdd, Nat.reduceSub, reduceCtorEq, Nat.reduceMul, Nat.reduceEqDiff, Nat.reduceLeDiff, reduceIte, Nat.reduceLT, Int.reduceLE, Int.reduceLT, Int.reduceToNat]
  refine ⟨_, tRange hC _ _ _, ?_⟩
  cases inR (-3) 3 t.s
  · simp only [push_cast, ↓ifB_true, ↓ifB_false, Nat.reduceBEq, Nat.reduceAdd, Nat.reduceSub, reduceCtorEq, Nat.reduceMul, Nat.reduceEqDiff, Nat.reduceLeDiff, reduceIte, Nat.reduceLT, Int.reduceLE, Int.reduceLT, Int.reduceToNat]
  simp only [push_cast, ↓ifB_true, ↓ifB_false, Nat.reduceBEq, Nat.reduceAdd, Nat.reduceSub, reduceCtorEq, Nat.reduceMul, Nat.reduceEqDiff, Nat.reduceLeDiff, reduceIte, Nat.reduceLT, Int.reduceLE, Int.reduceLT, Int.reduceToNat]
  refine ⟨_, tRange hC _ _ _, ?_⟩
  cases inR 0 3 t.h
  · simp only [push_cast, ↓ifB_true, ↓ifB_false, Nat.reduceBEq, Nat.reduceAdd, Nat.reduceSub, reduceCtorEq, Nat.reduceMul, Nat.reduceEqDiff, Nat.reduceLeDiff, reduceIte, Nat.reduceLT, Int.reduceLE, Int.reduceLT, Int.reduceToNat]
  simp only [push_cast, ↓ifB_true, ↓ifB_false, Nat.reduceBEq, Nat.reduceAdd, Nat.reduceSub, reduceCtorEq, Nat.reduceMul, Nat.reduceEqDiff, Nat.reduceLeDiff, reduceIte, Nat.reduceLT, Int.reduceLE, Int.reduceLT, Int.reduceToNat]
  refine ⟨_, c1, ?_⟩
  simp only [all_not, push_cast, ↓ifB_true, ↓ifB_false, Nat.reduceBEq, Nat.reduceAdd, Nat.reduceSub, reduceCtorEq, Nat.reduceMul, Nat.reduceEqDiff, Nat.reduceLeDiff, reduceIte, Nat.reduceLT, Int.reduceLE, Int.reduceLT, Int.reduceToNat]
theorem t173 (l : List Ter) (f : FuncId) (caps : List AV) (p : Ter → Bool) (hl : l.length < 2^50) (hm : md0 f = false) (hc : allF caps = true)
    (hp : ∀ x ∈ l, Ev C f (.agg (terF x) :: caps) (.bool (p x))) : Ev C 173 [.sl (tersF l), .fn f caps] (.int .i64 (gidx p l)) := by
  have hr : renL 0 [] caps = caps := renL_F hc
  refine Ev.runT hC Tryd.func173 h173 nt173 r173 (by decide) (Nat.le_of_ble_eq_true rfl) (rfl) ?_
  simp only [c173, tersF_length, push_cast, ↓ifB_true, ↓ifB_false, Nat.reduceBEq, Nat.reduceAdd, Nat.reduceSub, reduceCtorEq, Nat.reduceMul, Nat.reduceEqDiff, Nat.reduceLeDiff, reduceIte, Nat.reduceLT, Int.reduceLE, Int.reduceLT, Int.reduceToNat]
  refine RL_count (fun i => ⟨tb 19 .any [(0, .sl (tersF l)), (1, .fn f caps), (7, .int .i64 (l.length : Int)), (8, .int .i64 (i : Int))], [], 0⟩) (fun i => ∀ j (h : j < l.length), j < i → p l[j] = false) l.length 0 (head_tb [] rfl (by simp only [keptV_cons, keptV_nil, tb_get, lk_same, lk_ne, lk_nil, ren, renL, lkp, Nat.reduceLT, Nat.reduceBEq, Nat.reduceEqDiff, reduceIte, and_true, true_and, Nat.not_lt_zero, if_false, if_true, Nat.add_zero, Nat.zero_add]; (try rw [wrap64 (by omega) (by omega)]); (first | done | (simp; done) | (simp [*]; done) | (simp; omega) | (and_intros <;> rfl))) (by simp only [canR, canB, renO, renL, ren, lkp, hget, Nat.reduceLT, Nat.reduceEqDiff, Nat.not_lt_zero, if_false, if_true, reduceIte, List.append_nil, List.nil_append]; (first | done | rfl))) (by omega) (by intro j h h'; omega) fun i hi' ht J hJ => ?_
  by_cases h1 : i < l.length
  · have e1 : (tersF l)[i]? = some (terF l[i]) := by simp [tersF, h1]
    have hp1 := hp _ (List.getElem_mem h1)
    simp only [terF] at hp1
    simp only [Int.toNat_natCast, e1, terF, hm, frzAL_F hc, frzOkL_F hc, push_cast, ↓ifB_true, ↓ifB_false, Nat.reduceBEq, Nat.reduceAdd, Nat.reduceSub, reduceCtorEq, Nat.reduceMul, Nat.reduceEqDiff, Nat.reduceLeDiff, reduceIte, Nat.reduceLT, Int.reduceLE, Int.reduceLT, Int.reduceToNat]
    refine ifB_intro (fun _ => ?_) (fun h => by simp at h; omega)
    repeat (refine ⟨by omega, ?_⟩)
    refine ⟨_, hp1, ?_⟩
    simp only [push_cast, ↓ifB_true, ↓ifB_false, Nat.reduceBEq, Nat.reduceAdd, Nat.reduceSub, reduceCtorEq, Nat.reduceMul, Nat.reduceEqDiff, Nat.reduceLeDiff, reduceIte, Nat.reduceLT, Int.reduceLE, Int.reduceLT, Int.reduceToNat]
    refine ifB_intro (fun h => ?_) (fun h => ?_)
    · exact (gidx_at h1 h ht).symm
    · refine hJ h1 ?_ _ (head_tb [] rfl (by simp only [keptV_cons, keptV_nil, tb_get, lk_same, lk_ne, lk_nil, ren, renL, lkp, Nat.reduceLT, Nat.reduceBEq, Nat.reduceEqDiff, reduceIte, and_true, true_and, Nat.not_lt_zero, if_false, if_true, Nat.add_zero, Nat.zero_add]; (try rw [wrap64 (by omega) (by omega)]); (first | done | (simp; done) | (simp [*]; done) | (simp; omega) | (and_intros <;> rfl))) (by simp only [canR, canB, renO, renL, ren, lkp, hget, Nat.reduceLT, Nat.reduceEqDiff, Nat.not_lt_zero, if_false, if_true, reduceIte, List.append_nil, List.nil_append]; (first | done | rfl)))
      intro j hj hji
      by_cases hij : j = i
      · subst hij; exact h
      · exact ht j hj (by omega)
  · simp only [hm, push_cast, ↓ifB_true, ↓ifB_false, Nat.reduceBEq, Nat.reduceAdd, Nat.reduceSub, reduceCtorEq, Nat.reduceMul, Nat.reduceEqDiff, Nat.reduceLeDiff, reduceIte, Nat.reduceLT, Int.reduceLE, Int.reduceLT, Int.reduceToNat]
    refine ifB_intro (fun h => by simp at h; omega) (fun h => ?_)
    exact (gidx_no fun j hj => ht j hj (by omega)).symm
theorem t175 (l : List Kin) (f : FuncId) (caps : List AV) (p : Kin → Bool) (hl : l.length < 2^50) (hm : md0 f = false) (hc : allF caps = true)
    (hp : ∀ x ∈ l, Ev C f (.agg (kinA x) :: caps) (.bool (p x))) : Ev C 175 [.sl (kins l), .fn f caps] (.int .i64 (gidx p l)) := by
  have hr : renL 0 [] caps = caps := renL_F hc
  refine Ev.runT hC Tryd.func175 h175 nt175 r175 (by decide) (Nat.le_of_ble_eq_true rfl) (rfl) ?_
  simp only [c175, kins_length, push_cast, ↓ifB_true, ↓ifB_false, Nat.reduceBEq, Nat.reduceAdd, Nat.reduceSub, reduceCtorEq, Nat.reduceMul, Nat.reduceEqDiff, Nat.reduceLeDiff, reduceIte, Nat.reduceLT, Int.reduceLE, Int.reduceLT, Int.reduceToNat]
  refine RL_count (fun i => ⟨tb 19 .any [(0, .sl (kins l)), (1, .fn f caps), (7, .int .i64 (l.length : Int)), (8, .int .i64 (i : Int))], [], 0⟩) (fun i => ∀ j (h : j < l.length), j < i → p l[j] = false) l.length 0 (head_tb [] rfl (by simp only [keptV_cons, keptV_nil, tb_get, lk_same, lk_ne, lk_nil, ren, renL, lkp, Nat.reduceLT, Nat.reduceBEq, Nat.reduceEqDiff, reduceIte, and_true, true_and, Nat.not_lt_zero, if_false, if_true, Nat.add_zero, Nat.zero_add]; (try rw [wrap64 (by omega) (by omega)]); (first | done | (simp; done) | (simp [*]; done) | (simp; omega) | (and_intros <;> rfl))) (by simp only [canR, canB, renO, renL, ren, lkp, hget, Nat.reduceLT, Nat.reduceEqDiff, Nat.not_lt_zero, if_false, if_true, reduceIte, List.append_nil, List.nil_append]; (first | done | rfl))) (by omega) (by intro j h h'; omega) fun i hi' ht J hJ => ?_
  by_cases h1 : i < l.length
  · have e1 : (kins l)[i]? = some (kinA l[i]) := by simp [kins, h1]
    have hp1 := hp _ (List.getElem_mem h1)
    simp only [kinA] at hp1
    simp only [Int.toNat_natCast, e1, kinA, hm, frzAL_F hc, frzOkL_F hc, push_cast, ↓ifB_true, ↓ifB_false, Nat.reduceBEq, Nat.reduceAdd, Nat.reduceSub, reduceCtorEq, Nat.reduceMul, Nat.reduceEqDiff, Nat.reduceLeDiff, reduceIte, Nat.reduceLT, Int.reduceLE, Int.reduceLT, Int.reduceToNat]
    refine ifB_intro (fun _ => ?_) (fun h => by simp at h; omega)
    repeat (refine ⟨by omega, ?_⟩)
    refine ⟨_, hp1, ?_⟩
    simp only [push_cast, ↓ifB_true, ↓ifB_false, Nat.reduceBEq, Nat.reduceAdd, Nat.reduceSub, reduceCtorEq, Nat.reduceMul, Nat.reduceEqDiff, Nat.reduceLeDiff, reduceIte, Nat.reduceLT, Int.reduceLE, Int.reduceLT, Int.reduceToNat]
    refine ifB_intro (fun h => ?_) (fun h => ?_)
    · exact (gidx_at h1 h ht).symm
    · refine hJ h1 ?_ _ (head_tb [] rfl (by simp only [keptV_cons, keptV_nil, tb_get, lk_same, lk_ne, lk_nil, ren, renL, lkp, Nat.reduceLT, Nat.reduceBEq, Nat.reduceEqDiff, reduceIte, and_true, true_and, Nat.not_lt_zero, if_false, if_true, Nat.add_zero, Nat.zero_add]; (try rw [wrap64 (by omega) (by omega)]); (first | done | (simp; done) | (simp [*]; done) | (simp; omega) | (and_intros <;> rfl))) (by simp only [canR, canB, renO, renL, ren, lkp, hget, Nat.reduceLT, Nat.reduceEqDiff, Nat.not_lt_zero, if_false, if_true, reduceIte, List.append_nil, List.nil_append]; (first | done | rfl)))
      intro j hj hji
      by_cases hij : j = i
      · subst hij; exact h
      · exact ht j hj (by omega)
  · simp only [hm, push_cast, ↓ifB_true, ↓ifB_false, Nat.reduceBEq, Nat.reduceAdd, Nat.reduceSub, reduceCtorEq, Nat.reduceMul, Nat.reduceEqDiff, Nat.reduceLeDiff, reduceIte, Nat.reduceLT, Int.reduceLE, Int.reduceLT, Int.reduceToNat]
    refine ifB_intro (fun h => by simp at h; omega) (fun h => ?_)
    exact (gidx_no fun j hj => ht j hj (by omega)).symm
theorem t174 (t : Ter) (s : ByteArray) : Ev C 174 [.agg (terF t), .pf [.str s]] (.bool (decide (t.n = s))) := by
  simp only [terF]
  refine Ev.runT hC Tryd.func174 h174 nt174 r174 (by decide) (Nat.le_of_ble_eq_true rfl) (rfl) ?_
  simp only [c174, push_cast, ↓ifB_true, ↓ifB_false, Nat.reduceBEq, Nat.reduceAdd, Nat.reduceSub, reduceCtorEq, Nat.reduceMul, Nat.reduceEqDiff, Nat.reduceLeDiff, reduceIte, Nat.reduceLT, Int.reduceLE, Int.reduceLT, Int.reduceToNat]
theorem t153 (l : List Ter) (s : ByteArray) (hl : l.length < 2^50) : Ev C 153 [.sl (tersF l), .str s] (.int .i64 (gidx (fun x => decide (x.n = s)) l)) := by
  refine Ev.runT hC Tryd.func153 h153 nt153 r153 (by decide) (Nat.le_of_ble_eq_true rfl) (rfl) ?_
  simp only [c153, push_cast, ↓ifB_true, ↓ifB_false, Nat.reduceBEq, Nat.reduceAdd, Nat.reduceSub, reduceCtorEq, Nat.reduceMul, Nat.reduceEqDiff, Nat.reduceLeDiff, reduceIte, Nat.reduceLT, Int.reduceLE, Int.reduceLT, Int.reduceToNat]
  refine ⟨_, t173 hC l 174 [.pf [.str s]] (fun x => decide (x.n = s)) hl rfl rfl fun x _ => t174 hC x s, ?_⟩
  simp only [push_cast, ↓ifB_true, ↓ifB_false, Nat.reduceBEq, Nat.reduceAdd, Nat.reduceSub, reduceCtorEq, Nat.reduceMul, Nat.reduceEqDiff, Nat.reduceLeDiff, reduceIte, Nat.reduceLT, Int.reduceLE, Int.reduceLT, Int.reduceToNat]
theorem t176 (t : Kin) (s : ByteArray) : Ev C 176 [.agg (kinA t), .pf [.str s]] (.bool (decide (t.n = s))) := by
  simp only [kinA]
  refine Ev.runT hC Tryd.func176 h176 nt176 r176 (by decide) (Nat.le_of_ble_eq_true rfl) (rfl) ?_
  simp only [c176, push_cast, ↓ifB_true, ↓ifB_false, Nat.reduceBEq, Nat.reduceAdd, Nat.reduceSub, reduceCtorEq, Nat.reduceMul, Nat.reduceEqDiff, Nat.reduceLeDiff, reduceIte, Nat.reduceLT, Int.reduceLE, Int.reduceLT, Int.reduceToNat]
theorem t155 (l : List Kin) (s : ByteArray) (hl : l.length < 2^50) : Ev C 155 [.sl (kins l), .str s] (.int .i64 (gidx (fun x => decide (x.n = s)) l)) := by
  refine Ev.runT hC Tryd.func155 h155 nt155 r155 (by decide) (Nat.le_of_ble_eq_true rfl) (rfl) ?_
  simp only [c155, push_cast, ↓ifB_true, ↓ifB_false, Nat.reduceBEq, Nat.reduceAdd, Nat.reduceSub, reduceCtorEq, Nat.reduceMul, Nat.reduceEqDiff, Nat.reduceLeDiff, reduceIte, Nat.reduceLT, Int.reduceLE, Int.reduceLT, Int.reduceToNat]
  refine ⟨_, t175 hC l 176 [.pf [.str s]] (fun x => decide (x.n = s)) hl rfl rfl fun x _ => t176 hC x s, ?_⟩
  simp only [push_cast, ↓ifB_true, ↓ifB_false, Nat.reduceBEq, Nat.reduceAdd, Nat.reduceSub, reduceCtorEq, Nat.reduceMul, Nat.reduceEqDiff, Nat.reduceLeDiff, reduceIte, Nat.reduceLT, Int.reduceLE, Int.reduceLT, Int.reduceToNat]
theorem t154 (k : Kin) (h1 : k.n.size < 2^50) : Ev C 154 [.agg (kinA k)] (.bool (okName k.n && inR 1 9 k.st && inR 0 9 k.mv && inR 1 4 k.sp && inR 0 4 k.v)) := by
  simp only [kinA]
  refine Ev.runT hC Tryd.func154 h154 nt154 r154 (by decide) (Nat.le_of_ble_eq_true rfl) (rfl) ?_
  simp only [c154, push_cast, ↓ifB_true, ↓ifB_false, Nat.reduceBEq, Nat.reduceAdd, Nat.reduceSub, reduceCtorEq, Nat.reduceMul, Nat.reduceEqDiff, Nat.reduceLeDiff, reduceIte, Nat.reduceLT, Int.reduceLE, Int.reduceLT, Int.reduceToNat]
  refine ⟨_, t171 hC _ h1, ?_⟩
  cases okName k.n
  · simp only [push_cast, ↓ifB_true, ↓ifB_false, Nat.reduceBEq, Nat.reduceAdd, Nat.reduceSub, reduceCtorEq, Nat.reduceMul, Nat.reduceEqDiff, Nat.reduceLeDiff, reduceIte, Nat.reduceLT, Int.reduceLE, Int.reduceLT, Int.reduceToNat]
  simp only [push_cast, ↓ifB_true, ↓ifB_false, Nat.reduceBEq, Nat.reduceAdd, Nat.reduceSub, reduceCtorEq, Nat.reduceMul, Nat.reduceEqDiff, Nat.reduceLeDiff, reduceIte, Nat.reduceLT, Int.reduceLE, Int.reduceLT, Int.reduceToNat]
  refine ⟨_, tRange hC _ _ _, ?_⟩
  cases inR 1 9 k.st
  · simp only [push_cast, ↓ifB_true, ↓ifB_false, Nat.reduceBEq, Nat.reduceAdd, Nat.reduceSub, reduceCtorEq, Nat.reduceMul, Nat.reduceEqDiff, Nat.reduceLeDiff, reduceIte, Nat.reduceLT, Int.reduceLE, Int.reduceLT, Int.reduceToNat]
  simp only [push_cast, ↓ifB_true, ↓ifB_false, Nat.reduceBEq, Nat.reduceAdd, Nat.reduceSub, reduceCtorEq, Nat.reduceMul, Nat.reduceEqDiff, Nat.reduceLeDiff, reduceIte, Nat.reduceLT, Int.reduceLE, Int.reduceLT, Int.reduceToNat]
  refine ⟨_, tRange hC _ _ _, ?_⟩
  cases inR 0 9 k.mv
  · simp only [push_cast, ↓ifB_true, ↓ifB_false, Nat.reduceBEq, Nat.reduceAdd, Nat.reduceSub, reduceCtorEq, Nat.reduceMul, Nat.reduceEqDiff, Nat.reduceLeDiff, reduceIte, Nat.reduceLT, Int.reduceLE, Int.reduceLT, Int.reduceToNat]
  simp only [push_cast, ↓ifB_true, ↓ifB_false, Nat.reduceBEq, Nat.reduceAdd, Nat.reduceSub, reduceCtorEq, Nat.reduceMul, Nat.reduceEqDiff, Nat.reduceLeDiff, reduceIte, Nat.reduceLT, Int.reduceLE, Int.reduceLT, Int.reduceToNat]
  refine ⟨_, tRange hC _ _ _, ?_⟩
  cases inR 1 4 k.sp
  · simp only [push_cast, ↓ifB_true, ↓ifB_false, Nat.reduceBEq, Nat.reduceAdd, Nat.reduceSub, reduceCtorEq, Nat.reduceMul, Nat.reduceEqDiff, Nat.reduceLeDiff, reduceIte, Nat.reduceLT, Int.reduceLE, Int.reduceLT, Int.reduceToNat]
  simp only [push_cast, ↓ifB_true, ↓ifB_false, Nat.reduceBEq, Nat.reduceAdd, Nat.reduceSub, reduceCtorEq, Nat.reduceMul, Nat.reduceEqDiff, Nat.reduceLeDiff, reduceIte, Nat.reduceLT, Int.reduceLE, Int.reduceLT, Int.reduceToNat]
  refine ⟨_, tRange hC _ _ _, ?_⟩
  simp only [push_cast, ↓ifB_true, ↓ifB_false, Nat.reduceBEq, Nat.reduceAdd, Nat.reduceSub, reduceCtorEq, Nat.reduceMul, Nat.reduceEqDiff, Nat.reduceLeDiff, reduceIte, Nat.reduceLT, Int.reduceLE, Int.reduceLT, Int.reduceToNat]
theorem t114 (r : Rul) (hb : RulB (2^50) r) : Ev C 114 [.agg (rulF r)] (.bool (rulOk r)) := by
  have hts := hb.ts
  have hks := hb.ks
  simp only [rulF]
  refine Ev.runT hC Tryd.func114 h114 nt114 r114 (by decide) (Nat.le_of_ble_eq_true rfl) (rfl) ?_
  simp only [c114, tersF_length, kins_length, push_cast, ↓ifB_true, ↓ifB_false, Nat.reduceBEq, Nat.reduceAdd, Nat.reduceSub, reduceCtorEq, Nat.reduceMul, Nat.reduceEqDiff, Nat.reduceLeDiff, reduceIte, Nat.reduceLT, Int.reduceLE, Int.reduceLT, Int.reduceToNat]
  refine ⟨_, tRange hC _ _ _, ?_⟩
  cases g1 : inR 1 6 (r.ts.length : Int)
  · simp only [rulOk, g1, push_cast, ↓ifB_true, ↓ifB_false, Nat.reduceBEq, Nat.reduceAdd, Nat.reduceSub, reduceCtorEq, Nat.reduceMul, Nat.reduceEqDiff, Nat.reduceLeDiff, reduceIte, Nat.reduceLT, Int.reduceLE, Int.reduceLT, Int.reduceToNat]
  simp only [tersF_length, kins_length, push_cast, ↓ifB_true, ↓ifB_false, Nat.reduceBEq, Nat.reduceAdd, Nat.reduceSub, reduceCtorEq, Nat.reduceMul, Nat.reduceEqDiff, Nat.reduceLeDiff, reduceIte, Nat.reduceLT, Int.reduceLE, Int.reduceLT, Int.reduceToNat]
  refine ⟨_, tRange hC _ _ _, ?_⟩
  cases g2 : inR 1 4 (r.ks.length : Int)
  · simp only [rulOk, g1, g2, push_cast, ↓ifB_true, ↓ifB_false, Nat.reduceBEq, Nat.reduceAdd, Nat.reduceSub, reduceCtorEq, Nat.reduceMul, Nat.reduceEqDiff, Nat.reduceLeDiff, reduceIte, Nat.reduceLT, Int.reduceLE, Int.reduceLT, Int.reduceToNat]
  simp only [tersF_length, kins_length, push_cast, ↓ifB_true, ↓ifB_false, Nat.reduceBEq, Nat.reduceAdd, Nat.reduceSub, reduceCtorEq, Nat.reduceMul, Nat.reduceEqDiff, Nat.reduceLeDiff, reduceIte, Nat.reduceLT, Int.reduceLE, Int.reduceLT, Int.reduceToNat]
  refine RL_count (fun i => ⟨tb 87 .any [(1, .ptr 0 none 0 0 0), (20, .sl (tersF r.ts)), (21, .int .i64 (r.ts.length : Int)), (22, .int .i64 (i : Int))], [(0, .var (rulF r))], 1⟩) (fun i => ∀ j (h : j < r.ts.length), j < i → terOk r j r.ts[j] = true) r.ts.length 0 (head_tb [(0, 0)] rfl (by simp only [keptV_cons, keptV_nil, tb_get, lk_same, lk_ne, lk_nil, ren, renL, lkp, Nat.reduceLT, Nat.reduceBEq, Nat.reduceEqDiff, reduceIte, and_true, true_and, Nat.not_lt_zero, if_false, if_true, Nat.add_zero, Nat.zero_add]; (try rw [wrap64 (by omega) (by omega)]); (first | done | (simp; done) | (simp [*]; done) | (simp; omega) | (and_intros <;> rfl))) (by simp only [canR, canB, renO, renL, ren, lkp, hget, Nat.reduceLT, Nat.reduceEqDiff, Nat.not_lt_zero, if_false, if_true, reduceIte, List.append_nil, List.nil_append]; (first | done | rfl))) (by omega) (by intro j h h'; omega) fun i hi' ht J hJ => ?_
  simp only [rulF]
  by_cases h1 : i < r.ts.length
  · have e1 : (tersF r.ts)[i]? = some (terF r.ts[i]) := by simp [tersF, h1]
    have b1 := hb.t _ (List.getElem_mem h1)
    have c1 := t152 hC r.ts[i] (r.ks.length : Int) b1.1 b1.2
    have eq := terB_eq r i r.ts[i]
    simp only [terF] at c1
    simp only [Int.toNat_natCast, e1, terF, push_cast, ↓ifB_true, ↓ifB_false, Nat.reduceBEq, Nat.reduceAdd, Nat.reduceSub, reduceCtorEq, Nat.reduceMul, Nat.reduceEqDiff, Nat.reduceLeDiff, reduceIte, Nat.reduceLT, Int.reduceLE, Int.reduceLT, Int.reduceToNat]
    refine ifB_intro (fun _ => ?_) (fun h => by simp at h; omega)
    repeat (refine ⟨by omega, ?_⟩)
    simp only [tersF_length, kins_length, push_cast, ↓ifB_true, ↓ifB_false, Nat.reduceBEq, Nat.reduceAdd, Nat.reduceSub, reduceCtorEq, Nat.reduceMul, Nat.reduceEqDiff, Nat.reduceLeDiff, reduceIte, Nat.reduceLT, Int.reduceLE, Int.reduceLT, Int.reduceToNat]
    refine ⟨_, c1, ?_⟩
    generalize (okName r.ts[i].n && decide ((r.ts[i].c.length : Int) = (r.ks.length : Int)) && inR (-3) 3 r.ts[i].s && inR 0 3 r.ts[i].h && r.ts[i].c.all (inR 0 9)) = B at *
    cases B
    · have hf : terOk r i r.ts[i] = false := by rw [eq]; rfl
      simp only [rulOk, allI_no h1 hf, push_cast, ↓ifB_true, ↓ifB_false, Nat.reduceBEq, Nat.reduceAdd, Nat.reduceSub, reduceCtorEq, Nat.reduceMul, Nat.reduceEqDiff, Nat.reduceLeDiff, reduceIte, Nat.reduceLT, Int.reduceLE, Int.reduceLT, Int.reduceToNat]
    simp only [push_cast, ↓ifB_true, ↓ifB_false, Nat.reduceBEq, Nat.reduceAdd, Nat.reduceSub, reduceCtorEq, Nat.reduceMul, Nat.reduceEqDiff, Nat.reduceLeDiff, reduceIte, Nat.reduceLT, Int.reduceLE, Int.reduceLT, Int.reduceToNat]
    refine ⟨_, t153 hC _ _ hts, ?_⟩
    simp only [push_cast, ↓ifB_true, ↓ifB_false, Nat.reduceBEq, Nat.reduceAdd, Nat.reduceSub, reduceCtorEq, Nat.reduceMul, Nat.reduceEqDiff, Nat.reduceLeDiff, reduceIte, Nat.reduceLT, Int.reduceLE, Int.reduceLT, Int.reduceToNat]
    refine ifB_intro (fun h => ?_) (fun h => ?_)
    · have hf : terOk r i r.ts[i] = true := by rw [eq]; simpa using h
      refine hJ h1 (fun j hj hji => ?_) _ (head_tb [(0, 0)] rfl (by simp only [keptV_cons, keptV_nil, tb_get, lk_same, lk_ne, lk_nil, ren, renL, lkp, Nat.reduceLT, Nat.reduceBEq, Nat.reduceEqDiff, reduceIte, and_true, true_and, Nat.not_lt_zero, if_false, if_true, Nat.add_zero, Nat.zero_add]; (try rw [wrap64 (by omega) (by omega)]); (first | done | (simp; done) | (simp [*]; done) | (simp; omega) | (and_intros <;> rfl))) (by simp only [canR, canB, renO, renL, ren, lkp, hget, Nat.reduceLT, Nat.reduceEqDiff, Nat.not_lt_zero, if_false, if_true, reduceIte, List.append_nil, List.nil_append]; (first | done | rfl)))
      by_cases hij : j = i
      · subst hij; exact hf
      · exact ht j hj (by omega)
    · have hf : terOk r i r.ts[i] = false := by rw [eq]; simpa using h
      simp only [rulOk, allI_no h1 hf, push_cast, ↓ifB_true, ↓ifB_false, Nat.reduceBEq, Nat.reduceAdd, Nat.reduceSub, reduceCtorEq, Nat.reduceMul, Nat.reduceEqDiff, Nat.reduceLeDiff, reduceIte, Nat.reduceLT, Int.reduceLE, Int.reduceLT, Int.reduceToNat]
  · simp only [tersF_length, kins_length, push_cast, ↓ifB_true, ↓ifB_false, Nat.reduceBEq, Nat.reduceAdd, Nat.reduceSub, reduceCtorEq, Nat.reduceMul, Nat.reduceEqDiff, Nat.reduceLeDiff, reduceIte, Nat.reduceLT, Int.reduceLE, Int.reduceLT, Int.reduceToNat]
    refine ifB_intro (fun h => by simp at h; omega) (fun h => ?_)
    have gt : allI (terOk r) r.ts = true := allI_yes fun j hj => ht j hj (by omega)
    clear ht hJ
    refine RL_count (fun i => ⟨tb 87 .any [(1, .ptr 0 none 0 0 0), (44, .sl (kins r.ks)), (45, .int .i64 (r.ks.length : Int)), (46, .int .i64 (i : Int))], [(0, .var (rulF r))], 1⟩) (fun i => ∀ j (h : j < r.ks.length), j < i → kinOk r j r.ks[j] = true) r.ks.length 0 (head_tb [(0, 0)] rfl (by simp only [keptV_cons, keptV_nil, tb_get, lk_same, lk_ne, lk_nil, ren, renL, lkp, Nat.reduceLT, Nat.reduceBEq, Nat.reduceEqDiff, reduceIte, and_true, true_and, Nat.not_lt_zero, if_false, if_true, Nat.add_zero, Nat.zero_add]; (try rw [wrap64 (by omega) (by omega)]); (first | done | (simp; done) | (simp [*]; done) | (simp; omega) | (and_intros <;> rfl))) (by simp only [canR, canB, renO, renL, ren, lkp, hget, Nat.reduceLT, Nat.reduceEqDiff, Nat.not_lt_zero, if_false, if_true, reduceIte, List.append_nil, List.nil_append]; (first | done | rfl))) (by omega) (by intro j h h'; omega) fun i hi' ht J hJ => ?_
    simp only [rulF]
    by_cases h1 : i < r.ks.length
    · have e1 : (kins r.ks)[i]? = some (kinA r.ks[i]) := by simp [kins, h1]
      have c1 := t154 hC r.ks[i] (hb.k _ (List.getElem_mem h1))
      have eq := kinB_eq r i r.ks[i]
      simp only [kinA] at c1
      simp only [Int.toNat_natCast, e1, kinA, push_cast, ↓ifB_true, ↓ifB_false, Nat.reduceBEq, Nat.reduceAdd, Nat.reduceSub, reduceCtorEq, Nat.reduceMul, Nat.reduceEqDiff, Nat.reduceLeDiff, reduceIte, Nat.reduceLT, Int.reduceLE, Int.reduceLT, Int.reduceToNat]
      refine ifB_intro (fun _ => ?_) (fun h => by simp at h; omega)
      repeat (refine ⟨by omega, ?_⟩)
      refine ⟨_, c1, ?_⟩
      generalize (okName r.ks[i].n && inR 1 9 r.ks[i].st && inR 0 9 r.ks[i].mv && inR 1 4 r.ks[i].sp && inR 0 4 r.ks[i].v) = B at *
      cases B
      · have hf : kinOk r i r.ks[i] = false := by rw [eq]; rfl
        simp only [rulOk, allI_no h1 hf, push_cast, ↓ifB_true, ↓ifB_false, Nat.reduceBEq, Nat.reduceAdd, Nat.reduceSub, reduceCtorEq, Nat.reduceMul, Nat.reduceEqDiff, Nat.reduceLeDiff, reduceIte, Nat.reduceLT, Int.reduceLE, Int.reduceLT, Int.reduceToNat]
      simp only [push_cast, ↓ifB_true, ↓ifB_false, Nat.reduceBEq, Nat.reduceAdd, Nat.reduceSub, reduceCtorEq, Nat.reduceMul, Nat.reduceEqDiff, Nat.reduceLeDiff, reduceIte, Nat.reduceLT, Int.reduceLE, Int.reduceLT, Int.reduceToNat]
      refine ⟨_, t155 hC _ _ hks, ?_⟩
      simp only [push_cast, ↓ifB_true, ↓ifB_false, Nat.reduceBEq, Nat.reduceAdd, Nat.reduceSub, reduceCtorEq, Nat.reduceMul, Nat.reduceEqDiff, Nat.reduceLeDiff, reduceIte, Nat.reduceLT, Int.reduceLE, Int.reduceLT, Int.reduceToNat]
      refine ifB_intro (fun h => ?_) (fun h => ?_)
      · have hf : kinOk r i r.ks[i] = true := by rw [eq]; simpa using h
        refine hJ h1 (fun j hj hji => ?_) _ (head_tb [(0, 0)] rfl (by simp only [keptV_cons, keptV_nil, tb_get, lk_same, lk_ne, lk_nil, ren, renL, lkp, Nat.reduceLT, Nat.reduceBEq, Nat.reduceEqDiff, reduceIte, and_true, true_and, Nat.not_lt_zero, if_false, if_true, Nat.add_zero, Nat.zero_add]; (try rw [wrap64 (by omega) (by omega)]); (first | done | (simp; done) | (simp [*]; done) | (simp; omega) | (and_intros <;> rfl))) (by simp only [canR, canB, renO, renL, ren, lkp, hget, Nat.reduceLT, Nat.reduceEqDiff, Nat.not_lt_zero, if_false, if_true, reduceIte, List.append_nil, List.nil_append]; (first | done | rfl)))
        by_cases hij : j = i
        · subst hij; exact hf
        · exact ht j hj (by omega)
      · have hf : kinOk r i r.ks[i] = false := by rw [eq]; simpa using h
        simp only [rulOk, allI_no h1 hf, push_cast, ↓ifB_true, ↓ifB_false, Nat.reduceBEq, Nat.reduceAdd, Nat.reduceSub, reduceCtorEq, Nat.reduceMul, Nat.reduceEqDiff, Nat.reduceLeDiff, reduceIte, Nat.reduceLT, Int.reduceLE, Int.reduceLT, Int.reduceToNat]
    · simp only [push_cast, ↓ifB_true, ↓ifB_false, Nat.reduceBEq, Nat.reduceAdd, Nat.reduceSub, reduceCtorEq, Nat.reduceMul, Nat.reduceEqDiff, Nat.reduceLeDiff, reduceIte, Nat.reduceLT, Int.reduceLE, Int.reduceLT, Int.reduceToNat]
      refine ifB_intro (fun h => by simp at h; omega) (fun h => ?_)
      have gk : allI (kinOk r) r.ks = true := allI_yes fun j hj => ht j hj (by omega)
      rw [show rulOk r = tailOk r by simp only [rulOk, g1, g2, gt, gk, Bool.and_self, Bool.true_and]]
      clear ht hJ
      simp only [tailOk]
      refine ⟨_, tRange hC _ _ _, ?_⟩
      cases inR 1 4 r.stack
      · simp only [push_cast, ↓ifB_true, ↓ifB_false, Nat.reduceBEq, Nat.reduceAdd, Nat.reduceSub, reduceCtorEq, Nat.reduceMul, Nat.reduceEqDiff, Nat.reduceLeDiff, reduceIte, Nat.reduceLT, Int.reduceLE, Int.reduceLT, Int.reduceToNat]
      simp only [push_cast, ↓ifB_true, ↓ifB_false, Nat.reduceBEq, Nat.reduceAdd, Nat.reduceSub, reduceCtorEq, Nat.reduceMul, Nat.reduceEqDiff, Nat.reduceLeDiff, reduceIte, Nat.reduceLT, Int.reduceLE, Int.reduceLT, Int.reduceToNat]
      refine ⟨_, tRange hC _ _ _, ?_⟩
      cases inR 0 9 r.river
      · simp only [push_cast, ↓ifB_true, ↓ifB_false, Nat.reduceBEq, Nat.reduceAdd, Nat.reduceSub, reduceCtorEq, Nat.reduceMul, Nat.reduceEqDiff, Nat.reduceLeDiff, reduceIte, Nat.reduceLT, Int.reduceLE, Int.reduceLT, Int.reduceToNat]
      simp only [push_cast, ↓ifB_true, ↓ifB_false, Nat.reduceBEq, Nat.reduceAdd, Nat.reduceSub, reduceCtorEq, Nat.reduceMul, Nat.reduceEqDiff, Nat.reduceLeDiff, reduceIte, Nat.reduceLT, Int.reduceLE, Int.reduceLT, Int.reduceToNat]
      refine ⟨_, tRange hC _ _ _, ?_⟩
      cases inR 1 9 r.road
      · simp only [push_cast, ↓ifB_true, ↓ifB_false, Nat.reduceBEq, Nat.reduceAdd, Nat.reduceSub, reduceCtorEq, Nat.reduceMul, Nat.reduceEqDiff, Nat.reduceLeDiff, reduceIte, Nat.reduceLT, Int.reduceLE, Int.reduceLT, Int.reduceToNat]
      simp only [push_cast, ↓ifB_true, ↓ifB_false, Nat.reduceBEq, Nat.reduceAdd, Nat.reduceSub, reduceCtorEq, Nat.reduceMul, Nat.reduceEqDiff, Nat.reduceLeDiff, reduceIte, Nat.reduceLT, Int.reduceLE, Int.reduceLT, Int.reduceToNat]
      refine ⟨_, tRange hC _ _ _, ?_⟩
      cases inR 0 20 r.supply
      · simp only [push_cast, ↓ifB_true, ↓ifB_false, Nat.reduceBEq, Nat.reduceAdd, Nat.reduceSub, reduceCtorEq, Nat.reduceMul, Nat.reduceEqDiff, Nat.reduceLeDiff, reduceIte, Nat.reduceLT, Int.reduceLE, Int.reduceLT, Int.reduceToNat]
      simp only [push_cast, ↓ifB_true, ↓ifB_false, Nat.reduceBEq, Nat.reduceAdd, Nat.reduceSub, reduceCtorEq, Nat.reduceMul, Nat.reduceEqDiff, Nat.reduceLeDiff, reduceIte, Nat.reduceLT, Int.reduceLE, Int.reduceLT, Int.reduceToNat]
      refine ⟨_, tRange hC _ _ _, ?_⟩
      simp only [push_cast, ↓ifB_true, ↓ifB_false, Nat.reduceBEq, Nat.reduceAdd, Nat.reduceSub, reduceCtorEq, Nat.reduceMul, Nat.reduceEqDiff, Nat.reduceLeDiff, reduceIte, Nat.reduceLT, Int.reduceLE, Int.reduceLT, Int.reduceToNat]
end
end Go.Proofs.YtlddjlchgibdfaaDoor.X
