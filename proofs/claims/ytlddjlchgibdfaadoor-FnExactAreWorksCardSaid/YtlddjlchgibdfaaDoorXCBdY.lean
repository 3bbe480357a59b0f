import Derived.Test.YtlddjlchgibdfaaDoorXCBdX
set_option maxHeartbeats 4000000
set_option maxRecDepth 8000
set_option linter.unusedSimpArgs false
set_option linter.unusedVariables false
namespace Go.Proofs.YtlddjlchgibdfaaDoor.X
open Go
attribute [local irreducible] Ev
section
variable {C : CT} (hC : Closed Tryd.prog G1 md0 C)
include hC
theorem t189 (m : Mp) (i : Int) (hw : 1 ≤ m.w ∧ m.w ≤ 10) (hh : 1 ≤ m.h ∧ m.h ≤ 10) (hi : 0 ≤ i ∧ i < 300) : Ev C 189 [.agg (mpF m), .int .i64 i] (.agg [.int .i64 (i.tmod m.w), .int .i64 (i.tdiv m.w)]) := by
  have hb := hex_bnd hw hi
  simp only [mpF]
  refine Ev.runT hC Tryd.func189 h189 nt189 r189 (by decide) (Nat.le_of_ble_eq_true rfl) (rfl) ?_
  simp only [c189, push_cast, ↓ifB_true, ↓ifB_false, Nat.reduceBEq, Nat.reduceAdd, Nat.reduceSub, reduceCtorEq, Nat.reduceMul, Nat.reduceEqDiff, Nat.reduceLeDiff, reduceIte, Nat.reduceLT, Int.reduceLE, Int.reduceLT, Int.reduceToNat]
  rw [wrap64 (by omega) (by omega)]
  refine ⟨by omega, by omega, ?_⟩
  exact RetTo_of (by simp only [conR, conRL, isF, hget, hdel, List.drop_zero, List.take_length, if_true, if_false, reduceIte, Nat.reduceEqDiff, reduceCtorEq]; rfl)
theorem t188 (q r d : Int) (hq : -1000 ≤ q ∧ q ≤ 1000) (hr : -1000 ≤ r ∧ r ≤ 1000) (hd : 0 ≤ d ∧ d < 6) : Ev C 188 [.agg [.int .i64 q, .int .i64 r], .int .i64 d, .int .i64 1] (.agg [.int .i64 (q + dq d.toNat), .int .i64 (r + dr d.toNat)]) := by
  have b1 := dq_bnd d.toNat
  have b2 := dr_bnd d.toNat
  obtain ⟨k, rfl⟩ : ∃ k : Nat, d = k := ⟨d.toNat, by omega⟩
  have hk : k = 0 ∨ k = 1 ∨ k = 2 ∨ k = 3 ∨ k = 4 ∨ k = 5 := by omega
  simp only [Int.toNat_natCast] at *
  have e1 : List.drop (k * 2) dirs = .int .i64 (dq k) :: .int .i64 (dr k) :: List.drop (k * 2 + 2) dirs := by
    rcases hk with rfl | rfl | rfl | rfl | rfl | rfl <;> rfl
  refine Ev.runT hC Tryd.func188 h188 nt188 r188 (by decide) (Nat.le_of_ble_eq_true rfl) (rfl) ?_
  simp only [c188, push_cast, ↓ifB_true, ↓ifB_false, Nat.reduceBEq, Nat.reduceAdd, Nat.reduceSub, reduceCtorEq, Nat.reduceMul, Nat.reduceEqDiff, Nat.reduceLeDiff, reduceIte, Nat.reduceLT, Int.reduceLE, Int.reduceLT, Int.reduceToNat]
  simp only [Int.toNat_natCast, e1, push_cast, ↓ifB_true, ↓ifB_false, Nat.reduceBEq, Nat.reduceAdd, Nat.reduceSub, reduceCtorEq, Nat.reduceMul, Nat.reduceEqDiff, Nat.reduceLeDiff, reduceIte, Nat.reduceLT, Int.reduceLE, Int.reduceLT, Int.reduceToNat]
  repeat (refine ⟨by omega, ?_⟩)
  rw [wrap64 (n := 1 * dq k) (by omega) (by omega), wrap64 (n := 1 * dr k) (by omega) (by omega)]
  rw [wrap64 (by omega) (by omega), wrap64 (by omega) (by omega)]
  simp only [Int.one_mul]
  exact RetTo_of (by simp only [conR, conRL, isF, hget, hdel, List.drop_zero, List.take_length, if_true, if_false, reduceIte, Nat.reduceEqDiff, reduceCtorEq]; rfl)
theorem t187 (m : Mp) (q r : Int) (hw : 1 ≤ m.w ∧ m.w ≤ 10) (hh : 1 ≤ m.h ∧ m.h ≤ 10) (hq : -1000 ≤ q ∧ q ≤ 1000) (hr : -1000 ≤ r ∧ r ≤ 1000) : Ev C 187 [.agg (mpF m), .agg [.int .i64 q, .int .i64 r]] (.int .i64 (if inR 0 (m.w - 1) q && inR 0 (m.h - 1) r then r * m.w + q else -1)) := by
  simp only [mpF]
  refine Ev.runT hC Tryd.func187 h187 nt187 r187 (by decide) (Nat.le_of_ble_eq_true rfl) (rfl) ?_
  simp only [c187, push_cast, ↓ifB_true, ↓ifB_false, Nat.reduceBEq, Nat.reduceAdd, Nat.reduceSub, reduceCtorEq, Nat.reduceMul, Nat.reduceEqDiff, Nat.reduceLeDiff, reduceIte, Nat.reduceLT, Int.reduceLE, Int.reduceLT, Int.reduceToNat]
  refine ⟨_, tIdx hC _ _ (by omega), ?_⟩
  cases g1 : inR 0 (m.w - 1) q
  · simp only [push_cast, ↓ifB_true, ↓ifB_false, Nat.reduceBEq, Nat.reduceAdd, Nat.reduceSub, reduceCtorEq, Nat.reduceMul, Nat.reduceEqDiff, Nat.reduceLeDiff, reduceIte, Nat.reduceLT, Int.reduceLE, Int.reduceLT, Int.reduceToNat]
  · simp only [push_cast, ↓ifB_true, ↓ifB_false, Nat.reduceBEq, Nat.reduceAdd, Nat.reduceSub, reduceCtorEq, Nat.reduceMul, Nat.reduceEqDiff, Nat.reduceLeDiff, reduceIte, Nat.reduceLT, Int.reduceLE, Int.reduceLT, Int.reduceToNat]
    refine ⟨_, tIdx hC _ _ (by omega), ?_⟩
    cases g2 : inR 0 (m.h - 1) r
    · simp only [push_cast, ↓ifB_true, ↓ifB_false, Nat.reduceBEq, Nat.reduceAdd, Nat.reduceSub, reduceCtorEq, Nat.reduceMul, Nat.reduceEqDiff, Nat.reduceLeDiff, reduceIte, Nat.reduceLT, Int.reduceLE, Int.reduceLT, Int.reduceToNat]
    · simp only [inR, Bool.and_eq_true, decide_eq_true_eq] at g1 g2
      have hm : 0 ≤ r * m.w ∧ r * m.w ≤ 100 := ⟨Int.mul_nonneg (by omega) (by omega), by
        have := Int.mul_le_mul (show r ≤ 10 by omega) hw.2 (by omega) (by omega); omega⟩
      simp only [push_cast, ↓ifB_true, ↓ifB_false, Nat.reduceBEq, Nat.reduceAdd, Nat.reduceSub, reduceCtorEq, Nat.reduceMul, Nat.reduceEqDiff, Nat.reduceLeDiff, reduceIte, Nat.reduceLT, Int.reduceLE, Int.reduceLT, Int.reduceToNat]
      rw [wrap64 (n := r * m.w) (by omega) (by omega), wrap64 (by omega) (by omega)]
theorem t177 (m : Mp) (i d : Int) (hw : 1 ≤ m.w ∧ m.w ≤ 10) (hh : 1 ≤ m.h ∧ m.h ≤ 10) (hi : 0 ≤ i ∧ i < 300) (hd : 0 ≤ d ∧ d < 6) : Ev C 177 [.agg (mpF m), .int .i64 i, .int .i64 d] (.int .i64 (nextM m i d)) := by
  have hb := hex_bnd hw hi
  have b1 := dq_bnd d.toNat
  have b2 := dr_bnd d.toNat
  have c1 := t189 hC m i hw hh hi
  have c2 := t188 hC (i.tmod m.w) (i.tdiv m.w) d (by omega) (by omega) hd
  have c3 := t187 hC m (i.tmod m.w + dq d.toNat) (i.tdiv m.w + dr d.toNat) hw hh (by omega) (by omega)
  simp only [mpF] at *
  refine Ev.runT hC Tryd.func177 h177 nt177 r177 (by decide) (Nat.le_of_ble_eq_true rfl) (rfl) ?_
  simp only [c177, push_cast, ↓ifB_true, ↓ifB_false, Nat.reduceBEq, Nat.reduceAdd, Nat.reduceSub, reduceCtorEq, Nat.reduceMul, Nat.reduceEqDiff, Nat.reduceLeDiff, reduceIte, Nat.reduceLT, Int.reduceLE, Int.reduceLT, Int.reduceToNat]
  refine ⟨_, c1, ?_⟩
  simp only [push_cast, ↓ifB_true, ↓ifB_false, Nat.reduceBEq, Nat.reduceAdd, Nat.reduceSub, reduceCtorEq, Nat.reduceMul, Nat.reduceEqDiff, Nat.reduceLeDiff, reduceIte, Nat.reduceLT, Int.reduceLE, Int.reduceLT, Int.reduceToNat]
  refine ⟨_, c2, ?_⟩
  simp only [push_cast, ↓ifB_true, ↓ifB_false, Nat.reduceBEq, Nat.reduceAdd, Nat.reduceSub, reduceCtorEq, Nat.reduceMul, Nat.reduceEqDiff, Nat.reduceLeDiff, reduceIte, Nat.reduceLT, Int.reduceLE, Int.reduceLT, Int.reduceToNat]
  refine ⟨_, c3, ?_⟩
  simp only [push_cast, ↓ifB_true, ↓ifB_false, Nat.reduceBEq, Nat.reduceAdd, Nat.reduceSub, reduceCtorEq, Nat.reduceMul, Nat.reduceEqDiff, Nat.reduceLeDiff, reduceIte, Nat.reduceLT, Int.reduceLE, Int.reduceLT, Int.reduceToNat]
  rfl
theorem t156 (m : Mp) (e : Int) (hw : 1 ≤ m.w ∧ m.w ≤ 10) (hh : 1 ≤ m.h ∧ m.h ≤ 10) : Ev C 156 [.agg (mpF m), .int .i64 e] (.bool (edgeOk m e)) := by
  have hwh := wh_le hw hh
  have c2 := fun i d hi hd => t177 hC m i d hw hh hi hd
  simp only [mpF] at *
  refine Ev.runT hC Tryd.func156 h156 nt156 r156 (by decide) (Nat.le_of_ble_eq_true rfl) (rfl) ?_
  simp only [c156, push_cast, ↓ifB_true, ↓ifB_false, Nat.reduceBEq, Nat.reduceAdd, Nat.reduceSub, reduceCtorEq, Nat.reduceMul, Nat.reduceEqDiff, Nat.reduceLeDiff, reduceIte, Nat.reduceLT, Int.reduceLE, Int.reduceLT, Int.reduceToNat]
  rw [wrap64 (n := 3 * m.w) (by omega) (by omega), Int.mul_assoc, wrap64 (n := 3 * (m.w * m.h)) (by omega) (by omega), wrap64 (n := 3 * (m.w * m.h) - 1) (by omega) (by omega)]
  refine ⟨_, tRange hC _ _ _, ?_⟩
  simp only [edgeOk]
  cases g1 : inR 0 (3 * (m.w * m.h) - 1) e
  · simp only [push_cast, ↓ifB_true, ↓ifB_false, Nat.reduceBEq, Nat.reduceAdd, Nat.reduceSub, reduceCtorEq, Nat.reduceMul, Nat.reduceEqDiff, Nat.reduceLeDiff, reduceIte, Nat.reduceLT, Int.reduceLE, Int.reduceLT, Int.reduceToNat]
  · have he := g1
    simp only [inR, Bool.and_eq_true, decide_eq_true_eq] at he
    have hb := e3_bnd (e := e) (by omega)
    simp only [wrap64 (n := e.tdiv 3) (by omega) (by omega), push_cast, ↓ifB_true, ↓ifB_false, Nat.reduceBEq, Nat.reduceAdd, Nat.reduceSub, reduceCtorEq, Nat.reduceMul, Nat.reduceEqDiff, Nat.reduceLeDiff, reduceIte, Nat.reduceLT, Int.reduceLE, Int.reduceLT, Int.reduceToNat]
    repeat (refine ⟨by omega, ?_⟩)
    refine ⟨_, c2 _ _ hb.1 hb.2, ?_⟩
    simp only [push_cast, ↓ifB_true, ↓ifB_false, Nat.reduceBEq, Nat.reduceAdd, Nat.reduceSub, reduceCtorEq, Nat.reduceMul, Nat.reduceEqDiff, Nat.reduceLeDiff, reduceIte, Nat.reduceLT, Int.reduceLE, Int.reduceLT, Int.reduceToNat]
    rw [Bool.eq_iff_iff]; simp
omit hC in
theorem edges_eq (m : Mp) (l : List Int) : (upto (l.length - 1) (incP l) && l.all (edgeOk m)) = edgesOk m l := by
  have hin : l.all (edgeOk m) = true → ∀ x ∈ l, inR 0 (3 * (m.w * m.h) - 1) x = true := fun h x hx => by
    have := List.all_eq_true.1 h x hx
    simp only [edgeOk, Bool.and_eq_true] at this
    exact this.1
  rw [edgesOk, Bool.eq_iff_iff, Bool.and_eq_true, Bool.and_eq_true, upto_iff, upto_iff]
  constructor
  · rintro ⟨h1, h2⟩
    refine ⟨h2, fun j hj => ?_⟩
    have hm : l.getD j 0 ∈ l := by simp only [List.getD, List.getElem?_eq_getElem hj]; exact List.getElem_mem hj
    simp only [risP, hin h2 _ hm, Bool.true_and, Bool.or_eq_true, decide_eq_true_eq]
    by_cases h0 : j = 0
    · exact .inl h0
    · right
      have := h1 (j - 1) (by omega)
      simp only [incP, decide_eq_true_eq] at this
      rwa [show j - 1 + 1 = j by omega] at this
  · rintro ⟨h2, h⟩
    refine ⟨fun j hj => ?_, h2⟩
    have := h (j + 1) (by omega)
    simp only [risP, Bool.and_eq_true, Bool.or_eq_true, decide_eq_true_eq] at this
    simp only [incP, decide_eq_true_eq]
    have := this.2
    simp only [Nat.add_sub_cancel] at this
    omega
def rows2 (m : Mp) : List (List AV) := [[.sl (ints m.ri)], [.sl (ints m.ro)]]
def two (m : Mp) (i : Nat) : List Int := if i = 0 then m.ri else m.ro
omit hC in
theorem rows2_get {m : Mp} {i : Nat} (h : i < 2) : (rows2 m)[i]? = some [.sl (ints (two m i))] := by
  have : i = 0 ∨ i = 1 := by omega
  rcases this with rfl | rfl <;> rfl
omit hC in
theorem two_len {m : Mp} (hb : MpB (2^50) m) (i : Nat) : (two m i).length < 2^50 := by
  unfold two; split
  · exact hb.ri
  · exact hb.ro
omit hC in
theorem two_no {m : Mp} {i : Nat} (h : i < 2) (hf : edgesOk m (two m i) = false) : (edgesOk m m.ri && edgesOk m m.ro) = false := by
  have : i = 0 ∨ i = 1 := by omega
  rcases this with rfl | rfl
  · rw [show edgesOk m m.ri = false from hf]; rfl
  · rw [show edgesOk m m.ro = false from hf, Bool.and_false]
theorem t115 (m : Mp) (hb : MpB (2^50) m) : Ev C 115 [.agg (mpF m)] (.bool (mpOk m)) := by
  have b1 := hb.t
  have c1 := fun e hw hh => t156 hC m e hw hh
  simp only [mpF] at *
  refine Ev.runT hC Tryd.func115 h115 nt115 r115 (by decide) (Nat.le_of_ble_eq_true rfl) (rfl) ?_
  simp only [c115, ints_length, push_cast, ↓ifB_true, ↓ifB_false, Nat.reduceBEq, Nat.reduceAdd, Nat.reduceSub, reduceCtorEq, Nat.reduceMul, Nat.reduceEqDiff, Nat.reduceLeDiff, reduceIte, Nat.reduceLT, Int.reduceLE, Int.reduceLT, Int.reduceToNat]
  refine ⟨_, tRange hC _ _ _, ?_⟩
  cases g1 : inR 1 10 m.w
  · simp only [mpOk, g1, push_cast, ↓ifB_true, ↓ifB_false, Nat.reduceBEq, Nat.reduceAdd, Nat.reduceSub, reduceCtorEq, Nat.reduceMul, Nat.reduceEqDiff, Nat.reduceLeDiff, reduceIte, Nat.reduceLT, Int.reduceLE, Int.reduceLT, Int.reduceToNat]
  simp only [push_cast, ↓ifB_true, ↓ifB_false, Nat.reduceBEq, Nat.reduceAdd, Nat.reduceSub, reduceCtorEq, Nat.reduceMul, Nat.reduceEqDiff, Nat.reduceLeDiff, reduceIte, Nat.reduceLT, Int.reduceLE, Int.reduceLT, Int.reduceToNat]
  refine ⟨_, tRange hC _ _ _, ?_⟩
  cases g2 : inR 1 10 m.h
  · simp only [mpOk, g1, g2, push_cast, ↓ifB_true, ↓ifB_false, Nat.reduceBEq, Nat.reduceAdd, Nat.reduceSub, reduceCtorEq, Nat.reduceMul, Nat.reduceEqDiff, Nat.reduceLeDiff, reduceIte, Nat.reduceLT, Int.reduceLE, Int.reduceLT, Int.reduceToNat]
  have hw := g1
  have hh := g2
  simp only [inR, Bool.and_eq_true, decide_eq_true_eq] at hw hh
  have hwh := wh_le hw hh
  simp only [ints_length, push_cast, ↓ifB_true, ↓ifB_false, Nat.reduceBEq, Nat.reduceAdd, Nat.reduceSub, reduceCtorEq, Nat.reduceMul, Nat.reduceEqDiff, Nat.reduceLeDiff, reduceIte, Nat.reduceLT, Int.reduceLE, Int.reduceLT, Int.reduceToNat]
  rw [wrap64 (n := m.w * m.h) (by omega) (by omega)]
  cases g3 : decide ((m.t.length : Int) = m.w * m.h)
  · simp only [mpOk, g1, g2, g3, push_cast, ↓ifB_true, ↓ifB_false, Nat.reduceBEq, Nat.reduceAdd, Nat.reduceSub, reduceCtorEq, Nat.reduceMul, Nat.reduceEqDiff, Nat.reduceLeDiff, reduceIte, Nat.reduceLT, Int.reduceLE, Int.reduceLT, Int.reduceToNat]
  simp only [ints_length, push_cast, ↓ifB_true, ↓ifB_false, Nat.reduceBEq, Nat.reduceAdd, Nat.reduceSub, reduceCtorEq, Nat.reduceMul, Nat.reduceEqDiff, Nat.reduceLeDiff, reduceIte, Nat.reduceLT, Int.reduceLE, Int.reduceLT, Int.reduceToNat]
  refine RL_count (fun i => ⟨tb 66 .any [(1, .ptr 0 none 0 0 0), (31, .sl (ints m.t)), (32, .int .i64 (m.t.length : Int)), (33, .int .i64 (i : Int))], [(0, .var (mpF m))], 1⟩) (fun i => m.t.all (inR 0 5) = (m.t.drop i).all (inR 0 5)) m.t.length 0 (head_tb [(0, 0)] rfl (by simp only [keptV_cons, keptV_nil, tb_get, lk_same, lk_ne, lk_nil, ren, renL, lkp, Nat.reduceLT, Nat.reduceBEq, Nat.reduceEqDiff, reduceIte, and_true, true_and, Nat.not_lt_zero, if_false, if_true, Nat.add_zero, Nat.zero_add]; (try rw [wrap64 (by omega) (by omega)]); (first | done | (simp; done) | (simp [*]; done) | (simp; omega) | (and_intros <;> rfl))) (by simp only [canR, canB, renO, renL, ren, lkp, hget, Nat.reduceLT, Nat.reduceEqDiff, Nat.not_lt_zero, if_false, if_true, reduceIte, List.append_nil, List.nil_append]; (first | done | rfl))) (by omega) rfl fun i hi' ht J hJ => ?_
  simp only [mpF]
  by_cases h1 : i < m.t.length
  · have e1 : (ints m.t)[i]? = some [.int .i64 m.t[i]] := by simp [ints, h1]
    rw [List.drop_eq_getElem_cons h1, List.all_cons] at ht
    simp only [Int.toNat_natCast, e1, push_cast, ↓ifB_true, ↓ifB_false, Nat.reduceBEq, Nat.reduceAdd, Nat.reduceSub, reduceCtorEq, Nat.reduceMul, Nat.reduceEqDiff, Nat.reduceLeDiff, reduceIte, Nat.reduceLT, Int.reduceLE, Int.reduceLT, Int.reduceToNat]
    refine ifB_intro (fun _ => ?_) (fun h => by simp at h; omega)
    repeat (refine ⟨by omega, ?_⟩)
    refine ⟨_, tIdx hC _ 6 (by omega), ?_⟩
    cases g4 : inR 0 (6 - 1) m.t[i]
    · have : m.t.all (inR 0 5) = false := by rw [ht, show inR 0 5 m.t[i] = false from g4]; rfl
      simp only [mpOk, this, push_cast, ↓ifB_true, ↓ifB_false, Nat.reduceBEq, Nat.reduceAdd, Nat.reduceSub, reduceCtorEq, Nat.reduceMul, Nat.reduceEqDiff, Nat.reduceLeDiff, reduceIte, Nat.reduceLT, Int.reduceLE, Int.reduceLT, Int.reduceToNat]
    · simp only [push_cast, ↓ifB_true, ↓ifB_false, Nat.reduceBEq, Nat.reduceAdd, Nat.reduceSub, reduceCtorEq, Nat.reduceMul, Nat.reduceEqDiff, Nat.reduceLeDiff, reduceIte, Nat.reduceLT, Int.reduceLE, Int.reduceLT, Int.reduceToNat]
      refine hJ h1 ?_ _ (head_tb [(0, 0)] rfl (by simp only [keptV_cons, keptV_nil, tb_get, lk_same, lk_ne, lk_nil, ren, renL, lkp, Nat.reduceLT, Nat.reduceBEq, Nat.reduceEqDiff, reduceIte, and_true, true_and, Nat.not_lt_zero, if_false, if_true, Nat.add_zero, Nat.zero_add]; (try rw [wrap64 (by omega) (by omega)]); (first | done | (simp; done) | (simp [*]; done) | (simp; omega) | (and_intros <;> rfl))) (by simp only [canR, canB, renO, renL, ren, lkp, hget, Nat.reduceLT, Nat.reduceEqDiff, Nat.not_lt_zero, if_false, if_true, reduceIte, List.append_nil, List.nil_append]; (first | done | rfl)))
      rw [ht, show inR 0 5 m.t[i] = true from g4, Bool.true_and]
  · simp only [ints_length, push_cast, ↓ifB_true, ↓ifB_false, Nat.reduceBEq, Nat.reduceAdd, Nat.reduceSub, reduceCtorEq, Nat.reduceMul, Nat.reduceEqDiff, Nat.reduceLeDiff, reduceIte, Nat.reduceLT, Int.reduceLE, Int.reduceLT, Int.reduceToNat]
    refine ifB_intro (fun h => by simp at h; omega) (fun h => ?_)
    rw [List.drop_eq_nil_of_le (by omega)] at ht
    clear hJ
    have g4 : m.t.all (inR 0 5) = true := ht
    rw [show mpOk m = (edgesOk m m.ri && edgesOk m m.ro) by simp only [mpOk, g1, g2, g3, g4, Bool.true_and]]
    refine RL_count (fun i => ⟨tb 66 .any [(1, .ptr 0 none 0 0 0), (45, .ref 1 none 1 0 2), (46, .int .i64 2), (47, .int .i64 (i : Int))], [(1, .slice 1 (rows2 m)), (0, .var (mpF m))], 2⟩) (fun i => ∀ j, j < i → edgesOk m (two m j) = true) 2 0 (head_tb [(1, 1), (0, 0)] rfl (by simp only [keptV_cons, keptV_nil, tb_get, lk_same, lk_ne, lk_nil, ren, renL, lkp, Nat.reduceLT, Nat.reduceBEq, Nat.reduceEqDiff, reduceIte, and_true, true_and, Nat.not_lt_zero, if_false, if_true, Nat.add_zero, Nat.zero_add]; (try rw [wrap64 (by omega) (by omega)]); (first | done | (simp; done) | (simp [*]; done) | (simp; omega) | (and_intros <;> rfl))) (by simp only [canR, canB, renO, renL, ren, lkp, hget, Nat.reduceLT, Nat.reduceEqDiff, Nat.not_lt_zero, if_false, if_true, reduceIte, List.append_nil, List.nil_append]; (first | done | rfl))) (by omega) (by omega) fun i hi' ht J hJ => ?_
    simp only [mpF]
    by_cases h1 : i < 2
    · have e1 := rows2_get h1 (m := m)
      have hl := two_len hb i
      have hno := two_no h1 (m := m)
      generalize hL : two m i = l at *
      simp only [Int.toNat_natCast, e1, push_cast, ↓ifB_true, ↓ifB_false, Nat.reduceBEq, Nat.reduceAdd, Nat.reduceSub, reduceCtorEq, Nat.reduceMul, Nat.reduceEqDiff, Nat.reduceLeDiff, reduceIte, Nat.reduceLT, Int.reduceLE, Int.reduceLT, Int.reduceToNat]
      refine ifB_intro (fun _ => ?_) (fun h => by simp at h; omega)
      repeat (refine ⟨by omega, ?_⟩)
      refine ⟨_, t135 hC l hl, ?_⟩
      cases g5 : upto (l.length - 1) (incP l)
      · have hf : edgesOk m l = false := by rw [← edges_eq, g5]; rfl
        simp only [hno hf, push_cast, ↓ifB_true, ↓ifB_false, Nat.reduceBEq, Nat.reduceAdd, Nat.reduceSub, reduceCtorEq, Nat.reduceMul, Nat.reduceEqDiff, Nat.reduceLeDiff, reduceIte, Nat.reduceLT, Int.reduceLE, Int.reduceLT, Int.reduceToNat]
      simp only [ints_length, push_cast, ↓ifB_true, ↓ifB_false, Nat.reduceBEq, Nat.reduceAdd, Nat.reduceSub, reduceCtorEq, Nat.reduceMul, Nat.reduceEqDiff, Nat.reduceLeDiff, reduceIte, Nat.reduceLT, Int.reduceLE, Int.reduceLT, Int.reduceToNat]
      have eqe := edges_eq m l
      rw [g5, Bool.true_and] at eqe
      refine RL_count (fun k => ⟨tb 66 .any [(1, .ptr 0 none 0 0 0), (45, .ref 1 none 1 0 2), (46, .int .i64 2), (47, .int .i64 (i : Int)), (54, .sl (ints l)), (55, .int .i64 (l.length : Int)), (56, .int .i64 (k : Int))], [(1, .slice 1 (rows2 m)), (0, .var (mpF m))], 2⟩) (fun k => l.all (edgeOk m) = (l.drop k).all (edgeOk m)) l.length 0 (head_tb [(1, 1), (0, 0)] rfl (by simp only [keptV_cons, keptV_nil, tb_get, lk_same, lk_ne, lk_nil, ren, renL, lkp, Nat.reduceLT, Nat.reduceBEq, Nat.reduceEqDiff, reduceIte, and_true, true_and, Nat.not_lt_zero, if_false, if_true, Nat.add_zero, Nat.zero_add]; (try rw [wrap64 (by omega) (by omega)]); (first | done | (simp; done) | (simp [*]; done) | (simp; omega) | (and_intros <;> rfl))) (by simp only [canR, canB, renO, renL, ren, lkp, hget, Nat.reduceLT, Nat.reduceEqDiff, Nat.not_lt_zero, if_false, if_true, reduceIte, List.append_nil, List.nil_append]; (first | done | rfl))) (by omega) rfl fun k hk' hk J' hJ' => ?_
      simp only [mpF]
      by_cases h2 : k < l.length
      · have e2 : (ints l)[k]? = some [.int .i64 l[k]] := by simp [ints, h2]
        rw [List.drop_eq_getElem_cons h2, List.all_cons] at hk
        simp only [Int.toNat_natCast, e2, push_cast, ↓ifB_true, ↓ifB_false, Nat.reduceBEq, Nat.reduceAdd, Nat.reduceSub, reduceCtorEq, Nat.reduceMul, Nat.reduceEqDiff, Nat.reduceLeDiff, reduceIte, Nat.reduceLT, Int.reduceLE, Int.reduceLT, Int.reduceToNat]
        refine ifB_intro (fun _ => ?_) (fun h => by simp at h; omega)
        repeat (refine ⟨by omega, ?_⟩)
        refine ⟨_, c1 l[k] hw hh, ?_⟩
        cases g6 : edgeOk m l[k]
        · have hf : edgesOk m l = false := by rw [← eqe, hk, g6]; rfl
          simp only [hno hf, push_cast, ↓ifB_true, ↓ifB_false, Nat.reduceBEq, Nat.reduceAdd, Nat.reduceSub, reduceCtorEq, Nat.reduceMul, Nat.reduceEqDiff, Nat.reduceLeDiff, reduceIte, Nat.reduceLT, Int.reduceLE, Int.reduceLT, Int.reduceToNat]
        · simp only [push_cast, ↓ifB_true, ↓ifB_false, Nat.reduceBEq, Nat.reduceAdd, Nat.reduceSub, reduceCtorEq, Nat.reduceMul, Nat.reduceEqDiff, Nat.reduceLeDiff, reduceIte, Nat.reduceLT, Int.reduceLE, Int.reduceLT, Int.reduceToNat]
          refine hJ' h2 ?_ _ (head_tb [(1, 1), (0, 0)] rfl (by simp only [keptV_cons, keptV_nil, tb_get, lk_same, lk_ne, lk_nil, ren, renL, lkp, Nat.reduceLT, Nat.reduceBEq, Nat.reduceEqDiff, reduceIte, and_true, true_and, Nat.not_lt_zero, if_false, if_true, Nat.add_zero, Nat.zero_add]; (try rw [wrap64 (by omega) (by omega)]); (first | done | (simp; done) | (simp [*]; done) | (simp; omega) | (and_intros <;> rfl))) (by simp only [canR, canB, renO, renL, ren, lkp, hget, Nat.reduceLT, Nat.reduceEqDiff, Nat.not_lt_zero, if_false, if_true, reduceIte, List.append_nil, List.nil_append]; (first | done | rfl)))
          rw [hk, g6, Bool.true_and]
      · simp only [ints_length, push_cast, ↓ifB_true, ↓ifB_false, Nat.reduceBEq, Nat.reduceAdd, Nat.reduceSub, reduceCtorEq, Nat.reduceMul, Nat.reduceEqDiff, Nat.reduceLeDiff, reduceIte, Nat.reduceLT, Int.reduceLE, Int.reduceLT, Int.reduceToNat]
        refine ifB_intro (fun h => by simp at h; omega) (fun h => ?_)
        rw [List.drop_eq_nil_of_le (by omega)] at hk
        have hf : edgesOk m l = true := by rw [← eqe, hk]; rfl
        refine hJ h1 (fun j hj => ?_) _ (head_tb [(1, 1), (0, 0)] rfl (by simp only [keptV_cons, keptV_nil, tb_get, lk_same, lk_ne, lk_nil, ren, renL, lkp, Nat.reduceLT, Nat.reduceBEq, Nat.reduceEqDiff, reduceIte, and_true, true_and, Nat.not_lt_zero, if_false, if_true, Nat.add_zero, Nat.zero_add]; (try rw [wrap64 (by omega) (by omega)]); (first | done | (simp; done) | (simp [*]; done) | (simp; omega) | (and_intros <;> rfl))) (by simp only [canR, canB, renO, renL, ren, lkp, hget, Nat.reduceLT, Nat.reduceEqDiff, Nat.not_lt_zero, if_false, if_true, reduceIte, List.append_nil, List.nil_append]; (first | done | rfl)))
        by_cases hij : j = i
        · subst hij; rw [hL]; exact hf
        · exact ht j (by omega)
    · simp only [push_cast, ↓ifB_true, ↓ifB_false, Nat.reduceBEq, Nat.reduceAdd, Nat.reduceSub, reduceCtorEq, Nat.reduceMul, Nat.reduceEqDiff, Nat.reduceLeDiff, reduceIte, Nat.reduceLT, Int.reduceLE, Int.reduceLT, Int.reduceToNat]
      refine ifB_intro (fun h => by simp at h; omega) (fun h => ?_)
      have a1 : edgesOk m m.ri = true := ht 0 (by omega)
      have a2 : edgesOk m m.ro = true := ht 1 (by omega)
      rw [a1, a2]; rfl
theorem t117 (x : Int) (b : Brd) : Ev C 117 [.int .i64 x, .pf (rulF b.r ++ mpF b.m)] (.bool (decide ((b.r.ts.length : Int) ≤ x))) := by
  simp only [rulF, mpF, List.cons_append, List.nil_append]
  refine Ev.runT hC Tryd.func117 h117 nt117 r117 (by decide) (Nat.le_of_ble_eq_true rfl) (rfl) ?_
  simp only [c117, tersF_length, push_cast, ↓ifB_true, ↓ifB_false, Nat.reduceBEq, Nat.reduceAdd, Nat.reduceSub, reduceCtorEq, Nat.reduceMul, Nat.reduceEqDiff, Nat.reduceLeDiff, reduceIte, Nat.reduceLT, Int.reduceLE, Int.reduceLT, Int.reduceToNat]
omit hC in
theorem brd_eq {b : Brd} (h : mpOk b.m = true) : (!b.m.t.any fun x => decide ((b.r.ts.length : Int) ≤ x)) = b.m.t.all (inR 0 (b.r.ts.length - 1)) := by
  have h5 : b.m.t.all (inR 0 5) = true := by
    simp only [mpOk, Bool.and_eq_true] at h; exact h.1.1.2
  rw [List.all_eq_true] at h5
  rw [Bool.eq_iff_iff]
  simp only [Bool.not_eq_true', List.any_eq_false, List.all_eq_true, decide_eq_true_eq]
  constructor
  · intro h1 x hx
    have := h1 x hx; have h6 := h5 x hx
    simp only [inR, Bool.and_eq_true, decide_eq_true_eq] at h6 ⊢; omega
  · intro h1 x hx
    have := h1 x hx
    simp only [inR, Bool.and_eq_true, decide_eq_true_eq] at this; omega
theorem t69 (b : Brd) (hb : BrdB (2^50) b) : Ev C 69 [brdF b] (.bool (brdOk b)) := by
  have c1 := t114 hC b.r hb.r
  have c2 := t115 hC b.m hb.m
  have c3 := t116 hC b.m.t 117 [.pf (rulF b.r ++ mpF b.m)] _ hb.m.t rfl rfl fun x _ => t117 hC x b
  simp only [brdF, rulF, mpF, brdOk, List.cons_append, List.nil_append] at *
  refine Ev.runT hC Tryd.func69 h69 nt69 r69 (by decide) (Nat.le_of_ble_eq_true rfl) (rfl) ?_
  simp only [c69, push_cast, ↓ifB_true, ↓ifB_false, Nat.reduceBEq, Nat.reduceAdd, Nat.reduceSub, reduceCtorEq, Nat.reduceMul, Nat.reduceEqDiff, Nat.reduceLeDiff, reduceIte, Nat.reduceLT, Int.reduceLE, Int.reduceLT, Int.reduceToNat]
  refine ⟨_, c1, ?_⟩
  cases g1 : rulOk b.r
  · simp only [push_cast, ↓ifB_true, ↓ifB_false, Nat.reduceBEq, Nat.reduceAdd, Nat.reduceSub, reduceCtorEq, Nat.reduceMul, Nat.reduceEqDiff, Nat.reduceLeDiff, reduceIte, Nat.reduceLT, Int.reduceLE, Int.reduceLT, Int.reduceToNat]
  simp only [push_cast, ↓ifB_true, ↓ifB_false, Nat.reduceBEq, Nat.reduceAdd, Nat.reduceSub, reduceCtorEq, Nat.reduceMul, Nat.reduceEqDiff, Nat.reduceLeDiff, reduceIte, Nat.reduceLT, Int.reduceLE, Int.reduceLT, Int.reduceToNat]
  refine ⟨_, c2, ?_⟩
  cases g2 : mpOk b.m
  · simp only [push_cast, ↓ifB_true, ↓ifB_false, Nat.reduceBEq, Nat.reduceAdd, Nat.reduceSub, reduceCtorEq, Nat.reduceMul, Nat.reduceEqDiff, Nat.reduceLeDiff, reduceIte, Nat.reduceLT, Int.reduceLE, Int.reduceLT, Int.reduceToNat]
  simp only [push_cast, ↓ifB_true, ↓ifB_false, Nat.reduceBEq, Nat.reduceAdd, Nat.reduceSub, reduceCtorEq, Nat.reduceMul, Nat.reduceEqDiff, Nat.reduceLeDiff, reduceIte, Nat.reduceLT, Int.reduceLE, Int.reduceLT, Int.reduceToNat]
  refine ⟨_, c3, ?_⟩
  simp only [push_cast, ↓ifB_true, ↓ifB_false, Nat.reduceBEq, Nat.reduceAdd, Nat.reduceSub, reduceCtorEq, Nat.reduceMul, Nat.reduceEqDiff, Nat.reduceLeDiff, reduceIte, Nat.reduceLT, Int.reduceLE, Int.reduceLT, Int.reduceToNat]
  exact brd_eq g2
end
end Go.Proofs.YtlddjlchgibdfaaDoor.X
