/- A part of the proof: lemmas on the machine or on the functions that the law reaches. No condition of its own. -/
import Derived.Test.YtlddjlchgibdfaaDoorXP3
set_option maxHeartbeats 4000000
set_option maxRecDepth 8000
set_option linter.unusedSimpArgs false
set_option linter.unusedVariables false
open Nat renaming reduceBEq → N1, reduceAdd → N2, reduceSub → N3, reduceMul → N4, reduceEqDiff → N5, reduceLeDiff → N6, reduceLT → N7
open Int renaming reduceLE → I1, reduceLT → I2, reduceToNat → I3
namespace Go.Proofs.YtlddjlchgibdfaaDoor.X
open Go
attribute [local irreducible] Ev
section
variable {C : CT} (hC : Closed Tryd.prog G1 md0 C)
include hC
theorem t189 (m : Mp) (i : Int) (hw : 1 ≤ m.w ∧ m.w ≤ 10) (hh : 1 ≤ m.h ∧ m.h ≤ 10) (hi : 0 ≤ i ∧ i < 300) : Ev C 189 [.agg (mpF m), .int .i64 i] (.agg [.int .i64 (i.tmod m.w), .int .i64 (i.tdiv m.w)]) := by
  have hb := hex_bnd hw hi
  simp only [mpF]
  refine rT hC Q189 ?_
  simp only [c189, push_cast, ↓J1, ↓J2, N1, N2, N3, reduceCtorEq, N4, N5, N6, reduceIte, N7, I1, I2, I3]
  rw [wrap64 (by omega) (by omega)]
  refine ⟨by omega, by omega, ?_⟩
  exact rtA
theorem t188 (q r d : Int) (hq : -1000 ≤ q ∧ q ≤ 1000) (hr : -1000 ≤ r ∧ r ≤ 1000) (hd : 0 ≤ d ∧ d < 6) : Ev C 188 [.agg [.int .i64 q, .int .i64 r], .int .i64 d, .int .i64 1] (.agg [.int .i64 (q + dq d.toNat), .int .i64 (r + dr d.toNat)]) := by
  have b1 := dq_bnd d.toNat
  have b2 := dr_bnd d.toNat
  obtain ⟨k, rfl⟩ : ∃ k : Nat, d = k := ⟨d.toNat, by omega⟩
  have hk : k = 0 ∨ k = 1 ∨ k = 2 ∨ k = 3 ∨ k = 4 ∨ k = 5 := by omega
  simp only [Int.toNat_natCast] at *
  have e1 : List.drop (k * 2) dirs = .int .i64 (dq k) :: .int .i64 (dr k) :: List.drop (k * 2 + 2) dirs := by
    rcases hk with rfl | rfl | rfl | rfl | rfl | rfl <;> rfl
  refine rT hC Q188 ?_
  simp only [c188, push_cast, ↓J1, ↓J2, N1, N2, N3, reduceCtorEq, N4, N5, N6, reduceIte, N7, I1, I2, I3]
  simp only [Int.toNat_natCast, e1, push_cast, ↓J1, ↓J2, N1, N2, N3, reduceCtorEq, N4, N5, N6, reduceIte, N7, I1, I2, I3]
  repeat (refine ⟨by omega, ?_⟩)
  rw [wrap64 (n := 1 * dq k) (by omega) (by omega), wrap64 (n := 1 * dr k) (by omega) (by omega)]
  rw [wrap64 (by omega) (by omega), wrap64 (by omega) (by omega)]
  simp only [Int.one_mul]
  exact rtA
theorem t187 (m : Mp) (q r : Int) (hw : 1 ≤ m.w ∧ m.w ≤ 10) (hh : 1 ≤ m.h ∧ m.h ≤ 10) (hq : -1000 ≤ q ∧ q ≤ 1000) (hr : -1000 ≤ r ∧ r ≤ 1000) : Ev C 187 [.agg (mpF m), .agg [.int .i64 q, .int .i64 r]] (.int .i64 (if inR 0 (m.w - 1) q && inR 0 (m.h - 1) r then r * m.w + q else -1)) := by
  simp only [mpF]
  refine rT hC Q187 ?_
  simp only [c187, push_cast, ↓J1, ↓J2, N1, N2, N3, reduceCtorEq, N4, N5, N6, reduceIte, N7, I1, I2, I3]
  refine ⟨_, tIdx hC _ _ (by omega), ?_⟩
  cases g1 : inR 0 (m.w - 1) q
  · simp only [push_cast, ↓J1, ↓J2, N1, N2, N3, reduceCtorEq, N4, N5, N6, reduceIte, N7, I1, I2, I3]
  · simp only [push_cast, ↓J1, ↓J2, N1, N2, N3, reduceCtorEq, N4, N5, N6, reduceIte, N7, I1, I2, I3]
    refine ⟨_, tIdx hC _ _ (by omega), ?_⟩
    cases g2 : inR 0 (m.h - 1) r
    · simp only [push_cast, ↓J1, ↓J2, N1, N2, N3, reduceCtorEq, N4, N5, N6, reduceIte, N7, I1, I2, I3]
    · simp only [inR, Bool.and_eq_true, decide_eq_true_eq] at g1 g2
      have hm : 0 ≤ r * m.w ∧ r * m.w ≤ 100 := ⟨Int.mul_nonneg (by omega) (by omega), by
        have := Int.mul_le_mul (show r ≤ 10 by omega) hw.2 (by omega) (by omega); omega⟩
      simp only [push_cast, ↓J1, ↓J2, N1, N2, N3, reduceCtorEq, N4, N5, N6, reduceIte, N7, I1, I2, I3]
      rw [wrap64 (n := r * m.w) (by omega) (by omega), wrap64 (by omega) (by omega)]
theorem t177 (m : Mp) (i d : Int) (hw : 1 ≤ m.w ∧ m.w ≤ 10) (hh : 1 ≤ m.h ∧ m.h ≤ 10) (hi : 0 ≤ i ∧ i < 300) (hd : 0 ≤ d ∧ d < 6) : Ev C 177 [.agg (mpF m), .int .i64 i, .int .i64 d] (.int .i64 (nextM m i d)) := by
  have hb := hex_bnd hw hi
  have b1 := dq_bnd d.toNat
  have b2 := dr_bnd d.toNat
  have c1 := t189 hC m i hw hh hi
  have c2 := t188 hC (i.tmod m.w) (i.tdiv m.w) d (by omega) (by omega) hd
  have c3 := t187 hC m (i.tmod m.w + dq d.toNat) (i.tdiv m.w + dr d.toNat) hw hh (by omega) (by omega)
  simp only [mpF] at *
  refine rT hC Q177 ?_
  simp only [c177, push_cast, ↓J1, ↓J2, N1, N2, N3, reduceCtorEq, N4, N5, N6, reduceIte, N7, I1, I2, I3]
  refine ⟨_, c1, ?_⟩
  simp only [push_cast, ↓J1, ↓J2, N1, N2, N3, reduceCtorEq, N4, N5, N6, reduceIte, N7, I1, I2, I3]
  refine ⟨_, c2, ?_⟩
  simp only [push_cast, ↓J1, ↓J2, N1, N2, N3, reduceCtorEq, N4, N5, N6, reduceIte, N7, I1, I2, I3]
  refine ⟨_, c3, ?_⟩
  simp only [push_cast, ↓J1, ↓J2, N1, N2, N3, reduceCtorEq, N4, N5, N6, reduceIte, N7, I1, I2, I3]
  rfl
theorem t156 (m : Mp) (e : Int) (hw : 1 ≤ m.w ∧ m.w ≤ 10) (hh : 1 ≤ m.h ∧ m.h ≤ 10) : Ev C 156 [.agg (mpF m), .int .i64 e] (.bool (edgeOk m e)) := by
  have hwh := wh_le hw hh
  have c2 := fun i d hi hd => t177 hC m i d hw hh hi hd
  simp only [mpF] at *
  refine rT hC Q156 ?_
  simp only [c156, push_cast, ↓J1, ↓J2, N1, N2, N3, reduceCtorEq, N4, N5, N6, reduceIte, N7, I1, I2, I3]
  rw [wrap64 (n := 3 * m.w) (by omega) (by omega), Int.mul_assoc, wrap64 (n := 3 * (m.w * m.h)) (by omega) (by omega), wrap64 (n := 3 * (m.w * m.h) - 1) (by omega) (by omega)]
  refine ⟨_, tRange hC _ _ _, ?_⟩
  simp only [edgeOk]
  cases g1 : inR 0 (3 * (m.w * m.h) - 1) e
  · simp only [push_cast, ↓J1, ↓J2, N1, N2, N3, reduceCtorEq, N4, N5, N6, reduceIte, N7, I1, I2, I3]
  · have he := g1
    simp only [inR, Bool.and_eq_true, decide_eq_true_eq] at he
    have hb := e3_bnd (e := e) (by omega)
    simp only [wrap64 (n := e.tdiv 3) (by omega) (by omega), push_cast, ↓J1, ↓J2, N1, N2, N3, reduceCtorEq, N4, N5, N6, reduceIte, N7, I1, I2, I3]
    repeat (refine ⟨by omega, ?_⟩)
    refine ⟨_, c2 _ _ hb.1 hb.2, ?_⟩
    simp only [push_cast, ↓J1, ↓J2, N1, N2, N3, reduceCtorEq, N4, N5, N6, reduceIte, N7, I1, I2, I3]
    rw [Bool.eq_iff_iff]; simp
omit hC in
theorem edges_eq (m : Mp) (l : List Int) : (upto (l.length - 1) (incP l) && l.all (edgeOk m)) = edgesOk m l := by
  have hin : l.all (edgeOk m) = true → ∀ x ∈ l, inR 0 (3 * (m.w * m.h) - 1) x = true := fun h x hx => by
    have := List.all_eq_true.1 h x hx
    simp only [edgeOk, Bool.and_eq_true] at this
    exact this.1
  rw [edgesOk, Bool.eq_iff_iff, Bool.and_eq_true, Bool.and_eq_true, upto_iff, upto_iff]
  constructor
  · rintro ⟨h1, h2⟩
    refine ⟨h2, fun j hj => ?_⟩
    have hm : l.getD j 0 ∈ l := by simp only [List.getD, List.getElem?_eq_getElem hj]; exact List.getElem_mem hj
    simp only [risP, hin h2 _ hm, Bool.true_and, Bool.or_eq_true, decide_eq_true_eq]
    by_cases h0 : j = 0
    · exact .inl h0
    · right
      have := h1 (j - 1) (by omega)
      simp only [incP, decide_eq_true_eq] at this
      rwa [show j - 1 + 1 = j by omega] at this
  · rintro ⟨h2, h⟩
    refine ⟨fun j hj => ?_, h2⟩
    have := h (j + 1) (by omega)
    simp only [risP, Bool.and_eq_true, Bool.or_eq_true, decide_eq_true_eq] at this
    simp only [incP, decide_eq_true_eq]
    have := this.2
    simp only [Nat.add_sub_cancel] at this
    omega
def rows2 (m : Mp) : List (List AV) := [[.sl (ints m.ri)], [.sl (ints m.ro)]]
def two (m : Mp) (i : Nat) : List Int := if i = 0 then m.ri else m.ro
omit hC in
theorem rows2_get {m : Mp} {i : Nat} (h : i < 2) : (rows2 m)[i]? = some [.sl (ints (two m i))] := by
  have : i = 0 ∨ i = 1 := by omega
  rcases this with rfl | rfl <;> rfl
omit hC in
theorem two_len {m : Mp} (hb : MpB (2^50) m) (i : Nat) : (two m i).length < 2^50 := by
  unfold two; split
  · exact hb.ri
  · exact hb.ro
omit hC in
theorem two_no {m : Mp} {i : Nat} (h : i < 2) (hf : edgesOk m (two m i) = false) : (edgesOk m m.ri && edgesOk m m.ro) = false := by
  have : i = 0 ∨ i = 1 := by omega
  rcases this with rfl | rfl
  · rw [show edgesOk m m.ri = false from hf]; rfl
  · rw [show edgesOk m m.ro = false from hf, Bool.and_false]
theorem t115 (m : Mp) (hb : MpB (2^50) m) : Ev C 115 [.agg (mpF m)] (.bool (mpOk m)) := by
  have b1 := hb.t
  have c1 := fun e hw hh => t156 hC m e hw hh
  simp only [mpF] at *
  refine rT hC Q115 ?_
  simp only [c115, ints_length, push_cast, ↓J1, ↓J2, N1, N2, N3, reduceCtorEq, N4, N5, N6, reduceIte, N7, I1, I2, I3]
  refine ⟨_, tRange hC _ _ _, ?_⟩
  cases g1 : inR 1 10 m.w
  · simp only [mpOk, g1, push_cast, ↓J1, ↓J2, N1, N2, N3, reduceCtorEq, N4, N5, N6, reduceIte, N7, I1, I2, I3]
  simp only [push_cast, ↓J1, ↓J2, N1, N2, N3, reduceCtorEq, N4, N5, N6, reduceIte, N7, I1, I2, I3]
  refine ⟨_, tRange hC _ _ _, ?_⟩
  cases g2 : inR 1 10 m.h
  · simp only [mpOk, g1, g2, push_cast, ↓J1, ↓J2, N1, N2, N3, reduceCtorEq, N4, N5, N6, reduceIte, N7, I1, I2, I3]
  have hw := g1
  have hh := g2
  simp only [inR, Bool.and_eq_true, decide_eq_true_eq] at hw hh
  have hwh := wh_le hw hh
  simp only [ints_length, push_cast, ↓J1, ↓J2, N1, N2, N3, reduceCtorEq, N4, N5, N6, reduceIte, N7, I1, I2, I3]
  rw [wrap64 (n := m.w * m.h) (by omega) (by omega)]
  cases g3 : decide ((m.t.length : Int) = m.w * m.h)
  · simp only [mpOk, g1, g2, g3, push_cast, ↓J1, ↓J2, N1, N2, N3, reduceCtorEq, N4, N5, N6, reduceIte, N7, I1, I2, I3]
  simp only [ints_length, push_cast, ↓J1, ↓J2, N1, N2, N3, reduceCtorEq, N4, N5, N6, reduceIte, N7, I1, I2, I3]
  refine RL_count (fun i => ⟨tb 66 .any [(1, .ptr 0 none 0 0 0), (31, .sl (ints m.t)), (32, .int .i64 (m.t.length : Int)), (33, .int .i64 (i : Int))], [(0, .var (mpF m))], 1⟩) (fun i => m.t.all (inR 0 5) = (m.t.drop i).all (inR 0 5)) m.t.length 0 (hdA [(0, 0)]) (by omega) rfl fun i hi' ht J hJ => ?_
  simp only [mpF]
  by_cases h1 : i < m.t.length
  · have e1 : (ints m.t)[i]? = some [.int .i64 m.t[i]] := by simp [ints, h1]
    rw [List.drop_eq_getElem_cons h1, List.all_cons] at ht
    simp only [Int.toNat_natCast, e1, push_cast, ↓J1, ↓J2, N1, N2, N3, reduceCtorEq, N4, N5, N6, reduceIte, N7, I1, I2, I3]
    refine ifB_intro (fun _ => ?_) (fun h => by simp at h; omega)
    repeat (refine ⟨by omega, ?_⟩)
    refine ⟨_, tIdx hC _ 6 (by omega), ?_⟩
    cases g4 : inR 0 (6 - 1) m.t[i]
    · have : m.t.all (inR 0 5) = false := by rw [ht, show inR 0 5 m.t[i] = false from g4]; rfl
      simp only [mpOk, this, push_cast, ↓J1, ↓J2, N1, N2, N3, reduceCtorEq, N4, N5, N6, reduceIte, N7, I1, I2, I3]
    · simp only [push_cast, ↓J1, ↓J2, N1, N2, N3, reduceCtorEq, N4, N5, N6, reduceIte, N7, I1, I2, I3]
      refine hJ h1 ?_ _ (hdA [(0, 0)])
      rw [ht, show inR 0 5 m.t[i] = true from g4, Bool.true_and]
  · simp only [ints_length, push_cast, ↓J1, ↓J2, N1, N2, N3, reduceCtorEq, N4, N5, N6, reduceIte, N7, I1, I2, I3]
    refine ifB_intro (fun h => by simp at h; omega) (fun h => ?_)
    rw [List.drop_eq_nil_of_le (by omega)] at ht
    clear hJ
    have g4 : m.t.all (inR 0 5) = true := ht
    rw [show mpOk m = (edgesOk m m.ri && edgesOk m m.ro) by simp only [mpOk, g1, g2, g3, g4, Bool.true_and]]
    refine RL_count (fun i => ⟨tb 66 .any [(1, .ptr 0 none 0 0 0), (45, .ref 1 none 1 0 2), (46, .int .i64 2), (47, .int .i64 (i : Int))], [(1, .slice 1 (rows2 m)), (0, .var (mpF m))], 2⟩) (fun i => ∀ j, j < i → edgesOk m (two m j) = true) 2 0 (hdA [(1, 1), (0, 0)]) (by omega) (by omega) fun i hi' ht J hJ => ?_
    simp only [mpF]
    by_cases h1 : i < 2
    · have e1 := rows2_get h1 (m := m)
      have hl := two_len hb i
      have hno := two_no h1 (m := m)
      generalize hL : two m i = l at *
      simp only [Int.toNat_natCast, e1, push_cast, ↓J1, ↓J2, N1, N2, N3, reduceCtorEq, N4, N5, N6, reduceIte, N7, I1, I2, I3]
      refine ifB_intro (fun _ => ?_) (fun h => by simp at h; omega)
      repeat (refine ⟨by omega, ?_⟩)
      refine ⟨_, t135 hC l hl, ?_⟩
      cases g5 : upto (l.length - 1) (incP l)
      · have hf : edgesOk m l = false := by rw [← edges_eq, g5]; rfl
        simp only [hno hf, push_cast, ↓J1, ↓J2, N1, N2, N3, reduceCtorEq, N4, N5, N6, reduceIte, N7, I1, I2, I3]
      simp only [ints_length, push_cast, ↓J1, ↓J2, N1, N2, N3, reduceCtorEq, N4, N5, N6, reduceIte, N7, I1, I2, I3]
      have eqe := edges_eq m l
      rw [g5, Bool.true_and] at eqe
      refine RL_count (fun k => ⟨tb 66 .any [(1, .ptr 0 none 0 0 0), (45, .ref 1 none 1 0 2), (46, .int .i64 2), (47, .int .i64 (i : Int)), (54, .sl (ints l)), (55, .int .i64 (l.length : Int)), (56, .int .i64 (k : Int))], [(1, .slice 1 (rows2 m)), (0, .var (mpF m))], 2⟩) (fun k => l.all (edgeOk m) = (l.drop k).all (edgeOk m)) l.length 0 (hdA [(1, 1), (0, 0)]) (by omega) rfl fun k hk' hk J' hJ' => ?_
      simp only [mpF]
      by_cases h2 : k < l.length
      · have e2 : (ints l)[k]? = some [.int .i64 l[k]] := by simp [ints, h2]
        rw [List.drop_eq_getElem_cons h2, List.all_cons] at hk
        simp only [Int.toNat_natCast, e2, push_cast, ↓J1, ↓J2, N1, N2, N3, reduceCtorEq, N4, N5, N6, reduceIte, N7, I1, I2, I3]
        refine ifB_intro (fun _ => ?_) (fun h => by simp at h; omega)
        repeat (refine ⟨by omega, ?_⟩)
        refine ⟨_, c1 l[k] hw hh, ?_⟩
        cases g6 : edgeOk m l[k]
        · have hf : edgesOk m l = false := by rw [← eqe, hk, g6]; rfl
          simp only [hno hf, push_cast, ↓J1, ↓J2, N1, N2, N3, reduceCtorEq, N4, N5, N6, reduceIte, N7, I1, I2, I3]
        · simp only [push_cast, ↓J1, ↓J2, N1, N2, N3, reduceCtorEq, N4, N5, N6, reduceIte, N7, I1, I2, I3]
          refine hJ' h2 ?_ _ (hdA [(1, 1), (0, 0)])
          rw [hk, g6, Bool.true_and]
      · simp only [ints_length, push_cast, ↓J1, ↓J2, N1, N2, N3, reduceCtorEq, N4, N5, N6, reduceIte, N7, I1, I2, I3]
        refine ifB_intro (fun h => by simp at h; omega) (fun h => ?_)
        rw [List.drop_eq_nil_of_le (by omega)] at hk
        have hf : edgesOk m l = true := by rw [← eqe, hk]; rfl
        refine hJ h1 (fun j hj => ?_) _ (hdA [(1, 1), (0, 0)])
        by_cases hij : j = i
        · subst hij; rw [hL]; exact hf
        · exact ht j (by omega)
    · simp only [push_cast, ↓J1, ↓J2, N1, N2, N3, reduceCtorEq, N4, N5, N6, reduceIte, N7, I1, I2, I3]
      refine ifB_intro (fun h => by simp at h; omega) (fun h => ?_)
      have a1 : edgesOk m m.ri = true := ht 0 (by omega)
      have a2 : edgesOk m m.ro = true := ht 1 (by omega)
      rw [a1, a2]; rfl
theorem t117 (x : Int) (b : Brd) : Ev C 117 [.int .i64 x, .pf (rulF b.r ++ mpF b.m)] (.bool (decide ((b.r.ts.length : Int) ≤ x))) := by
  simp only [rulF, mpF, List.cons_append, List.nil_append]
  refine rT hC Q117 ?_
  simp only [c117, tersF_length, push_cast, ↓J1, ↓J2, N1, N2, N3, reduceCtorEq, N4, N5, N6, reduceIte, N7, I1, I2, I3]
omit hC in
theorem brd_eq {b : Brd} (h : mpOk b.m = true) : (!b.m.t.any fun x => decide ((b.r.ts.length : Int) ≤ x)) = b.m.t.all (inR 0 (b.r.ts.length - 1)) := by
  have h5 : b.m.t.all (inR 0 5) = true := by
    simp only [mpOk, Bool.and_eq_true] at h; exact h.1.1.2
  rw [List.all_eq_true] at h5
  rw [Bool.eq_iff_iff]
  simp only [Bool.not_eq_true', List.any_eq_false, List.all_eq_true, decide_eq_true_eq]
  constructor
  · intro h1 x hx
    have := h1 x hx; have h6 := h5 x hx
    simp only [inR, Bool.and_eq_true, decide_eq_true_eq] at h6 ⊢; omega
  · intro h1 x hx
    have := h1 x hx
    simp only [inR, Bool.and_eq_true, decide_eq_true_eq] at this; omega
theorem t69 (b : Brd) (hb : BrdB (2^50) b) : Ev C 69 [brdF b] (.bool (brdOk b)) := by
  have c1 := t114 hC b.r hb.r
  have c2 := t115 hC b.m hb.m
  have c3 := t116 hC b.m.t 117 [.pf (rulF b.r ++ mpF b.m)] _ hb.m.t rfl rfl fun x _ => t117 hC x b
  simp only [brdF, rulF, mpF, brdOk, List.cons_append, List.nil_append] at *
  refine rT hC Q69 ?_
  simp only [c69, push_cast, ↓J1, ↓J2, N1, N2, N3, reduceCtorEq, N4, N5, N6, reduceIte, N7, I1, I2, I3]
  refine ⟨_, c1, ?_⟩
  cases g1 : rulOk b.r
  · simp only [push_cast, ↓J1, ↓J2, N1, N2, N3, reduceCtorEq, N4, N5, N6, reduceIte, N7, I1, I2, I3]
  simp only [push_cast, ↓J1, ↓J2, N1, N2, N3, reduceCtorEq, N4, N5, N6, reduceIte, N7, I1, I2, I3]
  refine ⟨_, c2, ?_⟩
  cases g2 : mpOk b.m
  · simp only [push_cast, ↓J1, ↓J2, N1, N2, N3, reduceCtorEq, N4, N5, N6, reduceIte, N7, I1, I2, I3]
  simp only [push_cast, ↓J1, ↓J2, N1, N2, N3, reduceCtorEq, N4, N5, N6, reduceIte, N7, I1, I2, I3]
  refine ⟨_, c3, ?_⟩
  simp only [push_cast, ↓J1, ↓J2, N1, N2, N3, reduceCtorEq, N4, N5, N6, reduceIte, N7, I1, I2, I3]
  exact brd_eq g2
end
end Go.Proofs.YtlddjlchgibdfaaDoor.X
set_option maxHeartbeats 4000000
set_option maxRecDepth 8000
set_option linter.unusedSimpArgs false
set_option linter.unusedVariables false
open Nat renaming reduceBEq → N1, reduceAdd → N2, reduceSub → N3, reduceMul → N4, reduceEqDiff → N5, reduceLeDiff → N6, reduceLT → N7
open Int renaming reduceLE → I1, reduceLT → I2, reduceToNat → I3
namespace Go.Proofs.YtlddjlchgibdfaaDoor.X
open Go
attribute [local irreducible] Ev
section
variable {C : CT} (hC : Closed Tryd.prog G1 md0 C)
include hC
omit hC in
theorem RulB.mono {A B : Nat} {r : Rul} (h : A ≤ B) (hb : RulB A r) : RulB B r := ⟨by have := hb.ts; omega, by have := hb.ks; omega, fun x hx => by have := hb.t x hx; omega, fun x hx => by have := hb.k x hx; omega⟩
omit hC in
theorem MpB.mono {A B : Nat} {m : Mp} (h : A ≤ B) (hb : MpB A m) : MpB B m := ⟨by have := hb.t; omega, by have := hb.ri; omega, by have := hb.ro; omega⟩
omit hC in
theorem BrdB.mono {A B : Nat} {b : Brd} (h : A ≤ B) (hb : BrdB A b) : BrdB B b := ⟨hb.r.mono h, hb.m.mono h⟩
omit hC in
theorem mp_wh {m : Mp} (h : mpOk m = true) : (1 ≤ m.w ∧ m.w ≤ 10) ∧ 1 ≤ m.h ∧ m.h ≤ 10 := by
  simp only [mpOk, inR, Bool.and_eq_true, decide_eq_true_eq] at h
  exact ⟨h.1.1.1.1.1, h.1.1.1.1.2⟩
omit hC in
theorem brd_mp {b : Brd} (h : brdOk b = true) : mpOk b.m = true := by
  simp only [brdOk, Bool.and_eq_true] at h; exact h.1.2
omit hC in
theorem brd_ru {b : Brd} (h : brdOk b = true) : rulOk b.r = true := by
  simp only [brdOk, Bool.and_eq_true] at h; exact h.1.1
def kindAsk (b : Brd) (k : Int) : Bool := brdOk b && inR 0 (b.r.ks.length - 1) k
def k0 : Kin := ⟨ByteArray.empty, 0, 0, 0, false, 0⟩
def kindOf (b : Brd) (k : Int) : Kin := b.r.ks.getD k.toNat k0
def priceOf (b : Brd) (k : Int) : Int := (kindOf b k).st * (kindOf b k).sp
omit hC in
theorem kins_get {b : Brd} {k : Nat} (h : k < b.r.ks.length) : (kins b.r.ks)[k]? = some (kinA (kindOf b k)) := by
  simp [kins, kindOf, List.getD, h]
omit hC in
theorem kin_bnd {b : Brd} {k : Int} (h : kindAsk b k = true) : okName (kindOf b k).n = true ∧ (1 ≤ (kindOf b k).st ∧ (kindOf b k).st ≤ 9) ∧ (0 ≤ (kindOf b k).mv ∧ (kindOf b k).mv ≤ 9) ∧ (1 ≤ (kindOf b k).sp ∧ (kindOf b k).sp ≤ 4) ∧ 0 ≤ (kindOf b k).v ∧ (kindOf b k).v ≤ 4 := by
  simp only [kindAsk, Bool.and_eq_true] at h
  have hr := brd_ru h.1
  have hk := h.2
  simp only [rulOk, Bool.and_eq_true] at hr
  simp only [inR, Bool.and_eq_true, decide_eq_true_eq] at hk
  have h1 : k.toNat < b.r.ks.length := by omega
  have := allI_get hr.1.2 k.toNat h1
  simp only [kinOk, Bool.and_eq_true] at this
  have e : kindOf b k = b.r.ks[k.toNat] := by simp [kindOf, List.getD, h1]
  rw [e]
  simp only [inR, Bool.and_eq_true, decide_eq_true_eq] at this
  simp only [this, and_self]
omit hC in
theorem price_bnd {b : Brd} {k : Int} (h : kindAsk b k = true) : 1 ≤ priceOf b k ∧ priceOf b k ≤ 36 := by
  obtain ⟨_, h1, _, h2, _⟩ := kin_bnd h
  constructor
  · have := Int.mul_le_mul h1.1 h2.1 (by omega) (by omega); simp only [priceOf]; omega
  · have := Int.mul_le_mul h1.2 h2.2 (by omega) (by omega); simp only [priceOf]; omega
omit hC in
theorem kind_at {b : Brd} {k : Int} (h : kindAsk b k = true) : 0 ≤ k ∧ k < b.r.ks.length := by
  simp only [kindAsk, inR, Bool.and_eq_true, decide_eq_true_eq] at h
  omega
theorem t57 (b : Brd) (k a : Int) (hb : BrdB (2^50) b) : Ev C 57 [brdF b, .int .i64 k, .int .i64 a] (.bool (kindAsk b k && inR 0 (b.m.w * b.m.h - 1) a)) := by
  have c1 := t66 hC b hb
  have b2 := hb.r.ks
  simp only [brdF, rulF, mpF, List.cons_append, List.nil_append, kindAsk] at *
  refine rT hC Q57 ?_
  simp only [c57, push_cast, ↓J1, ↓J2, N1, N2, N3, reduceCtorEq, N4, N5, N6, reduceIte, N7, I1, I2, I3]
  refine ⟨_, c1, ?_⟩
  cases g1 : brdOk b
  · simp only [push_cast, ↓J1, ↓J2, N1, N2, N3, reduceCtorEq, N4, N5, N6, reduceIte, N7, I1, I2, I3]
  have hm := mp_wh (brd_mp g1)
  have hwh := wh_le hm.1 hm.2
  have c2 := t107 hC b.m hm.1 hm.2
  simp only [mpF] at c2
  simp only [kins_length, push_cast, ↓J1, ↓J2, N1, N2, N3, reduceCtorEq, N4, N5, N6, reduceIte, N7, I1, I2, I3]
  rw [wrap64 (n := (b.r.ks.length : Int) - 1) (by omega) (by omega)]
  refine ⟨_, tIn hC _ _ _, ?_⟩
  cases g2 : inR 0 ((b.r.ks.length : Int) - 1) k
  · simp only [push_cast, ↓J1, ↓J2, N1, N2, N3, reduceCtorEq, N4, N5, N6, reduceIte, N7, I1, I2, I3]
  simp only [push_cast, ↓J1, ↓J2, N1, N2, N3, reduceCtorEq, N4, N5, N6, reduceIte, N7, I1, I2, I3]
  refine ⟨_, c2, ?_⟩
  simp only [push_cast, ↓J1, ↓J2, N1, N2, N3, reduceCtorEq, N4, N5, N6, reduceIte, N7, I1, I2, I3]
  rw [wrap64 (n := b.m.w * b.m.h - 1) (by omega) (by omega)]
  refine ⟨_, tIn hC _ _ _, ?_⟩
  simp only [push_cast, ↓J1, ↓J2, N1, N2, N3, reduceCtorEq, N4, N5, N6, reduceIte, N7, I1, I2, I3]
theorem t61 (b : Brd) (k : Int) (hb : BrdB (2^50) b) : Ev C 61 [brdF b, .int .i64 k] (.bool (kindAsk b k)) := by
  have c1 := t69 hC b hb
  have b2 := hb.r.ks
  simp only [brdF, rulF, mpF, List.cons_append, List.nil_append, kindAsk] at *
  refine rT hC Q61 ?_
  simp only [c61, push_cast, ↓J1, ↓J2, N1, N2, N3, reduceCtorEq, N4, N5, N6, reduceIte, N7, I1, I2, I3]
  refine ⟨_, c1, ?_⟩
  cases g1 : brdOk b
  · simp only [push_cast, ↓J1, ↓J2, N1, N2, N3, reduceCtorEq, N4, N5, N6, reduceIte, N7, I1, I2, I3]
  simp only [kins_length, push_cast, ↓J1, ↓J2, N1, N2, N3, reduceCtorEq, N4, N5, N6, reduceIte, N7, I1, I2, I3]
  refine ⟨_, tIdx hC _ _ (by omega), ?_⟩
  simp only [push_cast, ↓J1, ↓J2, N1, N2, N3, reduceCtorEq, N4, N5, N6, reduceIte, N7, I1, I2, I3]
theorem t58 (b : Brd) (k : Int) (h : kindAsk b k = true) (hb : BrdB (2^50) b) : Ev C 58 [brdF b, .int .i64 k] (.int .i64 (priceOf b k)) := by
  have hk := kind_at h
  have hp := price_bnd h
  have b2 := hb.r.ks
  obtain ⟨k, rfl⟩ : ∃ n : Nat, k = n := ⟨k.toNat, by omega⟩
  have e1 := kins_get (b := b) (k := k) (by omega)
  simp only [brdF, rulF, mpF, List.cons_append, List.nil_append] at *
  refine rT hC Q58 ?_
  simp only [c58, push_cast, ↓J1, ↓J2, N1, N2, N3, reduceCtorEq, N4, N5, N6, reduceIte, N7, I1, I2, I3]
  simp only [Int.toNat_natCast, e1, kinA, kins_length, push_cast, ↓J1, ↓J2, N1, N2, N3, reduceCtorEq, N4, N5, N6, reduceIte, N7, I1, I2, I3]
  repeat (refine ⟨by omega, ?_⟩)
  simp only [priceOf] at *
  rw [wrap64 (by omega) (by omega)]
theorem t62 (b : Brd) (k : Int) (h : kindAsk b k = true) (hb : BrdB (2^50) b) : Ev C 62 [brdF b, .int .i64 k] (.int .i64 (priceOf b k)) := by
  have hk := kind_at h
  have hp := price_bnd h
  have b2 := hb.r.ks
  obtain ⟨k, rfl⟩ : ∃ n : Nat, k = n := ⟨k.toNat, by omega⟩
  have e1 := kins_get (b := b) (k := k) (by omega)
  simp only [brdF, rulF, mpF, List.cons_append, List.nil_append] at *
  refine rT hC Q62 ?_
  simp only [c62, push_cast, ↓J1, ↓J2, N1, N2, N3, reduceCtorEq, N4, N5, N6, reduceIte, N7, I1, I2, I3]
  simp only [Int.toNat_natCast, e1, kinA, kins_length, push_cast, ↓J1, ↓J2, N1, N2, N3, reduceCtorEq, N4, N5, N6, reduceIte, N7, I1, I2, I3]
  repeat (refine ⟨by omega, ?_⟩)
  simp only [priceOf] at *
  rw [wrap64 (by omega) (by omega)]
theorem t18 (b : Brd) (k : Int) (hb : BrdB (2^50) b) : Ev C 18 [brdF b, .int .i64 k] (.tup [.int .i64 (if kindAsk b k then priceOf b k else 0), .bool (kindAsk b k)]) := by
  have c1 := t57 hC b k 0 hb
  have c2 := fun h => t58 hC b k h hb
  have w1 : kindAsk b k = true → inR 0 (b.m.w * b.m.h - 1) 0 = true := fun h => by
    have hm := mp_wh (brd_mp (show brdOk b = true by simp only [kindAsk, Bool.and_eq_true] at h; exact h.1))
    have hwh := wh_le hm.1 hm.2
    simp only [inR, Bool.and_eq_true, decide_eq_true_eq]; omega
  simp only [brdF, rulF, mpF, List.cons_append, List.nil_append] at *
  refine rT hC Q18 ?_
  simp only [c18, push_cast, ↓J1, ↓J2, N1, N2, N3, reduceCtorEq, N4, N5, N6, reduceIte, N7, I1, I2, I3]
  refine ⟨_, c1, ?_⟩
  cases g1 : kindAsk b k
  · simp only [push_cast, ↓J1, ↓J2, N1, N2, N3, reduceCtorEq, N4, N5, N6, reduceIte, N7, I1, I2, I3]
  simp only [w1 g1, push_cast, ↓J1, ↓J2, N1, N2, N3, reduceCtorEq, N4, N5, N6, reduceIte, N7, I1, I2, I3]
  refine ⟨_, c2 g1, ?_⟩
  simp only [push_cast, ↓J1, ↓J2, N1, N2, N3, reduceCtorEq, N4, N5, N6, reduceIte, N7, I1, I2, I3]
theorem t20 (b : Brd) (k : Int) (hb : BrdB (2^50) b) : Ev C 20 [brdF b, .int .i64 k] (.tup [.int .i64 (if kindAsk b k then priceOf b k else 0), .bool (kindAsk b k)]) := by
  have c1 := t61 hC b k hb
  have c2 := fun h => t62 hC b k h hb
  have w1 : kindAsk b k = true → inR 0 (b.m.w * b.m.h - 1) 0 = true := fun h => by
    have hm := mp_wh (brd_mp (show brdOk b = true by simp only [kindAsk, Bool.and_eq_true] at h; exact h.1))
    have hwh := wh_le hm.1 hm.2
    simp only [inR, Bool.and_eq_true, decide_eq_true_eq]; omega
  simp only [brdF, rulF, mpF, List.cons_append, List.nil_append] at *
  refine rT hC Q20 ?_
  simp only [c20, push_cast, ↓J1, ↓J2, N1, N2, N3, reduceCtorEq, N4, N5, N6, reduceIte, N7, I1, I2, I3]
  refine ⟨_, c1, ?_⟩
  cases g1 : kindAsk b k
  · simp only [push_cast, ↓J1, ↓J2, N1, N2, N3, reduceCtorEq, N4, N5, N6, reduceIte, N7, I1, I2, I3]
  simp only [push_cast, ↓J1, ↓J2, N1, N2, N3, reduceCtorEq, N4, N5, N6, reduceIte, N7, I1, I2, I3]
  refine ⟨_, c2 g1, ?_⟩
  simp only [push_cast, ↓J1, ↓J2, N1, N2, N3, reduceCtorEq, N4, N5, N6, reduceIte, N7, I1, I2, I3]
theorem t4 (b : Brd) (k : Int) (hb : BrdB (2^50) b) : Ev C 4 [brdF b, .int .i64 k] (.bool true) := by
  have q1 := t17 hC b 1048576 (by omega) hb
  have q2 := fun h => t19 hC b h
  have q3 := t18 hC b k hb
  have q4 := t20 hC b k hb
  have q5 := t21 hC b b hb hb
  simp only [brdO, rulO, mpO, brdF, rulF, mpF, List.cons_append, List.nil_append] at *
  refine rT hC Q4 ?_
  simp only [c4, push_cast, ↓J1, ↓J2, N1, N2, N3, reduceCtorEq, N4, N5, N6, reduceIte, N7, I1, I2, I3]
  refine ⟨_, q1, ?_⟩
  simp only [push_cast, ↓J1, ↓J2, N1, N2, N3, reduceCtorEq, N4, N5, N6, reduceIte, N7, I1, I2, I3]
  refine ifB_intro (fun h => trivial) (fun h => ?_)
  have hB : BrdB (2^30) b := (szBrd_pos (by have := of_decide_eq_false h; omega)).mono (by omega)
  refine ⟨_, q2 hB, ?_⟩
  simp only [push_cast, ↓J1, ↓J2, N1, N2, N3, reduceCtorEq, N4, N5, N6, reduceIte, N7, I1, I2, I3]
  simp only [frzLL_ints, frzLL_ters, frzLL_kins, push_cast, ↓J1, ↓J2, N1, N2, N3, reduceCtorEq, N4, N5, N6, reduceIte, N7, I1, I2, I3]
  refine ⟨_, q3, ?_⟩
  simp only [push_cast, ↓J1, ↓J2, N1, N2, N3, reduceCtorEq, N4, N5, N6, reduceIte, N7, I1, I2, I3]
  refine ⟨_, q2 hB, ?_⟩
  simp only [frzLL_ints, frzLL_ters, frzLL_kins, push_cast, ↓J1, ↓J2, N1, N2, N3, reduceCtorEq, N4, N5, N6, reduceIte, N7, I1, I2, I3]
  refine ⟨_, q4, ?_⟩
  simp only [push_cast, ↓J1, ↓J2, N1, N2, N3, reduceCtorEq, N4, N5, N6, reduceIte, N7, I1, I2, I3]
  refine ⟨_, q2 hB, ?_⟩
  simp only [frzLL_ints, frzLL_ters, frzLL_kins, push_cast, ↓J1, ↓J2, N1, N2, N3, reduceCtorEq, N4, N5, N6, reduceIte, N7, I1, I2, I3]
  refine ⟨_, q5, ?_⟩
  simp only [push_cast, ↓J1, ↓J2, N1, N2, N3, reduceCtorEq, N4, N5, N6, reduceIte, N7, I1, I2, I3]
end
end Go.Proofs.YtlddjlchgibdfaaDoor.X
set_option maxHeartbeats 4000000
set_option maxRecDepth 8000
set_option linter.unusedSimpArgs false
set_option linter.unusedVariables false
open Nat renaming reduceBEq → N1, reduceAdd → N2, reduceSub → N3, reduceMul → N4, reduceEqDiff → N5, reduceLeDiff → N6, reduceLT → N7
open Int renaming reduceLE → I1, reduceLT → I2, reduceToNat → I3
namespace Go.Proofs.YtlddjlchgibdfaaDoor.X
open Go
attribute [local irreducible] Ev
structure Wk where
  sd : Int
  at_ : Int
  pt : Int
  q : List Int
  deriving DecidableEq
def wkF (w : Wk) : List AV := [.int .i64 w.sd, .int .i64 w.at_, .int .i64 w.pt, .sl (ints w.q)]
def wkO (w : Wk) : List AV := [.int .i64 w.sd, .int .i64 w.at_, .int .i64 w.pt, .ow 1 (ints w.q)]
def szWk (w : Wk) (v : Int) : Int := sub1 v w.q.length
def wkR (b : Brd) (w : Wk) : Bool := inR 0 1 w.sd && inR 0 (b.m.w * b.m.h - 1) w.at_ && inR 0 200 w.pt && decide ((w.q.length : Int) ≤ 8) && w.q.all (inR 0 (b.r.ks.length - 1))
def wkOk (b : Brd) (w : Wk) : Bool := brdOk b && wkR b w
section
variable {C : CT} (hC : Closed Tryd.prog G1 md0 C)
include hC
omit hC in
theorem brd_wh {b : Brd} (h : brdOk b = true) : (b.m.t.length : Int) = b.m.w * b.m.h ∧ 1 ≤ b.m.w * b.m.h ∧ b.m.w * b.m.h ≤ 100 := by
  have h1 := brd_mp h
  have h2 := mp_wh h1
  simp only [mpOk, Bool.and_eq_true, decide_eq_true_eq] at h1
  exact ⟨h1.1.1.1.2, wh_le h2.1 h2.2⟩
theorem t22 (w : Wk) (v : Int) (hv : 0 ≤ v ∧ v < 2^50) (hq : w.q.length < 2^50) : Ev C 22 [.agg (wkF w), .int .i64 v] (.int .i64 (szWk w v)) := by
  simp only [wkF]
  refine rT hC Q22 ?_
  simp only [c22, push_cast, ↓J1, ↓J2, N1, N2, N3, reduceCtorEq, N4, N5, N6, reduceIte, N7, I1, I2, I3]
  refine ⟨_, t65 hC _ _ (by omega) (by rw [ints_length]; exact hq), ?_⟩
  rw [ints_length, if_sub]
  simp only [push_cast, ↓J1, ↓J2, N1, N2, N3, reduceCtorEq, N4, N5, N6, reduceIte, N7, I1, I2, I3]
  have h1 := sub1_le (n := w.q.length) hv.1
  refine ifB_intro (fun h => ?_) (fun h => ?_)
  · have := of_decide_eq_true h; simp only [szWk]; omega
  · rfl
theorem t24 (w : Wk) (hq : w.q.length < 2^30) : Ev C 24 [.agg (wkF w)] (.agg (wkO w)) := by
  simp only [wkF, wkO]
  refine rT hC Q24 ?_ (by simp only [ownR, ownRL, own_ints1, Bool.and_true])
  simp only [c24, push_cast, ↓J1, ↓J2, N1, N2, N3, reduceCtorEq, N4, N5, N6, reduceIte, N7, I1, I2, I3]
  refine ⟨_, t68 hC _ hq, ?_⟩
  simp only [push_cast, ↓J1, ↓J2, N1, N2, N3, reduceCtorEq, N4, N5, N6, reduceIte, N7, I1, I2, I3]
  exact rtA
theorem t26 (w x : Wk) (h1 : w.q.length < 2^50) (h2 : x.q.length < 2^50) : Ev C 26 [.agg (wkF w), .agg (wkF x)] (.bool (decide (w = x))) := by
  obtain ⟨a1, a2, a3, a4⟩ := w
  obtain ⟨b1, b2, b3, b4⟩ := x
  simp only [wkF]
  refine rT hC Q26 ?_
  simp only [c26, push_cast, ↓J1, ↓J2, N1, N2, N3, reduceCtorEq, N4, N5, N6, reduceIte, N7, I1, I2, I3]
  repeat' (first
    | simp only [push_cast, ↓J1, ↓J2, N1, N2, N3, reduceCtorEq, N4, N5, N6, reduceIte, N7, I1, I2, I3]
    | refine ⟨_, t71 hC _ _ h1 h2, ?_⟩
    | refine ifB_intro (fun h => ?_) (fun h => ?_))
  all_goals simp_all
theorem t67 (b : Brd) (w : Wk) (hb : BrdB (2^50) b) (hq : w.q.length < 2^50) : Ev C 67 [brdF b, .agg (wkF w)] (.bool (wkOk b w)) := by
  have c1 := t66 hC b hb
  have b2 := hb.r.ks
  simp only [brdF, rulF, mpF, List.cons_append, List.nil_append, wkF, wkOk] at *
  refine rT hC Q67 ?_
  simp only [c67, push_cast, ↓J1, ↓J2, N1, N2, N3, reduceCtorEq, N4, N5, N6, reduceIte, N7, I1, I2, I3]
  refine ⟨_, c1, ?_⟩
  cases g1 : brdOk b
  · simp only [push_cast, ↓J1, ↓J2, N1, N2, N3, reduceCtorEq, N4, N5, N6, reduceIte, N7, I1, I2, I3]
  have hwh := brd_wh g1
  have hm := mp_wh (brd_mp g1)
  have c2 := t107 hC b.m hm.1 hm.2
  simp only [mpF, wkR] at *
  simp only [push_cast, ↓J1, ↓J2, N1, N2, N3, reduceCtorEq, N4, N5, N6, reduceIte, N7, I1, I2, I3]
  refine ⟨_, tIn hC _ _ _, ?_⟩
  cases inR 0 1 w.sd
  · simp only [push_cast, ↓J1, ↓J2, N1, N2, N3, reduceCtorEq, N4, N5, N6, reduceIte, N7, I1, I2, I3]
  simp only [push_cast, ↓J1, ↓J2, N1, N2, N3, reduceCtorEq, N4, N5, N6, reduceIte, N7, I1, I2, I3]
  refine ⟨_, c2, ?_⟩
  simp only [push_cast, ↓J1, ↓J2, N1, N2, N3, reduceCtorEq, N4, N5, N6, reduceIte, N7, I1, I2, I3]
  rw [wrap64 (n := b.m.w * b.m.h - 1) (by omega) (by omega)]
  refine ⟨_, tIn hC _ _ _, ?_⟩
  cases inR 0 (b.m.w * b.m.h - 1) w.at_
  · simp only [push_cast, ↓J1, ↓J2, N1, N2, N3, reduceCtorEq, N4, N5, N6, reduceIte, N7, I1, I2, I3]
  simp only [push_cast, ↓J1, ↓J2, N1, N2, N3, reduceCtorEq, N4, N5, N6, reduceIte, N7, I1, I2, I3]
  refine ⟨_, tIn hC _ _ _, ?_⟩
  cases inR 0 200 w.pt
  · simp only [push_cast, ↓J1, ↓J2, N1, N2, N3, reduceCtorEq, N4, N5, N6, reduceIte, N7, I1, I2, I3]
  simp only [ints_length, push_cast, ↓J1, ↓J2, N1, N2, N3, reduceCtorEq, N4, N5, N6, reduceIte, N7, I1, I2, I3]
  cases decide ((w.q.length : Int) ≤ 8)
  · simp only [push_cast, ↓J1, ↓J2, N1, N2, N3, reduceCtorEq, N4, N5, N6, reduceIte, N7, I1, I2, I3]
  simp only [kins_length, push_cast, ↓J1, ↓J2, N1, N2, N3, reduceCtorEq, N4, N5, N6, reduceIte, N7, I1, I2, I3]
  rw [wrap64 (n := (b.r.ks.length : Int) - 1) (by omega) (by omega)]
  refine ⟨_, t98 hC _ _ _ hq, ?_⟩
  simp only [push_cast, ↓J1, ↓J2, N1, N2, N3, reduceCtorEq, N4, N5, N6, reduceIte, N7, I1, I2, I3]
theorem t118 (x : Int) : Ev C 118 [.int .i64 x] (.bool (inR 0 1 x)) := by
  refine rT hC Q118 ?_
  simp only [c118, push_cast, ↓J1, ↓J2, N1, N2, N3, reduceCtorEq, N4, N5, N6, reduceIte, N7, I1, I2, I3]
  refine ⟨_, tRange hC _ _ _, ?_⟩
  simp only [push_cast, ↓J1, ↓J2, N1, N2, N3, reduceCtorEq, N4, N5, N6, reduceIte, N7, I1, I2, I3]
theorem t119 (b : Brd) : Ev C 119 [brdF b] (.int .i64 (b.m.t.length : Int)) := by
  simp only [brdF, rulF, mpF, List.cons_append, List.nil_append]
  refine rT hC Q119 ?_
  simp only [c119, ints_length, push_cast, ↓J1, ↓J2, N1, N2, N3, reduceCtorEq, N4, N5, N6, reduceIte, N7, I1, I2, I3]
theorem t120 (x : Int) (b : Brd) (hb : b.r.ks.length < 2^50) : Ev C 120 [.int .i64 x, .pf (rulF b.r ++ mpF b.m)] (.bool (!inR 0 (b.r.ks.length - 1) x)) := by
  simp only [brdF, rulF, mpF, List.cons_append, List.nil_append]
  refine rT hC Q120 ?_
  simp only [c120, kins_length, push_cast, ↓J1, ↓J2, N1, N2, N3, reduceCtorEq, N4, N5, N6, reduceIte, N7, I1, I2, I3]
  refine ⟨_, tIdx hC _ _ (by omega), ?_⟩
  simp only [push_cast, ↓J1, ↓J2, N1, N2, N3, reduceCtorEq, N4, N5, N6, reduceIte, N7, I1, I2, I3]
theorem t70 (b : Brd) (w : Wk) (g : brdOk b = true) (hb : BrdB (2^50) b) (hq : w.q.length < 2^50) : Ev C 70 [brdF b, .agg (wkF w)] (.bool (wkR b w)) := by
  have hwh := brd_wh g
  have c1 := t119 hC b
  have c3 := t116 hC w.q 120 [.pf (rulF b.r ++ mpF b.m)] _ hq rfl rfl fun x _ => t120 hC x b hb.r.ks
  rw [hwh.1] at c1
  simp only [brdF, rulF, mpF, List.cons_append, List.nil_append, wkF, wkR] at *
  refine rT hC Q70 ?_
  simp only [c70, push_cast, ↓J1, ↓J2, N1, N2, N3, reduceCtorEq, N4, N5, N6, reduceIte, N7, I1, I2, I3]
  refine ⟨_, t118 hC _, ?_⟩
  cases inR 0 1 w.sd
  · simp only [push_cast, ↓J1, ↓J2, N1, N2, N3, reduceCtorEq, N4, N5, N6, reduceIte, N7, I1, I2, I3]
  simp only [push_cast, ↓J1, ↓J2, N1, N2, N3, reduceCtorEq, N4, N5, N6, reduceIte, N7, I1, I2, I3]
  refine ⟨_, c1, ?_⟩
  simp only [push_cast, ↓J1, ↓J2, N1, N2, N3, reduceCtorEq, N4, N5, N6, reduceIte, N7, I1, I2, I3]
  refine ⟨_, tIdx hC _ _ (by omega), ?_⟩
  cases inR 0 (b.m.w * b.m.h - 1) w.at_
  · simp only [push_cast, ↓J1, ↓J2, N1, N2, N3, reduceCtorEq, N4, N5, N6, reduceIte, N7, I1, I2, I3]
  simp only [push_cast, ↓J1, ↓J2, N1, N2, N3, reduceCtorEq, N4, N5, N6, reduceIte, N7, I1, I2, I3]
  refine ⟨_, tRange hC _ _ _, ?_⟩
  cases inR 0 200 w.pt
  · simp only [push_cast, ↓J1, ↓J2, N1, N2, N3, reduceCtorEq, N4, N5, N6, reduceIte, N7, I1, I2, I3]
  simp only [ints_length, push_cast, ↓J1, ↓J2, N1, N2, N3, reduceCtorEq, N4, N5, N6, reduceIte, N7, I1, I2, I3]
  have e8 : decide (8 < (w.q.length : Int)) = !decide ((w.q.length : Int) ≤ 8) := by
    rw [Bool.eq_iff_iff]; simp
  rw [e8]
  cases decide ((w.q.length : Int) ≤ 8)
  · simp only [push_cast, ↓J1, ↓J2, N1, N2, N3, reduceCtorEq, N4, N5, N6, reduceIte, N7, I1, I2, I3]
  simp only [push_cast, ↓J1, ↓J2, N1, N2, N3, reduceCtorEq, N4, N5, N6, reduceIte, N7, I1, I2, I3]
  refine ⟨_, c3, ?_⟩
  simp only [all_not, push_cast, ↓J1, ↓J2, N1, N2, N3, reduceCtorEq, N4, N5, N6, reduceIte, N7, I1, I2, I3]
theorem t73 (b : Brd) (w : Wk) (hb : BrdB (2^50) b) (hq : w.q.length < 2^50) : Ev C 73 [brdF b, .agg (wkF w)] (.bool (wkOk b w)) := by
  have c1 := t69 hC b hb
  have c2 := fun g => t70 hC b w g hb hq
  simp only [brdF, rulF, mpF, List.cons_append, List.nil_append, wkF, wkOk] at *
  refine rT hC Q73 ?_
  simp only [c73, push_cast, ↓J1, ↓J2, N1, N2, N3, reduceCtorEq, N4, N5, N6, reduceIte, N7, I1, I2, I3]
  refine ⟨_, c1, ?_⟩
  cases g1 : brdOk b
  · simp only [push_cast, ↓J1, ↓J2, N1, N2, N3, reduceCtorEq, N4, N5, N6, reduceIte, N7, I1, I2, I3]
  simp only [push_cast, ↓J1, ↓J2, N1, N2, N3, reduceCtorEq, N4, N5, N6, reduceIte, N7, I1, I2, I3]
  refine ⟨_, c2 g1, ?_⟩
  simp only [push_cast, ↓J1, ↓J2, N1, N2, N3, reduceCtorEq, N4, N5, N6, reduceIte, N7, I1, I2, I3]
theorem t23 (b : Brd) (w : Wk) (hb : BrdB (2^50) b) (hq : w.q.length < 2^50) : Ev C 23 [brdF b, .agg (wkF w)] (.tup [.bool (wkOk b w), .bool (brdOk b)]) := by
  have c1 := t66 hC b hb
  have c2 := t67 hC b w hb hq
  simp only [brdF, rulF, mpF, List.cons_append, List.nil_append, wkF] at *
  refine rT hC Q23 ?_
  simp only [c23, push_cast, ↓J1, ↓J2, N1, N2, N3, reduceCtorEq, N4, N5, N6, reduceIte, N7, I1, I2, I3]
  refine ⟨_, c1, ?_⟩
  cases g1 : brdOk b
  · have : wkOk b w = false := by simp only [wkOk, g1, Bool.false_and]
    simp only [this, push_cast, ↓J1, ↓J2, N1, N2, N3, reduceCtorEq, N4, N5, N6, reduceIte, N7, I1, I2, I3]
    first | done | rfl | exact RetTo_sc rfl
  simp only [push_cast, ↓J1, ↓J2, N1, N2, N3, reduceCtorEq, N4, N5, N6, reduceIte, N7, I1, I2, I3]
  refine ⟨_, c2, ?_⟩
  simp only [wkOk, g1, push_cast, ↓J1, ↓J2, N1, N2, N3, reduceCtorEq, N4, N5, N6, reduceIte, N7, I1, I2, I3]
  first | done | rfl | exact RetTo_sc rfl
theorem t25 (b : Brd) (w : Wk) (hb : BrdB (2^50) b) (hq : w.q.length < 2^50) : Ev C 25 [brdF b, .agg (wkF w)] (.tup [.bool (wkOk b w), .bool (brdOk b)]) := by
  have c1 := t69 hC b hb
  have c2 := fun g => t70 hC b w g hb hq
  simp only [brdF, rulF, mpF, List.cons_append, List.nil_append, wkF] at *
  refine rT hC Q25 ?_
  simp only [c25, push_cast, ↓J1, ↓J2, N1, N2, N3, reduceCtorEq, N4, N5, N6, reduceIte, N7, I1, I2, I3]
  refine ⟨_, c1, ?_⟩
  cases g1 : brdOk b
  · have : wkOk b w = false := by simp only [wkOk, g1, Bool.false_and]
    simp only [this, push_cast, ↓J1, ↓J2, N1, N2, N3, reduceCtorEq, N4, N5, N6, reduceIte, N7, I1, I2, I3]
    first | done | rfl | exact RetTo_sc rfl
  simp only [push_cast, ↓J1, ↓J2, N1, N2, N3, reduceCtorEq, N4, N5, N6, reduceIte, N7, I1, I2, I3]
  refine ⟨_, c2 g1, ?_⟩
  simp only [wkOk, g1, push_cast, ↓J1, ↓J2, N1, N2, N3, reduceCtorEq, N4, N5, N6, reduceIte, N7, I1, I2, I3]
  first | done | rfl | exact RetTo_sc rfl
omit hC in
theorem szBrd_le {b : Brd} {v : Int} (h0 : 0 ≤ v) (hB : v ≤ 2 ^ 50) : -1 ≤ szBrd b v ∧ szBrd b v ≤ v := by
  have h1 := szRul_le (r := b.r) h0 hB
  simp only [szBrd, andThen]
  split
  · omega
  · have h2 := szMp_le (m := b.m) (v := szRul b.r v) (by omega)
    split <;> omega
theorem t5 (b : Brd) (w : Wk) (hb : BrdB (2^50) b) (hq : w.q.length < 2^50) : Ev C 5 [brdF b, .agg (wkF w)] (.bool true) := by
  have q1 := t17 hC b 1048576 (by omega) hb
  have q1' := fun h => t22 hC w (szBrd b 1048576) h hq
  have q2 := fun h => t19 hC b h
  have q2' := fun h => t24 hC w h
  have q3 := t23 hC b w hb hq
  have q4 := t25 hC b w hb hq
  have q5 := t21 hC b b hb hb
  have q5' := t26 hC w w hq hq
  have hu := szBrd_le (b := b) (v := 1048576) (by omega) (by omega)
  simp only [brdO, rulO, mpO, brdF, rulF, mpF, List.cons_append, List.nil_append, wkF, wkO] at *
  refine rT hC Q5 ?_
  simp only [c5, push_cast, ↓J1, ↓J2, N1, N2, N3, reduceCtorEq, N4, N5, N6, reduceIte, N7, I1, I2, I3]
  refine ⟨_, q1, ?_⟩
  simp only [push_cast, ↓J1, ↓J2, N1, N2, N3, reduceCtorEq, N4, N5, N6, reduceIte, N7, I1, I2, I3]
  refine ifB_intro (fun h => trivial) (fun h => ?_)
  have hs := of_decide_eq_false h
  have hB : BrdB (2^30) b := (szBrd_pos (by omega)).mono (by omega)
  refine ⟨_, q1' ⟨by omega, by omega⟩, ?_⟩
  simp only [push_cast, ↓J1, ↓J2, N1, N2, N3, reduceCtorEq, N4, N5, N6, reduceIte, N7, I1, I2, I3]
  refine ifB_intro (fun h => trivial) (fun h => ?_)
  have hs' := of_decide_eq_false h
  have hQ : w.q.length < 2^30 := by have := sub1_pos (v := szBrd b 1048576) (n := w.q.length) (by simp only [szWk] at hs'; omega); omega
  refine ⟨_, q2 hB, ?_⟩
  simp only [frzLL_ints, frzLL_ters, frzLL_kins, push_cast, ↓J1, ↓J2, N1, N2, N3, reduceCtorEq, N4, N5, N6, reduceIte, N7, I1, I2, I3]
  refine ⟨_, q2' hQ, ?_⟩
  simp only [frzLL_ints, frzLL_ters, frzLL_kins, push_cast, ↓J1, ↓J2, N1, N2, N3, reduceCtorEq, N4, N5, N6, reduceIte, N7, I1, I2, I3]
  refine ⟨_, q3, ?_⟩
  simp only [push_cast, ↓J1, ↓J2, N1, N2, N3, reduceCtorEq, N4, N5, N6, reduceIte, N7, I1, I2, I3]
  refine ⟨_, q2 hB, ?_⟩
  simp only [frzLL_ints, frzLL_ters, frzLL_kins, push_cast, ↓J1, ↓J2, N1, N2, N3, reduceCtorEq, N4, N5, N6, reduceIte, N7, I1, I2, I3]
  refine ⟨_, q2' hQ, ?_⟩
  simp only [frzLL_ints, frzLL_ters, frzLL_kins, push_cast, ↓J1, ↓J2, N1, N2, N3, reduceCtorEq, N4, N5, N6, reduceIte, N7, I1, I2, I3]
  refine ⟨_, q4, ?_⟩
  simp only [push_cast, ↓J1, ↓J2, N1, N2, N3, reduceCtorEq, N4, N5, N6, reduceIte, N7, I1, I2, I3]
  refine ⟨_, q2 hB, ?_⟩
  simp only [frzLL_ints, frzLL_ters, frzLL_kins, push_cast, ↓J1, ↓J2, N1, N2, N3, reduceCtorEq, N4, N5, N6, reduceIte, N7, I1, I2, I3]
  refine ⟨_, q5, ?_⟩
  simp only [push_cast, ↓J1, ↓J2, N1, N2, N3, reduceCtorEq, N4, N5, N6, reduceIte, N7, I1, I2, I3]
  refine ⟨_, q2' hQ, ?_⟩
  simp only [frzLL_ints, frzLL_ters, frzLL_kins, push_cast, ↓J1, ↓J2, N1, N2, N3, reduceCtorEq, N4, N5, N6, reduceIte, N7, I1, I2, I3]
  refine ⟨_, q5', ?_⟩
  simp only [push_cast, ↓J1, ↓J2, N1, N2, N3, reduceCtorEq, N4, N5, N6, reduceIte, N7, I1, I2, I3]
end
end Go.Proofs.YtlddjlchgibdfaaDoor.X
