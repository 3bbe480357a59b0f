/- A part of the proof: lemmas on the machine or on the functions that the law reaches. No condition of its own. -/
import Derived.Test.YtehkpnfehfcphaaDoorXP3
import Derived.Test.YtehkpnfehfcphaaDoorXP2
set_option maxHeartbeats 4000000
set_option maxRecDepth 8000
set_option linter.unusedSimpArgs false
set_option linter.unusedVariables false
open Nat renaming reduceBEq → N1, reduceAdd → N2, reduceSub → N3, reduceMul → N4, reduceEqDiff → N5, reduceLeDiff → N6, reduceLT → N7
open Int renaming reduceLE → I1, reduceLT → I2, reduceToNat → I3
namespace Go.Proofs.YtehkpnfehfcphaaDoor.X
open Go
attribute [local irreducible] Ev
section
variable {C : CT} (hC : Closed Tryd.prog G1 md0 C)
include hC
theorem t91 (m : Mp) (i : Int) (hw : 1 ≤ m.w ∧ m.w ≤ 10) (hh : 1 ≤ m.h ∧ m.h ≤ 10) (hi : 0 ≤ i ∧ i < 300) : Ev C 91 [.agg (mpF m), .int .i64 i] (.agg [.int .i64 (i.tmod m.w), .int .i64 (i.tdiv m.w)]) := by
  have hb := hex_bnd hw hi
  simp only [mpF]
  refine rT hC Q91 ?_
  simp only [c91, push_cast, ↓J1, ↓J2, N1, N2, N3, reduceCtorEq, N4, N5, N6, reduceIte, N7, I1, I2, I3]
  rw [wrap64 (by omega) (by omega)]
  refine ⟨by omega, by omega, ?_⟩
  exact rtA
theorem t90 (q r d : Int) (hq : -1000 ≤ q ∧ q ≤ 1000) (hr : -1000 ≤ r ∧ r ≤ 1000) (hd : 0 ≤ d ∧ d < 6) : Ev C 90 [.agg [.int .i64 q, .int .i64 r], .int .i64 d, .int .i64 1] (.agg [.int .i64 (q + dq d.toNat), .int .i64 (r + dr d.toNat)]) := by
  have b1 := dq_bnd d.toNat
  have b2 := dr_bnd d.toNat
  obtain ⟨k, rfl⟩ : ∃ k : Nat, d = k := ⟨d.toNat, by omega⟩
  have hk : k = 0 ∨ k = 1 ∨ k = 2 ∨ k = 3 ∨ k = 4 ∨ k = 5 := by omega
  simp only [Int.toNat_natCast] at *
  have e1 : List.drop (k * 2) dirs = .int .i64 (dq k) :: .int .i64 (dr k) :: List.drop (k * 2 + 2) dirs := by
    rcases hk with rfl | rfl | rfl | rfl | rfl | rfl <;> rfl
  refine rT hC Q90 ?_
  simp only [c90, push_cast, ↓J1, ↓J2, N1, N2, N3, reduceCtorEq, N4, N5, N6, reduceIte, N7, I1, I2, I3]
  simp only [Int.toNat_natCast, e1, push_cast, ↓J1, ↓J2, N1, N2, N3, reduceCtorEq, N4, N5, N6, reduceIte, N7, I1, I2, I3]
  repeat (refine ⟨by omega, ?_⟩)
  rw [wrap64 (n := 1 * dq k) (by omega) (by omega), wrap64 (n := 1 * dr k) (by omega) (by omega)]
  rw [wrap64 (by omega) (by omega), wrap64 (by omega) (by omega)]
  simp only [Int.one_mul]
  exact rtA
theorem t89 (m : Mp) (q r : Int) (hw : 1 ≤ m.w ∧ m.w ≤ 10) (hh : 1 ≤ m.h ∧ m.h ≤ 10) (hq : -1000 ≤ q ∧ q ≤ 1000) (hr : -1000 ≤ r ∧ r ≤ 1000) : Ev C 89 [.agg (mpF m), .agg [.int .i64 q, .int .i64 r]] (.int .i64 (if inR 0 (m.w - 1) q && inR 0 (m.h - 1) r then r * m.w + q else -1)) := by
  simp only [mpF]
  refine rT hC Q89 ?_
  simp only [c89, push_cast, ↓J1, ↓J2, N1, N2, N3, reduceCtorEq, N4, N5, N6, reduceIte, N7, I1, I2, I3]
  refine ⟨_, tIdx hC _ _ (by omega), ?_⟩
  cases g1 : inR 0 (m.w - 1) q
  · simp only [push_cast, ↓J1, ↓J2, N1, N2, N3, reduceCtorEq, N4, N5, N6, reduceIte, N7, I1, I2, I3]
  · simp only [push_cast, ↓J1, ↓J2, N1, N2, N3, reduceCtorEq, N4, N5, N6, reduceIte, N7, I1, I2, I3]
    refine ⟨_, tIdx hC _ _ (by omega), ?_⟩
    cases g2 : inR 0 (m.h - 1) r
    · simp only [push_cast, ↓J1, ↓J2, N1, N2, N3, reduceCtorEq, N4, N5, N6, reduceIte, N7, I1, I2, I3]
    · simp only [inR, Bool.and_eq_true, decide_eq_true_eq] at g1 g2
      have hm : 0 ≤ r * m.w ∧ r * m.w ≤ 100 := ⟨Int.mul_nonneg (by omega) (by omega), by
        have := Int.mul_le_mul (show r ≤ 10 by omega) hw.2 (by omega) (by omega); omega⟩
      simp only [push_cast, ↓J1, ↓J2, N1, N2, N3, reduceCtorEq, N4, N5, N6, reduceIte, N7, I1, I2, I3]
      rw [wrap64 (n := r * m.w) (by omega) (by omega), wrap64 (by omega) (by omega)]
theorem t85 (m : Mp) (i d : Int) (hw : 1 ≤ m.w ∧ m.w ≤ 10) (hh : 1 ≤ m.h ∧ m.h ≤ 10) (hi : 0 ≤ i ∧ i < 300) (hd : 0 ≤ d ∧ d < 6) : Ev C 85 [.agg (mpF m), .int .i64 i, .int .i64 d] (.int .i64 (nextM m i d)) := by
  have hb := hex_bnd hw hi
  have b1 := dq_bnd d.toNat
  have b2 := dr_bnd d.toNat
  have c1 := t91 hC m i hw hh hi
  have c2 := t90 hC (i.tmod m.w) (i.tdiv m.w) d (by omega) (by omega) hd
  have c3 := t89 hC m (i.tmod m.w + dq d.toNat) (i.tdiv m.w + dr d.toNat) hw hh (by omega) (by omega)
  simp only [mpF] at *
  refine rT hC Q85 ?_
  simp only [c85, push_cast, ↓J1, ↓J2, N1, N2, N3, reduceCtorEq, N4, N5, N6, reduceIte, N7, I1, I2, I3]
  refine ⟨_, c1, ?_⟩
  simp only [push_cast, ↓J1, ↓J2, N1, N2, N3, reduceCtorEq, N4, N5, N6, reduceIte, N7, I1, I2, I3]
  refine ⟨_, c2, ?_⟩
  simp only [push_cast, ↓J1, ↓J2, N1, N2, N3, reduceCtorEq, N4, N5, N6, reduceIte, N7, I1, I2, I3]
  refine ⟨_, c3, ?_⟩
  simp only [push_cast, ↓J1, ↓J2, N1, N2, N3, reduceCtorEq, N4, N5, N6, reduceIte, N7, I1, I2, I3]
  rfl
theorem t75 (m : Mp) (e : Int) (hw : 1 ≤ m.w ∧ m.w ≤ 10) (hh : 1 ≤ m.h ∧ m.h ≤ 10) : Ev C 75 [.agg (mpF m), .int .i64 e] (.bool (edgeOk m e)) := by
  have hwh := wh_le hw hh
  have c2 := fun i d hi hd => t85 hC m i d hw hh hi hd
  simp only [mpF] at *
  refine rT hC Q75 ?_
  simp only [c75, push_cast, ↓J1, ↓J2, N1, N2, N3, reduceCtorEq, N4, N5, N6, reduceIte, N7, I1, I2, I3]
  rw [wrap64 (n := 3 * m.w) (by omega) (by omega), Int.mul_assoc, wrap64 (n := 3 * (m.w * m.h)) (by omega) (by omega), wrap64 (n := 3 * (m.w * m.h) - 1) (by omega) (by omega)]
  refine ⟨_, tRange hC _ _ _, ?_⟩
  simp only [edgeOk]
  cases g1 : inR 0 (3 * (m.w * m.h) - 1) e
  · simp only [push_cast, ↓J1, ↓J2, N1, N2, N3, reduceCtorEq, N4, N5, N6, reduceIte, N7, I1, I2, I3]
  · have he := g1
    simp only [inR, Bool.and_eq_true, decide_eq_true_eq] at he
    have hb := e3_bnd (e := e) (by omega)
    simp only [wrap64 (n := e.tdiv 3) (by omega) (by omega), push_cast, ↓J1, ↓J2, N1, N2, N3, reduceCtorEq, N4, N5, N6, reduceIte, N7, I1, I2, I3]
    repeat (refine ⟨by omega, ?_⟩)
    refine ⟨_, c2 _ _ hb.1 hb.2, ?_⟩
    simp only [push_cast, ↓J1, ↓J2, N1, N2, N3, reduceCtorEq, N4, N5, N6, reduceIte, N7, I1, I2, I3]
    rw [Bool.eq_iff_iff]; simp
omit hC in
theorem edges_eq (m : Mp) (l : List Int) : (upto (l.length - 1) (incP l) && l.all (edgeOk m)) = edgesOk m l := by
  have hin : l.all (edgeOk m) = true → ∀ x ∈ l, inR 0 (3 * (m.w * m.h) - 1) x = true := fun h x hx => by
    have := List.all_eq_true.1 h x hx
    simp only [edgeOk, Bool.and_eq_true] at this
    exact this.1
  rw [edgesOk, Bool.eq_iff_iff, Bool.and_eq_true, Bool.and_eq_true, upto_iff, upto_iff]
  constructor
  · rintro ⟨h1, h2⟩
    refine ⟨h2, fun j hj => ?_⟩
    have hm : l.getD j 0 ∈ l := by simp only [List.getD, List.getElem?_eq_getElem hj]; exact List.getElem_mem hj
    simp only [risP, hin h2 _ hm, Bool.true_and, Bool.or_eq_true, decide_eq_true_eq]
    by_cases h0 : j = 0
    · exact .inl h0
    · right
      have := h1 (j - 1) (by omega)
      simp only [incP, decide_eq_true_eq] at this
      rwa [show j - 1 + 1 = j by omega] at this
  · rintro ⟨h2, h⟩
    refine ⟨fun j hj => ?_, h2⟩
    have := h (j + 1) (by omega)
    simp only [risP, Bool.and_eq_true, Bool.or_eq_true, decide_eq_true_eq] at this
    simp only [incP, decide_eq_true_eq]
    have := this.2
    simp only [Nat.add_sub_cancel] at this
    omega
def rows2 (m : Mp) : List (List AV) := [[.sl (ints m.ri)], [.sl (ints m.ro)]]
def two (m : Mp) (i : Nat) : List Int := if i = 0 then m.ri else m.ro
omit hC in
theorem rows2_get {m : Mp} {i : Nat} (h : i < 2) : (rows2 m)[i]? = some [.sl (ints (two m i))] := by
  have : i = 0 ∨ i = 1 := by omega
  rcases this with rfl | rfl <;> rfl
omit hC in
theorem two_len {m : Mp} (hb : MpB (2^50) m) (i : Nat) : (two m i).length < 2^50 := by
  unfold two; split
  · exact hb.ri
  · exact hb.ro
omit hC in
theorem two_no {m : Mp} {i : Nat} (h : i < 2) (hf : edgesOk m (two m i) = false) : (edgesOk m m.ri && edgesOk m m.ro) = false := by
  have : i = 0 ∨ i = 1 := by omega
  rcases this with rfl | rfl
  · rw [show edgesOk m m.ri = false from hf]; rfl
  · rw [show edgesOk m m.ro = false from hf, Bool.and_false]
theorem t57 (m : Mp) (hb : MpB (2^50) m) : Ev C 57 [.agg (mpF m)] (.bool (mpOk m)) := by
  have b1 := hb.t
  have c1 := fun e hw hh => t75 hC m e hw hh
  simp only [mpF] at *
  refine rT hC Q57 ?_
  simp only [c57, ints_length, push_cast, ↓J1, ↓J2, N1, N2, N3, reduceCtorEq, N4, N5, N6, reduceIte, N7, I1, I2, I3]
  refine ⟨_, tRange hC _ _ _, ?_⟩
  cases g1 : inR 1 10 m.w
  · simp only [mpOk, g1, push_cast, ↓J1, ↓J2, N1, N2, N3, reduceCtorEq, N4, N5, N6, reduceIte, N7, I1, I2, I3]
  simp only [push_cast, ↓J1, ↓J2, N1, N2, N3, reduceCtorEq, N4, N5, N6, reduceIte, N7, I1, I2, I3]
  refine ⟨_, tRange hC _ _ _, ?_⟩
  cases g2 : inR 1 10 m.h
  · simp only [mpOk, g1, g2, push_cast, ↓J1, ↓J2, N1, N2, N3, reduceCtorEq, N4, N5, N6, reduceIte, N7, I1, I2, I3]
  have hw := g1
  have hh := g2
  simp only [inR, Bool.and_eq_true, decide_eq_true_eq] at hw hh
  have hwh := wh_le hw hh
  simp only [ints_length, push_cast, ↓J1, ↓J2, N1, N2, N3, reduceCtorEq, N4, N5, N6, reduceIte, N7, I1, I2, I3]
  rw [wrap64 (n := m.w * m.h) (by omega) (by omega)]
  cases g3 : decide ((m.t.length : Int) = m.w * m.h)
  · simp only [mpOk, g1, g2, g3, push_cast, ↓J1, ↓J2, N1, N2, N3, reduceCtorEq, N4, N5, N6, reduceIte, N7, I1, I2, I3]
  simp only [ints_length, push_cast, ↓J1, ↓J2, N1, N2, N3, reduceCtorEq, N4, N5, N6, reduceIte, N7, I1, I2, I3]
  refine RL_count (fun i => ⟨tb 66 .any [(1, .ptr 0 none 0 0 0), (31, .sl (ints m.t)), (32, .int .i64 (m.t.length : Int)), (33, .int .i64 (i : Int))], [(0, .var (mpF m))], 1⟩) (fun i => m.t.all (inR 0 5) = (m.t.drop i).all (inR 0 5)) m.t.length 0 (hdA [(0, 0)]) (by omega) rfl fun i hi' ht J hJ => ?_
  simp only [mpF]
  by_cases h1 : i < m.t.length
  · have e1 : (ints m.t)[i]? = some [.int .i64 m.t[i]] := by simp [ints, h1]
    rw [List.drop_eq_getElem_cons h1, List.all_cons] at ht
    simp only [Int.toNat_natCast, e1, push_cast, ↓J1, ↓J2, N1, N2, N3, reduceCtorEq, N4, N5, N6, reduceIte, N7, I1, I2, I3]
    refine ifB_intro (fun _ => ?_) (fun h => by simp at h; omega)
    repeat (refine ⟨by omega, ?_⟩)
    refine ⟨_, tIdx hC _ 6 (by omega), ?_⟩
    cases g4 : inR 0 (6 - 1) m.t[i]
    · have : m.t.all (inR 0 5) = false := by rw [ht, show inR 0 5 m.t[i] = false from g4]; rfl
      simp only [mpOk, this, push_cast, ↓J1, ↓J2, N1, N2, N3, reduceCtorEq, N4, N5, N6, reduceIte, N7, I1, I2, I3]
    · simp only [push_cast, ↓J1, ↓J2, N1, N2, N3, reduceCtorEq, N4, N5, N6, reduceIte, N7, I1, I2, I3]
      refine hJ h1 ?_ _ (hdA [(0, 0)])
      rw [ht, show inR 0 5 m.t[i] = true from g4, Bool.true_and]
  · simp only [ints_length, push_cast, ↓J1, ↓J2, N1, N2, N3, reduceCtorEq, N4, N5, N6, reduceIte, N7, I1, I2, I3]
    refine ifB_intro (fun h => by simp at h; omega) (fun h => ?_)
    rw [List.drop_eq_nil_of_le (by omega)] at ht
    clear hJ
    have g4 : m.t.all (inR 0 5) = true := ht
    rw [show mpOk m = (edgesOk m m.ri && edgesOk m m.ro) by simp only [mpOk, g1, g2, g3, g4, Bool.true_and]]
    refine RL_count (fun i => ⟨tb 66 .any [(1, .ptr 0 none 0 0 0), (45, .ref 1 none 1 0 2), (46, .int .i64 2), (47, .int .i64 (i : Int))], [(1, .slice 1 (rows2 m)), (0, .var (mpF m))], 2⟩) (fun i => ∀ j, j < i → edgesOk m (two m j) = true) 2 0 (hdA [(1, 1), (0, 0)]) (by omega) (by omega) fun i hi' ht J hJ => ?_
    simp only [mpF]
    by_cases h1 : i < 2
    · have e1 := rows2_get h1 (m := m)
      have hl := two_len hb i
      have hno := two_no h1 (m := m)
      generalize hL : two m i = l at *
      simp only [Int.toNat_natCast, e1, push_cast, ↓J1, ↓J2, N1, N2, N3, reduceCtorEq, N4, N5, N6, reduceIte, N7, I1, I2, I3]
      refine ifB_intro (fun _ => ?_) (fun h => by simp at h; omega)
      repeat (refine ⟨by omega, ?_⟩)
      refine ⟨_, t74 hC l hl, ?_⟩
      cases g5 : upto (l.length - 1) (incP l)
      · have hf : edgesOk m l = false := by rw [← edges_eq, g5]; rfl
        simp only [hno hf, push_cast, ↓J1, ↓J2, N1, N2, N3, reduceCtorEq, N4, N5, N6, reduceIte, N7, I1, I2, I3]
      simp only [ints_length, push_cast, ↓J1, ↓J2, N1, N2, N3, reduceCtorEq, N4, N5, N6, reduceIte, N7, I1, I2, I3]
      have eqe := edges_eq m l
      rw [g5, Bool.true_and] at eqe
      refine RL_count (fun k => ⟨tb 66 .any [(1, .ptr 0 none 0 0 0), (45, .ref 1 none 1 0 2), (46, .int .i64 2), (47, .int .i64 (i : Int)), (54, .sl (ints l)), (55, .int .i64 (l.length : Int)), (56, .int .i64 (k : Int))], [(1, .slice 1 (rows2 m)), (0, .var (mpF m))], 2⟩) (fun k => l.all (edgeOk m) = (l.drop k).all (edgeOk m)) l.length 0 (hdA [(1, 1), (0, 0)]) (by omega) rfl fun k hk' hk J' hJ' => ?_
      simp only [mpF]
      by_cases h2 : k < l.length
      · have e2 : (ints l)[k]? = some [.int .i64 l[k]] := by simp [ints, h2]
        rw [List.drop_eq_getElem_cons h2, List.all_cons] at hk
        simp only [Int.toNat_natCast, e2, push_cast, ↓J1, ↓J2, N1, N2, N3, reduceCtorEq, N4, N5, N6, reduceIte, N7, I1, I2, I3]
        refine ifB_intro (fun _ => ?_) (fun h => by simp at h; omega)
        repeat (refine ⟨by omega, ?_⟩)
        refine ⟨_, c1 l[k] hw hh, ?_⟩
        cases g6 : edgeOk m l[k]
        · have hf : edgesOk m l = false := by rw [← eqe, hk, g6]; rfl
          simp only [hno hf, push_cast, ↓J1, ↓J2, N1, N2, N3, reduceCtorEq, N4, N5, N6, reduceIte, N7, I1, I2, I3]
        · simp only [push_cast, ↓J1, ↓J2, N1, N2, N3, reduceCtorEq, N4, N5, N6, reduceIte, N7, I1, I2, I3]
          refine hJ' h2 ?_ _ (hdA [(1, 1), (0, 0)])
          rw [hk, g6, Bool.true_and]
      · simp only [ints_length, push_cast, ↓J1, ↓J2, N1, N2, N3, reduceCtorEq, N4, N5, N6, reduceIte, N7, I1, I2, I3]
        refine ifB_intro (fun h => by simp at h; omega) (fun h => ?_)
        rw [List.drop_eq_nil_of_le (by omega)] at hk
        have hf : edgesOk m l = true := by rw [← eqe, hk]; rfl
        refine hJ h1 (fun j hj => ?_) _ (hdA [(1, 1), (0, 0)])
        by_cases hij : j = i
        · subst hij; rw [hL]; exact hf
        · exact ht j (by omega)
    · simp only [push_cast, ↓J1, ↓J2, N1, N2, N3, reduceCtorEq, N4, N5, N6, reduceIte, N7, I1, I2, I3]
      refine ifB_intro (fun h => by simp at h; omega) (fun h => ?_)
      have a1 : edgesOk m m.ri = true := ht 0 (by omega)
      have a2 : edgesOk m m.ro = true := ht 1 (by omega)
      rw [a1, a2]; rfl
theorem t59 (x : Int) (b : Brd) : Ev C 59 [.int .i64 x, .pf (rulF b.r ++ mpF b.m)] (.bool (decide ((b.r.ts.length : Int) ≤ x))) := by
  simp only [rulF, mpF, List.cons_append, List.nil_append]
  refine rT hC Q59 ?_
  simp only [c59, tersF_length, push_cast, ↓J1, ↓J2, N1, N2, N3, reduceCtorEq, N4, N5, N6, reduceIte, N7, I1, I2, I3]
omit hC in
theorem brd_eq {b : Brd} (h : mpOk b.m = true) : (!b.m.t.any fun x => decide ((b.r.ts.length : Int) ≤ x)) = b.m.t.all (inR 0 (b.r.ts.length - 1)) := by
  have h5 : b.m.t.all (inR 0 5) = true := by
    simp only [mpOk, Bool.and_eq_true] at h; exact h.1.1.2
  rw [List.all_eq_true] at h5
  rw [Bool.eq_iff_iff]
  simp only [Bool.not_eq_true', List.any_eq_false, List.all_eq_true, decide_eq_true_eq]
  constructor
  · intro h1 x hx
    have := h1 x hx; have h6 := h5 x hx
    simp only [inR, Bool.and_eq_true, decide_eq_true_eq] at h6 ⊢; omega
  · intro h1 x hx
    have := h1 x hx
    simp only [inR, Bool.and_eq_true, decide_eq_true_eq] at this; omega
theorem t42 (b : Brd) (hb : BrdB (2^50) b) : Ev C 42 [brdF b] (.bool (brdOk b)) := by
  have c1 := t56 hC b.r hb.r
  have c2 := t57 hC b.m hb.m
  have c3 := t58 hC b.m.t 59 [.pf (rulF b.r ++ mpF b.m)] _ hb.m.t rfl rfl fun x _ => t59 hC x b
  simp only [brdF, rulF, mpF, brdOk, List.cons_append, List.nil_append] at *
  refine rT hC Q42 ?_
  simp only [c42, push_cast, ↓J1, ↓J2, N1, N2, N3, reduceCtorEq, N4, N5, N6, reduceIte, N7, I1, I2, I3]
  refine ⟨_, c1, ?_⟩
  cases g1 : rulOk b.r
  · simp only [push_cast, ↓J1, ↓J2, N1, N2, N3, reduceCtorEq, N4, N5, N6, reduceIte, N7, I1, I2, I3]
  simp only [push_cast, ↓J1, ↓J2, N1, N2, N3, reduceCtorEq, N4, N5, N6, reduceIte, N7, I1, I2, I3]
  refine ⟨_, c2, ?_⟩
  cases g2 : mpOk b.m
  · simp only [push_cast, ↓J1, ↓J2, N1, N2, N3, reduceCtorEq, N4, N5, N6, reduceIte, N7, I1, I2, I3]
  simp only [push_cast, ↓J1, ↓J2, N1, N2, N3, reduceCtorEq, N4, N5, N6, reduceIte, N7, I1, I2, I3]
  refine ⟨_, c3, ?_⟩
  simp only [push_cast, ↓J1, ↓J2, N1, N2, N3, reduceCtorEq, N4, N5, N6, reduceIte, N7, I1, I2, I3]
  exact brd_eq g2
end
end Go.Proofs.YtehkpnfehfcphaaDoor.X
set_option maxHeartbeats 4000000
set_option maxRecDepth 8000
set_option linter.unusedSimpArgs false
set_option linter.unusedVariables false
open Nat renaming reduceBEq → N1, reduceAdd → N2, reduceSub → N3, reduceMul → N4, reduceEqDiff → N5, reduceLeDiff → N6, reduceLT → N7
open Int renaming reduceLE → I1, reduceLT → I2, reduceToNat → I3
namespace Go.Proofs.YtehkpnfehfcphaaDoor.X
open Go
attribute [local irreducible] Ev
section
variable {C : CT} (hC : Closed Tryd.prog G1 md0 C)
include hC
omit hC in
theorem RulB.mono {A B : Nat} {r : Rul} (h : A ≤ B) (hb : RulB A r) : RulB B r := ⟨by have := hb.ts; omega, by have := hb.ks; omega, fun x hx => by have := hb.t x hx; omega, fun x hx => by have := hb.k x hx; omega⟩
omit hC in
theorem MpB.mono {A B : Nat} {m : Mp} (h : A ≤ B) (hb : MpB A m) : MpB B m := ⟨by have := hb.t; omega, by have := hb.ri; omega, by have := hb.ro; omega⟩
omit hC in
theorem BrdB.mono {A B : Nat} {b : Brd} (h : A ≤ B) (hb : BrdB A b) : BrdB B b := ⟨hb.r.mono h, hb.m.mono h⟩
omit hC in
theorem mp_wh {m : Mp} (h : mpOk m = true) : (1 ≤ m.w ∧ m.w ≤ 10) ∧ 1 ≤ m.h ∧ m.h ≤ 10 := by
  simp only [mpOk, inR, Bool.and_eq_true, decide_eq_true_eq] at h
  exact ⟨h.1.1.1.1.1, h.1.1.1.1.2⟩
omit hC in
theorem brd_mp {b : Brd} (h : brdOk b = true) : mpOk b.m = true := by
  simp only [brdOk, Bool.and_eq_true] at h; exact h.1.2
omit hC in
theorem brd_ru {b : Brd} (h : brdOk b = true) : rulOk b.r = true := by
  simp only [brdOk, Bool.and_eq_true] at h; exact h.1.1
def kindAsk (b : Brd) (k : Int) : Bool := brdOk b && inR 0 (b.r.ks.length - 1) k
def k0 : Kin := ⟨ByteArray.empty, 0, 0, 0, false, 0⟩
def kindOf (b : Brd) (k : Int) : Kin := b.r.ks.getD k.toNat k0
def priceOf (b : Brd) (k : Int) : Int := (kindOf b k).st * (kindOf b k).sp
omit hC in
theorem kins_get {b : Brd} {k : Nat} (h : k < b.r.ks.length) : (kins b.r.ks)[k]? = some (kinA (kindOf b k)) := by
  simp [kins, kindOf, List.getD, h]
omit hC in
theorem kin_bnd {b : Brd} {k : Int} (h : kindAsk b k = true) : okName (kindOf b k).n = true ∧ (1 ≤ (kindOf b k).st ∧ (kindOf b k).st ≤ 9) ∧ (0 ≤ (kindOf b k).mv ∧ (kindOf b k).mv ≤ 9) ∧ (1 ≤ (kindOf b k).sp ∧ (kindOf b k).sp ≤ 4) ∧ 0 ≤ (kindOf b k).v ∧ (kindOf b k).v ≤ 4 := by
  simp only [kindAsk, Bool.and_eq_true] at h
  have hr := brd_ru h.1
  have hk := h.2
  simp only [rulOk, Bool.and_eq_true] at hr
  simp only [inR, Bool.and_eq_true, decide_eq_true_eq] at hk
  have h1 : k.toNat < b.r.ks.length := by omega
  have := allI_get hr.1.2 k.toNat h1
  simp only [kinOk, Bool.and_eq_true] at this
  have e : kindOf b k = b.r.ks[k.toNat] := by simp [kindOf, List.getD, h1]
  rw [e]
  simp only [inR, Bool.and_eq_true, decide_eq_true_eq] at this
  simp only [this, and_self]
omit hC in
theorem price_bnd {b : Brd} {k : Int} (h : kindAsk b k = true) : 1 ≤ priceOf b k ∧ priceOf b k ≤ 36 := by
  obtain ⟨_, h1, _, h2, _⟩ := kin_bnd h
  constructor
  · have := Int.mul_le_mul h1.1 h2.1 (by omega) (by omega); simp only [priceOf]; omega
  · have := Int.mul_le_mul h1.2 h2.2 (by omega) (by omega); simp only [priceOf]; omega
omit hC in
theorem kind_at {b : Brd} {k : Int} (h : kindAsk b k = true) : 0 ≤ k ∧ k < b.r.ks.length := by
  simp only [kindAsk, inR, Bool.and_eq_true, decide_eq_true_eq] at h
  omega
end
end Go.Proofs.YtehkpnfehfcphaaDoor.X
set_option maxHeartbeats 4000000
set_option maxRecDepth 8000
set_option linter.unusedSimpArgs false
set_option linter.unusedVariables false
open Nat renaming reduceBEq → N1, reduceAdd → N2, reduceSub → N3, reduceMul → N4, reduceEqDiff → N5, reduceLeDiff → N6, reduceLT → N7
open Int renaming reduceLE → I1, reduceLT → I2, reduceToNat → I3
namespace Go.Proofs.YtehkpnfehfcphaaDoor.X
open Go
attribute [local irreducible] Ev
structure Wk where
  sd : Int
  at_ : Int
  pt : Int
  q : List Int
  deriving DecidableEq
def wkF (w : Wk) : List AV := [.int .i64 w.sd, .int .i64 w.at_, .int .i64 w.pt, .sl (ints w.q)]
def wkO (w : Wk) : List AV := [.int .i64 w.sd, .int .i64 w.at_, .int .i64 w.pt, .ow 1 (ints w.q)]
def szWk (w : Wk) (v : Int) : Int := sub1 v w.q.length
def wkR (b : Brd) (w : Wk) : Bool := inR 0 1 w.sd && inR 0 (b.m.w * b.m.h - 1) w.at_ && inR 0 200 w.pt && decide ((w.q.length : Int) ≤ 8) && w.q.all (inR 0 (b.r.ks.length - 1))
def wkOk (b : Brd) (w : Wk) : Bool := brdOk b && wkR b w
section
variable {C : CT} (hC : Closed Tryd.prog G1 md0 C)
include hC
omit hC in
theorem brd_wh {b : Brd} (h : brdOk b = true) : (b.m.t.length : Int) = b.m.w * b.m.h ∧ 1 ≤ b.m.w * b.m.h ∧ b.m.w * b.m.h ≤ 100 := by
  have h1 := brd_mp h
  have h2 := mp_wh h1
  simp only [mpOk, Bool.and_eq_true, decide_eq_true_eq] at h1
  exact ⟨h1.1.1.1.2, wh_le h2.1 h2.2⟩
theorem t5 (w : Wk) (v : Int) (hv : 0 ≤ v ∧ v < 2^50) (hq : w.q.length < 2^50) : Ev C 5 [.agg (wkF w), .int .i64 v] (.int .i64 (szWk w v)) := by
  simp only [wkF]
  refine rT hC Q5 ?_
  simp only [c5, push_cast, ↓J1, ↓J2, N1, N2, N3, reduceCtorEq, N4, N5, N6, reduceIte, N7, I1, I2, I3]
  refine ⟨_, t17 hC _ _ (by omega) (by rw [ints_length]; exact hq), ?_⟩
  rw [ints_length, if_sub]
  simp only [push_cast, ↓J1, ↓J2, N1, N2, N3, reduceCtorEq, N4, N5, N6, reduceIte, N7, I1, I2, I3]
  have h1 := sub1_le (n := w.q.length) hv.1
  refine ifB_intro (fun h => ?_) (fun h => ?_)
  · have := of_decide_eq_true h; simp only [szWk]; omega
  · rfl
theorem t8 (w : Wk) (hq : w.q.length < 2^30) : Ev C 8 [.agg (wkF w)] (.agg (wkO w)) := by
  simp only [wkF, wkO]
  refine rT hC Q8 ?_ (by simp only [ownR, ownRL, own_ints1, Bool.and_true])
  simp only [c8, push_cast, ↓J1, ↓J2, N1, N2, N3, reduceCtorEq, N4, N5, N6, reduceIte, N7, I1, I2, I3]
  refine ⟨_, t23 hC _ hq, ?_⟩
  simp only [push_cast, ↓J1, ↓J2, N1, N2, N3, reduceCtorEq, N4, N5, N6, reduceIte, N7, I1, I2, I3]
  exact rtA
theorem t10 (w x : Wk) (h1 : w.q.length < 2^50) (h2 : x.q.length < 2^50) : Ev C 10 [.agg (wkF w), .agg (wkF x)] (.bool (decide (w = x))) := by
  obtain ⟨a1, a2, a3, a4⟩ := w
  obtain ⟨b1, b2, b3, b4⟩ := x
  simp only [wkF]
  refine rT hC Q10 ?_
  simp only [c10, push_cast, ↓J1, ↓J2, N1, N2, N3, reduceCtorEq, N4, N5, N6, reduceIte, N7, I1, I2, I3]
  repeat' (first
    | simp only [push_cast, ↓J1, ↓J2, N1, N2, N3, reduceCtorEq, N4, N5, N6, reduceIte, N7, I1, I2, I3]
    | refine ⟨_, t28 hC _ _ h1 h2, ?_⟩
    | refine ifB_intro (fun h => ?_) (fun h => ?_))
  all_goals simp_all
theorem t18 (b : Brd) (w : Wk) (hb : BrdB (2^50) b) (hq : w.q.length < 2^50) : Ev C 18 [brdF b, .agg (wkF w)] (.bool (wkOk b w)) := by
  have c1 := t37 hC b hb
  have b2 := hb.r.ks
  simp only [brdF, rulF, mpF, List.cons_append, List.nil_append, wkF, wkOk] at *
  refine rT hC Q18 ?_
  simp only [c18, push_cast, ↓J1, ↓J2, N1, N2, N3, reduceCtorEq, N4, N5, N6, reduceIte, N7, I1, I2, I3]
  refine ⟨_, c1, ?_⟩
  cases g1 : brdOk b
  · simp only [push_cast, ↓J1, ↓J2, N1, N2, N3, reduceCtorEq, N4, N5, N6, reduceIte, N7, I1, I2, I3]
  have hwh := brd_wh g1
  have hm := mp_wh (brd_mp g1)
  have c2 := t38 hC b.m hm.1 hm.2
  simp only [mpF, wkR] at *
  simp only [push_cast, ↓J1, ↓J2, N1, N2, N3, reduceCtorEq, N4, N5, N6, reduceIte, N7, I1, I2, I3]
  refine ⟨_, tIn hC _ _ _, ?_⟩
  cases inR 0 1 w.sd
  · simp only [push_cast, ↓J1, ↓J2, N1, N2, N3, reduceCtorEq, N4, N5, N6, reduceIte, N7, I1, I2, I3]
  simp only [push_cast, ↓J1, ↓J2, N1, N2, N3, reduceCtorEq, N4, N5, N6, reduceIte, N7, I1, I2, I3]
  refine ⟨_, c2, ?_⟩
  simp only [push_cast, ↓J1, ↓J2, N1, N2, N3, reduceCtorEq, N4, N5, N6, reduceIte, N7, I1, I2, I3]
  rw [wrap64 (n := b.m.w * b.m.h - 1) (by omega) (by omega)]
  refine ⟨_, tIn hC _ _ _, ?_⟩
  cases inR 0 (b.m.w * b.m.h - 1) w.at_
  · simp only [push_cast, ↓J1, ↓J2, N1, N2, N3, reduceCtorEq, N4, N5, N6, reduceIte, N7, I1, I2, I3]
  simp only [push_cast, ↓J1, ↓J2, N1, N2, N3, reduceCtorEq, N4, N5, N6, reduceIte, N7, I1, I2, I3]
  refine ⟨_, tIn hC _ _ _, ?_⟩
  cases inR 0 200 w.pt
  · simp only [push_cast, ↓J1, ↓J2, N1, N2, N3, reduceCtorEq, N4, N5, N6, reduceIte, N7, I1, I2, I3]
  simp only [ints_length, push_cast, ↓J1, ↓J2, N1, N2, N3, reduceCtorEq, N4, N5, N6, reduceIte, N7, I1, I2, I3]
  cases decide ((w.q.length : Int) ≤ 8)
  · simp only [push_cast, ↓J1, ↓J2, N1, N2, N3, reduceCtorEq, N4, N5, N6, reduceIte, N7, I1, I2, I3]
  simp only [kins_length, push_cast, ↓J1, ↓J2, N1, N2, N3, reduceCtorEq, N4, N5, N6, reduceIte, N7, I1, I2, I3]
  rw [wrap64 (n := (b.r.ks.length : Int) - 1) (by omega) (by omega)]
  refine ⟨_, t39 hC _ _ _ hq, ?_⟩
  simp only [push_cast, ↓J1, ↓J2, N1, N2, N3, reduceCtorEq, N4, N5, N6, reduceIte, N7, I1, I2, I3]
theorem t60 (x : Int) : Ev C 60 [.int .i64 x] (.bool (inR 0 1 x)) := by
  refine rT hC Q60 ?_
  simp only [c60, push_cast, ↓J1, ↓J2, N1, N2, N3, reduceCtorEq, N4, N5, N6, reduceIte, N7, I1, I2, I3]
  refine ⟨_, tRange hC _ _ _, ?_⟩
  simp only [push_cast, ↓J1, ↓J2, N1, N2, N3, reduceCtorEq, N4, N5, N6, reduceIte, N7, I1, I2, I3]
theorem t61 (b : Brd) : Ev C 61 [brdF b] (.int .i64 (b.m.t.length : Int)) := by
  simp only [brdF, rulF, mpF, List.cons_append, List.nil_append]
  refine rT hC Q61 ?_
  simp only [c61, ints_length, push_cast, ↓J1, ↓J2, N1, N2, N3, reduceCtorEq, N4, N5, N6, reduceIte, N7, I1, I2, I3]
theorem t62 (x : Int) (b : Brd) (hb : b.r.ks.length < 2^50) : Ev C 62 [.int .i64 x, .pf (rulF b.r ++ mpF b.m)] (.bool (!inR 0 (b.r.ks.length - 1) x)) := by
  simp only [brdF, rulF, mpF, List.cons_append, List.nil_append]
  refine rT hC Q62 ?_
  simp only [c62, kins_length, push_cast, ↓J1, ↓J2, N1, N2, N3, reduceCtorEq, N4, N5, N6, reduceIte, N7, I1, I2, I3]
  refine ⟨_, tIdx hC _ _ (by omega), ?_⟩
  simp only [push_cast, ↓J1, ↓J2, N1, N2, N3, reduceCtorEq, N4, N5, N6, reduceIte, N7, I1, I2, I3]
theorem t43 (b : Brd) (w : Wk) (g : brdOk b = true) (hb : BrdB (2^50) b) (hq : w.q.length < 2^50) : Ev C 43 [brdF b, .agg (wkF w)] (.bool (wkR b w)) := by
  have hwh := brd_wh g
  have c1 := t61 hC b
  have c3 := t58 hC w.q 62 [.pf (rulF b.r ++ mpF b.m)] _ hq rfl rfl fun x _ => t62 hC x b hb.r.ks
  rw [hwh.1] at c1
  simp only [brdF, rulF, mpF, List.cons_append, List.nil_append, wkF, wkR] at *
  refine rT hC Q43 ?_
  simp only [c43, push_cast, ↓J1, ↓J2, N1, N2, N3, reduceCtorEq, N4, N5, N6, reduceIte, N7, I1, I2, I3]
  refine ⟨_, t60 hC _, ?_⟩
  cases inR 0 1 w.sd
  · simp only [push_cast, ↓J1, ↓J2, N1, N2, N3, reduceCtorEq, N4, N5, N6, reduceIte, N7, I1, I2, I3]
  simp only [push_cast, ↓J1, ↓J2, N1, N2, N3, reduceCtorEq, N4, N5, N6, reduceIte, N7, I1, I2, I3]
  refine ⟨_, c1, ?_⟩
  simp only [push_cast, ↓J1, ↓J2, N1, N2, N3, reduceCtorEq, N4, N5, N6, reduceIte, N7, I1, I2, I3]
  refine ⟨_, tIdx hC _ _ (by omega), ?_⟩
  cases inR 0 (b.m.w * b.m.h - 1) w.at_
  · simp only [push_cast, ↓J1, ↓J2, N1, N2, N3, reduceCtorEq, N4, N5, N6, reduceIte, N7, I1, I2, I3]
  simp only [push_cast, ↓J1, ↓J2, N1, N2, N3, reduceCtorEq, N4, N5, N6, reduceIte, N7, I1, I2, I3]
  refine ⟨_, tRange hC _ _ _, ?_⟩
  cases inR 0 200 w.pt
  · simp only [push_cast, ↓J1, ↓J2, N1, N2, N3, reduceCtorEq, N4, N5, N6, reduceIte, N7, I1, I2, I3]
  simp only [ints_length, push_cast, ↓J1, ↓J2, N1, N2, N3, reduceCtorEq, N4, N5, N6, reduceIte, N7, I1, I2, I3]
  have e8 : decide (8 < (w.q.length : Int)) = !decide ((w.q.length : Int) ≤ 8) := by
    rw [Bool.eq_iff_iff]; simp
  rw [e8]
  cases decide ((w.q.length : Int) ≤ 8)
  · simp only [push_cast, ↓J1, ↓J2, N1, N2, N3, reduceCtorEq, N4, N5, N6, reduceIte, N7, I1, I2, I3]
  simp only [push_cast, ↓J1, ↓J2, N1, N2, N3, reduceCtorEq, N4, N5, N6, reduceIte, N7, I1, I2, I3]
  refine ⟨_, c3, ?_⟩
  simp only [all_not, push_cast, ↓J1, ↓J2, N1, N2, N3, reduceCtorEq, N4, N5, N6, reduceIte, N7, I1, I2, I3]
theorem t24 (b : Brd) (w : Wk) (hb : BrdB (2^50) b) (hq : w.q.length < 2^50) : Ev C 24 [brdF b, .agg (wkF w)] (.bool (wkOk b w)) := by
  have c1 := t42 hC b hb
  have c2 := fun g => t43 hC b w g hb hq
  simp only [brdF, rulF, mpF, List.cons_append, List.nil_append, wkF, wkOk] at *
  refine rT hC Q24 ?_
  simp only [c24, push_cast, ↓J1, ↓J2, N1, N2, N3, reduceCtorEq, N4, N5, N6, reduceIte, N7, I1, I2, I3]
  refine ⟨_, c1, ?_⟩
  cases g1 : brdOk b
  · simp only [push_cast, ↓J1, ↓J2, N1, N2, N3, reduceCtorEq, N4, N5, N6, reduceIte, N7, I1, I2, I3]
  simp only [push_cast, ↓J1, ↓J2, N1, N2, N3, reduceCtorEq, N4, N5, N6, reduceIte, N7, I1, I2, I3]
  refine ⟨_, c2 g1, ?_⟩
  simp only [push_cast, ↓J1, ↓J2, N1, N2, N3, reduceCtorEq, N4, N5, N6, reduceIte, N7, I1, I2, I3]
omit hC in
theorem szBrd_le {b : Brd} {v : Int} (h0 : 0 ≤ v) (hB : v ≤ 2 ^ 50) : -1 ≤ szBrd b v ∧ szBrd b v ≤ v := by
  have h1 := szRul_le (r := b.r) h0 hB
  simp only [szBrd, andThen]
  split
  · omega
  · have h2 := szMp_le (m := b.m) (v := szRul b.r v) (by omega)
    split <;> omega
end
end Go.Proofs.YtehkpnfehfcphaaDoor.X
set_option maxHeartbeats 4000000
set_option maxRecDepth 8000
set_option linter.unusedSimpArgs false
set_option linter.unusedVariables false
open Nat renaming reduceBEq → N1, reduceAdd → N2, reduceSub → N3, reduceMul → N4, reduceEqDiff → N5, reduceLeDiff → N6, reduceLT → N7
open Int renaming reduceLE → I1, reduceLT → I2, reduceToNat → I3
namespace Go.Proofs.YtehkpnfehfcphaaDoor.X
open Go
attribute [local irreducible] Ev
def sumP (b : Brd) (l : List Int) : Int := l.foldl (fun s k => IntKind.i64.wrap (s + priceOf b k)) 0
theorem sumP_succ {b : Brd} {l : List Int} {i : Nat} (h : i < l.length) : sumP b (l.take (i + 1)) = IntKind.i64.wrap (sumP b (l.take i) + priceOf b l[i]) := by
  rw [sumP, List.take_succ_eq_append_getElem h, List.foldl_append]; rfl
theorem wk_brd {b : Brd} {w : Wk} (h : wkOk b w = true) : brdOk b = true := by
  simp only [wkOk, Bool.and_eq_true] at h; exact h.1
theorem wk_q {b : Brd} {w : Wk} (h : wkOk b w = true) : w.q.all (inR 0 (b.r.ks.length - 1)) = true := by
  simp only [wkOk, wkR, Bool.and_eq_true] at h; exact h.2.2
theorem wk_len {b : Brd} {w : Wk} (h : wkOk b w = true) : w.q.length ≤ 8 := by
  simp only [wkOk, wkR, Bool.and_eq_true, decide_eq_true_eq] at h; omega
def leftP (b : Brd) (w : Wk) (i : Int) : Int := IntKind.i64.wrap (sumP b (w.q.take (i + 1).toNat) - w.pt)
def tuAsk (b : Brd) (w : Wk) (i g : Int) : Bool := wkOk b w && inR 0 (w.q.length - 1) i && inR 0 50 g
def tuRes (b : Brd) (w : Wk) (i g : Int) : Int × Bool :=
  if tuAsk b w i g then if leftP b w i ≤ 0 then (0, true) else if g = 0 then (0, false) else (IntKind.i64.wrap ((IntKind.i64.wrap (IntKind.i64.wrap (leftP b w i + g) - 1)).tdiv g), true) else (0, false)
section
variable {C : CT} (hC : Closed Tryd.prog G1 md0 C)
include hC
end
end Go.Proofs.YtehkpnfehfcphaaDoor.X
set_option maxHeartbeats 2000000
set_option maxRecDepth 8000
set_option linter.unusedSimpArgs false
set_option linter.unusedVariables false
open Nat renaming reduceBEq → N1, reduceAdd → N2, reduceSub → N3, reduceMul → N4, reduceEqDiff → N5, reduceLeDiff → N6, reduceLT → N7
open Int renaming reduceLE → I1, reduceLT → I2, reduceToNat → I3
namespace Go.Proofs.YtehkpnfehfcphaaDoor.X
open Go
structure Un where
  sd : Int
  k : Int
  at_ : Int
  st : Int
  deriving DecidableEq
def unA (u : Un) : List AV := [.int .i64 u.sd, .int .i64 u.k, .int .i64 u.at_, .int .i64 u.st]
def uns (l : List Un) : List (List AV) := l.map unA
theorem uns_length (l : List Un) : (uns l).length = l.length := by simp [uns]
theorem uns_get {l : List Un} {i : Nat} (h : i < l.length) : (uns l)[i]? = some (unA l[i]) := by simp [uns, h]
theorem frzLL_uns (l : List Un) : frzLL (uns l) = uns l := by
  unfold uns
  induction l with
  | nil => rfl
  | cons x l ih => simp only [List.map_cons, frzLL, unA, frzL, frzT, ih]
theorem own_uns (l : List Un) : ownRLL (uns l) = true := by
  unfold uns
  induction l with
  | nil => rfl
  | cons x l ih => simp only [List.map_cons, ownRLL, unA, ownRL, ownR, Bool.and_true, Bool.true_and]; exact ih
structure Sta where
  t : Int
  w : Int
  us : List Un
  deriving DecidableEq
def staF (s : Sta) : List AV := [.int .i64 s.t, .int .i64 s.w, .sl (uns s.us)]
def staO (s : Sta) : List AV := [.int .i64 s.t, .int .i64 s.w, .ow 4 (uns s.us)]
def szSta (s : Sta) (v : Int) : Int := sub1 v s.us.length
def ter0 : Ter := ⟨ByteArray.empty, [], 0, 0, false⟩
def terAt (b : Brd) (i : Int) : Ter := b.r.ts.getD (b.m.t.getD i.toNat 0).toNat ter0
def costAt (b : Brd) (k i : Int) : Int := (terAt b i).c.getD k.toNat 0
def placed (b : Brd) (u : Un) : Bool := decide (0 < u.st) && inR 0 (b.m.w * b.m.h - 1) u.at_ && decide (0 < costAt b u.k u.at_)
def unOk (b : Brd) (u : Un) : Bool := inR 0 1 u.sd && inR 0 (b.r.ks.length - 1) u.k && inR 0 (kindOf b u.k).sp u.st && (decide (u.at_ = -1) || placed b u)
def isAt (a sd : Int) (u : Un) : Bool := decide (u.at_ = a) && decide (u.sd = sd)
def cnt (us : List Un) (a sd : Int) : Nat := us.countP (isAt a sd)
def stackOk (b : Brd) (us : List Un) (u : Un) : Bool := !(decide (0 ≤ u.at_) && (decide (0 < cnt us u.at_ (1 - u.sd)) || decide (b.r.stack < (cnt us u.at_ u.sd : Int))))
def staOk0 (b : Brd) (s : Sta) : Bool := inR 0 b.r.turns s.t && inR 0 2 s.w && decide ((s.us.length : Int) ≤ 12) && s.us.all (unOk b) && s.us.all (stackOk b s.us)
def staOk (b : Brd) (s : Sta) : Bool := brdOk b && staOk0 b s
theorem cnt_take_le (us : List Un) (n : Nat) (a sd : Int) : cnt (us.take n) a sd ≤ cnt us a sd := (List.take_sublist n us).countP_le
theorem cnt_succ {us : List Un} {i : Nat} (h : i < us.length) (a sd : Int) : cnt (us.take (i + 1)) a sd = cnt (us.take i) a sd + if isAt a sd us[i] then 1 else 0 := by
  rw [cnt, List.take_succ_eq_append_getElem h, List.countP_append]
  simp only [List.countP_cons, List.countP_nil, Nat.zero_add, cnt]
theorem cnt_le_len (us : List Un) (a sd : Int) : cnt us a sd ≤ us.length := List.countP_le_length
theorem cnt_last {a sd : Int} : ∀ {us : List Un}, 0 < cnt us a sd → ∃ m, ∃ h : m < us.length, isAt a sd us[m] = true ∧ cnt (us.take (m + 1)) a sd = cnt us a sd := by
  intro us
  have key : ∀ n, n ≤ us.length → 0 < cnt (us.take n) a sd → ∃ m, ∃ h : m < us.length, isAt a sd us[m] = true ∧ cnt (us.take (m + 1)) a sd = cnt (us.take n) a sd := by
    intro n
    induction n with
    | zero => intro _ h; simp [cnt] at h
    | succ n ih =>
      intro hn h
      have hs := cnt_succ (us := us) (i := n) (by omega) a sd
      by_cases hi : isAt a sd us[n] = true
      · exact ⟨n, by omega, hi, rfl⟩
      · rw [if_neg hi, Nat.add_zero] at hs
        obtain ⟨m, hm, h1, h2⟩ := ih (by omega) (by omega)
        exact ⟨m, hm, h1, by omega⟩
  intro h
  obtain ⟨m, hm, h1, h2⟩ := key us.length (Nat.le_refl _) (by rw [List.take_length]; exact h)
  exact ⟨m, hm, h1, by rw [h2, List.take_length]⟩
theorem stack_mono {b : Brd} {us : List Un} {u : Un} (n : Nat) (h : stackOk b us u = true) : stackOk b (us.take n) u = true := by
  simp only [stackOk, Bool.not_eq_true', Bool.and_eq_false_iff, Bool.or_eq_false_iff, decide_eq_false_iff_not] at h ⊢
  have h1 := cnt_take_le us n u.at_ (1 - u.sd)
  have h2 := cnt_take_le us n u.at_ u.sd
  rcases h with h | ⟨h, h'⟩
  · exact .inl h
  · exact .inr ⟨by omega, by omega⟩
theorem un_sd {b : Brd} {u : Un} (h : unOk b u = true) : u.sd = 0 ∨ u.sd = 1 := by
  simp only [unOk, inR, Bool.and_eq_true, decide_eq_true_eq] at h
  omega
theorem stack_all {b : Brd} {us : List Un} (hu : ∀ i (h : i < us.length), unOk b us[i] = true) (hs : ∀ i (h : i < us.length), stackOk b (us.take (i + 1)) us[i] = true) : us.all (stackOk b us) = true := by
  rw [List.all_eq_true]
  intro u hm
  obtain ⟨i, hi, rfl⟩ := List.getElem_of_mem hm
  simp only [stackOk, Bool.not_eq_true', Bool.and_eq_false_iff, Bool.or_eq_false_iff, decide_eq_false_iff_not]
  by_cases ha : 0 ≤ us[i].at_
  · right
    constructor
    · intro hc
      obtain ⟨j, hj, h1, h2⟩ := cnt_last hc
      simp only [isAt, Bool.and_eq_true, decide_eq_true_eq] at h1
      rcases Nat.lt_trichotomy i j with hij | hij | hij
      · have := hs j hj
        simp only [stackOk, Bool.not_eq_true', Bool.and_eq_false_iff, Bool.or_eq_false_iff, decide_eq_false_iff_not] at this
        rcases this with this | ⟨this, _⟩
        · omega
        · apply this
          refine List.countP_pos_iff.2 ⟨us[i], ?_, ?_⟩
          · exact List.mem_take_iff_getElem.2 ⟨i, by omega, rfl⟩
          · simp only [isAt, Bool.and_eq_true, decide_eq_true_eq]; omega
      · subst hij; rcases un_sd (hu i hi) with e | e <;> omega
      · have := hs i hi
        simp only [stackOk, Bool.not_eq_true', Bool.and_eq_false_iff, Bool.or_eq_false_iff, decide_eq_false_iff_not] at this
        rcases this with this | ⟨this, _⟩
        · omega
        · apply this
          refine List.countP_pos_iff.2 ⟨us[j], ?_, ?_⟩
          · exact List.mem_take_iff_getElem.2 ⟨j, by omega, rfl⟩
          · simp only [isAt, Bool.and_eq_true, decide_eq_true_eq]; omega
    · intro hc
      have hp : 0 < cnt us us[i].at_ us[i].sd := List.countP_pos_iff.2 ⟨us[i], List.getElem_mem hi, by simp [isAt]⟩
      obtain ⟨j, hj, h1, h2⟩ := cnt_last hp
      simp only [isAt, Bool.and_eq_true, decide_eq_true_eq] at h1
      have := hs j hj
      simp only [stackOk, Bool.not_eq_true', Bool.and_eq_false_iff, Bool.or_eq_false_iff, decide_eq_false_iff_not, h1.1, h1.2] at this
      rcases this with this | ⟨_, this⟩
      · omega
      · omega
  · exact .inl ha
def tblRow (us : List Un) (h : Nat) : List AV := [.int .i64 (cnt us h 0 : Int), .int .i64 (cnt us h 1 : Int)]
def tblR (us : List Un) (n : Nat) : List (List AV) := (List.range n).map (tblRow us)
theorem tblR_length (us : List Un) (n : Nat) : (tblR us n).length = n := by simp [tblR]
theorem tblR_get {us : List Un} {n h : Nat} (hh : h < n) : (tblR us n)[h]? = some (tblRow us h) := by simp [tblR, hh]
theorem tblR_nil (n : Nat) : tblR [] n = List.replicate n [.int .i64 0, .int .i64 0] := by
  apply List.ext_getElem (by simp [tblR])
  intro i h1 h2
  simp [tblR, tblRow, cnt]
theorem tblR_away {us : List Un} {i n : Nat} (h : i < us.length) (ha : us[i].at_ < 0) : tblR (us.take (i + 1)) n = tblR (us.take i) n := by
  unfold tblR
  apply List.map_congr_left
  intro x _
  simp only [tblRow, cnt_succ h]
  have e : ∀ sd, isAt (x : Int) sd us[i] = false := fun sd => by simp only [isAt, Bool.and_eq_false_iff, decide_eq_false_iff_not]; omega
  simp [e]
theorem tblR_add {us : List Un} {i n a s : Nat} (h : i < us.length) (ha : us[i].at_ = a) (hs : us[i].sd = s) (hs2 : s < 2) (han : a < n) : tblR (us.take (i + 1)) n = (tblR (us.take i) n).set a ((tblRow (us.take i) a).set s (.int .i64 ((cnt (us.take i) a s : Int) + 1))) := by
  apply List.ext_getElem (by simp [tblR])
  intro x h1 h2
  rw [List.getElem_set]
  simp only [tblR, List.getElem_map, List.getElem_range]
  by_cases hx : a = x
  · subst hx
    rw [if_pos rfl]
    have e : ∀ sd : Int, isAt (a : Int) sd us[i] = decide ((s : Int) = sd) := fun sd => by simp [isAt, ha, hs]
    have : s = 0 ∨ s = 1 := by omega
    rcases this with rfl | rfl <;> simp [tblRow, cnt_succ h, e]
  · rw [if_neg hx]
    have e : ∀ sd, isAt (x : Int) sd us[i] = false := fun sd => by simp only [isAt, Bool.and_eq_false_iff, decide_eq_false_iff_not]; omega
    simp [tblRow, cnt_succ h, e]
def fil {α : Type} (p : α → Bool) (l : List α) (n : Nat) : List Int := ((List.range n).filter fun i => match l[i]? with | some u => p u | none => false).map fun (i : Nat) => (i : Int)
theorem fil_succ {α : Type} {p : α → Bool} {l : List α} {n : Nat} (h : n < l.length) : fil p l (n + 1) = if p l[n] then fil p l n ++ [(n : Int)] else fil p l n := by
  simp only [fil, List.range_succ, List.filter_append, List.map_append, List.filter_cons, List.filter_nil, List.getElem?_eq_getElem h]
  split <;> simp
theorem fil_len {α : Type} {p : α → Bool} {l : List α} : ∀ {n : Nat}, n ≤ l.length → (fil p l n).length = (l.take n).countP p := by
  intro n
  induction n with
  | zero => intro _; simp [fil]
  | succ n ih =>
    intro h
    rw [fil_succ (by omega), List.take_succ_eq_append_getElem h, List.countP_append]
    have := ih (by omega)
    split <;> rename_i hp <;> simp [this, hp]
theorem fil_le {α : Type} {p : α → Bool} {l : List α} {n : Nat} (h : n ≤ l.length) : (fil p l n).length ≤ l.length := by
  rw [fil_len h]
  have := List.countP_le_length (p := p) (l := l.take n)
  simp at this; omega
theorem fil_mem {α : Type} {p : α → Bool} {l : List α} {n : Nat} {x : Int} (h : x ∈ fil p l n) : ∃ k : Nat, ∃ hk : k < l.length, x = k ∧ k < n ∧ p l[k] = true := by
  simp only [fil, List.mem_map, List.mem_filter, List.mem_range] at h
  obtain ⟨k, ⟨h1, h2⟩, rfl⟩ := h
  split at h2
  · rename_i u hu
    have hk := (List.getElem?_eq_some_iff.1 hu)
    exact ⟨k, hk.1, rfl, h1, by rw [hk.2]; exact h2⟩
  · cases h2
theorem terOk_len {b : Brd} (g : brdOk b = true) {i : Nat} (h : i < b.r.ts.length) : b.r.ts[i].c.length = b.r.ks.length ∧ ∀ x ∈ b.r.ts[i].c, 0 ≤ x ∧ x ≤ 9 := by
  have hr := brd_ru g
  simp only [rulOk, Bool.and_eq_true] at hr
  have := allI_get hr.1.1.2 i h
  simp only [terOk, Bool.and_eq_true, decide_eq_true_eq, List.all_eq_true] at this
  refine ⟨by have := this.1.1.1.2; omega, fun x hx => ?_⟩
  have := this.1.1.2 x hx
  simp only [inR, Bool.and_eq_true, decide_eq_true_eq] at this
  exact this
theorem ter_in {b : Brd} (g : brdOk b = true) {i : Nat} (h : i < b.m.t.length) : 0 ≤ b.m.t.getD i 0 ∧ b.m.t.getD i 0 < b.r.ts.length := by
  have : b.m.t.all (inR 0 (b.r.ts.length - 1)) = true := by simp only [brdOk, Bool.and_eq_true] at g; exact g.2
  rw [List.all_eq_true] at this
  have := this (b.m.t[i]) (List.getElem_mem h)
  simp only [inR, Bool.and_eq_true, decide_eq_true_eq] at this
  simp only [List.getD, List.getElem?_eq_getElem h, Option.getD_some]
  omega
end Go.Proofs.YtehkpnfehfcphaaDoor.X
set_option maxHeartbeats 4000000
set_option maxRecDepth 8000
set_option linter.unusedSimpArgs false
set_option linter.unusedVariables false
open Nat renaming reduceBEq → N1, reduceAdd → N2, reduceSub → N3, reduceMul → N4, reduceEqDiff → N5, reduceLeDiff → N6, reduceLT → N7
open Int renaming reduceLE → I1, reduceLT → I2, reduceToNat → I3
namespace Go.Proofs.YtehkpnfehfcphaaDoor.X
open Go
attribute [local irreducible] Ev
section
variable {C : CT} (hC : Closed Tryd.prog G1 md0 C)
include hC
end
end Go.Proofs.YtehkpnfehfcphaaDoor.X
set_option maxHeartbeats 4000000
set_option maxRecDepth 8000
set_option linter.unusedSimpArgs false
set_option linter.unusedVariables false
open Nat renaming reduceBEq → N1, reduceAdd → N2, reduceSub → N3, reduceMul → N4, reduceEqDiff → N5, reduceLeDiff → N6, reduceLT → N7
open Int renaming reduceLE → I1, reduceLT → I2, reduceToNat → I3
namespace Go.Proofs.YtehkpnfehfcphaaDoor.X
open Go
attribute [local irreducible] Ev
section
variable {C : CT} (hC : Closed Tryd.prog G1 md0 C)
include hC
omit hC in
theorem cost_get {b : Brd} {k : Nat} {i : Int} (g : brdOk b = true) (hk : k < b.r.ks.length) (hi : inR 0 (b.m.w * b.m.h - 1) i = true) : (ints (terAt b i).c)[k]? = some [.int .i64 (costAt b k i)] ∧ 0 ≤ costAt b k i ∧ costAt b k i ≤ 9 ∧ (terAt b i).c.length = b.r.ks.length := by
  have hwh := brd_wh g
  simp only [inR, Bool.and_eq_true, decide_eq_true_eq] at hi
  have h1 : i.toNat < b.m.t.length := by omega
  have ht := ter_in g h1
  have h2 : (b.m.t.getD i.toNat 0).toNat < b.r.ts.length := by omega
  have e : terAt b i = b.r.ts[(b.m.t.getD i.toNat 0).toNat] := by
    simp only [terAt]
    rw [List.getD, List.getElem?_eq_getElem h2, Option.getD_some]
  have hl := terOk_len g h2
  rw [← e] at hl
  have h3 : k < (terAt b i).c.length := by omega
  have hm : costAt b k i ∈ (terAt b i).c := by
    simp only [costAt, Int.toNat_natCast, List.getD, List.getElem?_eq_getElem h3, Option.getD_some]
    exact List.getElem_mem h3
  refine ⟨?_, (hl.2 _ hm).1, (hl.2 _ hm).2, hl.1⟩
  have := ints_get h3
  simpa only [costAt, Int.toNat_natCast] using this
omit hC in
theorem un_kind {b : Brd} {u : Un} (g : brdOk b = true) (h : inR 0 (b.r.ks.length - 1) u.k = true) : kindAsk b u.k = true := by
  simp only [kindAsk, g, h, Bool.and_self]
end
end Go.Proofs.YtehkpnfehfcphaaDoor.X
set_option maxHeartbeats 4000000
set_option maxRecDepth 8000
set_option linter.unusedSimpArgs false
set_option linter.unusedVariables false
open Nat renaming reduceBEq → N1, reduceAdd → N2, reduceSub → N3, reduceMul → N4, reduceEqDiff → N5, reduceLeDiff → N6, reduceLT → N7
open Int renaming reduceLE → I1, reduceLT → I2, reduceToNat → I3
namespace Go.Proofs.YtehkpnfehfcphaaDoor.X
open Go
attribute [local irreducible] Ev
def hasU (b : Brd) (s : Sta) (u : Int) : Bool := staOk b s && inR 0 (s.us.length - 1) u
def un0 : Un := ⟨0, 0, 0, 0⟩
def unOf (s : Sta) (u : Int) : Un := s.us.getD u.toNat un0
def canRe (b : Brd) (u : Un) : Bool := decide (0 ≤ u.at_) && decide (u.st < (kindOf b u.k).sp)
def hurt (b : Brd) (s : Sta) (u : Int) : Bool := hasU b s u && canRe b (unOf s u)
theorem uns_un {s : Sta} {k : Nat} (h : k < s.us.length) : (uns s.us)[k]? = some (unA (unOf s k)) := by
  simp [uns, unOf, List.getD, h]
theorem sta_brd {b : Brd} {s : Sta} (h : staOk b s = true) : brdOk b = true := by
  simp only [staOk, Bool.and_eq_true] at h; exact h.1
theorem sta_un {b : Brd} {s : Sta} (h : staOk b s = true) {k : Nat} (hk : k < s.us.length) : unOk b (unOf s k) = true := by
  simp only [staOk, staOk0, Bool.and_eq_true, List.all_eq_true] at h
  have := h.2.1.2 _ (List.getElem_mem hk)
  simpa [unOf, List.getD, hk] using this
theorem sta_kind {b : Brd} {s : Sta} (h : staOk b s = true) {k : Nat} (hk : k < s.us.length) : kindAsk b (unOf s k).k = true := by
  have := sta_un h hk
  simp only [unOk, Bool.and_eq_true] at this
  exact un_kind (sta_brd h) this.1.1.2
theorem sta_len {b : Brd} {s : Sta} (h : staOk b s = true) : s.us.length ≤ 12 := by
  simp only [staOk, staOk0, Bool.and_eq_true, decide_eq_true_eq] at h; omega
theorem unOk_at {b : Brd} {u : Un} (h : unOk b u = true) (ha : ¬ u.at_ < 0) : 0 ≤ u.at_ ∧ u.at_ < b.m.w * b.m.h := by
  simp only [unOk, placed, inR, Bool.and_eq_true, Bool.or_eq_true, decide_eq_true_eq] at h
  omega
theorem ints_sn (l : List Int) (x : Int) : ints l ++ [[.int .i64 x]] = ints (l ++ [x]) := by simp [ints]
theorem fil_cnt {us : List Un} {a sd : Int} : (fil (isAt a sd) us us.length).length = cnt us a sd := by
  rw [fil_len (Nat.le_refl _), List.take_length]; rfl
section
variable {C : CT} (hC : Closed Tryd.prog G1 md0 C)
include hC
end
end Go.Proofs.YtehkpnfehfcphaaDoor.X
set_option maxHeartbeats 1000000
set_option maxRecDepth 8000
set_option linter.unusedSimpArgs false
set_option linter.unusedSectionVars false
set_option linter.unusedVariables false
open Nat renaming reduceBEq → N1, reduceAdd → N2, reduceSub → N3, reduceMul → N4, reduceEqDiff → N5, reduceLeDiff → N6, reduceLT → N7
open Int renaming reduceLE → I1, reduceLT → I2, reduceToNat → I3
namespace Go.Proofs.YtehkpnfehfcphaaDoor.X
open Go
def intss (W : List (List Int)) : List (List AV) := W.map fun r => [.sl (ints r)]
def owss (W : List (List Int)) : List (List AV) := W.map fun r => [.ow 1 (ints r)]
theorem intss_length (W : List (List Int)) : (intss W).length = W.length := by simp [intss]
theorem owss_length (W : List (List Int)) : (owss W).length = W.length := by simp [owss]
theorem frzLL_owss (W : List (List Int)) : frzLL (owss W) = intss W := by
  unfold owss intss
  induction W with
  | nil => rfl
  | cons x l ih => simp only [List.map_cons, frzLL, frzL, frzT, frzLL_ints, ih]
theorem own_intss (W : List (List Int)) : ownR (.ow 1 (owss W)) = true := by
  simp only [ownR]
  unfold owss
  induction W with
  | nil => rfl
  | cons x l ih =>
    have e2 := own_ints x
    simp only [ownR] at e2
    simp only [List.map_cons, ownRLL, ownRL, ownR, e2, Bool.and_true, Bool.true_and]; exact ih
def lens (W : List (List Int)) : Nat := (W.map List.length).sum
def szRows : List (List Int) → Int → Int
  | [], v => v
  | r :: W, v => if v < r.length then -1 else szRows W (v - r.length)
def szSS (W : List (List Int)) (v : Int) : Int := if v < W.length then -1 else szRows W (v - W.length)
theorem szRows_le {B : Int} : ∀ (W : List (List Int)) (v : Int), 0 ≤ v → v ≤ B → 0 ≤ szRows W v → ∀ r ∈ W, (r.length : Int) ≤ B
  | [], v, _, _, _, r, hr => by simp at hr
  | s :: W, v, h0, hB, h, r, hr => by
    simp only [szRows] at h
    split at h
    · omega
    · rename_i hs
      rcases List.mem_cons.1 hr with rfl | hr
      · omega
      · exact szRows_le W (v - s.length) (by omega) (by omega) h r hr
theorem szSS_le {W : List (List Int)} {v : Int} (h0 : 0 ≤ v) (h : 0 ≤ szSS W v) : (W.length : Int) ≤ v ∧ ∀ r ∈ W, (r.length : Int) ≤ v := by
  simp only [szSS] at h
  split at h
  · omega
  · rename_i hs
    exact ⟨by omega, szRows_le W _ (by omega) (by omega) h⟩
theorem lens_succ {W : List (List Int)} {i : Nat} (h : i < W.length) : lens (W.take (i + 1)) = lens (W.take i) + W[i].length := by
  rw [lens, List.take_succ_eq_append_getElem h, List.map_append, List.sum_append]; simp only [lens, List.map_cons, List.map_nil, List.sum_cons, List.sum_nil, Nat.add_zero]
def sumW (r : List Int) : Int := r.foldl (fun a x => IntKind.i64.wrap (a + x)) 0
theorem sumW_succ {r : List Int} {i : Nat} (h : i < r.length) : sumW (r.take (i + 1)) = IntKind.i64.wrap (sumW (r.take i) + r[i]) := by
  rw [sumW, List.take_succ_eq_append_getElem h, List.foldl_append]; rfl
def rowOk (r : List Int) : Bool := decide (r.length = 3) && r.all (inR 0 36) && decide (sumW r = 36)
def goodW (W : List (List Int)) : Bool := decide (W.length = 3) && W.all rowOk
def clA (W : List (List Int)) : AV := .agg [.sl (intss W)]
def clO (W : List (List Int)) : AV := .agg [.ow 1 (owss W)]
theorem own_cl (W : List (List Int)) : ownR (clO W) = true := by
  have e1 := own_intss W
  simp only [ownR] at e1
  simp only [clO, ownR, ownRL, e1, Bool.and_true]
section
variable {C : CT} (hC : Closed Tryd.prog G1 md0 C)
include hC
end
end Go.Proofs.YtehkpnfehfcphaaDoor.X
set_option maxHeartbeats 1000000
set_option maxRecDepth 8000
set_option linter.unusedSimpArgs false
set_option linter.unusedVariables false
open Nat renaming reduceBEq → N1, reduceAdd → N2, reduceSub → N3, reduceMul → N4, reduceEqDiff → N5, reduceLeDiff → N6, reduceLT → N7
open Int renaming reduceLE → I1, reduceLT → I2, reduceToNat → I3
namespace Go.Proofs.YtehkpnfehfcphaaDoor.X
open Go
theorem sum3 {a b c : Int} (ha : inR 0 36 a = true) (hb : inR 0 36 b = true) (hc : inR 0 36 c = true) : sumW [a, b, c] = a + b + c := by
  simp only [inR, Bool.and_eq_true, decide_eq_true_eq] at ha hb hc
  simp only [sumW, List.foldl]
  rw [Int.zero_add, wrap64 (n := a) (by omega) (by omega), wrap64 (n := a + b) (by omega) (by omega), wrap64 (by omega) (by omega)]
section
variable {C : CT} (hC : Closed Tryd.prog G1 md0 C)
include hC
end
end Go.Proofs.YtehkpnfehfcphaaDoor.X
set_option maxHeartbeats 4000000
set_option maxRecDepth 8000
set_option linter.unusedSimpArgs false
set_option linter.unusedVariables false
open Nat renaming reduceBEq → N1, reduceAdd → N2, reduceSub → N3, reduceMul → N4, reduceEqDiff → N5, reduceLeDiff → N6, reduceLT → N7
open Int renaming reduceLE → I1, reduceLT → I2, reduceToNat → I3
namespace Go.Proofs.YtehkpnfehfcphaaDoor.X
open Go
attribute [local irreducible] Ev
structure Od where
  a : Int
  b : Int
  deriving DecidableEq
def odA (o : Od) : List AV := [.int .i64 o.a, .int .i64 o.b]
def ods (l : List Od) : List (List AV) := l.map odA
theorem ods_length (l : List Od) : (ods l).length = l.length := by simp [ods]
theorem frzLL_ods (l : List Od) : frzLL (ods l) = ods l := by
  unfold ods
  induction l with
  | nil => rfl
  | cons x l ih => simp only [List.map_cons, frzLL, odA, frzL, frzT, ih]
theorem own_ods (l : List Od) : ownRLL (ods l) = true := by
  unfold ods
  induction l with
  | nil => rfl
  | cons x l ih => simp only [List.map_cons, ownRLL, odA, ownRL, ownR, Bool.and_true, Bool.true_and]; exact ih
theorem own_owss (W : List (List Int)) : ownRLL (owss W) = true := by have := own_intss W; simpa only [ownR] using this
structure Ct where
  cs : List Od
  d : Int
  rs : List (List Int)
  deriving DecidableEq
def ctF (t : Ct) : List AV := [.sl (ods t.cs), .int .i64 t.d, .sl (intss t.rs)]
def ctO (t : Ct) : List AV := [.ow 2 (ods t.cs), .int .i64 t.d, .ow 1 (owss t.rs)]
structure SSB (B : Nat) (W : List (List Int)) : Prop where
  l : W.length < B
  r : ∀ r ∈ W, r.length < B
structure CtB (B : Nat) (t : Ct) : Prop where
  c : t.cs.length < B
  r : SSB B t.rs
def sz1 (l : List Od) (v : Int) : Int := sub1 v l.length
def szCt (t : Ct) : Int → Int := andThen (sz1 t.cs) (szSS t.rs)
def szCl (W : List (List Int)) (v : Int) : Int := if szSS W v < 0 then -1 else szSS W v
theorem szRows_rng : ∀ (W : List (List Int)) (v : Int), 0 ≤ v → -1 ≤ szRows W v ∧ szRows W v ≤ v
  | [], v, h => by simp only [szRows]; omega
  | r :: W, v, h => by
    simp only [szRows]
    split
    · omega
    · have := szRows_rng W (v - r.length) (by omega); omega
theorem szSS_rng {W : List (List Int)} {v : Int} (h : 0 ≤ v) : -1 ≤ szSS W v ∧ szSS W v ≤ v := by
  simp only [szSS]
  split
  · omega
  · have := szRows_rng W (v - W.length) (by omega); omega
theorem szSS_pos {W : List (List Int)} {v : Int} (h0 : 0 ≤ v) (hv : v ≤ 1048576) (h : 0 ≤ szSS W v) : SSB (2 ^ 21) W := by
  have := szSS_le h0 h
  exact ⟨by omega, fun r hr => by have := this.2 r hr; omega⟩
theorem szCl_rng {W : List (List Int)} {v : Int} (h : 0 ≤ v) : -1 ≤ szCl W v ∧ szCl W v ≤ v := by
  have := szSS_rng (W := W) h
  simp only [szCl]; split <;> omega
theorem szCt_rng {t : Ct} {v : Int} (h : 0 ≤ v) : -1 ≤ szCt t v ∧ szCt t v ≤ v := by
  have h1 : -1 ≤ sz1 t.cs v ∧ sz1 t.cs v ≤ v := sub1_le h
  simp only [szCt, andThen]
  split
  · omega
  · have := szSS_rng (W := t.rs) (v := sz1 t.cs v) (by omega)
    split <;> omega
theorem SSB.mono {A B : Nat} {W : List (List Int)} (h : A ≤ B) (hb : SSB A W) : SSB B W := ⟨by have := hb.l; omega, fun r hr => by have := hb.r r hr; omega⟩
theorem CtB.mono {A B : Nat} {t : Ct} (h : A ≤ B) (hb : CtB A t) : CtB B t := ⟨by have := hb.c; omega, hb.r.mono h⟩
theorem szCt_pos {t : Ct} {v : Int} (h0 : 0 ≤ v) (hv : v ≤ 1048576) (h : 0 ≤ szCt t v) : CtB (2 ^ 21) t := by
  have h1 : -1 ≤ sz1 t.cs v ∧ sz1 t.cs v ≤ v := sub1_le h0
  simp only [szCt, andThen] at h
  split at h
  · omega
  split at h
  · omega
  have h2 := sub1_pos (v := v) (n := t.cs.length) (by show 0 ≤ sz1 t.cs v; omega)
  exact ⟨by omega, szSS_pos (by omega) (by omega) h⟩
def od0 : Od := ⟨0, 0⟩
def prevO (cs : List Od) (i : Nat) : Od := cs.getD (i - 1) od0
def odOk (cs : List Od) (i : Nat) (o : Od) : Bool := inR 1 20 o.a && inR 1 20 o.b && !(decide (0 < (i : Int)) && decide (IntKind.i64.wrap (o.a * (prevO cs i).b) ≤ IntKind.i64.wrap ((prevO cs i).a * o.b)))
def ctRow (n : Nat) (r : List Int) : Bool := decide ((r.length : Int) = (n : Int)) && r.all (inR 0 7)
def ctOk (t : Ct) : Bool := inR 1 8 t.cs.length && inR 1 2 t.d && decide ((t.rs.length : Int) = 5 * t.d + 1) && allI (odOk t.cs) t.cs && t.rs.all (ctRow t.cs.length)
section
variable {C : CT} (hC : Closed Tryd.prog G1 md0 C)
include hC
end
end Go.Proofs.YtehkpnfehfcphaaDoor.X
