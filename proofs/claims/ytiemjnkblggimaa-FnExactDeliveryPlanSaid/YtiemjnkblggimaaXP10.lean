/- A part of the proof: lemmas on the machine or on the functions that the law reaches. No condition of its own. -/
import Derived.Test.YtiemjnkblggimaaXP8
import Derived.Test.YtiemjnkblggimaaXP9
set_option maxHeartbeats 4000000
set_option maxRecDepth 8000
set_option linter.unusedSimpArgs false
set_option linter.unusedSectionVars false
set_option linter.unusedVariables false
open Nat renaming reduceBEq → N1, reduceAdd → N2, reduceSub → N3, reduceMul → N4, reduceEqDiff → N5, reduceLeDiff → N6, reduceLT → N7
open Int renaming reduceLE → I1, reduceLT → I2, reduceToNat → I3
namespace Go.Proofs.Ytiemjnkblggimaa.X
open Go
attribute [local irreducible] Ev fE
def cvF (u : Nat → Int) (nl k : Nat) : List Ln := ((List.range k).filter fun i => decide (0 < u i)).map fun i : Nat => ⟨(i : Int) / (nl : Int), (i : Int) % (nl : Int), u i⟩
theorem cvF_zero {u : Nat → Int} {nl : Nat} : cvF u nl 0 = [] := rfl
theorem cvF_skip {u : Nat → Int} {nl k : Nat} (h : ¬ 0 < u k) : cvF u nl (k + 1) = cvF u nl k := by simp [cvF, List.range_succ, h]
theorem cvF_succ {u : Nat → Int} {nl k : Nat} (h : 0 < u k) : cvF u nl (k + 1) = cvF u nl k ++ [⟨(k : Int) / (nl : Int), (k : Int) % (nl : Int), u k⟩] := by simp [cvF, List.range_succ, h]
theorem cvF_le {u : Nat → Int} {nl k : Nat} : (cvF u nl k).length ≤ k := by
  have := List.length_filter_le (fun i => decide (0 < u i)) (List.range k)
  simpa [cvF] using this
def dpR (lim' : Int) (L : Lanes) (F T D : Int) : List Ln := if askT L F T D then cvF (dpV lim' L F.toNat T.toNat D.toNat) L.ls.length (D.toNat * L.ls.length) else []
theorem own_cb (l : List Ln) (b : Bool) : ownR (.tup [.ow 3 (lns l), .bool b]) = true := by
  have e1 := own_lns l
  simp only [ownR] at e1
  simp only [ownR, ownRL, e1, Bool.and_true]
theorem cv_div (i nl : Nat) : Int.tdiv (i : Int) (nl : Int) = (i : Int) / (nl : Int) := Int.tdiv_eq_ediv_of_nonneg (by omega)
theorem cv_mod (i nl : Nat) : Int.tmod (i : Int) (nl : Int) = (i : Int) % (nl : Int) := Int.tmod_eq_emod_of_nonneg (by omega)
theorem cv_wrap {i nl : Nat} (h : i < 2^40) : IntKind.i64.wrap ((i : Int) / (nl : Int)) = (i : Int) / (nl : Int) := by
  have h1 : (i : Int) / (nl : Int) = ((i / nl : Nat) : Int) := rfl
  have h2 := Nat.div_le_self i nl
  rw [h1]
  generalize i / nl = q at *
  exact wrap64 (by omega) (by omega)
theorem lns_snC {l : List Ln} {a b c : Int} : lns l ++ [[.int .i64 a, .int .i64 b, .int .i64 c]] = lns (l ++ [⟨a, b, c⟩]) := by simp [lns, lnA]
theorem fq_frz {l : List Fa} {i : Nat} (h : i < l.length) {x : List AV} (hx : x = [.int .i64 (arc l i).f, .int .i64 (arc l i).t, .int .i64 (arc l i).m, .int .i64 (arc l i).g, .bool true]) : (fq i l l).set i x = fq (i + 1) l (zl (i + 1) l) := by
  refine List.ext_getElem (by simp [fq, zl_length]) fun j h1 h2 => ?_
  have hj : j < l.length := by simpa [fq] using h1
  simp only [fq, List.getElem_set, List.getElem_map, List.getElem_range]
  by_cases e : i = j
  · subst e; rw [if_pos rfl, if_pos (by omega), hx]
  · rw [if_neg e]
    by_cases h3 : j < i
    · rw [if_pos h3, if_pos (by omega)]
    · rw [if_neg h3, if_neg (by omega), zl_arc (by omega), if_neg (by omega)]
theorem fq_step {n s e : Nat} {want : Int} {l0 l : List Fa} {i : Nat} (hN : NetOk n l0) (h : DpInv n s e want l0 l i) (hi : i < l.length) {x : List AV} (hx : x = [.int .i64 (arc l i).f, .int .i64 (arc l i).t, .int .i64 (arc l i).m, .int .i64 ((arc l i).g - (dpF n l i).2), .bool true]) : (fq (i + 1) l (dpF n l i).1).set i x = fq (i + 1) (dpS n l i) (dpS n l i) := by
  have hlz := shp_len (dpF_any hN h hi).1.sh
  rw [zl_length] at hlz
  have hA := dpS_arc hN h hi
  refine List.ext_getElem (by simp [fq, dpS_len hN h hi, hlz]) fun j h1 h2 => ?_
  have hj : j < l.length := by simpa [fq, hlz] using h1
  simp only [fq, List.getElem_set, List.getElem_map, List.getElem_range]
  by_cases e : i = j
  · subst e; rw [if_pos rfl, if_pos (by omega), hx, hA, if_neg (by omega), if_pos rfl]
  · rw [if_neg e]
    by_cases h3 : j < i
    · rw [if_pos (by omega), if_pos (by omega), hA, if_pos h3]
    · rw [if_neg (by omega), if_neg (by omega), hA, if_neg h3, if_neg (by omega)]
theorem fq_0 {l : List Fa} : fq 0 l l = fa5 l := by
  refine List.ext_getElem (by simp [fq, fa5]) fun j h1 h2 => ?_
  have hj : j < l.length := by simpa [fq] using h1
  simp [fq, fa5, arc, List.getD, hj]
section
variable {C : CT} (hC : Closed Try.prog G0 md0 C)
include hC
theorem t43 (a b c d e f : Int) : Ev C 43 [.agg [.int .i64 a, .int .i64 b, .int .i64 c], .agg [.int .i64 d, .int .i64 e, .int .i64 f]] (.bool (a == d && b == e && c == f)) := by
  refine rT hC Q43 ?_
  simp only [c43, push_cast, ↓J1, ↓J2, N1, N2, N3, reduceCtorEq, N4, N5, N6, reduceIte, N7, I1, I2, I3]

  grind [ifB]
theorem t20 (l m : List Ln) (hl : l.length < 2^50) (hm : m.length < 2^50) : Ev C 20 [.sl (lns l), .sl (lns m)] (.bool (decide (l = m))) := by
  refine rT hC Q20 ?_
  simp only [c20, lns, List.length_map, push_cast, ↓J1, ↓J2, N1, N2, N3, reduceCtorEq, N4, N5, N6, reduceIte, N7, I1, I2, I3]
  refine ifB_intro (fun h => ?_) (fun h => ?_)
  · have hlm : l.length = m.length := by simp at h; omega
    refine RL_count (fun i => ⟨tb 27 .any [(0, .sl (l.map lnA)), (1, .sl (m.map lnA)), (5, .int .i64 (i : Int))], [], 0⟩) (fun i => l.take i = m.take i) l.length 0 (hdA []) (by omega) rfl fun i hi ht J hJ => ?_
    by_cases h1 : i < l.length
    · have h2 : i < m.length := by omega
      simp only [List.length_map, Int.toNat_natCast, List.getElem?_map, List.getElem?_eq_getElem h1, List.getElem?_eq_getElem h2, lnA, push_cast, ↓J1, ↓J2, N1, N2, N3, reduceCtorEq, N4, N5, N6, reduceIte, N7, I1, I2, I3]
      refine ifB_intro (fun _ => ⟨by omega, by omega, _, t43 hC _ _ _ _ _ _, ?_⟩) (fun h => by simp at h; omega)
      simp only [push_cast, ↓J1, ↓J2, N1, N2, N3, reduceCtorEq, N4, N5, N6, reduceIte, N7, I1, I2, I3]
      refine ifB_intro (fun h => ?_) (fun h => ?_)
      · refine hJ h1 ?_ _ (hdA [])
        · rw [List.take_succ_eq_append_getElem h1, List.take_succ_eq_append_getElem h2, ht]
          have h' : l[i] = m[i] := by
            simp only [Bool.and_eq_true, beq_iff_eq] at h
            cases hp : l[i]; cases hq : m[i]; simp_all
          rw [h']
      · have : ¬ l = m := by rintro rfl; simp at h
        simp [this]
    · simp only [List.length_map, Int.toNat_natCast, List.getElem?_map, push_cast, ↓J1, ↓J2, N1, N2, N3, reduceCtorEq, N4, N5, N6, reduceIte, N7, I1, I2, I3]
      refine ifB_intro (fun h => by simp at h; omega) (fun h => ?_)
      rw [List.take_of_length_le (by omega), List.take_of_length_le (by omega)] at ht
      simp [ht]
  · have : ¬ l = m := by rintro rfl; simp at h
    simp [this]
theorem t21 (l : List Ln) (k : Int) (h : Heap) (id n : Nat) (hg : hget h id = some (.slice 3 (lns l))) (hb : below n h) (hk : 0 ≤ k ∧ k ≤ 2^48) (hl : l.length < 2^40) : C 21 [.ref id none 3 0 l.length, .int .i64 k] h n (fun v h' n' => v = .int .i64 (k + 3 * (l.length : Int)) ∧ n' = n ∧ h' = hset h id (.slice 3 (lns (mkL k l.length)))) := by
  have hid := below_lt hb hg
  refine Closed.rT hC Q21 ?_
  simp only [c21, push_cast, ↓J1, ↓J2, N1, N2, N3, reduceCtorEq, N4, N5, N6, reduceIte, N7, I1, I2, I3]
  have hgi : ∀ es : List (List AV), hget (hset h id (.slice 3 es)) id = some (.slice 3 es) := fun es => hget_same hg
  refine RL_count (fun i => ⟨tb 34 .any [(0, .ref id none 3 0 l.length), (1, .int .i64 (k + 3 * (i : Int))), (5, .int .i64 (i : Int))], hset h id (.slice 3 (lns (mkL k i ++ l.drop i))), n⟩) (fun _ => True) l.length 0 (head_tb [] (by simp [rhoOk, objIds]) (by simp only [hid, keptV_cons, keptV_nil, tb_get, lk_same, lk_ne, lk_nil, ren, renL, lkp, N7, N1, N5, reduceIte, and_true, true_and, Nat.not_lt_zero, if_false, if_true, Nat.add_zero, Nat.zero_add]; all_goals simp) (by rw [show mkL k 0 ++ l.drop 0 = l from rfl, hset_get hg]; exact hb)) (by omega) trivial fun i hi _ J hJ => ?_
  by_cases h1 : i < l.length
  · have hlen : (lns (mkL k i ++ l.drop i)).length = l.length := by simp [lns, mkL]; omega
    have e1 : ∃ u : Ln, (lns (mkL k i ++ l.drop i))[i]? = some (lnA u) := ⟨_, by rw [lns, List.getElem?_map, List.getElem?_eq_getElem (by simp [mkL]; omega)]; rfl⟩
    obtain ⟨t, e1⟩ := e1
    have gs : ∀ e : List AV, ((lns (mkL k i ++ l.drop i)).set i e)[i]? = some e := by intro e; rw [List.getElem?_set, if_pos rfl, if_pos (by omega)]
    have ls := mkL_succ (l := l) (k := k) h1
    have w0 : IntKind.i64.wrap (k + 3 * (i : Int) + 1) = k + 3 * (i : Int) + 1 := wrap64 (by omega) (by omega)
    have w1 : IntKind.i64.wrap (k + 3 * (i : Int) + 1 + 1) = k + 3 * (i : Int) + 1 + 1 := wrap64 (by omega) (by omega)
    have w2 : IntKind.i64.wrap (k + 3 * (i : Int) + 1 + 1 + 1) = k + 3 * (i : Int) + 1 + 1 + 1 := wrap64 (by omega) (by omega)
    have ea : k + 3 * (i : Int) + 1 + 1 = k + 3 * (i : Int) + 2 := by omega
    simp only [Int.toNat_natCast, hgi, e1, lnA, push_cast, ↓J1, ↓J2, N1, N2, N3, reduceCtorEq, N4, N5, N6, reduceIte, N7, I1, I2, I3]
    refine ifB_intro (fun _ => ?_) (fun h => by simp at h; omega)
    repeat (refine ⟨by omega, ?_⟩)
    repeat' (first | refine ⟨by omega, ?_⟩ | simp only [Int.toNat_natCast, hgi, e1, gs, hset_hset, List.set_set, setsA, List.set_cons_zero, List.set_cons_succ, lnA, w0, w1, w2, push_cast, ↓J1, ↓J2, N1, N2, N3, reduceCtorEq, N4, N5, N6, reduceIte, N7, I1, I2, I3])
    refine hJ h1 trivial _ (head_tb [] (by simp [rhoOk, objIds]) ?_ ?_)
    · simp only [hid, keptV_cons, keptV_nil, tb_get, lk_same, lk_ne, lk_nil, ren, renL, lkp, N7, N1, N5, reduceIte, and_true, true_and, Nat.not_lt_zero, if_false, if_true, Nat.add_zero, Nat.zero_add]
      rw [wrap64 (n := (i : Int) + 1) (by omega) (by omega), show k + 3 * ((i + 1 : Nat) : Int) = k + 3 * (i : Int) + 1 + 1 + 1 by omega]
      and_intros <;> rfl
    · rw [← ls]
      simp only [lnA, ea]
      exact below_set hb
  · obtain rfl : i = l.length := by omega
    simp only [push_cast, ↓J1, ↓J2, N1, N2, N3, reduceCtorEq, N4, N5, N6, reduceIte, N7, I1, I2, I3]
    refine ifB_intro (fun h => by simp at h) (fun h => ?_)
    rw [List.drop_length, List.append_nil]
theorem t22 (k : Int) (n : Nat) (hk : 0 ≤ k ∧ k < 2^50) (hn : n < 2^40) : Ev C 22 [.sl (lns (mkL k n)), .int .i64 k] (.int .i64 (k + 3 * n)) := by
  refine rT hC Q22 ?_
  simp only [c22, push_cast, ↓J1, ↓J2, N1, N2, N3, reduceCtorEq, N4, N5, N6, reduceIte, N7, I1, I2, I3]
  refine RL_count (fun i => ⟨tb 40 .any [(0, .sl (lns (mkL k n))), (1, .int .i64 (k + 3 * (i : Int))), (5, .int .i64 (i : Int))], [], 0⟩) (fun _ => True) n 0 (hdA []) (by omega) trivial fun i hi _ J hJ => ?_
  by_cases h1 : i < n
  · have e1 := mkL_get (k := k) h1
    have w0 : IntKind.i64.wrap (k + 3 * (i : Int) + 1) = k + 3 * (i : Int) + 1 := wrap64 (by omega) (by omega)
    have w1 : IntKind.i64.wrap (k + 3 * (i : Int) + 1 + 1) = k + 3 * (i : Int) + 1 + 1 := wrap64 (by omega) (by omega)
    have w2 : IntKind.i64.wrap (k + 3 * (i : Int) + 1 + 1 + 1) = k + 3 * (i : Int) + 1 + 1 + 1 := wrap64 (by omega) (by omega)
    have w3 : IntKind.i64.wrap ((i : Int) + 1) = (i : Int) + 1 := wrap64 (by omega) (by omega)
    have ea : k + 3 * (i : Int) + 2 = k + 3 * (i : Int) + 1 + 1 := by omega
    simp only [ea, Int.toNat_natCast, e1, lns_length, mkL_length, w0, w1, w2, w3, push_cast, ↓J1, ↓J2, N1, N2, N3, reduceCtorEq, N4, N5, N6, reduceIte, N7, I1, I2, I3]
    refine ifB_intro (fun _ => ?_) (fun h => by simp at h; omega)
    repeat (refine ⟨by omega, ?_⟩)
    refine hJ h1 trivial _ (hdA [] (hV := ?_))
    simp only [keptV_cons, keptV_nil, tb_get, lk_same, lk_ne, lk_nil, ren, renL, lkp, N7, N1, N5, reduceIte, and_true, true_and, Nat.not_lt_zero, if_false, if_true, Nat.add_zero, Nat.zero_add]
    rw [show k + 3 * ((i + 1 : Nat) : Int) = k + 3 * (i : Int) + 1 + 1 + 1 by omega]
    and_intros <;> first | rfl | simp
  · obtain rfl : i = n := by omega
    simp only [lns_length, mkL_length, push_cast, ↓J1, ↓J2, N1, N2, N3, reduceCtorEq, N4, N5, N6, reduceIte, N7, I1, I2, I3]
    exact ifB_intro (fun h => by simp at h) (fun h => trivial)
theorem t18 {lim lim' : Int} (r1 : 10000000 = lim) (m2 : 126000 < lim') (L : Lanes) (F T D : Int) (h1 : L.ls.length < 2^40) (h2 : L.st.length < 2^40) : Ev C 18 [L.av, .int .i64 F, .int .i64 T, .int .i64 D] (.tup [.ow 3 (lns (dpR lim' L F T D)), .bool (askT L F T D)]) := by
  have c1 := t36 hC L F T D (by omega) (by omega)
  simp only [Lanes.av] at c1 ⊢
  refine rT hC Q18 ?_ (own_cb _ _)
  simp only [c18, push_cast, ↓J1, ↓J2, N1, N2, N3, reduceCtorEq, N4, N5, N6, reduceIte, N7, I1, I2, I3]
  refine ⟨_, c1, ?_⟩
  cases g : askT L F T D
  · simp only [dpR, g, Bool.false_eq_true, if_false, Bool.not_false, push_cast, ↓J1, ↓J2, N1, N2, N3, reduceCtorEq, N4, N5, N6, reduceIte, N7, I1, I2, I3]
    exact ⟨.tup [.nil, .bool false], _, by simp only [conR, conRL, isF, Option.map_some, Option.bind_some]; rfl, by simp [NilTo, NilToL, lns]⟩
  obtain ⟨f, t, d, rfl, rfl, rfl, a1, a2, a3, a4, a5⟩ := askT_at g
  have c2 := t40 hC r1 m2 L f t d a1 a2 a3 a4 a5
  have hn := (lanesOk_LOk a1).n
  simp only [dpR, g, if_true, Int.toNat_natCast]
  generalize dpV lim' L f t d = u at *
  obtain ⟨nl, hnl⟩ : ∃ nl, L.ls.length = nl := ⟨_, rfl⟩
  obtain ⟨N, hN⟩ : ∃ N, d * L.ls.length = N := ⟨_, rfl⟩
  have hN90 : N ≤ 90 := by rw [← hN]; exact Nat.mul_le_mul a5 hn
  rw [hN] at c2 ⊢
  have hul : ((List.range N).map u).length = N := by simp
  simp only [Lanes.av] at *
  simp only [Bool.not_true, push_cast, ↓J1, ↓J2, N1, N2, N3, reduceCtorEq, N4, N5, N6, reduceIte, N7, I1, I2, I3]
  refine ⟨_, c2, ?_⟩
  simp only [ints_length, hul, push_cast, ↓J1, ↓J2, N1, N2, N3, reduceCtorEq, N4, N5, N6, reduceIte, N7, I1, I2, I3]
  refine RL_count (fun i => ⟨tb 49 .any [(10, .ref 2 none 3 0 (cvF u L.ls.length i).length), (4, .ptr 0 none 0 0 0), (23, .ref 1 none 1 0 N), (24, .int .i64 (N : Int)), (25, .int .i64 (i : Int))], [(2, .slice 3 (lns (cvF u L.ls.length i))), (1, .slice 1 (ints ((List.range N).map u))), (0, .var [.int .i64 L.d, .sl (lns L.ls), .sl (ints L.st)])], 3⟩) (fun _ => True) N 0 (hdO 10 2 3 [(1, 1), (0, 0)]) (by omega) trivial fun i hi _ J hJ => ?_
  have hle := cvF_le (u := u) (nl := L.ls.length) (k := i)
  have tkc : List.take (cvF u L.ls.length i).length (lns (cvF u L.ls.length i)) = lns (cvF u L.ls.length i) := List.take_of_length_le (by rw [lns_length]; omega)
  by_cases h3 : i < N
  rotate_left
  · obtain rfl : i = N := by omega
    have hlt : decide ((i : Int) < (i : Int)) = false := decide_eq_false (by omega)
    simp only [hlt, push_cast, ↓J1, ↓J2, N1, N2, N3, reduceCtorEq, N4, N5, N6, reduceIte, N7, I1, I2, I3]
    exact RetTo_of (by simp only [conR, conRL, isF, hget, hdel, List.drop_zero, tkc, lns_length, if_true, if_false, reduceIte, N5, reduceCtorEq]; rfl)
  have hK := hJ h3 trivial
  clear hJ
  have hlt : decide ((i : Int) < (N : Int)) = true := decide_eq_true (by omega)
  have e1 : (ints ((List.range N).map u))[i]? = some [.int .i64 (u i)] := by simp [ints, h3]
  have w3 : IntKind.i64.wrap ((i : Int) + 1) = (i : Int) + 1 := wrap64 (by omega) (by omega)
  have hnz : ¬ (L.ls.length : Int) = 0 := by
    intro hz
    have : L.ls.length = 0 := by omega
    rw [this, Nat.mul_zero] at hN; omega
  have wd := cv_wrap (i := i) (nl := L.ls.length) (by omega)
  simp only [hlt, Int.toNat_natCast, e1, w3, push_cast, ↓J1, ↓J2, N1, N2, N3, reduceCtorEq, N4, N5, N6, reduceIte, N7, I1, I2, I3]
  repeat (refine ⟨by omega, ?_⟩)
  cases g2 : decide (0 < u i)
  · have g3 := of_decide_eq_false g2
    rw [cvF_skip g3] at hK
    simp only [g2, w3, push_cast, ↓J1, ↓J2, N1, N2, N3, reduceCtorEq, N4, N5, N6, reduceIte, N7, I1, I2, I3]
    exact hK _ (hdA [(2, 2), (1, 1), (0, 0)])
  · have g3 := of_decide_eq_true g2
    rw [cvF_succ g3, List.length_append, List.length_singleton] at hK
    simp only [g2, w3, lns_length, ne_eq, hnz, not_false_eq_true, true_and, cv_div, cv_mod, wd, tkc, lns_scD, apYR_sc, push_cast, ↓J1, ↓J2, N1, N2, N3, reduceCtorEq, N4, N5, N6, reduceIte, N7, I1, I2, I3]
    repeat (refine ⟨by omega, ?_⟩)
    refine hK _ (hdA [(4, 2), (1, 1), (0, 0)] (hh := ?_))
    simp only [canR, canB, renO, renL, ren, lkp, hget, N7, N5, Nat.not_lt_zero, if_false, if_true, reduceIte, List.append_nil, List.nil_append, lns_snC]
    all_goals rfl
theorem t19 {lim lim' : Int} (r1 : 10000000 = lim) (r2 : 1000000000 = lim') (L : Lanes) (F T D : Int) (h1 : L.ls.length < 2^40) (h2 : L.st.length < 2^40) : Ev C 19 [L.av, .int .i64 F, .int .i64 T, .int .i64 D] (.tup [.ow 3 (lns (dpR lim' L F T D)), .bool (askT L F T D)]) := by
  have c1 := t41 hC L F T D (by omega) (by omega)
  simp only [Lanes.av] at c1 ⊢
  refine rT hC Q19 ?_ (own_cb _ _)
  simp only [c19, push_cast, ↓J1, ↓J2, N1, N2, N3, reduceCtorEq, N4, N5, N6, reduceIte, N7, I1, I2, I3]
  refine ⟨_, c1, ?_⟩
  cases g : askT L F T D
  · simp only [dpR, g, Bool.false_eq_true, if_false, Bool.not_false, push_cast, ↓J1, ↓J2, N1, N2, N3, reduceCtorEq, N4, N5, N6, reduceIte, N7, I1, I2, I3]
    exact ⟨.tup [.nil, .bool false], _, by simp only [conR, conRL, isF, Option.map_some, Option.bind_some]; rfl, by simp [NilTo, NilToL, lns]⟩
  obtain ⟨f, t, d, rfl, rfl, rfl, a1, a2, a3, a4, a5⟩ := askT_at g
  have hL := lanesOk_LOk a1
  have hn15 := hL.n
  have x := deliv (lim := lim) (lim' := lim') (by omega) (by omega) a1 a2 a3 a4 a5
  obtain ⟨q1, q2, k1, k2⟩ := p0_cut (D := d) a1 a2 a3 a4 a5
  obtain ⟨b1, b2, b3, b4, b5⟩ := fE_ok (lim := lim') x.nI x.fI x.s x.e x.ne q1 q2 k2 (by omega)
  have c2 := dl_at hC r1 r2 L f t d g
  simp only [fN5, Int.toNat_natCast] at c2
  have lI : (iN L f t d).length = wN L d := I_len
  obtain ⟨W, hW⟩ : ∃ W, wN L d = W := ⟨_, rfl⟩
  rw [hW] at lI
  have hl0 := (shp_len b2).trans lI
  have hN0 := net_shp b2 x.nI
  have hm0 : ∀ a ∈ (fE (iN L f t d) (nN L d) f (eN L t d) lim').1, a.m < 2^32 := fun a ha => by
    obtain ⟨i, hi, ea⟩ := arc_of ha
    have h3 := (shp_arc b2 i).2.2
    have h4 := x.mI _ (arc_mem (l := iN L f t d) (i := i) (by omega))
    rw [← ea, h3]; exact h4
  have hnn := x.n
  have hW126 : W ≤ 126 := by have := x.lI; omega
  have hs := x.s
  have he := x.e
  have hne := x.ne
  obtain ⟨N, hN⟩ : ∃ N, d * L.ls.length = N := ⟨_, rfl⟩
  have hNW : N ≤ W := by rw [← hN, ← hW, wN, Nat.mul_add]; omega
  have hNn : IntKind.i64.wrap ((d : Int) * (L.ls.length : Int)) = (N : Int) := by
    rw [← Int.natCast_mul, hN]; exact wrap64 (by omega) (by omega)
  simp only [dpR, g, if_true, Int.toNat_natCast]
  have hu : ∀ i, i < N → dpV lim' L f t d i = (arc (dpI (nN L d) (fE (iN L f t d) (nN L d) f (eN L t d) lim').1 (i + 1)) i).g := fun i hi => by
    rw [dpV, hN, dpI_keep hN0 hs he hne b1 N hi (by omega)]
  rw [hN]
  generalize dpV lim' L f t d = u at *
  clear b3 b4 b5 k1 k2 q1 q2
  generalize gvN lim L f t d = gg at *
  generalize (fE (iN L f t d) (nN L d) f (eN L t d) lim').2 = want at *
  generalize (fE (iN L f t d) (nN L d) f (eN L t d) lim').1 = l0 at *
  clear x
  have inv := fun i (hi : i < N) => dpI_inv hN0 hs he hne b1 i (by omega)
  have tk6 : List.take l0.length (fa5 l0) = fa5 l0 := fa5_take
  simp only [Lanes.av] at *
  simp only [Bool.not_true, push_cast, ↓J1, ↓J2, N1, N2, N3, reduceCtorEq, N4, N5, N6, reduceIte, N7, I1, I2, I3]
  refine ⟨_, c2, ?_⟩
  simp only [fa5_length, hl0, lns_length, hNn, push_cast, ↓J1, ↓J2, N1, N2, N3, reduceCtorEq, N4, N5, N6, reduceIte, N7, I1, I2, I3]
  rw [← fq_0, show l0 = dpI (nN L d) l0 0 from rfl]
  refine RL_count (fun i => ⟨tb 93 .any [(4, .ptr 0 none 0 0 0), (10, .ptr 2 none 0 0 0), (12, .ref 3 none 3 0 (cvF u L.ls.length i).length), (34, .int .i64 (N : Int)), (35, .int .i64 (i : Int))], [(3, .slice 3 (lns (cvF u L.ls.length i))), (2, .var [.int .i64 (nN L d), .ref 1 none 5 0 W]), (1, .slice 5 (fq i (dpI (nN L d) l0 i) (dpI (nN L d) l0 i))), (0, .var [.int .i64 L.d, .sl (lns L.ls), .sl (ints L.st)])], 4⟩) (fun _ => True) N 0 (hdA [(3, 3), (2, 2), (1, 1), (0, 0)]) (by omega) trivial fun i hi _ J hJ => ?_
  have hle := cvF_le (u := u) (nl := L.ls.length) (k := i)
  have tkc : List.take (cvF u L.ls.length i).length (lns (cvF u L.ls.length i)) = lns (cvF u L.ls.length i) := List.take_of_length_le (by rw [lns_length]; omega)
  by_cases h3 : i < N
  rotate_left
  · obtain rfl : i = N := by omega
    have hlt : decide ((i : Int) < (i : Int)) = false := decide_eq_false (by omega)
    simp only [hlt, push_cast, ↓J1, ↓J2, N1, N2, N3, reduceCtorEq, N4, N5, N6, reduceIte, N7, I1, I2, I3]
    exact RetTo_of (by simp only [conR, conRL, isF, hget, hdel, List.drop_zero, tkc, lns_length, if_true, if_false, reduceIte, N5, reduceCtorEq]; rfl)
  have hK := hJ h3 trivial
  clear hJ
  have I := inv i h3
  have hui := hu i h3
  rw [dpI] at hui hK
  generalize dpI (nN L d) l0 i = st at *
  have hst : st.length = W := (shp_len I.sh).trans hl0
  have hiW : i < st.length := by omega
  have hNs := net_shp I.sh hN0
  have hr := hNs.rng _ (arc_mem hiW)
  have hb := I.fl.bnd _ (arc_mem hiW)
  have hmi : ∀ j, j < W → (arc st j).m < 2^32 := fun j hj => by
    have := hm0 _ (arc_mem (l := l0) (i := j) (by omega))
    rw [(shp_arc I.sh j).2.2]; exact this
  have hmz : ∀ a ∈ zl (i + 1) st, a.m < 2^32 := fun a ha => by
    obtain ⟨j, hj, rfl⟩ := arc_of ha
    rw [zl_length] at hj
    rw [zl_arc (by omega)]
    split
    · simp only [fa00]; omega
    · exact hmi j (by omega)
  have hZ : ∀ j, j < i + 1 → (arc (zl (i + 1) st) j).m = 0 ∧ (arc (zl (i + 1) st) j).g = 0 := fun j hj => by
    rw [zl_arc (by omega), if_pos hj]; exact ⟨rfl, rfl⟩
  have c5 := t42z hC L (lns (cvF u L.ls.length i)) (i + 1) st (zl (i + 1) st) (nN L d) (arc st i).f (arc st i).t (arc st i).g hZ (zl_net hNs (by omega)) (zl_bnd I.fl.bnd (by omega)) hr.1 hr.2.1 hr.2.2 (by omega) (by rw [zl_length]; omega) hmz ⟨hb.1, by have := hmi i (by omega); omega⟩
  rw [zl_length, hst] at c5
  obtain ⟨d1, d2, d3, _⟩ := dpF_any hN0 I hiW
  have dl : (dpF (nN L d) st i).1.length = W := by rw [shp_len d1.sh, zl_length, hst]
  have hstep := fun {y} hy => fq_step hN0 I hiW (x := y) hy
  have hA := dpS_arc hN0 I hiW i
  rw [if_neg (by omega), if_pos rfl] at hA
  rw [hA] at hui
  rw [show fE (zl (i + 1) st) (nN L d) (arc st i).f (arc st i).t (arc st i).g = dpF (nN L d) st i from rfl] at c5
  have dSl : (dpS (nN L d) st i).length = W := by rw [dpS_len hN0 I hiW, hst]
  have e1 := fq_get (kz := i) (lz := st) (l := st) (i := i) hiW (by omega)
  have s1 := fq_frz hiW rfl
  have e2 := fq_get1 (kz := i + 1) (lz := st) (l := zl (i + 1) st) (i := i) (by rw [zl_length]; omega) (by omega)
  have e3 := fq_get1 (kz := i + 1) (lz := st) (l := (dpF (nN L d) st i).1) (i := i) (by omega) (by omega)
  have s3 := hstep rfl
  have e4 := fq_get1 (kz := i + 1) (lz := dpS (nN L d) st i) (l := dpS (nN L d) st i) (i := i) (by omega) (by omega)
  rw [hA] at e4
  simp only at e4 hui
  have wg : IntKind.i64.wrap ((arc st i).g - (dpF (nN L d) st i).2) = (arc st i).g - (dpF (nN L d) st i).2 := by
    have := hmi i (by omega); exact wrap64 (by omega) (by omega)
  have wg := wg.trans hui.symm
  rw [← hui] at s3 e4
  have hlt : decide ((i : Int) < (N : Int)) = true := decide_eq_true (by omega)
  have w3 : IntKind.i64.wrap ((i : Int) + 1) = (i : Int) + 1 := wrap64 (by omega) (by omega)
  have hnz : ¬ (L.ls.length : Int) = 0 := by
    intro hz
    have : L.ls.length = 0 := by omega
    rw [this, Nat.mul_zero] at hN; omega
  have wd := cv_wrap (i := i) (nl := L.ls.length) (by omega)
  have zll : (zl (i + 1) st).length = W := by rw [zl_length, hst]
  clear hstep inv hu hZ hmz hA I d1 hNs hr
  repeat' (first
    | refine ⟨by omega, ?_⟩
    | (refine ⟨_, c5, ?_⟩; rintro v h' n' ⟨rfl, ⟨rfl, rfl⟩ | ⟨rfl, es, rfl⟩⟩ _)
    | simp only [hlt, Int.toNat_natCast, e1, s1, e2, e3, s3, e4, wg, w3, fq_length, hst, dl, dSl, zll, push_cast, ↓J1, ↓J2, N1, N2, N3, reduceCtorEq, N4, N5, N6, reduceIte, N7, I1, I2, I3]
    | refine And.intro ?_ ?_)
  all_goals
    intro g3
    first
      | (rw [cvF_succ g3, List.length_append, List.length_singleton] at hK
         simp only [w3, Int.toNat_natCast, e4, fq_length, dSl, lns_length, ne_eq, hnz, not_false_eq_true, true_and, cv_div, cv_mod, wd, tkc, lns_scD, apYR_sc, push_cast, ↓J1, ↓J2, N1, N2, N3, reduceCtorEq, N4, N5, N6, reduceIte, N7, I1, I2, I3]
         refine ⟨by omega, ?_⟩
         first
           | (refine hK _ (hdA [(5, 3), (2, 2), (1, 1), (0, 0)] (hh := ?_))
              simp only [canR, canB, renO, renL, ren, lkp, hget, N7, N5, Nat.not_lt_zero, if_false, if_true, reduceIte, List.append_nil, List.nil_append, lns_snC]
              done)
           | (refine hK _ (hdA [(5, 3), (2, 2), (1, 1), (0, 0)] (hh := ?_))
              simp only [canR, canB, renO, renL, ren, lkp, hget, N7, N5, Nat.not_lt_zero, if_false, if_true, reduceIte, List.append_nil, List.nil_append, lns_snC]
              rfl)
           | (refine hK _ (hdA [(6, 3), (2, 2), (1, 1), (0, 0)] (hh := ?_))
              simp only [canR, canB, renO, renL, ren, lkp, hget, N7, N5, Nat.not_lt_zero, if_false, if_true, reduceIte, List.append_nil, List.nil_append, lns_snC]
              done)
           | (refine hK _ (hdA [(6, 3), (2, 2), (1, 1), (0, 0)] (hh := ?_))
              simp only [canR, canB, renO, renL, ren, lkp, hget, N7, N5, Nat.not_lt_zero, if_false, if_true, reduceIte, List.append_nil, List.nil_append, lns_snC]
              rfl))
      | (rw [cvF_skip (by simpa using g3)] at hK
         exact hK _ (hdA [(3, 3), (2, 2), (1, 1), (0, 0)]))
end
end Go.Proofs.Ytiemjnkblggimaa.X
set_option maxHeartbeats 4000000
set_option maxRecDepth 8000
set_option linter.unusedSimpArgs false
set_option linter.unusedSectionVars false
set_option linter.unusedVariables false
open Nat renaming reduceBEq → N1, reduceAdd → N2, reduceSub → N3, reduceMul → N4, reduceEqDiff → N5, reduceLeDiff → N6, reduceLT → N7
open Int renaming reduceLE → I1, reduceLT → I2, reduceToNat → I3
namespace Go.Proofs.Ytiemjnkblggimaa.X
open Go
attribute [local irreducible] Ev
section
variable {C : CT} (hC : Closed Try.prog G0 md0 C)
include hC
theorem t5 {lim lim' : Int} (r1 : 10000000 = lim) (r2 : 1000000000 = lim') (L : Lanes) (F T x : Int) (h1 : L.ls.length < 2^50) (h2 : L.st.length < 2^50) : Ev C 5 [L.av, .int .i64 F, .int .i64 T, .int .i64 x] (.bool true) := by
  have c1 := t6 hC L 1048576 (by omega) h1 h2
  have c4 := t18 hC r1 (show 126000 < lim' by omega) L F T x
  have c5 := t19 hC r1 r2 L F T x
  have c6 := t10 hC L L h1 h2 h1 h2
  have hrl : (dpR lim' L F T x).length ≤ 90 := by
    rw [dpR]
    split
    · rename_i g
      obtain ⟨f, t, d, rfl, rfl, rfl, a1, a2, a3, a4, a5⟩ := askT_at g
      have y := (lanesOk_LOk a1).n
      have z := cvF_le (u := dpV lim' L f t d) (nl := L.ls.length) (k := d * L.ls.length)
      have w : d * L.ls.length ≤ 6 * 15 := Nat.mul_le_mul a5 y
      simp only [Int.toNat_natCast]; omega
    · simp
  generalize dpR lim' L F T x = res at *
  generalize askT L F T x = ask at *
  have c7 := t20 hC res res (by omega) (by omega)
  have c8 := t22 hC 1 res.length (by omega) (by omega)
  have c2 := fun (g1 : L.ls.length < 2^30 ∧ L.st.length < 2^30) => t8 hC L g1.1 g1.2
  simp only [Lanes.av, Lanes.ow] at *
  refine rT hC Q5 ?_
  simp only [X.c5, ints_length, push_cast, ↓J1, ↓J2, N1, N2, N3, reduceCtorEq, N4, N5, N6, reduceIte, N7, I1, I2, I3]
  refine ⟨_, c1, ?_⟩
  simp only [push_cast, ↓J1, ↓J2, N1, N2, N3, reduceCtorEq, N4, N5, N6, reduceIte, N7, I1, I2, I3]
  refine ifB_intro (fun h => trivial) (fun h => ?_)
  have g1 : L.ls.length < 2^30 ∧ L.st.length < 2^30 := by simp only [szL] at h; grind
  have c2 := c2 g1
  have c4 := c4 (by omega) (by omega)
  have c5 := c5 (by omega) (by omega)
  refine ⟨_, c2, ?_⟩
  simp only [frzLL_ints, frzLL_lns, push_cast, ↓J1, ↓J2, N1, N2, N3, reduceCtorEq, N4, N5, N6, reduceIte, N7, I1, I2, I3]
  refine ⟨_, c4, ?_⟩
  simp only [frzLL_ints, frzLL_lns, push_cast, ↓J1, ↓J2, N1, N2, N3, reduceCtorEq, N4, N5, N6, reduceIte, N7, I1, I2, I3]
  refine ⟨_, c2, ?_⟩
  simp only [frzLL_ints, frzLL_lns, push_cast, ↓J1, ↓J2, N1, N2, N3, reduceCtorEq, N4, N5, N6, reduceIte, N7, I1, I2, I3]
  refine ⟨_, c5, ?_⟩
  simp only [frzLL_ints, frzLL_lns, push_cast, ↓J1, ↓J2, N1, N2, N3, reduceCtorEq, N4, N5, N6, reduceIte, N7, I1, I2, I3]
  refine ⟨_, c7, ?_⟩
  simp only [frzLL_ints, frzLL_lns, push_cast, ↓J1, ↓J2, N1, N2, N3, reduceCtorEq, N4, N5, N6, reduceIte, N7, I1, I2, I3]
  refine ⟨_, c2, ?_⟩
  simp only [frzLL_ints, frzLL_lns, push_cast, ↓J1, ↓J2, N1, N2, N3, reduceCtorEq, N4, N5, N6, reduceIte, N7, I1, I2, I3]
  refine ⟨_, c6, ?_⟩
  simp only [frzLL_ints, frzLL_lns, push_cast, ↓J1, ↓J2, N1, N2, N3, reduceCtorEq, N4, N5, N6, reduceIte, N7, I1, I2, I3]
  rw [lns_length, ints_length]
  have d1 : decide (1 + 3 * (L.ls.length : Int) + (L.st.length : Int) < 0) = false := decide_eq_false (by omega)
  have d2 : decide (1 + 3 * (res.length : Int) < 0) = false := decide_eq_false (by omega)
  have tk : List.take res.length (lns (mkL 1 res.length)) = lns (mkL 1 res.length) := List.take_of_length_le (by rw [lns_length, mkL_length]; omega)
  have tk2 : List.take res.length (lns res) = lns res := List.take_of_length_le (by rw [lns_length]; omega)
  have er : decide (res = res) = true := decide_eq_true rfl
  simp only [tk2, er, lns_length, push_cast, ↓J1, ↓J2, N1, N2, N3, reduceCtorEq, N4, N5, N6, reduceIte, N7, I1, I2, I3]
  refine ⟨_, t11 hC L.d L.ls L.st 1 _ 4 5 10 rfl rfl (by omega) (by simp [below, canB, renO, ren, renL, lkp]) (by simp [solid, killH, killL, killS]) (by omega) (by omega) (by omega), ?_⟩
  rintro v h' n' ⟨rfl, rfl, rfl⟩ _
  simp only [d1, frzLL_lns, tk2, lns_length, er, push_cast, ↓J1, ↓J2, N1, N2, N3, reduceCtorEq, N4, N5, N6, reduceIte, N7, I1, I2, I3]
  refine ⟨_, c7, ?_⟩
  simp only [frzLL_lns, lns_length, er, push_cast, ↓J1, ↓J2, N1, N2, N3, reduceCtorEq, N4, N5, N6, reduceIte, N7, I1, I2, I3]
  refine ⟨_, t21 hC res 1 _ 7 11 rfl (by simp [below, canB, renO, ren, renL, lkp]) (by omega) (by omega), ?_⟩
  rintro v h' n' ⟨rfl, rfl, rfl⟩ _
  simp only [frzLL_lns, tk, tk2, er, push_cast, ↓J1, ↓J2, N1, N2, N3, reduceCtorEq, N4, N5, N6, reduceIte, N7, I1, I2, I3]
  refine ⟨_, c8, ?_⟩
  simp only [frzLL_lns, tk, tk2, d2, er, push_cast, ↓J1, ↓J2, N1, N2, N3, reduceCtorEq, N4, N5, N6, reduceIte, N7, I1, I2, I3]
  refine ⟨_, c2, ?_⟩
  simp only [frzLL_ints, frzLL_lns, er, push_cast, ↓J1, ↓J2, N1, N2, N3, reduceCtorEq, N4, N5, N6, reduceIte, N7, I1, I2, I3]
  refine ⟨_, c5, ?_⟩
  simp only [frzLL_lns, tk, tk2, lns_length, er, push_cast, ↓J1, ↓J2, N1, N2, N3, reduceCtorEq, N4, N5, N6, reduceIte, N7, I1, I2, I3]
  refine ⟨_, c7, ?_⟩
  simp only [frzLL_lns, tk, tk2, er, push_cast, ↓J1, ↓J2, N1, N2, N3, reduceCtorEq, N4, N5, N6, reduceIte, N7, I1, I2, I3]
  refine ⟨_, c8, ?_⟩
  simp only [frzLL_lns, tk, tk2, d2, er, push_cast, ↓J1, ↓J2, N1, N2, N3, reduceCtorEq, N4, N5, N6, reduceIte, N7, I1, I2, I3]
end
theorem lwDeliveryPlan {C : CT} (hC : Closed Try.prog G0 md0 C) : ∀ xs, HasVs Try.prog 14 [25, 3, 3, 3] xs → Ev C 5 xs (.bool true) := by
  rintro xs ⟨x, r, rfl, h0, x1, r1, rfl, h1, x2, r2, rfl, h2, x3, r3, rfl, h3, rfl⟩
  obtain ⟨ys, rfl, h⟩ := hasV_struct sty_25 h0
  obtain ⟨y1, r, rfl, _, k1, h⟩ := hasE_cons h
  obtain ⟨y2, r, rfl, _, k2, h⟩ := hasE_cons h
  obtain ⟨y3, r, rfl, _, k3, h⟩ := hasE_cons h
  obtain rfl := hasE_nil h
  obtain ⟨d, rfl, _⟩ := has_int tk_3 k1
  obtain ⟨ls, rfl, hl⟩ := has_lanes k2
  obtain ⟨st, rfl, hs⟩ := has_ints k3
  obtain ⟨a, rfl, _⟩ := hasV_int tk_3 h1
  obtain ⟨b, rfl, _⟩ := hasV_int tk_3 h2
  obtain ⟨n, rfl, _⟩ := hasV_int tk_3 h3
  exact t5 hC rfl rfl ⟨d, ls, st⟩ a b n hl hs
theorem lawDeliveryPlan : ∀ xs, HasVs Try.prog 14 [25, 3, 3, 3] xs → Ev (CS Try.prog G0) 5 xs (.bool true) := lwDeliveryPlan (CS_closed (by kernel_rfl))
end Go.Proofs.Ytiemjnkblggimaa.X
