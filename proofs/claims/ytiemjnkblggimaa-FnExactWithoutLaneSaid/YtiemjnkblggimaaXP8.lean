/- A part of the proof: lemmas on the machine or on the functions that the law reaches. No condition of its own. -/
import Derived.Test.YtiemjnkblggimaaXP7
set_option maxHeartbeats 4000000
set_option maxRecDepth 8000
set_option linter.unusedSimpArgs false
set_option linter.unusedSectionVars false
set_option linter.unusedVariables false
open Nat renaming reduceBEq → N1, reduceAdd → N2, reduceSub → N3, reduceMul → N4, reduceEqDiff → N5, reduceLeDiff → N6, reduceLT → N7
open Int renaming reduceLE → I1, reduceLT → I2, reduceToNat → I3
namespace Go.Proofs.Ytiemjnkblggimaa.X
open Go
attribute [local irreducible] Ev fE
def wlOk (L : Lanes) (x : Int) : Bool := lanesOk L && inR 0 ((L.ls.length : Int) - 1) x
def wlR (L : Lanes) (x : Int) : Lanes := if wlOk L x then L.wo x.toNat else ⟨0, [], []⟩
theorem own_wl (L : Lanes) (b : Bool) : ownR (.tup [L.ow, .bool b]) = true := by
  have e1 := own_lns L.ls
  have e2 := own_ints L.st
  simp only [ownR] at e1 e2
  simp only [Lanes.ow, ownR, ownRL, e1, e2, Bool.and_true]
theorem mkL_get {k : Int} {n i : Nat} (h : i < n) : (lns (mkL k n))[i]? = some [.int .i64 (k + 3 * (i : Int)), .int .i64 (k + 3 * (i : Int) + 1), .int .i64 (k + 3 * (i : Int) + 2)] := by
  simp [lns, lnA, mkL, h]
theorem wo_ok {L : Lanes} (i : Nat) (h : lanesOk L = true) : lanesOk (L.wo i) = true := by
  simp only [lanesOk, Bool.and_eq_true, decide_eq_true_eq, List.all_eq_true, Lanes.wo] at h ⊢
  have := List.length_eraseIdx_le L.ls i
  exact ⟨⟨⟨⟨h.1.1.1.1, decide_eq_true (by omega)⟩, decide_eq_true h.1.1.2⟩, h.1.2⟩, fun x hx => h.2 x (List.mem_of_mem_eraseIdx hx)⟩
theorem wo_ask {L : Lanes} {F T D : Int} (i : Nat) (h : askT L F T D = true) : askT (L.wo i) F T D = true := by
  simp only [askT, Bool.and_eq_true] at h ⊢
  exact ⟨⟨⟨⟨wo_ok i h.1.1.1.1, h.1.1.1.2⟩, h.1.1.2⟩, h.1.2⟩, h.2⟩
def crP (lim : Int) (L : Lanes) (F T D : Int) (i : Nat) : Bool := decide (gvN lim (L.wo i) F T D < gvN lim L F T D)
def crR (lim : Int) (L : Lanes) (F T D : Int) : List Int := if askT L F T D then ni (cuF (crP lim L F T D) L.ls.length) else []
section
variable {C : CT} (hC : Closed Try.prog G0 md0 C)
include hC
theorem t35 (k : Int) (n : Nat) (hk : 0 ≤ k ∧ k < 2^50) (hn : n < 2^40) : Ev C 35 [.sl (lns (mkL k n)), .int .i64 k] (.int .i64 (k + 3 * n)) := by
  refine rT hC Q35 ?_
  simp only [c35, push_cast, ↓J1, ↓J2, N1, N2, N3, reduceCtorEq, N4, N5, N6, reduceIte, N7, I1, I2, I3]
  refine RL_count (fun i => ⟨tb 40 .any [(0, .sl (lns (mkL k n))), (1, .int .i64 (k + 3 * (i : Int))), (5, .int .i64 (i : Int))], [], 0⟩) (fun _ => True) n 0 (hdA []) (by omega) trivial fun i hi _ J hJ => ?_
  by_cases h1 : i < n
  · have e1 := mkL_get (k := k) h1
    have w0 : IntKind.i64.wrap (k + 3 * (i : Int) + 1) = k + 3 * (i : Int) + 1 := wrap64 (by omega) (by omega)
    have w1 : IntKind.i64.wrap (k + 3 * (i : Int) + 1 + 1) = k + 3 * (i : Int) + 1 + 1 := wrap64 (by omega) (by omega)
    have w2 : IntKind.i64.wrap (k + 3 * (i : Int) + 1 + 1 + 1) = k + 3 * (i : Int) + 1 + 1 + 1 := wrap64 (by omega) (by omega)
    have w3 : IntKind.i64.wrap ((i : Int) + 1) = (i : Int) + 1 := wrap64 (by omega) (by omega)
    have ea : k + 3 * (i : Int) + 2 = k + 3 * (i : Int) + 1 + 1 := by omega
    simp only [ea, Int.toNat_natCast, e1, lns_length, mkL_length, w0, w1, w2, w3, push_cast, ↓J1, ↓J2, N1, N2, N3, reduceCtorEq, N4, N5, N6, reduceIte, N7, I1, I2, I3]
    refine ifB_intro (fun _ => ?_) (fun h => by simp at h; omega)
    repeat (refine ⟨by omega, ?_⟩)
    refine hJ h1 trivial _ (hdA [] (hV := ?_))
    simp only [keptV_cons, keptV_nil, tb_get, lk_same, lk_ne, lk_nil, ren, renL, lkp, N7, N1, N5, reduceIte, and_true, true_and, Nat.not_lt_zero, if_false, if_true, Nat.add_zero, Nat.zero_add]
    rw [show k + 3 * ((i + 1 : Nat) : Int) = k + 3 * (i : Int) + 1 + 1 + 1 by omega]
    and_intros <;> first | rfl | simp
  · obtain rfl : i = n := by omega
    simp only [lns_length, mkL_length, push_cast, ↓J1, ↓J2, N1, N2, N3, reduceCtorEq, N4, N5, N6, reduceIte, N7, I1, I2, I3]
    exact ifB_intro (fun h => by simp at h) (fun h => trivial)
theorem t12 (d k : Int) (n m : Nat) (hk : 0 ≤ k ∧ k < 2^47) (hn : n < 2^40) (hm : m < 2^40) : Ev C 12 [.agg [.int .i64 d, .sl (lns (mkL k n)), .sl (ints (run (k + 3 * (n : Int)) m))], .int .i64 k] (.int .i64 (k + 3 * (n : Int) + m)) := by
  have c1 := t35 hC k n (by omega) hn
  have c2 := t17 hC (k + 3 * (n : Int)) m (by omega) (by omega)
  have d1 : decide (k + 3 * (n : Int) < 0) = false := decide_eq_false (by omega)
  have d2 : decide (k + 3 * (n : Int) + (m : Int) < 0) = false := decide_eq_false (by omega)
  refine rT hC Q12 ?_
  simp only [c12, push_cast, ↓J1, ↓J2, N1, N2, N3, reduceCtorEq, N4, N5, N6, reduceIte, N7, I1, I2, I3]
  refine ⟨_, c1, ?_⟩
  simp only [d1, push_cast, ↓J1, ↓J2, N1, N2, N3, reduceCtorEq, N4, N5, N6, reduceIte, N7, I1, I2, I3]
  refine ⟨_, c2, ?_⟩
  simp only [d2, push_cast, ↓J1, ↓J2, N1, N2, N3, reduceCtorEq, N4, N5, N6, reduceIte, N7, I1, I2, I3]
theorem t7 (L : Lanes) (x : Int) (h1 : L.ls.length < 2^40) (h2 : L.st.length < 2^40) : Ev C 7 [L.av, .int .i64 x] (.tup [(wlR L x).ow, .bool (wlOk L x)]) := by
  have c1 := t25 hC L (by omega) (by omega)
  have ho := own_wl (wlR L x) (wlOk L x)
  have c3 := fun i hi => t27 hC L i hi h1 h2
  have w1 : IntKind.i64.wrap ((L.ls.length : Int) - 1) = (L.ls.length : Int) - 1 := wrap64 (by omega) (by omega)
  simp only [Lanes.av] at *
  refine rT hC Q7 ?_ (ho)
  simp only [X.c7, push_cast, ↓J1, ↓J2, N1, N2, N3, reduceCtorEq, N4, N5, N6, reduceIte, N7, I1, I2, I3]
  refine ⟨_, c1, ?_⟩
  cases g1 : lanesOk L
  · simp only [wlR, wlOk, g1, Bool.false_and, Bool.false_eq_true, if_false, Bool.not_false, Lanes.ow, push_cast, ↓J1, ↓J2, N1, N2, N3, reduceCtorEq, N4, N5, N6, reduceIte, N7, I1, I2, I3]
    exact RetTo_nil (r0 := .tup [.agg [.int .i64 0, .nil, .nil], .bool false]) (by simp only [conR, conRL, isF, hget, hdel, List.drop_zero, if_true, if_false, reduceIte, N5, reduceCtorEq]; rfl) (NilTo_tup (NilToL_cons (NilTo_agg (NilToL_cons (NilTo.refl _) (NilToL_cons NilTo_nl (NilToL_cons NilTo_nl NilToL_nil)))) (NilToL_cons (NilTo.refl _) NilToL_nil)))
  simp only [lns_length, w1, Bool.not_true, push_cast, ↓J1, ↓J2, N1, N2, N3, reduceCtorEq, N4, N5, N6, reduceIte, N7, I1, I2, I3]
  refine ⟨_, t26 hC _ _ _, ?_⟩
  rw [show (decide (0 ≤ x) && decide (x ≤ (L.ls.length : Int) - 1)) = inR 0 ((L.ls.length : Int) - 1) x from rfl]
  cases g2 : inR 0 ((L.ls.length : Int) - 1) x
  · simp only [wlR, wlOk, g1, g2, Bool.and_false, Bool.false_eq_true, if_false, Bool.not_false, Lanes.ow, push_cast, ↓J1, ↓J2, N1, N2, N3, reduceCtorEq, N4, N5, N6, reduceIte, N7, I1, I2, I3]
    exact RetTo_nil (r0 := .tup [.agg [.int .i64 0, .nil, .nil], .bool false]) (by simp only [conR, conRL, isF, hget, hdel, List.drop_zero, if_true, if_false, reduceIte, N5, reduceCtorEq]; rfl) (NilTo_tup (NilToL_cons (NilTo_agg (NilToL_cons (NilTo.refl _) (NilToL_cons NilTo_nl (NilToL_cons NilTo_nl NilToL_nil)))) (NilToL_cons (NilTo.refl _) NilToL_nil)))
  have g3 := g2
  simp only [inR, Bool.and_eq_true, decide_eq_true_eq] at g3
  obtain ⟨i, rfl⟩ : ∃ i : Nat, x = i := ⟨x.toNat, by omega⟩
  simp only [wlR, wlOk, g1, g2, Bool.and_true, if_true, Int.toNat_natCast, push_cast, ↓J1, ↓J2, N1, N2, N3, reduceCtorEq, N4, N5, N6, reduceIte, N7, I1, I2, I3]
  refine ⟨_, c3 i (by omega), ?_⟩
  have tk2 : List.take L.st.length (ints L.st) = ints L.st := List.take_of_length_le (by rw [ints_length]; omega)
  have tk3 : List.take (L.ls.eraseIdx i).length (lns (L.ls.eraseIdx i)) = lns (L.ls.eraseIdx i) := List.take_of_length_le (by rw [lns_length]; omega)
  simp only [Lanes.ow, Lanes.wo, lns_length, ints_length, push_cast, ↓J1, ↓J2, N1, N2, N3, reduceCtorEq, N4, N5, N6, reduceIte, N7, I1, I2, I3]
  exact RetTo_of (by simp only [conR, conRL, isF, hget, hdel, List.drop_zero, List.take_length, if_true, if_false, reduceIte, N5, reduceCtorEq, tk2, tk3]; rfl)
theorem t9 (hD : DelL C) (L : Lanes) (x : Int) (h1 : L.ls.length < 2^40) (h2 : L.st.length < 2^40) : Ev C 9 [L.av, .int .i64 x] (.tup [(wlR L x).ow, .bool (wlOk L x)]) := by
  have c1 := t30 hC L (by omega) (by omega)
  have ho := own_wl (wlR L x) (wlOk L x)
  have c3 := fun i hi => t32 hC hD L i hi h1 h2
  simp only [Lanes.av] at *
  refine rT hC Q9 ?_ (ho)
  simp only [c9, push_cast, ↓J1, ↓J2, N1, N2, N3, reduceCtorEq, N4, N5, N6, reduceIte, N7, I1, I2, I3]
  refine ⟨_, c1, ?_⟩
  cases g1 : lanesOk L
  · simp only [wlR, wlOk, g1, Bool.false_and, Bool.false_eq_true, if_false, Bool.not_false, Lanes.ow, push_cast, ↓J1, ↓J2, N1, N2, N3, reduceCtorEq, N4, N5, N6, reduceIte, N7, I1, I2, I3]
    exact RetTo_nil (r0 := .tup [.agg [.int .i64 0, .nil, .nil], .bool false]) (by simp only [conR, conRL, isF, hget, hdel, List.drop_zero, if_true, if_false, reduceIte, N5, reduceCtorEq]; rfl) (NilTo_tup (NilToL_cons (NilTo_agg (NilToL_cons (NilTo.refl _) (NilToL_cons NilTo_nl (NilToL_cons NilTo_nl NilToL_nil)))) (NilToL_cons (NilTo.refl _) NilToL_nil)))
  simp only [lns_length, Bool.not_true, push_cast, ↓J1, ↓J2, N1, N2, N3, reduceCtorEq, N4, N5, N6, reduceIte, N7, I1, I2, I3]
  refine ⟨_, t31 hC _ _ ⟨by omega, by omega⟩, ?_⟩
  rw [show (decide (0 ≤ x) && decide (x ≤ (L.ls.length : Int) - 1)) = inR 0 ((L.ls.length : Int) - 1) x from rfl]
  cases g2 : inR 0 ((L.ls.length : Int) - 1) x
  · simp only [wlR, wlOk, g1, g2, Bool.and_false, Bool.false_eq_true, if_false, Bool.not_false, Lanes.ow, push_cast, ↓J1, ↓J2, N1, N2, N3, reduceCtorEq, N4, N5, N6, reduceIte, N7, I1, I2, I3]
    exact RetTo_nil (r0 := .tup [.agg [.int .i64 0, .nil, .nil], .bool false]) (by simp only [conR, conRL, isF, hget, hdel, List.drop_zero, if_true, if_false, reduceIte, N5, reduceCtorEq]; rfl) (NilTo_tup (NilToL_cons (NilTo_agg (NilToL_cons (NilTo.refl _) (NilToL_cons NilTo_nl (NilToL_cons NilTo_nl NilToL_nil)))) (NilToL_cons (NilTo.refl _) NilToL_nil)))
  have g3 := g2
  simp only [inR, Bool.and_eq_true, decide_eq_true_eq] at g3
  obtain ⟨i, rfl⟩ : ∃ i : Nat, x = i := ⟨x.toNat, by omega⟩
  simp only [wlR, wlOk, g1, g2, Bool.and_true, if_true, Int.toNat_natCast, push_cast, ↓J1, ↓J2, N1, N2, N3, reduceCtorEq, N4, N5, N6, reduceIte, N7, I1, I2, I3]
  refine ⟨_, c3 i (by omega), ?_⟩
  have tk2 : List.take L.st.length (ints L.st) = ints L.st := List.take_of_length_le (by rw [ints_length]; omega)
  have tk3 : List.take (L.ls.eraseIdx i).length (lns (L.ls.eraseIdx i)) = lns (L.ls.eraseIdx i) := List.take_of_length_le (by rw [lns_length]; omega)
  simp only [Lanes.ow, Lanes.wo, lns_length, ints_length, push_cast, ↓J1, ↓J2, N1, N2, N3, reduceCtorEq, N4, N5, N6, reduceIte, N7, I1, I2, I3]
  exact RetTo_of (by simp only [conR, conRL, isF, hget, hdel, List.drop_zero, List.take_length, if_true, if_false, reduceIte, N5, reduceCtorEq, tk2, tk3]; rfl)
theorem t13 {lim : Int} (r1 : 10000000 = lim) (L : Lanes) (F T D : Int) (h1 : L.ls.length < 2^40) (h2 : L.st.length < 2^40) : Ev C 13 [L.av, .int .i64 F, .int .i64 T, .int .i64 D] (.tup [.ow 1 (ints (crR lim L F T D)), .bool (askT L F T D)]) := by
  have c1 := t36 hC L F T D (by omega) (by omega)
  have c3 := fun i hi => t27 hC L i hi h1 h2
  simp only [Lanes.av] at c1 c3 ⊢
  refine rT hC Q13 ?_ (own_lb _ _)
  simp only [c13, push_cast, ↓J1, ↓J2, N1, N2, N3, reduceCtorEq, N4, N5, N6, reduceIte, N7, I1, I2, I3]
  refine ⟨_, c1, ?_⟩
  cases g : askT L F T D
  · simp only [crR, g, Bool.false_eq_true, if_false, Bool.not_false, push_cast, ↓J1, ↓J2, N1, N2, N3, reduceCtorEq, N4, N5, N6, reduceIte, N7, I1, I2, I3]
    exact ⟨.tup [.nil, .bool false], _, by simp only [conR, conRL, isF, Option.map_some, Option.bind_some]; rfl, by simp [NilTo, NilToL, ints]⟩
  have c2 := qG_at hC r1 L F T D g
  have c4 := fun i => qG_at hC r1 (L.wo i) F T D (wo_ask i g)
  have hp : ∀ i, decide (gvN lim ⟨L.d, L.ls.eraseIdx i, L.st⟩ F T D < gvN lim L F T D) = crP lim L F T D i := fun i => rfl
  simp only [crR, g, if_true]
  generalize crP lim L F T D = pp at *
  generalize gvN lim L F T D = want at *
  have tk2 : List.take L.st.length (ints L.st) = ints L.st := List.take_of_length_le (by rw [ints_length]; omega)
  have tk3 : ∀ i, List.take (L.ls.eraseIdx i).length (lns (L.ls.eraseIdx i)) = lns (L.ls.eraseIdx i) := fun i => List.take_of_length_le (by rw [lns_length]; omega)
  simp only [Lanes.av, Lanes.wo] at c2 c4
  simp only [Lanes.ow, Lanes.wo] at c3
  simp only [Lanes.av, Bool.not_true, push_cast, ↓J1, ↓J2, N1, N2, N3, reduceCtorEq, N4, N5, N6, reduceIte, N7, I1, I2, I3]
  refine ⟨_, c2, ?_⟩
  simp only [lns_length, push_cast, ↓J1, ↓J2, N1, N2, N3, reduceCtorEq, N4, N5, N6, reduceIte, N7, I1, I2, I3]
  refine RL_count (fun k => ⟨tb 45 .any [(11, .ref 1 none 1 0 (cuF pp k).length), (1, .int .i64 F), (2, .int .i64 T), (3, .int .i64 D), (4, .ptr 0 none 0 0 0), (10, .int .i64 want), (26, .int .i64 (L.ls.length : Int)), (27, .int .i64 (k : Int))], [(1, .slice 1 (ints (ni (cuF pp k)))), (0, .var [.int .i64 L.d, .sl (lns L.ls), .sl (ints L.st)])], 2⟩) (fun _ => True) L.ls.length 0 (hdO 11 1 1 [(0, 0)]) (by omega) trivial fun k hk _ J hJ => ?_
  have hle := cuF_le pp k
  have tkc : List.take (cuF pp k).length (ints (ni (cuF pp k))) = ints (ni (cuF pp k)) := List.take_of_length_le (by rw [ints_length, ni_length]; omega)
  by_cases h3 : k < L.ls.length
  rotate_left
  · obtain rfl : k = L.ls.length := by omega
    simp only [push_cast, ↓J1, ↓J2, N1, N2, N3, reduceCtorEq, N4, N5, N6, reduceIte, N7, I1, I2, I3]
    refine ifB_intro (fun h => by simp at h) (fun h => ?_)
    exact RetTo_of (by simp only [conR, conRL, isF, hget, hdel, List.drop_zero, tkc, ints_length, ni_length, if_true, if_false, reduceIte, N5, reduceCtorEq]; rfl)
  have hK := hJ h3 trivial
  clear hJ
  have hlt : decide ((k : Int) < (L.ls.length : Int)) = true := decide_eq_true (by omega)
  rw [cuF_succ] at hK
  have w3 : IntKind.i64.wrap ((k : Int) + 1) = (k : Int) + 1 := wrap64 (by omega) (by omega)
  simp only [hlt, w3, push_cast, ↓J1, ↓J2, N1, N2, N3, reduceCtorEq, N4, N5, N6, reduceIte, N7, I1, I2, I3]
  refine ⟨_, c3 k h3, ?_⟩
  simp only [lns_length, ints_length, frzLL_lns, frzLL_ints, tk2, tk3, w3, push_cast, ↓J1, ↓J2, N1, N2, N3, reduceCtorEq, N4, N5, N6, reduceIte, N7, I1, I2, I3]
  refine ⟨_, c4 k, ?_⟩
  simp only [hp, w3, push_cast, ↓J1, ↓J2, N1, N2, N3, reduceCtorEq, N4, N5, N6, reduceIte, N7, I1, I2, I3]
  cases g2 : pp k
  · simp only [g2, Bool.false_eq_true, if_false, List.append_nil] at hK
    simp only [g2, push_cast, ↓J1, ↓J2, N1, N2, N3, reduceCtorEq, N4, N5, N6, reduceIte, N7, I1, I2, I3]
    exact hK _ (hdA [(1, 1), (0, 0)])
  · simp only [g2, if_true, List.length_append, List.length_singleton] at hK
    simp only [g2, tkc, ints_length, ni_length, allScs, apYR_sc, push_cast, ↓J1, ↓J2, N1, N2, N3, reduceCtorEq, N4, N5, N6, reduceIte, N7, I1, I2, I3]
    repeat (refine ⟨by omega, ?_⟩)
    refine hK _ (hdA [(5, 1), (0, 0)] (hh := ?_))
    simp only [canR, canB, renO, renL, ren, lkp, hget, N7, N5, Nat.not_lt_zero, if_false, if_true, reduceIte, List.append_nil, List.nil_append, ni_sn]
    all_goals rfl
theorem t14 {lim lim' : Int} (r1 : 10000000 = lim) (r2 : 1000000000 = lim') (hD : DelL C) (L : Lanes) (F T D : Int) (h1 : L.ls.length < 2^40) (h2 : L.st.length < 2^40) : Ev C 14 [L.av, .int .i64 F, .int .i64 T, .int .i64 D] (.tup [.ow 1 (ints (crR lim L F T D)), .bool (askT L F T D)]) := by
  have c1 := t38 hC r1 r2 L F T D (by omega) (by omega)
  have c3 := fun i hi => t32 hC hD L i hi h1 h2
  simp only [Lanes.av] at c1 c3 ⊢
  refine rT hC Q14 ?_ (own_lb _ _)
  simp only [c14, push_cast, ↓J1, ↓J2, N1, N2, N3, reduceCtorEq, N4, N5, N6, reduceIte, N7, I1, I2, I3]
  refine ⟨_, c1, ?_⟩
  cases g : askT L F T D
  · simp only [crR, g, Bool.false_eq_true, if_false, Bool.not_false, push_cast, ↓J1, ↓J2, N1, N2, N3, reduceCtorEq, N4, N5, N6, reduceIte, N7, I1, I2, I3]
    exact ⟨.tup [.nil, .bool false], _, by simp only [conR, conRL, isF, Option.map_some, Option.bind_some]; rfl, by simp [NilTo, NilToL, ints]⟩
  have c4 := fun i => dl_at hC r1 r2 (L.wo i) F T D (wo_ask i g)
  have hp : ∀ i, decide (gvN lim ⟨L.d, L.ls.eraseIdx i, L.st⟩ F T D < gvN lim L F T D) = crP lim L F T D i := fun i => rfl
  simp only [crR, g, if_true]
  generalize crP lim L F T D = pp at *
  generalize gvN lim L F T D = want at *
  have tk2 : List.take L.st.length (ints L.st) = ints L.st := List.take_of_length_le (by rw [ints_length]; omega)
  have tk3 : ∀ i, List.take (L.ls.eraseIdx i).length (lns (L.ls.eraseIdx i)) = lns (L.ls.eraseIdx i) := fun i => List.take_of_length_le (by rw [lns_length]; omega)
  simp only [Lanes.av, Lanes.wo] at c4
  simp only [Lanes.ow, Lanes.wo] at c3
  simp only [Lanes.av, Bool.not_true, if_true, push_cast, ↓J1, ↓J2, N1, N2, N3, reduceCtorEq, N4, N5, N6, reduceIte, N7, I1, I2, I3]
  simp only [lns_length, push_cast, ↓J1, ↓J2, N1, N2, N3, reduceCtorEq, N4, N5, N6, reduceIte, N7, I1, I2, I3]
  refine RL_count (fun k => ⟨tb 52 .any [(12, .ref 1 none 1 0 (cuF pp k).length), (1, .int .i64 F), (2, .int .i64 T), (3, .int .i64 D), (4, .ptr 0 none 0 0 0), (10, .int .i64 want), (29, .int .i64 (L.ls.length : Int)), (30, .int .i64 (k : Int))], [(1, .slice 1 (ints (ni (cuF pp k)))), (0, .var [.int .i64 L.d, .sl (lns L.ls), .sl (ints L.st)])], 2⟩) (fun _ => True) L.ls.length 0 (hdA [(1, 1), (0, 0)]) (by omega) trivial fun k hk _ J hJ => ?_
  have hle := cuF_le pp k
  have tkc : List.take (cuF pp k).length (ints (ni (cuF pp k))) = ints (ni (cuF pp k)) := List.take_of_length_le (by rw [ints_length, ni_length]; omega)
  by_cases h3 : k < L.ls.length
  rotate_left
  · obtain rfl : k = L.ls.length := by omega
    simp only [push_cast, ↓J1, ↓J2, N1, N2, N3, reduceCtorEq, N4, N5, N6, reduceIte, N7, I1, I2, I3]
    refine ifB_intro (fun h => by simp at h) (fun h => ?_)
    exact RetTo_of (by simp only [conR, conRL, isF, hget, hdel, List.drop_zero, tkc, ints_length, ni_length, if_true, if_false, reduceIte, N5, reduceCtorEq]; rfl)
  have hK := hJ h3 trivial
  clear hJ
  have hlt : decide ((k : Int) < (L.ls.length : Int)) = true := decide_eq_true (by omega)
  rw [cuF_succ] at hK
  have w3 : IntKind.i64.wrap ((k : Int) + 1) = (k : Int) + 1 := wrap64 (by omega) (by omega)
  simp only [hlt, w3, push_cast, ↓J1, ↓J2, N1, N2, N3, reduceCtorEq, N4, N5, N6, reduceIte, N7, I1, I2, I3]
  refine ⟨_, c3 k h3, ?_⟩
  simp only [lns_length, ints_length, frzLL_lns, frzLL_ints, tk2, tk3, w3, push_cast, ↓J1, ↓J2, N1, N2, N3, reduceCtorEq, N4, N5, N6, reduceIte, N7, I1, I2, I3]
  refine ⟨_, c4 k, ?_⟩
  simp only [hp, w3, push_cast, ↓J1, ↓J2, N1, N2, N3, reduceCtorEq, N4, N5, N6, reduceIte, N7, I1, I2, I3]
  cases g2 : pp k
  · simp only [g2, Bool.false_eq_true, if_false, List.append_nil] at hK
    simp only [g2, push_cast, ↓J1, ↓J2, N1, N2, N3, reduceCtorEq, N4, N5, N6, reduceIte, N7, I1, I2, I3]
    exact hK _ (hdA [(1, 1), (0, 0)])
  · simp only [g2, if_true, List.length_append, List.length_singleton] at hK
    simp only [g2, tkc, ints_length, ni_length, allScs, apYR_sc, push_cast, ↓J1, ↓J2, N1, N2, N3, reduceCtorEq, N4, N5, N6, reduceIte, N7, I1, I2, I3]
    repeat (refine ⟨by omega, ?_⟩)
    refine hK _ (hdA [(7, 1), (0, 0)] (hh := ?_))
    simp only [canR, canB, renO, renL, ren, lkp, hget, N7, N5, Nat.not_lt_zero, if_false, if_true, reduceIte, List.append_nil, List.nil_append, ni_sn]
    all_goals rfl
theorem t4 {lim lim' : Int} (r1 : 10000000 = lim) (r2 : 1000000000 = lim') (hD : DelL C) (L : Lanes) (F T x : Int) (h1 : L.ls.length < 2^50) (h2 : L.st.length < 2^50) : Ev C 4 [L.av, .int .i64 F, .int .i64 T, .int .i64 x] (.bool true) := by
  have c1 := t6 hC L 1048576 (by omega) h1 h2
  have c4 := t13 hC r1 L F T x
  have c5 := t14 hC r1 r2 hD L F T x
  have c6 := t10 hC L L h1 h2 h1 h2
  have hrl : (crR lim L F T x).length ≤ 42 := by
    rw [crR]
    split
    · rename_i g
      obtain ⟨f, t, d, rfl, rfl, rfl, a1, a2, a3, a4, a5⟩ := askT_at g
      have y := (lanesOk_LOk a1).n
      have z := cuF_le (crP lim L f t d) L.ls.length
      rw [ni_length]; omega
    · simp
  generalize crR lim L F T x = res at *
  generalize askT L F T x = ask at *
  have c7 := t15 hC res res (by omega) (by omega)
  have c8 := t17 hC 1 res.length (by omega) (by omega)
  have c2 := fun (g1 : L.ls.length < 2^30 ∧ L.st.length < 2^30) => t8 hC L g1.1 g1.2
  simp only [Lanes.av, Lanes.ow] at *
  refine rT hC Q4 ?_
  simp only [X.c4, ints_length, push_cast, ↓J1, ↓J2, N1, N2, N3, reduceCtorEq, N4, N5, N6, reduceIte, N7, I1, I2, I3]
  refine ⟨_, c1, ?_⟩
  simp only [push_cast, ↓J1, ↓J2, N1, N2, N3, reduceCtorEq, N4, N5, N6, reduceIte, N7, I1, I2, I3]
  refine ifB_intro (fun h => trivial) (fun h => ?_)
  have g1 : L.ls.length < 2^30 ∧ L.st.length < 2^30 := by simp only [szL] at h; grind
  have c2 := c2 g1
  have c4 := c4 (by omega) (by omega)
  have c5 := c5 (by omega) (by omega)
  refine ⟨_, c2, ?_⟩
  simp only [frzLL_ints, frzLL_lns, push_cast, ↓J1, ↓J2, N1, N2, N3, reduceCtorEq, N4, N5, N6, reduceIte, N7, I1, I2, I3]
  refine ⟨_, c4, ?_⟩
  simp only [frzLL_ints, frzLL_lns, push_cast, ↓J1, ↓J2, N1, N2, N3, reduceCtorEq, N4, N5, N6, reduceIte, N7, I1, I2, I3]
  refine ⟨_, c2, ?_⟩
  simp only [frzLL_ints, frzLL_lns, push_cast, ↓J1, ↓J2, N1, N2, N3, reduceCtorEq, N4, N5, N6, reduceIte, N7, I1, I2, I3]
  refine ⟨_, c5, ?_⟩
  simp only [frzLL_ints, frzLL_lns, push_cast, ↓J1, ↓J2, N1, N2, N3, reduceCtorEq, N4, N5, N6, reduceIte, N7, I1, I2, I3]
  refine ⟨_, c7, ?_⟩
  simp only [frzLL_ints, frzLL_lns, push_cast, ↓J1, ↓J2, N1, N2, N3, reduceCtorEq, N4, N5, N6, reduceIte, N7, I1, I2, I3]
  refine ⟨_, c2, ?_⟩
  simp only [frzLL_ints, frzLL_lns, push_cast, ↓J1, ↓J2, N1, N2, N3, reduceCtorEq, N4, N5, N6, reduceIte, N7, I1, I2, I3]
  refine ⟨_, c6, ?_⟩
  simp only [frzLL_ints, frzLL_lns, push_cast, ↓J1, ↓J2, N1, N2, N3, reduceCtorEq, N4, N5, N6, reduceIte, N7, I1, I2, I3]
  rw [lns_length, ints_length]
  have d1 : decide (1 + 3 * (L.ls.length : Int) + (L.st.length : Int) < 0) = false := decide_eq_false (by omega)
  have d2 : decide (1 + (res.length : Int) < 0) = false := decide_eq_false (by omega)
  have tk : List.take res.length (ints (run 1 res.length)) = ints (run 1 res.length) := List.take_of_length_le (by rw [ints_length, run_length]; omega)
  have tk2 : List.take res.length (ints res) = ints res := List.take_of_length_le (by rw [ints_length]; omega)
  refine ⟨_, t11 hC L.d L.ls L.st 1 _ 4 5 10 rfl rfl (by omega) (by simp [below, canB, renO, ren, renL, lkp]) (by simp [solid, killH, killL, killS]) (by omega) (by omega) (by omega), ?_⟩
  rintro v h' n' ⟨rfl, rfl, rfl⟩ _
  simp only [d1, frzLL_ints, tk2, ints_length, push_cast, ↓J1, ↓J2, N1, N2, N3, reduceCtorEq, N4, N5, N6, reduceIte, N7, I1, I2, I3]
  refine ⟨_, c7, ?_⟩
  simp only [frzLL_ints, ints_length, push_cast, ↓J1, ↓J2, N1, N2, N3, reduceCtorEq, N4, N5, N6, reduceIte, N7, I1, I2, I3]
  refine ⟨_, t16 hC res 1 _ 7 11 rfl (by simp [below, canB, renO, ren, renL, lkp]) (by omega) (by omega), ?_⟩
  rintro v h' n' ⟨rfl, rfl, rfl⟩ _
  rw [mk_run (l := res) (k := 1)]
  simp only [frzLL_ints, tk, tk2, push_cast, ↓J1, ↓J2, N1, N2, N3, reduceCtorEq, N4, N5, N6, reduceIte, N7, I1, I2, I3]
  refine ⟨_, c8, ?_⟩
  simp only [frzLL_ints, tk, tk2, d2, push_cast, ↓J1, ↓J2, N1, N2, N3, reduceCtorEq, N4, N5, N6, reduceIte, N7, I1, I2, I3]
  refine ⟨_, c2, ?_⟩
  simp only [frzLL_ints, frzLL_lns, push_cast, ↓J1, ↓J2, N1, N2, N3, reduceCtorEq, N4, N5, N6, reduceIte, N7, I1, I2, I3]
  refine ⟨_, c5, ?_⟩
  simp only [frzLL_ints, tk, tk2, ints_length, push_cast, ↓J1, ↓J2, N1, N2, N3, reduceCtorEq, N4, N5, N6, reduceIte, N7, I1, I2, I3]
  refine ⟨_, c7, ?_⟩
  simp only [frzLL_ints, tk, tk2, push_cast, ↓J1, ↓J2, N1, N2, N3, reduceCtorEq, N4, N5, N6, reduceIte, N7, I1, I2, I3]
  refine ⟨_, c8, ?_⟩
  simp only [frzLL_ints, tk, tk2, d2, push_cast, ↓J1, ↓J2, N1, N2, N3, reduceCtorEq, N4, N5, N6, reduceIte, N7, I1, I2, I3]
theorem t3 (hD : DelL C) (L : Lanes) (x : Int) (h1 : L.ls.length < 2^50) (h2 : L.st.length < 2^50) : Ev C 3 [L.av, .int .i64 x] (.bool true) := by
  have c1 := t6 hC L 1048576 (by omega) h1 h2
  have c4 := t7 hC L x
  have c5 := t9 hC hD L x
  have c6 := t10 hC L L h1 h2 h1 h2
  have hr : (wlR L x).ls.length ≤ L.ls.length ∧ (wlR L x).st.length ≤ L.st.length := by
    rw [wlR]
    split
    · exact ⟨List.length_eraseIdx_le _ _, Nat.le_refl _⟩
    · exact ⟨Nat.zero_le _, Nat.zero_le _⟩
  obtain ⟨hr1, hr2⟩ := hr
  generalize wlR L x = M at *
  generalize wlOk L x = ok at *
  have c7 := t10 hC M M (by omega) (by omega) (by omega) (by omega)
  have c2 := fun (g1 : L.ls.length < 2^30 ∧ L.st.length < 2^30) => t8 hC L g1.1 g1.2
  simp only [Lanes.av, Lanes.ow, decide_true, BEq.rfl, Bool.and_self] at *
  refine rT hC Q3 ?_
  simp only [X.c3, ints_length, push_cast, ↓J1, ↓J2, N1, N2, N3, reduceCtorEq, N4, N5, N6, reduceIte, N7, I1, I2, I3]
  refine ⟨_, c1, ?_⟩
  simp only [push_cast, ↓J1, ↓J2, N1, N2, N3, reduceCtorEq, N4, N5, N6, reduceIte, N7, I1, I2, I3]
  refine ifB_intro (fun h => trivial) (fun h => ?_)
  have g1 : L.ls.length < 2^30 ∧ L.st.length < 2^30 := by simp only [szL] at h; grind
  have c2 := c2 g1
  have c4 := c4 (by omega) (by omega)
  have c5 := c5 (by omega) (by omega)
  have c8 := t12 hC M.d 1 M.ls.length M.st.length (by omega) (by omega) (by omega)
  have tk1 : List.take L.st.length (ints L.st) = ints L.st := List.take_of_length_le (by rw [ints_length]; omega)
  have tk2 : List.take L.ls.length (lns L.ls) = lns L.ls := List.take_of_length_le (by rw [lns_length]; omega)
  have tk3 : List.take M.st.length (ints M.st) = ints M.st := List.take_of_length_le (by rw [ints_length]; omega)
  have tk4 : List.take M.ls.length (lns M.ls) = lns M.ls := List.take_of_length_le (by rw [lns_length]; omega)
  have tk5 : List.take M.ls.length (lns (mkL 1 M.ls.length)) = lns (mkL 1 M.ls.length) := List.take_of_length_le (by rw [lns_length, mkL_length]; omega)
  have tk6 : ∀ k, List.take M.st.length (ints (run k M.st.length)) = ints (run k M.st.length) := fun k => List.take_of_length_le (by rw [ints_length, run_length]; omega)
  have d1 : decide (1 + 3 * (L.ls.length : Int) + (L.st.length : Int) < 0) = false := decide_eq_false (by omega)
  have d2 : decide (1 + 3 * (M.ls.length : Int) + (M.st.length : Int) < 0) = false := decide_eq_false (by omega)
  refine ⟨_, c2, ?_⟩
  simp only [lns_length, ints_length, frzLL_ints, frzLL_lns, tk1, tk2, tk3, tk4, push_cast, ↓J1, ↓J2, N1, N2, N3, reduceCtorEq, N4, N5, N6, reduceIte, N7, I1, I2, I3]
  refine ⟨_, c4, ?_⟩
  simp only [lns_length, ints_length, frzLL_ints, frzLL_lns, tk1, tk2, tk3, tk4, push_cast, ↓J1, ↓J2, N1, N2, N3, reduceCtorEq, N4, N5, N6, reduceIte, N7, I1, I2, I3]
  refine ⟨_, c2, ?_⟩
  simp only [lns_length, ints_length, frzLL_ints, frzLL_lns, tk1, tk2, tk3, tk4, push_cast, ↓J1, ↓J2, N1, N2, N3, reduceCtorEq, N4, N5, N6, reduceIte, N7, I1, I2, I3]
  refine ⟨_, c5, ?_⟩
  simp only [lns_length, ints_length, frzLL_ints, frzLL_lns, tk1, tk2, tk3, tk4, push_cast, ↓J1, ↓J2, N1, N2, N3, reduceCtorEq, N4, N5, N6, reduceIte, N7, I1, I2, I3]
  refine ⟨_, c7, ?_⟩
  simp only [lns_length, ints_length, frzLL_ints, frzLL_lns, tk1, tk2, tk3, tk4, push_cast, ↓J1, ↓J2, N1, N2, N3, reduceCtorEq, N4, N5, N6, reduceIte, N7, I1, I2, I3]
  refine ⟨_, c2, ?_⟩
  simp only [lns_length, ints_length, frzLL_ints, frzLL_lns, tk1, tk2, tk3, tk4, push_cast, ↓J1, ↓J2, N1, N2, N3, reduceCtorEq, N4, N5, N6, reduceIte, N7, I1, I2, I3]
  refine ⟨_, c6, ?_⟩
  simp only [lns_length, ints_length, frzLL_ints, frzLL_lns, tk1, tk2, tk3, tk4, push_cast, ↓J1, ↓J2, N1, N2, N3, reduceCtorEq, N4, N5, N6, reduceIte, N7, I1, I2, I3]
  refine ⟨_, t11 hC L.d L.ls L.st 1 _ 6 7 14 rfl rfl (by omega) (by simp [below, canB, renO, ren, renL, lkp]) (by simp [solid, killH, killL, killS]) (by omega) (by omega) (by omega), ?_⟩
  rintro v h' n' ⟨rfl, rfl, rfl⟩ _
  simp only [frzLL_ints, frzLL_lns, tk1, tk2, tk3, tk4, tk5, tk6, d1, d2, lns_length, ints_length, push_cast, ↓J1, ↓J2, N1, N2, N3, reduceCtorEq, N4, N5, N6, reduceIte, N7, I1, I2, I3]
  refine ⟨_, c7, ?_⟩
  simp only [frzLL_ints, frzLL_lns, tk1, tk2, tk3, tk4, tk5, tk6, d1, d2, lns_length, ints_length, push_cast, ↓J1, ↓J2, N1, N2, N3, reduceCtorEq, N4, N5, N6, reduceIte, N7, I1, I2, I3]
  refine ⟨_, t11 hC M.d M.ls M.st 1 _ 9 10 15 rfl rfl (by omega) (by simp [below, canB, renO, ren, renL, lkp]) (by simp [solid, killH, killL, killS]) (by omega) (by omega) (by omega), ?_⟩
  rintro v h' n' ⟨rfl, rfl, rfl⟩ _
  rw [mk_run (l := M.st) (k := 1 + 3 * (M.ls.length : Int))]
  simp only [frzLL_ints, frzLL_lns, tk1, tk2, tk3, tk4, tk5, tk6, d1, d2, push_cast, ↓J1, ↓J2, N1, N2, N3, reduceCtorEq, N4, N5, N6, reduceIte, N7, I1, I2, I3]
  refine ⟨_, c8, ?_⟩
  simp only [frzLL_ints, frzLL_lns, tk1, tk2, tk3, tk4, tk5, tk6, d1, d2, push_cast, ↓J1, ↓J2, N1, N2, N3, reduceCtorEq, N4, N5, N6, reduceIte, N7, I1, I2, I3]
  refine ⟨_, c2, ?_⟩
  simp only [frzLL_ints, frzLL_lns, tk1, tk2, tk3, tk4, tk5, tk6, d1, d2, push_cast, ↓J1, ↓J2, N1, N2, N3, reduceCtorEq, N4, N5, N6, reduceIte, N7, I1, I2, I3]
  refine ⟨_, c5, ?_⟩
  simp only [frzLL_ints, frzLL_lns, tk1, tk2, tk3, tk4, tk5, tk6, d1, d2, lns_length, ints_length, push_cast, ↓J1, ↓J2, N1, N2, N3, reduceCtorEq, N4, N5, N6, reduceIte, N7, I1, I2, I3]
  refine ⟨_, c7, ?_⟩
  simp only [frzLL_ints, frzLL_lns, tk1, tk2, tk3, tk4, tk5, tk6, d1, d2, push_cast, ↓J1, ↓J2, N1, N2, N3, reduceCtorEq, N4, N5, N6, reduceIte, N7, I1, I2, I3]
  refine ⟨_, c8, ?_⟩
  simp only [frzLL_ints, frzLL_lns, tk1, tk2, tk3, tk4, tk5, tk6, d1, d2, push_cast, ↓J1, ↓J2, N1, N2, N3, reduceCtorEq, N4, N5, N6, reduceIte, N7, I1, I2, I3]
end
end Go.Proofs.Ytiemjnkblggimaa.X
set_option maxHeartbeats 1000000
set_option maxRecDepth 8000
set_option linter.unusedSimpArgs false
set_option linter.unusedSectionVars false
set_option linter.unusedVariables false
open Nat renaming reduceBEq → N1, reduceAdd → N2, reduceSub → N3, reduceMul → N4, reduceEqDiff → N5, reduceLeDiff → N6, reduceLT → N7
open Int renaming reduceLE → I1, reduceLT → I2, reduceToNat → I3
namespace Go.Proofs.Ytiemjnkblggimaa.X
open Go
attribute [local irreducible] Ev
theorem lwWithoutLane {C : CT} (hC : Closed Try.prog G0 md0 C) (hD : DelL C) : ∀ xs, HasVs Try.prog 14 [25, 3] xs → Ev C 3 xs (.bool true) := by
  rintro xs ⟨x, r, rfl, h0, x1, r1, rfl, h1, rfl⟩
  obtain ⟨ys, rfl, h⟩ := hasV_struct sty_25 h0
  obtain ⟨y1, r, rfl, _, k1, h⟩ := hasE_cons h
  obtain ⟨y2, r, rfl, _, k2, h⟩ := hasE_cons h
  obtain ⟨y3, r, rfl, _, k3, h⟩ := hasE_cons h
  obtain rfl := hasE_nil h
  obtain ⟨d, rfl, _⟩ := has_int tk_3 k1
  obtain ⟨ls, rfl, hl⟩ := has_lanes k2
  obtain ⟨st, rfl, hs⟩ := has_ints k3
  obtain ⟨a, rfl, _⟩ := hasV_int tk_3 h1
  exact t3 hC hD ⟨d, ls, st⟩ a hl hs
theorem lawWithoutLane : ∀ xs, HasVs Try.prog 14 [25, 3] xs → Ev (CS Try.prog G0) 3 xs (.bool true) := lwWithoutLane (CS_closed (by kernel_rfl)) delLane_cs
end Go.Proofs.Ytiemjnkblggimaa.X
