/- A part of the proof: lemmas on the machine or on the functions that the law reaches. No condition of its own. -/
import Derived.Test.YtdhkdkefhoafnaaGreatDoorXP5
import Derived.Test.YtdhkdkefhoafnaaGreatDoorXP6
import Derived.Test.YtdhkdkefhoafnaaGreatDoorXP4
set_option maxHeartbeats 4000000
set_option maxRecDepth 8000
set_option linter.unusedSimpArgs false
set_option linter.unusedVariables false
open Nat renaming reduceBEq → N1, reduceAdd → N2, reduceSub → N3, reduceMul → N4, reduceEqDiff → N5, reduceLeDiff → N6, reduceLT → N7
open Int renaming reduceLE → I1, reduceLT → I2, reduceToNat → I3
namespace Go.Proofs.YtdhkdkefhoafnaaGreatDoor.X
open Go
attribute [local irreducible] Ev
section
variable {C : CT} (hC : Closed Tryz.prog G1 md0 C)
include hC
theorem t46 (k : Opg) (v : Int) (hv : 0 ≤ v ∧ v < 2^50) (h1 : k.tx.size < 2^50) : Ev C 46 [.agg (opgA k), .int .i64 v] (.int .i64 (szOpg k v)) := by
  simp only [opgA]
  refine rT hC Q46 ?_
  simp only [c46, push_cast, ↓J1, ↓J2, N1, N2, N3, reduceCtorEq, N4, N5, N6, reduceIte, N7, I1, I2, I3]
  rw [wrap64 (by omega) (by omega)]
  refine ifB_intro (fun h => ?_) (fun h => ?_)
  · have h' : v < k.tx.size := by simp at h; omega
    simp only [szOpg, sub1, if_pos h']
  · have h' : ¬ v < k.tx.size := by simp at h; omega
    simp only [szOpg, sub1, if_neg h']
theorem t21 (l : List Opg) (v : Int) (hv : 0 ≤ v ∧ v < 2^50) (hl : l.length < 2^50) (hn : ∀ x ∈ l, x.tx.size < 2^50) : Ev C 21 [.sl (opgs l), .int .i64 v] (.int .i64 (szOps l v)) := by
  refine rT hC Q21 ?_
  simp only [c21, opgs_length, push_cast, ↓J1, ↓J2, N1, N2, N3, reduceCtorEq, N4, N5, N6, reduceIte, N7, I1, I2, I3]
  rw [wrap64 (by omega) (by omega)]
  refine ifB_intro (fun h => ?_) (fun h => ?_)
  · have h' : v < l.length := by simp at h; omega
    simp only [szOps, sub1, if_pos h']; rfl
  · have h' : ¬ v < l.length := by simp at h; omega
    have e0 : szOps l v = szAll szOpg l (v - l.length) := by simp only [szOps, sub1, if_neg h', if_neg (show ¬ v - (l.length : Int) < 0 by omega)]
    rw [e0]
    have hok : ∀ x ∈ l, SzOk szOpg (2^50) x := fun x _ => szOpg_ok _ x
    refine RL_count (fun i => ⟨tb 27 .any [(0, .sl (opgs l)), (1, .int .i64 (leftAt szOpg l (v - l.length) i)), (5, .int .i64 (i : Int))], [], 0⟩) (fun i => (0 ≤ leftAt szOpg l (v - l.length) i ∧ leftAt szOpg l (v - l.length) i ≤ v) ∧ szAll szOpg l (v - l.length) = szAll szOpg (l.drop i) (leftAt szOpg l (v - l.length) i)) l.length 0 (hdA []) (by omega) ⟨⟨by simp only [leftAt]; omega, by simp only [leftAt]; omega⟩, rfl⟩ fun i hi ⟨ht0, ht⟩ J hJ => ?_
    by_cases h1 : i < l.length
    · have e1 : (opgs l)[i]? = some (opgA l[i]) := by simp [opgs, h1]
      have hb := (hok _ (List.getElem_mem h1)).le _ ht0.1 (by omega)
      have e2 := leftAt_succ (f := szOpg) (v := v - l.length) h1
      simp only [opgs_length, Int.toNat_natCast, e1, opgA, push_cast, ↓J1, ↓J2, N1, N2, N3, reduceCtorEq, N4, N5, N6, reduceIte, N7, I1, I2, I3]
      refine ifB_intro (fun _ => ?_) (fun h => by simp at h; omega)
      repeat (refine ⟨by omega, ?_⟩)
      refine ⟨_, t46 hC l[i] _ ⟨ht0.1, by omega⟩ (hn _ (List.getElem_mem h1)), ?_⟩
      simp only [push_cast, ↓J1, ↓J2, N1, N2, N3, reduceCtorEq, N4, N5, N6, reduceIte, N7, I1, I2, I3]
      rw [List.drop_eq_getElem_cons h1, szAll] at ht
      refine ifB_intro (fun h => ?_) (fun h => ?_)
      · rw [ht, if_pos (of_decide_eq_true h)]
      · have hn := of_decide_eq_false h
        rw [if_neg hn] at ht
        refine hJ h1 ⟨⟨by rw [e2]; omega, by rw [e2]; omega⟩, by rw [e2]; exact ht⟩ _ (hdA [] (hV := ?_))
        simp only [keptV_cons, keptV_nil, tb_get, lk_same, lk_ne, lk_nil, ren, renL, lkp, N7, N1, N5, reduceIte, and_true, true_and, Nat.not_lt_zero, if_false, if_true, Nat.add_zero, Nat.zero_add]
        rw [wrap64 (by omega) (by omega), e2]
        and_intros <;> rfl
    · simp only [opgs_length, Int.toNat_natCast, push_cast, ↓J1, ↓J2, N1, N2, N3, reduceCtorEq, N4, N5, N6, reduceIte, N7, I1, I2, I3]
      refine ifB_intro (fun h => by simp at h; omega) (fun h => ?_)
      rw [ht, List.drop_eq_nil_of_le (by omega)]
      rfl
theorem t56 (k : Opg) : Ev C 56 [.agg (opgA k)] (.agg (opgA k)) := by
  simp only [opgA]
  refine rT hC Q56 ?_
  simp only [c56, push_cast, ↓J1, ↓J2, N1, N2, N3, reduceCtorEq, N4, N5, N6, reduceIte, N7, I1, I2, I3]
  exact rtA
theorem t31 (l : List Opg) (hl : l.length < 2^30) : Ev C 31 [.sl (opgs l)] (.ow 2 (opgs l)) := by
  refine rT hC Q31 ?_ (by simp only [ownR, own_opgs])
  simp only [c31, opgs_length, push_cast, ↓J1, ↓J2, N1, N2, N3, reduceCtorEq, N4, N5, N6, reduceIte, N7, I1, I2, I3]
  repeat (refine ⟨by omega, ?_⟩)
  refine RL_count (fun i => ⟨tb 23 .any [(0, .sl (opgs l)), (3, .ref 0 none 2 0 l.length), (4, .int .i64 (i : Int))], [(0, .slice 2 ((l.take i).map opgA ++ List.replicate (l.length - i) [.int .i64 0, .str ByteArray.empty]))], 1⟩) (fun _ => True) l.length 0 (hdA [(0, 0)]) (by omega) trivial fun i hi _ J hJ => ?_
  by_cases h1 : i < l.length
  · have e1 : (opgs l)[i]? = some (opgA l[i]) := by simp [opgs, h1]
    rw [show l.length - i = (l.length - (i + 1)) + 1 by omega, List.replicate_succ]
    simp only [opgs_length, Int.toNat_natCast, e1, opgA, push_cast, ↓J1, ↓J2, N1, N2, N3, reduceCtorEq, N4, N5, N6, reduceIte, N7, I1, I2, I3]
    refine ifB_intro (fun _ => ?_) (fun h => by simp at h; omega)
    repeat (refine ⟨by omega, ?_⟩)
    refine ⟨_, t56 hC l[i], ?_⟩
    simp only [Int.toNat_natCast, opgA, opgA, List.take_length, mid_get (show ((l.take i).map opgA).length = i by simp; omega), mid_set (show ((l.take i).map opgA).length = i by simp; omega), push_cast, ↓J1, ↓J2, N1, N2, N3, reduceCtorEq, N4, N5, N6, reduceIte, N7, I1, I2, I3]
    repeat (refine ⟨by omega, ?_⟩)
    refine hJ h1 trivial _ (hdA [(0, 0)] (hh := ?_))
    rw [List.take_succ_eq_append_getElem h1, List.map_append, List.append_assoc]
    simp only [hdel, canR, canB, renO, renL, ren, lkp, hget, N7, N5, Nat.not_lt_zero, if_false, if_true, reduceIte, List.append_nil, List.nil_append]
    rfl
  · simp only [opgs_length, Int.toNat_natCast, push_cast, ↓J1, ↓J2, N1, N2, N3, reduceCtorEq, N4, N5, N6, reduceIte, N7, I1, I2, I3]
    refine ifB_intro (fun h => by simp at h; omega) (fun h => ?_)
    rw [List.take_of_length_le (by omega), show l.length - i = 0 by omega]
    exact RetTo_ow (by simp [hget, opgs]) (by simp [opgs])
theorem t67 (t u : Opg) : Ev C 67 [.agg (opgA t), .agg (opgA u)] (.bool (decide (t = u))) := by
  obtain ⟨a1, a2⟩ := t
  obtain ⟨b1, b2⟩ := u
  simp only [opgA]
  refine rT hC Q67 ?_
  simp only [c67, push_cast, ↓J1, ↓J2, N1, N2, N3, reduceCtorEq, N4, N5, N6, reduceIte, N7, I1, I2, I3]
  repeat' (first
    | simp only [push_cast, ↓J1, ↓J2, N1, N2, N3, reduceCtorEq, N4, N5, N6, reduceIte, N7, I1, I2, I3]
    | refine ifB_intro (fun h => ?_) (fun h => ?_))
  all_goals simp_all
theorem t41 (l m : List Opg) (hl : l.length < 2^50) (hm : m.length < 2^50) : Ev C 41 [.sl (opgs l), .sl (opgs m)] (.bool (decide (l = m))) := by
  refine rT hC Q41 ?_
  simp only [c41, opgs_length, push_cast, ↓J1, ↓J2, N1, N2, N3, reduceCtorEq, N4, N5, N6, reduceIte, N7, I1, I2, I3]
  refine ifB_intro (fun h => ?_) (fun h => ?_)
  · have hlm : l.length = m.length := by simp at h; omega
    refine RL_count (fun i => ⟨tb 27 .any [(0, .sl (opgs l)), (1, .sl (opgs m)), (5, .int .i64 (i : Int))], [], 0⟩) (fun i => l.take i = m.take i) l.length 0 (hdA []) (by omega) rfl fun i hi ht J hJ => ?_
    by_cases h1 : i < l.length
    · have h2 : i < m.length := by omega
      have e1 : (opgs l)[i]? = some (opgA l[i]) := by simp [opgs, h1]
      have e2 : (opgs m)[i]? = some (opgA m[i]) := by simp [opgs, h2]
      simp only [opgs_length, Int.toNat_natCast, e1, e2, opgA, push_cast, ↓J1, ↓J2, N1, N2, N3, reduceCtorEq, N4, N5, N6, reduceIte, N7, I1, I2, I3]
      refine ifB_intro (fun _ => ?_) (fun h => by simp at h; omega)
      repeat (refine ⟨by omega, ?_⟩)
      refine ⟨_, t67 hC l[i] m[i], ?_⟩
      simp only [push_cast, ↓J1, ↓J2, N1, N2, N3, reduceCtorEq, N4, N5, N6, reduceIte, N7, I1, I2, I3]
      refine ifB_intro (fun h => ?_) (fun h => ?_)
      · refine hJ h1 ?_ _ (hdA [])
        rw [List.take_succ_eq_append_getElem h1, List.take_succ_eq_append_getElem h2, ht, of_decide_eq_true h]
      · have : ¬ l = m := by rintro rfl; simp at h
        simp [this]
    · simp only [opgs_length, Int.toNat_natCast, push_cast, ↓J1, ↓J2, N1, N2, N3, reduceCtorEq, N4, N5, N6, reduceIte, N7, I1, I2, I3]
      refine ifB_intro (fun h => by simp at h; omega) (fun h => ?_)
      rw [List.take_of_length_le (by omega), List.take_of_length_le (by omega)] at ht
      simp [ht]
  · have : ¬ l = m := by rintro rfl; simp at h
    simp [this]
theorem t55 (k : Sld) : Ev C 55 [.agg (sldA k)] (.agg (sldA k)) := by
  simp only [sldA]
  refine rT hC Q55 ?_
  simp only [c55, push_cast, ↓J1, ↓J2, N1, N2, N3, reduceCtorEq, N4, N5, N6, reduceIte, N7, I1, I2, I3]
  exact rtA
theorem t30 (l : List Sld) (hl : l.length < 2^30) : Ev C 30 [.sl (slds l)] (.ow 3 (slds l)) := by
  refine rT hC Q30 ?_ (by simp only [ownR, own_slds])
  simp only [c30, slds_length, push_cast, ↓J1, ↓J2, N1, N2, N3, reduceCtorEq, N4, N5, N6, reduceIte, N7, I1, I2, I3]
  repeat (refine ⟨by omega, ?_⟩)
  refine RL_count (fun i => ⟨tb 23 .any [(0, .sl (slds l)), (3, .ref 0 none 3 0 l.length), (4, .int .i64 (i : Int))], [(0, .slice 3 ((l.take i).map sldA ++ List.replicate (l.length - i) [.int .i64 0, .int .i64 0, .int .i64 0]))], 1⟩) (fun _ => True) l.length 0 (hdA [(0, 0)]) (by omega) trivial fun i hi _ J hJ => ?_
  by_cases h1 : i < l.length
  · have e1 : (slds l)[i]? = some (sldA l[i]) := by simp [slds, h1]
    rw [show l.length - i = (l.length - (i + 1)) + 1 by omega, List.replicate_succ]
    simp only [slds_length, Int.toNat_natCast, e1, sldA, push_cast, ↓J1, ↓J2, N1, N2, N3, reduceCtorEq, N4, N5, N6, reduceIte, N7, I1, I2, I3]
    refine ifB_intro (fun _ => ?_) (fun h => by simp at h; omega)
    repeat (refine ⟨by omega, ?_⟩)
    refine ⟨_, t55 hC l[i], ?_⟩
    simp only [Int.toNat_natCast, sldA, sldA, List.take_length, mid_get (show ((l.take i).map sldA).length = i by simp; omega), mid_set (show ((l.take i).map sldA).length = i by simp; omega), push_cast, ↓J1, ↓J2, N1, N2, N3, reduceCtorEq, N4, N5, N6, reduceIte, N7, I1, I2, I3]
    repeat (refine ⟨by omega, ?_⟩)
    refine hJ h1 trivial _ (hdA [(0, 0)] (hh := ?_))
    rw [List.take_succ_eq_append_getElem h1, List.map_append, List.append_assoc]
    simp only [hdel, canR, canB, renO, renL, ren, lkp, hget, N7, N5, Nat.not_lt_zero, if_false, if_true, reduceIte, List.append_nil, List.nil_append]
    rfl
  · simp only [slds_length, Int.toNat_natCast, push_cast, ↓J1, ↓J2, N1, N2, N3, reduceCtorEq, N4, N5, N6, reduceIte, N7, I1, I2, I3]
    refine ifB_intro (fun h => by simp at h; omega) (fun h => ?_)
    rw [List.take_of_length_le (by omega), show l.length - i = 0 by omega]
    exact RetTo_ow (by simp [hget, slds]) (by simp [slds])
theorem t66 (t u : Sld) : Ev C 66 [.agg (sldA t), .agg (sldA u)] (.bool (decide (t = u))) := by
  obtain ⟨a1, a2, a3⟩ := t
  obtain ⟨b1, b2, b3⟩ := u
  simp only [sldA]
  refine rT hC Q66 ?_
  simp only [c66, push_cast, ↓J1, ↓J2, N1, N2, N3, reduceCtorEq, N4, N5, N6, reduceIte, N7, I1, I2, I3]
  repeat' (first
    | simp only [push_cast, ↓J1, ↓J2, N1, N2, N3, reduceCtorEq, N4, N5, N6, reduceIte, N7, I1, I2, I3]
    | refine ifB_intro (fun h => ?_) (fun h => ?_))
  all_goals simp_all
theorem t40 (l m : List Sld) (hl : l.length < 2^50) (hm : m.length < 2^50) : Ev C 40 [.sl (slds l), .sl (slds m)] (.bool (decide (l = m))) := by
  refine rT hC Q40 ?_
  simp only [c40, slds_length, push_cast, ↓J1, ↓J2, N1, N2, N3, reduceCtorEq, N4, N5, N6, reduceIte, N7, I1, I2, I3]
  refine ifB_intro (fun h => ?_) (fun h => ?_)
  · have hlm : l.length = m.length := by simp at h; omega
    refine RL_count (fun i => ⟨tb 27 .any [(0, .sl (slds l)), (1, .sl (slds m)), (5, .int .i64 (i : Int))], [], 0⟩) (fun i => l.take i = m.take i) l.length 0 (hdA []) (by omega) rfl fun i hi ht J hJ => ?_
    by_cases h1 : i < l.length
    · have h2 : i < m.length := by omega
      have e1 : (slds l)[i]? = some (sldA l[i]) := by simp [slds, h1]
      have e2 : (slds m)[i]? = some (sldA m[i]) := by simp [slds, h2]
      simp only [slds_length, Int.toNat_natCast, e1, e2, sldA, push_cast, ↓J1, ↓J2, N1, N2, N3, reduceCtorEq, N4, N5, N6, reduceIte, N7, I1, I2, I3]
      refine ifB_intro (fun _ => ?_) (fun h => by simp at h; omega)
      repeat (refine ⟨by omega, ?_⟩)
      refine ⟨_, t66 hC l[i] m[i], ?_⟩
      simp only [push_cast, ↓J1, ↓J2, N1, N2, N3, reduceCtorEq, N4, N5, N6, reduceIte, N7, I1, I2, I3]
      refine ifB_intro (fun h => ?_) (fun h => ?_)
      · refine hJ h1 ?_ _ (hdA [])
        rw [List.take_succ_eq_append_getElem h1, List.take_succ_eq_append_getElem h2, ht, of_decide_eq_true h]
      · have : ¬ l = m := by rintro rfl; simp at h
        simp [this]
    · simp only [slds_length, Int.toNat_natCast, push_cast, ↓J1, ↓J2, N1, N2, N3, reduceCtorEq, N4, N5, N6, reduceIte, N7, I1, I2, I3]
      refine ifB_intro (fun h => by simp at h; omega) (fun h => ?_)
      rw [List.take_of_length_le (by omega), List.take_of_length_le (by omega)] at ht
      simp [ht]
  · have : ¬ l = m := by rintro rfl; simp at h
    simp [this]
theorem t20 (l : List Sld) (v : Int) (hv : 0 ≤ v ∧ v < 2^50) (hl : l.length < 2^50) : Ev C 20 [.sl (slds l), .int .i64 v] (.int .i64 (sub1 v l.length)) := by
  refine rT hC Q20 ?_
  simp only [c20, slds_length, push_cast, ↓J1, ↓J2, N1, N2, N3, reduceCtorEq, N4, N5, N6, reduceIte, N7, I1, I2, I3]
  rw [wrap64 (by omega) (by omega)]
  refine ifB_intro (fun h => ?_) (fun h => ?_)
  · have h' : v < l.length := by simp at h; omega
    simp only [sub1, if_pos h']
  · have h' : ¬ v < l.length := by simp at h; omega
    simp only [sub1, if_neg h']
theorem t6 (e : Ent) (v : Int) (hv : 0 ≤ v ∧ v < 2^50) (hb : EntB (2^50) e) : Ev C 6 [entF e, .int .i64 v] (.int .i64 (szEnt e v)) := by
  have c1 := t20 hC e.ss v hv hb.s
  have c2 := fun h => t21 hC e.os (sub1 v e.ss.length) h hb.o hb.t
  have c3 := fun h => t5 hC e.af (szOps e.os (sub1 v e.ss.length)) h hb.a
  have u1 := sub1_le (v := v) (n := e.ss.length) hv.1
  have hs : szSls e.ss v = sub1 v e.ss.length := rfl
  simp only [entF, staF, List.cons_append, List.nil_append, szEnt] at *
  refine rT hC Q6 ?_
  simp only [c6, push_cast, ↓J1, ↓J2, N1, N2, N3, reduceCtorEq, N4, N5, N6, reduceIte, N7, I1, I2, I3]
  refine ⟨_, c1, ?_⟩
  simp only [push_cast, ↓J1, ↓J2, N1, N2, N3, reduceCtorEq, N4, N5, N6, reduceIte, N7, I1, I2, I3]
  refine ifB_intro (fun h => ?_) (fun h => ?_)
  · simp [andThen, hs, of_decide_eq_true h]
  have h1 := of_decide_eq_false h
  have u2 := szOps_le (l := e.os) (v := sub1 v e.ss.length) (by omega) (by omega)
  refine ⟨_, c2 ⟨by omega, by omega⟩, ?_⟩
  simp only [push_cast, ↓J1, ↓J2, N1, N2, N3, reduceCtorEq, N4, N5, N6, reduceIte, N7, I1, I2, I3]
  refine ifB_intro (fun h => ?_) (fun h => ?_)
  · simp [andThen, hs, h1, of_decide_eq_true h]
  have h2 := of_decide_eq_false h
  refine ⟨_, c3 ⟨by omega, by omega⟩, ?_⟩
  simp only [push_cast, ↓J1, ↓J2, N1, N2, N3, reduceCtorEq, N4, N5, N6, reduceIte, N7, I1, I2, I3]
  refine ifB_intro (fun h => ?_) (fun h => ?_)
  · simp [andThen, hs, h1, h2, of_decide_eq_true h]
  · simp [andThen, hs, h1, h2, of_decide_eq_false h]
theorem t10 (e : Ent) (hb : EntB (2^30) e) : Ev C 10 [entF e] (entO e) := by
  have c1 := t30 hC e.ss hb.s
  have c2 := t31 hC e.os hb.o
  have c3 := t9 hC e.af hb.a
  simp only [entF, entO, staF, staO, List.cons_append, List.nil_append] at *
  refine rT hC Q10 ?_ (by simp only [ownR, ownRL, own_slds, own_opgs, own_uns, Bool.and_true])
  simp only [c10, push_cast, ↓J1, ↓J2, N1, N2, N3, reduceCtorEq, N4, N5, N6, reduceIte, N7, I1, I2, I3]
  refine ⟨_, c1, ?_⟩
  simp only [push_cast, ↓J1, ↓J2, N1, N2, N3, reduceCtorEq, N4, N5, N6, reduceIte, N7, I1, I2, I3]
  refine ⟨_, c2, ?_⟩
  simp only [push_cast, ↓J1, ↓J2, N1, N2, N3, reduceCtorEq, N4, N5, N6, reduceIte, N7, I1, I2, I3]
  refine ⟨_, c3, ?_⟩
  simp only [push_cast, ↓J1, ↓J2, N1, N2, N3, reduceCtorEq, N4, N5, N6, reduceIte, N7, I1, I2, I3]
  exact rtA
theorem t14 (a b : Ent) (h1 : EntB (2^50) a) (h2 : EntB (2^50) b) : Ev C 14 [entF a, entF b] (.bool (decide (a = b))) := by
  have c1 := t40 hC a.ss b.ss h1.s h2.s
  have c2 := t41 hC a.os b.os h1.o h2.o
  have c3 := t13 hC a.af b.af h1.a h2.a
  clear h1 h2
  obtain ⟨a1, a2, a3⟩ := a
  obtain ⟨b1, b2, b3⟩ := b
  simp only [entF, staF, List.cons_append, List.nil_append] at *
  refine rT hC Q14 ?_
  simp only [c14, push_cast, ↓J1, ↓J2, N1, N2, N3, reduceCtorEq, N4, N5, N6, reduceIte, N7, I1, I2, I3]
  repeat' (first
    | simp only [push_cast, ↓J1, ↓J2, N1, N2, N3, reduceCtorEq, N4, N5, N6, reduceIte, N7, I1, I2, I3]
    | refine ⟨_, c1, ?_⟩
    | refine ⟨_, c2, ?_⟩
    | refine ⟨_, c3, ?_⟩
    | refine ifB_intro (fun h => ?_) (fun h => ?_))
  all_goals (clear c1 c2 c3; simp_all)
end
end Go.Proofs.YtdhkdkefhoafnaaGreatDoor.X
set_option maxHeartbeats 4000000
set_option maxRecDepth 8000
set_option linter.unusedSimpArgs false
set_option linter.unusedVariables false
open Nat renaming reduceBEq → N1, reduceAdd → N2, reduceSub → N3, reduceMul → N4, reduceEqDiff → N5, reduceLeDiff → N6, reduceLT → N7
open Int renaming reduceLE → I1, reduceLT → I2, reduceToNat → I3
namespace Go.Proofs.YtdhkdkefhoafnaaGreatDoor.X
open Go
attribute [local irreducible] Ev
def op0 : Opg := ⟨0, ByteArray.empty⟩
def opOk (o : Opg) : Bool := inR 0 4611686016279904236 o.nc && decide ((o.tx.size : Int) ≤ 150)
def hashM (l : List Int) : Int := IntKind.i64.wrap (IntKind.i64.wrap ((mixL l).1 * 2 ^ (min 31 IntKind.i64.bits)) + (mixL l).2)
def twoOk (e : Ent) : Bool := decide (e.os.length = 2) && (opOk (e.os.getD 0 op0) && opOk (e.os.getD 1 op0))
def sdOk (x : Se) (s : Sta) (e : Ent) : Bool := gaOk x s && twoOk e
def sdV (s : Sta) (e : Ent) : Int := hashM [12, s.t, (e.os.getD 0 op0).nc, (e.os.getD 1 op0).nc]
def sdR (x : Se) (s : Sta) (e : Ent) : Int := if sdOk x s e then sdV s e else 0
theorem two_os {l : List Opg} (h : l.length = 2) : ∃ a b, l = [a, b] := by
  match l, h with
  | [a, b], _ => exact ⟨a, b, rfl⟩
section
variable {C : CT} (hC : Closed Tryz.prog G1 md0 C)
include hC
theorem t73 (l : List Int) (hl : l.length < 2^50) : Ev C 73 [.sl (ints l)] (.int .i64 (hashM l)) := by
  have c1 := t97 hC l hl
  simp only [hashM]
  refine rT hC Q73 ?_
  simp only [c73, push_cast, ↓J1, ↓J2, N1, N2, N3, reduceCtorEq, N4, N5, N6, reduceIte, N7, I1, I2, I3]
  refine ⟨_, c1, ?_⟩
  simp only [push_cast, ↓J1, ↓J2, N1, N2, N3, reduceCtorEq, N4, N5, N6, reduceIte, N7, I1, I2, I3]
  all_goals first | done | rfl | (and_intros <;> first | omega | rfl)
theorem t60 (l : List Int) (hl : l.length < 2^50) : Ev C 60 [.sl (ints l)] (.int .i64 (hashM l)) := by
  have c1 := t85 hC l hl
  simp only [hashM]
  refine rT hC Q60 ?_
  simp only [c60, push_cast, ↓J1, ↓J2, N1, N2, N3, reduceCtorEq, N4, N5, N6, reduceIte, N7, I1, I2, I3]
  refine ⟨_, c1, ?_⟩
  simp only [push_cast, ↓J1, ↓J2, N1, N2, N3, reduceCtorEq, N4, N5, N6, reduceIte, N7, I1, I2, I3]
  all_goals first | done | rfl | (and_intros <;> first | omega | rfl)
theorem t23 (o : Opg) : Ev C 23 [.agg (opgA o)] (.bool (opOk o)) := by
  have c1 := t48 hC o.nc
  simp only [opOk, opgA]
  refine rT hC Q23 ?_
  simp only [c23, push_cast, ↓J1, ↓J2, N1, N2, N3, reduceCtorEq, N4, N5, N6, reduceIte, N7, I1, I2, I3]
  refine ⟨_, c1, ?_⟩
  cases inR 0 4611686016279904236 o.nc
  · simp only [Bool.false_and, push_cast, ↓J1, ↓J2, N1, N2, N3, reduceCtorEq, N4, N5, N6, reduceIte, N7, I1, I2, I3]
  · simp only [Bool.true_and, push_cast, ↓J1, ↓J2, N1, N2, N3, reduceCtorEq, N4, N5, N6, reduceIte, N7, I1, I2, I3]
theorem t59 (o : Opg) : Ev C 59 [.agg (opgA o)] (.bool (opOk o)) := by
  have c1 := t84 hC o.nc
  simp only [opOk, opgA]
  refine rT hC Q59 ?_
  simp only [c59, push_cast, ↓J1, ↓J2, N1, N2, N3, reduceCtorEq, N4, N5, N6, reduceIte, N7, I1, I2, I3]
  refine ⟨_, c1, ?_⟩
  cases inR 0 4611686016279904236 o.nc
  · simp only [Bool.false_and, push_cast, ↓J1, ↓J2, N1, N2, N3, reduceCtorEq, N4, N5, N6, reduceIte, N7, I1, I2, I3]
  · simp only [Bool.true_and, push_cast, ↓J1, ↓J2, N1, N2, N3, reduceCtorEq, N4, N5, N6, reduceIte, N7, I1, I2, I3]
theorem t22 (x : Se) (s : Sta) (hb : SeB (2^50) x) (hl : s.us.length < 2^40) : Ev C 22 [seF x, .agg (staF s)] (.bool (gaOk x s)) := by
  have c1 := t47 hC x s 0 hb hl
  rw [show inR 0 4611686016279904236 0 = true from rfl, Bool.and_true] at c1
  simp only [seF, brdF, rulF, mpF, ctF, clA, List.cons_append, List.nil_append, staF] at *
  refine rT hC Q22 ?_
  simp only [c22, push_cast, ↓J1, ↓J2, N1, N2, N3, reduceCtorEq, N4, N5, N6, reduceIte, N7, I1, I2, I3]
  refine ⟨_, c1, ?_⟩
  simp only [push_cast, ↓J1, ↓J2, N1, N2, N3, reduceCtorEq, N4, N5, N6, reduceIte, N7, I1, I2, I3]
theorem t49 (t a b : Int) : Ev C 49 [.int .i64 t, .sl (ints [a, b])] (.int .i64 (hashM [12, t, a, b])) := by
  have c1 := t73 hC [12, t, a, b] (by simp)
  have ea : ((ints [a, b]).all fun e => e.length == 1) = true := rfl
  have e2 : (ints [a, b]).length = 2 := rfl
  have e3 : [[AV.int .i64 12], [AV.int .i64 t]] ++ ints [a, b] = ints [12, t, a, b] := rfl
  have e4 : List.take 4 (ints [12, t, a, b]) = ints [12, t, a, b] := rfl
  refine rT hC Q49 ?_
  simp only [c49, push_cast, ↓J1, ↓J2, N1, N2, N3, reduceCtorEq, N4, N5, N6, reduceIte, N7, I1, I2, I3]
  simp only [ea, e2, e3, e4, frzLL_ints, push_cast, ↓J1, ↓J2, N1, N2, N3, reduceCtorEq, N4, N5, N6, reduceIte, N7, I1, I2, I3]
  repeat (refine ⟨by omega, ?_⟩)
  refine ⟨_, c1, ?_⟩
  simp only [push_cast, ↓J1, ↓J2, N1, N2, N3, reduceCtorEq, N4, N5, N6, reduceIte, N7, I1, I2, I3]
theorem t24 (s : Sta) (e : Ent) (h : e.os.length = 2) : Ev C 24 [.agg (staF s), entF e] (.int .i64 (sdV s e)) := by
  obtain ⟨ss, os, af⟩ := e
  obtain ⟨a, b, rfl⟩ := two_os (l := os) h
  have c1 := t49 hC s.t a.nc b.nc
  have e0 : (opgs [a, b])[0]? = some (opgA a) := rfl
  have e1 : (opgs [a, b])[1]? = some (opgA b) := rfl
  have e2 : (opgs [a, b]).length = 2 := rfl
  have e4 : [[AV.int .i64 a.nc], [AV.int .i64 b.nc]] = ints [a.nc, b.nc] := rfl
  have e5 : List.take 2 (ints [a.nc, b.nc]) = ints [a.nc, b.nc] := rfl
  have er : sdV s ⟨ss, [a, b], af⟩ = hashM [12, s.t, a.nc, b.nc] := rfl
  rw [er]
  simp only [entF, staF, List.cons_append, List.nil_append] at *
  refine rT hC Q24 ?_
  simp only [c24, push_cast, ↓J1, ↓J2, N1, N2, N3, reduceCtorEq, N4, N5, N6, reduceIte, N7, I1, I2, I3]
  simp only [e0, e1, e2, opgA, push_cast, ↓J1, ↓J2, N1, N2, N3, reduceCtorEq, N4, N5, N6, reduceIte, N7, I1, I2, I3]
  repeat (refine ⟨by omega, ?_⟩)
  simp only [e0, e1, e2, e4, e5, frzLL_ints, opgA, push_cast, ↓J1, ↓J2, N1, N2, N3, reduceCtorEq, N4, N5, N6, reduceIte, N7, I1, I2, I3]
  repeat (refine ⟨by omega, ?_⟩)
  refine ⟨_, c1, ?_⟩
  simp only [push_cast, ↓J1, ↓J2, N1, N2, N3, reduceCtorEq, N4, N5, N6, reduceIte, N7, I1, I2, I3]
theorem t34 (s : Sta) (e : Ent) (h : e.os.length = 2) : Ev C 34 [.agg (staF s), entF e] (.int .i64 (sdV s e)) := by
  obtain ⟨ss, os, af⟩ := e
  obtain ⟨a, b, rfl⟩ := two_os (l := os) h
  have c1 := t60 hC [12, s.t, a.nc, b.nc] (by simp)
  have e0 : (opgs [a, b])[0]? = some (opgA a) := rfl
  have e1 : (opgs [a, b])[1]? = some (opgA b) := rfl
  have e2 : (opgs [a, b]).length = 2 := rfl
  have e4 : [[AV.int .i64 12], [AV.int .i64 s.t], [AV.int .i64 a.nc], [AV.int .i64 b.nc]] = ints [12, s.t, a.nc, b.nc] := rfl
  have e5 : List.take 4 (ints [12, s.t, a.nc, b.nc]) = ints [12, s.t, a.nc, b.nc] := rfl
  have er : sdV s ⟨ss, [a, b], af⟩ = hashM [12, s.t, a.nc, b.nc] := rfl
  rw [er]
  simp only [entF, staF, List.cons_append, List.nil_append] at *
  refine rT hC Q34 ?_
  simp only [c34, push_cast, ↓J1, ↓J2, N1, N2, N3, reduceCtorEq, N4, N5, N6, reduceIte, N7, I1, I2, I3]
  simp only [e0, e1, e2, opgA, push_cast, ↓J1, ↓J2, N1, N2, N3, reduceCtorEq, N4, N5, N6, reduceIte, N7, I1, I2, I3]
  repeat (refine ⟨by omega, ?_⟩)
  simp only [e0, e1, e2, e4, e5, frzLL_ints, opgA, push_cast, ↓J1, ↓J2, N1, N2, N3, reduceCtorEq, N4, N5, N6, reduceIte, N7, I1, I2, I3]
  repeat (refine ⟨by omega, ?_⟩)
  refine ⟨_, c1, ?_⟩
  simp only [push_cast, ↓J1, ↓J2, N1, N2, N3, reduceCtorEq, N4, N5, N6, reduceIte, N7, I1, I2, I3]
theorem t33 (e : Ent) (hb : EntB (2^50) e) : Ev C 33 [entF e] (.bool (twoOk e)) := by
  have hl := hb.o
  clear hb
  obtain ⟨ss, os, af⟩ := e
  have c1 := fun o => t59 hC o
  have er : twoOk ⟨ss, os, af⟩ = (decide (os.length = 2) && (opOk (os.getD 0 op0) && opOk (os.getD 1 op0))) := rfl
  rw [er]
  simp only [entF, staF, List.cons_append, List.nil_append] at *
  refine rT hC Q33 ?_
  simp only [c33, push_cast, ↓J1, ↓J2, N1, N2, N3, reduceCtorEq, N4, N5, N6, reduceIte, N7, I1, I2, I3]
  simp only [opgs_length, push_cast, ↓J1, ↓J2, N1, N2, N3, reduceCtorEq, N4, N5, N6, reduceIte, N7, I1, I2, I3]
  by_cases h2 : os.length = 2
  rotate_left
  · have g2 : decide ((os.length : Int) = 2) = false := decide_eq_false (by omega)
    simp only [g2, decide_eq_false h2, Bool.false_and, push_cast, ↓J1, ↓J2, N1, N2, N3, reduceCtorEq, N4, N5, N6, reduceIte, N7, I1, I2, I3]
  have g2 : decide ((os.length : Int) = 2) = true := decide_eq_true (by omega)
  obtain ⟨a, b, eo⟩ := two_os h2
  have e0 : (opgs os)[0]? = some (opgA a) := by rw [eo]; rfl
  have e1 : (opgs os)[1]? = some (opgA b) := by rw [eo]; rfl
  have ca := c1 a
  have cb := c1 b
  have ga : os.getD 0 op0 = a := by rw [eo]; rfl
  have gb : os.getD 1 op0 = b := by rw [eo]; rfl
  rw [ga, gb, decide_eq_true h2]
  clear eo ga gb
  simp only [opgA] at e0 e1 ca cb
  simp only [g2, e0, e1, opgs_length, Bool.true_and, push_cast, ↓J1, ↓J2, N1, N2, N3, reduceCtorEq, N4, N5, N6, reduceIte, N7, I1, I2, I3]
  repeat (refine ⟨by omega, ?_⟩)
  refine ⟨_, ca, ?_⟩
  cases opOk a
  · simp only [Bool.false_and, push_cast, ↓J1, ↓J2, N1, N2, N3, reduceCtorEq, N4, N5, N6, reduceIte, N7, I1, I2, I3]
  simp only [e0, e1, opgs_length, Bool.true_and, push_cast, ↓J1, ↓J2, N1, N2, N3, reduceCtorEq, N4, N5, N6, reduceIte, N7, I1, I2, I3]
  repeat (refine ⟨by omega, ?_⟩)
  refine ⟨_, cb, ?_⟩
  simp only [push_cast, ↓J1, ↓J2, N1, N2, N3, reduceCtorEq, N4, N5, N6, reduceIte, N7, I1, I2, I3]
theorem t11 (x : Se) (s : Sta) (e : Ent) (hx : SeB (2^50) x) (hl : s.us.length < 2^40) (hb : EntB (2^50) e) : Ev C 11 [seF x, .agg (staF s), entF e] (.tup [.int .i64 (sdR x s e), .bool (sdOk x s e)]) := by
  have c1 := t32 hC x s hx hl
  have c2 := t33 hC e hb
  have c3 := fun h => t34 hC s e h
  simp only [seF, brdF, rulF, mpF, ctF, clA, entF, List.cons_append, List.nil_append, staF] at *
  refine rT hC Q11 ?_ (by simp only [ownR, ownRL, Bool.and_true])
  simp only [c11, push_cast, ↓J1, ↓J2, N1, N2, N3, reduceCtorEq, N4, N5, N6, reduceIte, N7, I1, I2, I3]
  refine ⟨_, c1, ?_⟩
  cases g1 : gaOk x s
  · simp only [sdR, sdOk, g1, Bool.false_and, Bool.false_eq_true, if_false, push_cast, ↓J1, ↓J2, N1, N2, N3, reduceCtorEq, N4, N5, N6, reduceIte, N7, I1, I2, I3]
  simp only [push_cast, ↓J1, ↓J2, N1, N2, N3, reduceCtorEq, N4, N5, N6, reduceIte, N7, I1, I2, I3]
  refine ⟨_, c2, ?_⟩
  cases g2 : twoOk e
  · simp only [sdR, sdOk, g1, g2, Bool.and_false, Bool.false_eq_true, if_false, push_cast, ↓J1, ↓J2, N1, N2, N3, reduceCtorEq, N4, N5, N6, reduceIte, N7, I1, I2, I3]
  have h2 : e.os.length = 2 := by simp only [twoOk, Bool.and_eq_true, decide_eq_true_eq] at g2; exact g2.1
  simp only [sdR, sdOk, g1, g2, Bool.and_self, if_true, push_cast, ↓J1, ↓J2, N1, N2, N3, reduceCtorEq, N4, N5, N6, reduceIte, N7, I1, I2, I3]
  refine ⟨_, c3 h2, ?_⟩
  simp only [push_cast, ↓J1, ↓J2, N1, N2, N3, reduceCtorEq, N4, N5, N6, reduceIte, N7, I1, I2, I3]
theorem t7 (x : Se) (s : Sta) (e : Ent) (hx : SeB (2^50) x) (hl : s.us.length < 2^40) (hb : EntB (2^50) e) : Ev C 7 [seF x, .agg (staF s), entF e] (.tup [.int .i64 (sdR x s e), .bool (sdOk x s e)]) := by
  have hlo := hb.o
  have c1 := t22 hC x s hx hl
  have c2 := fun o => t23 hC o
  have c3 := fun h => t24 hC s e h
  have er : twoOk e = (decide (e.os.length = 2) && (opOk (e.os.getD 0 op0) && opOk (e.os.getD 1 op0))) := rfl
  simp only [seF, brdF, rulF, mpF, ctF, clA, entF, List.cons_append, List.nil_append, staF] at c1 c3 ⊢
  refine rT hC Q7 ?_ (by simp only [ownR, ownRL, Bool.and_true])
  simp only [c7, push_cast, ↓J1, ↓J2, N1, N2, N3, reduceCtorEq, N4, N5, N6, reduceIte, N7, I1, I2, I3]
  refine ⟨_, c1, ?_⟩
  cases g1 : gaOk x s
  · simp only [sdR, sdOk, g1, Bool.false_and, Bool.false_eq_true, if_false, push_cast, ↓J1, ↓J2, N1, N2, N3, reduceCtorEq, N4, N5, N6, reduceIte, N7, I1, I2, I3]
  simp only [opgs_length, push_cast, ↓J1, ↓J2, N1, N2, N3, reduceCtorEq, N4, N5, N6, reduceIte, N7, I1, I2, I3]
  by_cases h2 : e.os.length = 2
  rotate_left
  · have g2 : decide ((e.os.length : Int) = 2) = false := decide_eq_false (by omega)
    have g3 : twoOk e = false := by rw [er, decide_eq_false h2, Bool.false_and]
    simp only [sdR, sdOk, g1, g2, g3, Bool.and_false, Bool.false_eq_true, if_false, push_cast, ↓J1, ↓J2, N1, N2, N3, reduceCtorEq, N4, N5, N6, reduceIte, N7, I1, I2, I3]
  have g2 : decide ((e.os.length : Int) = 2) = true := decide_eq_true (by omega)
  have c3 := c3 h2
  obtain ⟨a, b, eo⟩ := two_os h2
  have e0 : (opgs e.os)[0]? = some (opgA a) := by rw [eo]; rfl
  have e1 : (opgs e.os)[1]? = some (opgA b) := by rw [eo]; rfl
  have ca := c2 a
  have cb := c2 b
  have ga : e.os.getD 0 op0 = a := by rw [eo]; rfl
  have gb : e.os.getD 1 op0 = b := by rw [eo]; rfl
  rw [ga, gb, decide_eq_true h2, Bool.true_and] at er
  clear eo ga gb
  simp only [opgA] at e0 e1 ca cb
  simp only [g2, e0, e1, opgs_length, push_cast, ↓J1, ↓J2, N1, N2, N3, reduceCtorEq, N4, N5, N6, reduceIte, N7, I1, I2, I3]
  repeat (refine ⟨by omega, ?_⟩)
  refine ⟨_, ca, ?_⟩
  cases g4 : opOk a
  · have g3 : twoOk e = false := by rw [er, g4, Bool.false_and]
    simp only [sdR, sdOk, g1, g3, Bool.and_false, Bool.false_eq_true, if_false, push_cast, ↓J1, ↓J2, N1, N2, N3, reduceCtorEq, N4, N5, N6, reduceIte, N7, I1, I2, I3]
  simp only [e0, e1, opgs_length, push_cast, ↓J1, ↓J2, N1, N2, N3, reduceCtorEq, N4, N5, N6, reduceIte, N7, I1, I2, I3]
  repeat (refine ⟨by omega, ?_⟩)
  refine ⟨_, cb, ?_⟩
  cases g5 : opOk b
  · have g3 : twoOk e = false := by rw [er, g4, g5]; rfl
    simp only [sdR, sdOk, g1, g3, Bool.and_false, Bool.false_eq_true, if_false, push_cast, ↓J1, ↓J2, N1, N2, N3, reduceCtorEq, N4, N5, N6, reduceIte, N7, I1, I2, I3]
  have g3 : twoOk e = true := by rw [er, g4, g5]; rfl
  simp only [sdR, sdOk, g1, g3, Bool.and_self, if_true, push_cast, ↓J1, ↓J2, N1, N2, N3, reduceCtorEq, N4, N5, N6, reduceIte, N7, I1, I2, I3]
  refine ⟨_, c3, ?_⟩
  simp only [push_cast, ↓J1, ↓J2, N1, N2, N3, reduceCtorEq, N4, N5, N6, reduceIte, N7, I1, I2, I3]
theorem t3 (x : Se) (s : Sta) (e : Ent) (hx : SeB (2^50) x) (hs : s.us.length < 2^50) (he : EntB (2^50) e) : Ev C 3 [seF x, .agg (staF s), entF e] (.bool true) := by
  have z0 := fun p => t4 hC x 1048576 p hx
  have z1 := fun p => t5 hC s (szSe x 1048576) p hs
  have z2 := fun p => t6 hC e (sub1 (szSe x 1048576) s.us.length) p he
  have d0 := fun Hx => t8 hC x Hx
  have e0 := t12 hC x x hx hx
  have d1 := fun Hs => t9 hC s Hs
  have e1 := t13 hC s s hs hs
  have d2 := fun He => t10 hC e He
  have e2 := t14 hC e e he he
  have f1 := fun (Hx : SeB (2^30) x) (Hs : s.us.length < 2^30) (He : EntB (2^30) e) => t7 hC x s e hx (by omega) he
  have f2 := fun (Hx : SeB (2^30) x) (Hs : s.us.length < 2^30) (He : EntB (2^30) e) => t11 hC x s e hx (by omega) he
  simp only [brdO, rulO, mpO, brdF, rulF, mpF, seF, seO, ctF, ctO, szSta, staF, staO, entF, entO, List.cons_append, List.nil_append, List.append_assoc, decide_true] at *
  refine rT hC Q3 ?_
  simp only [X.c3, push_cast, ↓J1, ↓J2, N1, N2, N3, reduceCtorEq, N4, N5, N6, reduceIte, N7, I1, I2, I3]
  refine ⟨_, z0 (by omega), ?_⟩
  simp only [push_cast, ↓J1, ↓J2, N1, N2, N3, reduceCtorEq, N4, N5, N6, reduceIte, N7, I1, I2, I3]
  refine ifB_intro (fun h => trivial) (fun h => ?_)
  have n0 := of_decide_eq_false h
  clear h
  have l0 := szSe_le (s := x) (v := 1048576) (by omega) (by omega)
  have Hx : SeB (2^30) x := (szSe_pos (by omega)).mono (by omega)
  refine ⟨_, z1 (by omega), ?_⟩
  simp only [push_cast, ↓J1, ↓J2, N1, N2, N3, reduceCtorEq, N4, N5, N6, reduceIte, N7, I1, I2, I3]
  refine ifB_intro (fun h => trivial) (fun h => ?_)
  have n1 := of_decide_eq_false h
  clear h
  have l1 := sub1_le (v := (szSe x 1048576)) (n := s.us.length) (by omega)
  have Hs : s.us.length < 2^30 := by have := sub1_pos (v := (szSe x 1048576)) (n := s.us.length) (by omega); omega
  refine ⟨_, z2 (by omega), ?_⟩
  simp only [push_cast, ↓J1, ↓J2, N1, N2, N3, reduceCtorEq, N4, N5, N6, reduceIte, N7, I1, I2, I3]
  refine ifB_intro (fun h => trivial) (fun h => ?_)
  have n2 := of_decide_eq_false h
  clear h
  have l2 := szEnt_le (e := e) (v := (sub1 (szSe x 1048576) s.us.length)) (by omega) (by omega)
  have He : EntB (2^30) e := (szEnt_pos (v := (sub1 (szSe x 1048576) s.us.length)) (by omega) (by omega) (by omega)).mono (by omega)
  repeat' (first
    | simp only [frzLL_ints, frzLL_ters, frzLL_kins, frzLL_owss, frzLL_ods, frzLL_uns, frzLL_slds, frzLL_opgs, push_cast, ↓J1, ↓J2, N1, N2, N3, reduceCtorEq, N4, N5, N6, reduceIte, N7, I1, I2, I3]
    | refine ⟨_, d0 Hx, ?_⟩
    | refine ⟨_, e0, ?_⟩
    | refine ⟨_, d1 Hs, ?_⟩
    | refine ⟨_, e1, ?_⟩
    | refine ⟨_, d2 He, ?_⟩
    | refine ⟨_, e2, ?_⟩
    | refine ⟨_, f1 Hx Hs He, ?_⟩
    | refine ⟨_, f2 Hx Hs He, ?_⟩
    | refine ifB_intro (fun h => ?_) (fun h => ?_))
end
end Go.Proofs.YtdhkdkefhoafnaaGreatDoor.X
set_option maxHeartbeats 4000000
set_option maxRecDepth 8000
set_option linter.unusedSimpArgs false
set_option linter.unusedVariables false
open Nat renaming reduceBEq → N1, reduceAdd → N2, reduceSub → N3, reduceMul → N4, reduceEqDiff → N5, reduceLeDiff → N6, reduceLT → N7
open Int renaming reduceLE → I1, reduceLT → I2, reduceToNat → I3
namespace Go.Proofs.YtdhkdkefhoafnaaGreatDoor.X
open Go
theorem has_ints {k : Nat} {xs : List AV} (h : Has Tryz.prog (k + 2) 26 xs) : ∃ l, xs = [.sl (ints l)] ∧ l.length < 2 ^ 50 := by
  obtain ⟨es, rfl, _, hb, he⟩ := has_slice tk_26 h
  rw [bo_3] at hb
  obtain ⟨l, rfl⟩ := all_map (f := fun n : Int => [AV.int .i64 n]) (es := es) fun e hx => by
    obtain ⟨n, hn, _⟩ := has_int tk_3 (he e hx).2
    exact ⟨n, hn⟩
  simp only [reachBytes, List.length_map] at hb
  exact ⟨l, rfl, by omega⟩
theorem all_map2 {α : Type} {f : α → List AV} {p : α → Prop} {es : List (List AV)} (h : ∀ e ∈ es, ∃ x, e = f x ∧ p x) : ∃ l : List α, es = l.map f ∧ ∀ x ∈ l, p x := by
  induction es with
  | nil => exact ⟨[], rfl, by simp⟩
  | cons e es ih =>
    obtain ⟨l, hl, hp⟩ := ih fun x hx => h x (by simp [hx])
    obtain ⟨x, hx, px⟩ := h e (by simp)
    exact ⟨x :: l, by rw [hl, hx]; rfl, by simp only [List.mem_cons, forall_eq_or_imp]; exact ⟨px, hp⟩⟩
theorem has_ter {k : Nat} {xs : List AV} (h : Has Tryz.prog (k + 9) 162 xs) : ∃ t : Ter, xs = terF t ∧ t.n.size < 2 ^ 50 ∧ t.c.length < 2 ^ 50 := by
  have h := has_struct sty_162 h
  obtain ⟨x0, r, rfl, _, h0, h⟩ := hasE_cons h
  obtain ⟨x1, r, rfl, _, h1, h⟩ := hasE_cons h
  obtain ⟨x2, r, rfl, _, h2, h⟩ := hasE_cons h
  obtain ⟨x3, r, rfl, _, h3, h⟩ := hasE_cons h
  obtain ⟨x4, r, rfl, _, h4, h⟩ := hasE_cons h
  obtain rfl := hasE_nil h
  obtain ⟨n, rfl, hn⟩ := has_str tk_9 h0
  obtain ⟨c, rfl, hc⟩ := has_ints h1
  obtain ⟨s, rfl, _⟩ := has_int tk_3 h2
  obtain ⟨e, rfl, _⟩ := has_int tk_3 h3
  obtain ⟨b, rfl⟩ := has_bool tk_4 h4
  simp only [reachBytes] at hn
  exact ⟨⟨n, c, s, e, b⟩, rfl, by show n.size < _; omega, hc⟩
theorem has_kin {k : Nat} {xs : List AV} (h : Has Tryz.prog (k + 9) 165 xs) : ∃ t : Kin, xs = kinA t ∧ t.n.size < 2 ^ 50 := by
  have h := has_struct sty_165 h
  obtain ⟨x0, r, rfl, _, h0, h⟩ := hasE_cons h
  obtain ⟨x1, r, rfl, _, h1, h⟩ := hasE_cons h
  obtain ⟨x2, r, rfl, _, h2, h⟩ := hasE_cons h
  obtain ⟨x3, r, rfl, _, h3, h⟩ := hasE_cons h
  obtain ⟨x4, r, rfl, _, h4, h⟩ := hasE_cons h
  obtain ⟨x5, r, rfl, _, h5, h⟩ := hasE_cons h
  obtain rfl := hasE_nil h
  obtain ⟨n, rfl, hn⟩ := has_str tk_9 h0
  obtain ⟨s, rfl, _⟩ := has_int tk_3 h1
  obtain ⟨m, rfl, _⟩ := has_int tk_3 h2
  obtain ⟨p, rfl, _⟩ := has_int tk_3 h3
  obtain ⟨z, rfl⟩ := has_bool tk_4 h4
  obtain ⟨v, rfl, _⟩ := has_int tk_3 h5
  simp only [reachBytes] at hn
  exact ⟨⟨n, s, m, p, z, v⟩, rfl, by show n.size < _; omega⟩
theorem has_rul {k : Nat} {xs : List AV} (h : Has Tryz.prog (k + 16) 25 xs) : ∃ r : Rul, xs = rulF r ∧ RulB (2 ^ 50) r := by
  have h := has_struct sty_25 h
  obtain ⟨x0, r, rfl, _, h0, h⟩ := hasE_cons h
  obtain ⟨x1, r, rfl, _, h1, h⟩ := hasE_cons h
  obtain ⟨x2, r, rfl, _, h2, h⟩ := hasE_cons h
  obtain ⟨x3, r, rfl, _, h3, h⟩ := hasE_cons h
  obtain ⟨x4, r, rfl, _, h4, h⟩ := hasE_cons h
  obtain ⟨x5, r, rfl, _, h5, h⟩ := hasE_cons h
  obtain ⟨x6, r, rfl, _, h6, h⟩ := hasE_cons h
  obtain rfl := hasE_nil h
  obtain ⟨es, rfl, _, hb, he⟩ := has_slice tk_22 h0
  obtain ⟨ts, rfl, ht⟩ := all_map2 (f := terF) (es := es) fun e hx => has_ter (he e hx).2
  obtain ⟨fs, rfl, _, hc, hf⟩ := has_slice tk_23 h1
  obtain ⟨ks, rfl, hk⟩ := all_map2 (f := kinA) (es := fs) fun e hx => has_kin (hf e hx).2
  obtain ⟨a, rfl, _⟩ := has_int tk_3 h2
  obtain ⟨b, rfl, _⟩ := has_int tk_3 h3
  obtain ⟨c, rfl, _⟩ := has_int tk_3 h4
  obtain ⟨d, rfl, _⟩ := has_int tk_3 h5
  obtain ⟨e, rfl, _⟩ := has_int tk_3 h6
  rw [bo_162] at hb
  rw [bo_165] at hc
  simp only [reachBytes, List.length_map] at hb hc
  exact ⟨⟨ts, ks, a, b, c, d, e⟩, rfl, ⟨by show ts.length < _; omega, by show ks.length < _; omega, ht, hk⟩⟩
theorem has_mp {k : Nat} {xs : List AV} (h : Has Tryz.prog (k + 16) 28 xs) : ∃ m : Mp, xs = mpF m ∧ MpB (2 ^ 50) m := by
  have h := has_struct sty_28 h
  obtain ⟨x0, r, rfl, _, h0, h⟩ := hasE_cons h
  obtain ⟨x1, r, rfl, _, h1, h⟩ := hasE_cons h
  obtain ⟨x2, r, rfl, _, h2, h⟩ := hasE_cons h
  obtain ⟨x3, r, rfl, _, h3, h⟩ := hasE_cons h
  obtain ⟨x4, r, rfl, _, h4, h⟩ := hasE_cons h
  obtain rfl := hasE_nil h
  obtain ⟨w, rfl, _⟩ := has_int tk_3 h0
  obtain ⟨e, rfl, _⟩ := has_int tk_3 h1
  obtain ⟨t, rfl, ht⟩ := has_ints h2
  obtain ⟨ri, rfl, hri⟩ := has_ints h3
  obtain ⟨ro, rfl, hro⟩ := has_ints h4
  exact ⟨⟨w, e, t, ri, ro⟩, rfl, ⟨ht, hri, hro⟩⟩
theorem has_brd {k : Nat} {xs : List AV} (h : Has Tryz.prog (k + 20) 30 xs) : ∃ b : Brd, xs = rulF b.r ++ mpF b.m ∧ BrdB (2 ^ 50) b := by
  have h := has_struct sty_30 h
  obtain ⟨x0, r, rfl, _, h0, h⟩ := hasE_cons h
  obtain ⟨x1, r, rfl, _, h1, h⟩ := hasE_cons h
  obtain rfl := hasE_nil h
  obtain ⟨r, rfl, hr⟩ := has_rul h0
  obtain ⟨m, rfl, hm⟩ := has_mp h1
  exact ⟨⟨r, m⟩, by simp only [List.append_nil], ⟨hr, hm⟩⟩
theorem hasV_brd {k : Nat} {x : AV} (hv : HasV Tryz.prog (k + 20) 30 x) : ∃ b : Brd, x = brdF b ∧ BrdB (2 ^ 50) b := by
  obtain ⟨ys, rfl, h⟩ := hasV_struct sty_30 hv
  obtain ⟨x0, r, rfl, _, h0, h⟩ := hasE_cons h
  obtain ⟨x1, r, rfl, _, h1, h⟩ := hasE_cons h
  obtain rfl := hasE_nil h
  obtain ⟨r, rfl, hr⟩ := has_rul h0
  obtain ⟨m, rfl, hm⟩ := has_mp h1
  exact ⟨⟨r, m⟩, by simp only [brdF, List.append_nil], ⟨hr, hm⟩⟩
end Go.Proofs.YtdhkdkefhoafnaaGreatDoor.X
set_option maxHeartbeats 1000000
set_option maxRecDepth 8000
set_option linter.unusedSimpArgs false
set_option linter.unusedVariables false
open Nat renaming reduceBEq → N1, reduceAdd → N2, reduceSub → N3, reduceMul → N4, reduceEqDiff → N5, reduceLeDiff → N6, reduceLT → N7
open Int renaming reduceLE → I1, reduceLT → I2, reduceToNat → I3
namespace Go.Proofs.YtdhkdkefhoafnaaGreatDoor.X
open Go
theorem hasV_sta {k : Nat} {x : AV} (hv : HasV Tryz.prog (k + 20) 41 x) : ∃ s : Sta, x = .agg (staF s) ∧ s.us.length < 2 ^ 50 := by
  obtain ⟨ys, rfl, h⟩ := hasV_struct sty_41 hv
  obtain ⟨x0, r, rfl, _, h0, h⟩ := hasE_cons h
  obtain ⟨x1, r, rfl, _, h1, h⟩ := hasE_cons h
  obtain ⟨x2, r, rfl, _, h2, h⟩ := hasE_cons h
  obtain rfl := hasE_nil h
  obtain ⟨a, rfl, _⟩ := has_int tk_3 h0
  obtain ⟨b, rfl, _⟩ := has_int tk_3 h1
  obtain ⟨es, rfl, _, hb, he⟩ := has_slice tk_39 h2
  obtain ⟨us, rfl⟩ := all_map (f := unA) (es := es) fun e hx => by
    have h := has_struct sty_121 (he e hx).2
    obtain ⟨x0, r, rfl, _, h0, h⟩ := hasE_cons h
    obtain ⟨x1, r, rfl, _, h1, h⟩ := hasE_cons h
    obtain ⟨x2, r, rfl, _, h2, h⟩ := hasE_cons h
    obtain ⟨x3, r, rfl, _, h3, h⟩ := hasE_cons h
    obtain rfl := hasE_nil h
    obtain ⟨a, rfl, _⟩ := has_int tk_3 h0
    obtain ⟨b, rfl, _⟩ := has_int tk_3 h1
    obtain ⟨c, rfl, _⟩ := has_int tk_3 h2
    obtain ⟨d, rfl, _⟩ := has_int tk_3 h3
    exact ⟨⟨a, b, c, d⟩, rfl⟩
  rw [bo_121] at hb
  simp only [reachBytes, List.length_map] at hb
  exact ⟨⟨a, b, us⟩, rfl, by show us.length < _; omega⟩
end Go.Proofs.YtdhkdkefhoafnaaGreatDoor.X
set_option maxHeartbeats 1000000
set_option maxRecDepth 8000
set_option linter.unusedSimpArgs false
set_option linter.unusedVariables false
open Nat renaming reduceBEq → N1, reduceAdd → N2, reduceSub → N3, reduceMul → N4, reduceEqDiff → N5, reduceLeDiff → N6, reduceLT → N7
open Int renaming reduceLE → I1, reduceLT → I2, reduceToNat → I3
namespace Go.Proofs.YtdhkdkefhoafnaaGreatDoor.X
open Go
theorem has_intss {k : Nat} {xs : List AV} (h : Has Tryz.prog (k + 3) 32 xs) : ∃ W, xs = [.sl (intss W)] ∧ SSB (2 ^ 50) W := by
  obtain ⟨es, rfl, _, hb, he⟩ := has_slice tk_32 h
  rw [bo_26] at hb
  obtain ⟨W, rfl, hr⟩ := all_map2 (f := fun r : List Int => [AV.sl (ints r)]) (p := fun r => r.length < 2 ^ 50) (es := es) fun e hx => by
    obtain ⟨l, rfl, hl⟩ := has_ints (he e hx).2
    exact ⟨l, rfl, hl⟩
  simp only [reachBytes, List.length_map] at hb
  exact ⟨W, rfl, ⟨by omega, hr⟩⟩
theorem has_od {k : Nat} {xs : List AV} (h : Has Tryz.prog (k + 6) 145 xs) : ∃ p : Od, xs = odA p := by
  have h := has_struct sty_145 h
  obtain ⟨x1, r, rfl, _, h1, h⟩ := hasE_cons h
  obtain ⟨x2, r, rfl, _, h2, h⟩ := hasE_cons h
  obtain rfl := hasE_nil h
  obtain ⟨a, rfl, _⟩ := has_int tk_3 h1
  obtain ⟨b, rfl, _⟩ := has_int tk_3 h2
  exact ⟨⟨a, b⟩, rfl⟩
theorem has_ct {k : Nat} {xs : List AV} (h : Has Tryz.prog (k + 12) 34 xs) : ∃ t : Ct, xs = ctF t ∧ CtB (2 ^ 50) t := by
  have h := has_struct sty_34 h
  obtain ⟨x0, r, rfl, _, h0, h⟩ := hasE_cons h
  obtain ⟨x1, r, rfl, _, h1, h⟩ := hasE_cons h
  obtain ⟨x2, r, rfl, _, h2, h⟩ := hasE_cons h
  obtain rfl := hasE_nil h
  obtain ⟨es, rfl, _, hb, he⟩ := has_slice tk_31 h0
  obtain ⟨cs, rfl⟩ := all_map (f := odA) (es := es) fun e hx => has_od (he e hx).2
  obtain ⟨d, rfl, _⟩ := has_int tk_3 h1
  obtain ⟨rs, rfl, hr⟩ := has_intss h2
  rw [bo_145] at hb
  simp only [reachBytes, List.length_map] at hb
  exact ⟨⟨cs, d, rs⟩, rfl, ⟨by show cs.length < _; omega, hr⟩⟩
theorem has_cl {k : Nat} {xs : List AV} (h : Has Tryz.prog (k + 8) 36 xs) : ∃ W, xs = [.sl (intss W)] ∧ SSB (2 ^ 50) W := by
  have h := has_struct sty_36 h
  obtain ⟨x0, r, rfl, _, h0, h⟩ := hasE_cons h
  obtain rfl := hasE_nil h
  obtain ⟨W, rfl, hr⟩ := has_intss h0
  exact ⟨W, rfl, hr⟩
theorem hasV_se {k : Nat} {x : AV} (hv : HasV Tryz.prog (k + 26) 38 x) : ∃ s : Se, x = seF s ∧ SeB (2 ^ 50) s := by
  obtain ⟨ys, rfl, h⟩ := hasV_struct sty_38 hv
  obtain ⟨x0, r, rfl, _, h0, h⟩ := hasE_cons h
  obtain ⟨x1, r, rfl, _, h1, h⟩ := hasE_cons h
  obtain ⟨x2, r, rfl, _, h2, h⟩ := hasE_cons h
  obtain ⟨x3, r, rfl, _, h3, h⟩ := hasE_cons h
  obtain rfl := hasE_nil h
  obtain ⟨b, rfl, hb⟩ := has_brd h0
  obtain ⟨t, rfl, ht⟩ := has_ct h1
  obtain ⟨c, rfl, hc⟩ := has_cl h2
  obtain ⟨w, rfl, hw⟩ := has_intss h3
  exact ⟨⟨b, t, c, w⟩, by simp only [seF, List.append_nil, List.append_assoc, List.cons_append, List.nil_append], ⟨hb, ht, hc, hw⟩⟩
end Go.Proofs.YtdhkdkefhoafnaaGreatDoor.X
set_option maxHeartbeats 1000000
set_option maxRecDepth 8000
set_option linter.unusedSimpArgs false
set_option linter.unusedVariables false
open Nat renaming reduceBEq → N1, reduceAdd → N2, reduceSub → N3, reduceMul → N4, reduceEqDiff → N5, reduceLeDiff → N6, reduceLT → N7
open Int renaming reduceLE → I1, reduceLT → I2, reduceToNat → I3
namespace Go.Proofs.YtdhkdkefhoafnaaGreatDoor.X
open Go
theorem has_sta {k : Nat} {xs : List AV} (h : Has Tryz.prog (k + 19) 41 xs) : ∃ s : Sta, xs = staF s ∧ s.us.length < 2 ^ 50 := by
  have h := has_struct sty_41 h
  obtain ⟨x0, r, rfl, _, h0, h⟩ := hasE_cons h
  obtain ⟨x1, r, rfl, _, h1, h⟩ := hasE_cons h
  obtain ⟨x2, r, rfl, _, h2, h⟩ := hasE_cons h
  obtain rfl := hasE_nil h
  obtain ⟨a, rfl, _⟩ := has_int tk_3 h0
  obtain ⟨b, rfl, _⟩ := has_int tk_3 h1
  obtain ⟨es, rfl, _, hb, he⟩ := has_slice tk_39 h2
  obtain ⟨us, rfl⟩ := all_map (f := unA) (es := es) fun e hx => by
    have h := has_struct sty_121 (he e hx).2
    obtain ⟨x0, r, rfl, _, h0, h⟩ := hasE_cons h
    obtain ⟨x1, r, rfl, _, h1, h⟩ := hasE_cons h
    obtain ⟨x2, r, rfl, _, h2, h⟩ := hasE_cons h
    obtain ⟨x3, r, rfl, _, h3, h⟩ := hasE_cons h
    obtain rfl := hasE_nil h
    obtain ⟨a, rfl, _⟩ := has_int tk_3 h0
    obtain ⟨b, rfl, _⟩ := has_int tk_3 h1
    obtain ⟨c, rfl, _⟩ := has_int tk_3 h2
    obtain ⟨d, rfl, _⟩ := has_int tk_3 h3
    exact ⟨⟨a, b, c, d⟩, rfl⟩
  rw [bo_121] at hb
  simp only [reachBytes, List.length_map] at hb
  exact ⟨⟨a, b, us⟩, rfl, by show us.length < _; omega⟩
theorem has_opg {k : Nat} {xs : List AV} (h : Has Tryz.prog (k + 9) 110 xs) : ∃ t : Opg, xs = opgA t ∧ t.tx.size < 2 ^ 50 := by
  have h := has_struct sty_110 h
  obtain ⟨x0, r, rfl, _, h0, h⟩ := hasE_cons h
  obtain ⟨x1, r, rfl, _, h1, h⟩ := hasE_cons h
  obtain rfl := hasE_nil h
  obtain ⟨n, rfl, _⟩ := has_int tk_3 h0
  obtain ⟨t, rfl, hn⟩ := has_str tk_9 h1
  simp only [reachBytes] at hn
  exact ⟨⟨n, t⟩, rfl, by show t.size < _; omega⟩
theorem hasV_ent {k : Nat} {x : AV} (hv : HasV Tryz.prog (k + 26) 45 x) : ∃ e : Ent, x = entF e ∧ EntB (2 ^ 50) e := by
  obtain ⟨ys, rfl, h⟩ := hasV_struct sty_45 hv
  obtain ⟨x0, r, rfl, _, h0, h⟩ := hasE_cons h
  obtain ⟨x1, r, rfl, _, h1, h⟩ := hasE_cons h
  obtain ⟨x2, r, rfl, _, h2, h⟩ := hasE_cons h
  obtain rfl := hasE_nil h
  obtain ⟨es, rfl, _, hb, he⟩ := has_slice tk_42 h0
  obtain ⟨ss, rfl⟩ := all_map (f := sldA) (es := es) fun e hx => by
    have h := has_struct sty_125 (he e hx).2
    obtain ⟨x0, r, rfl, _, h0, h⟩ := hasE_cons h
    obtain ⟨x1, r, rfl, _, h1, h⟩ := hasE_cons h
    obtain ⟨x2, r, rfl, _, h2, h⟩ := hasE_cons h
    obtain rfl := hasE_nil h
    obtain ⟨a, rfl, _⟩ := has_int tk_3 h0
    obtain ⟨b, rfl, _⟩ := has_int tk_3 h1
    obtain ⟨c, rfl, _⟩ := has_int tk_3 h2
    exact ⟨⟨a, b, c⟩, rfl⟩
  rw [bo_125] at hb
  simp only [reachBytes, List.length_map] at hb
  obtain ⟨es2, rfl, _, hb2, he2⟩ := has_slice tk_43 h1
  obtain ⟨os, rfl, hos⟩ := all_map2 (f := opgA) (p := fun o => o.tx.size < 2 ^ 50) (es := es2) fun e hx => by
    obtain ⟨o, rfl, ho⟩ := has_opg (he2 e hx).2
    exact ⟨o, rfl, ho⟩
  rw [bo_110] at hb2
  simp only [reachBytes, List.length_map] at hb2
  obtain ⟨s, rfl, hs⟩ := has_sta h2
  exact ⟨⟨ss, os, s⟩, by simp only [entF, List.append_nil, List.append_assoc, List.cons_append, List.nil_append]; rfl, ⟨by show ss.length < _; omega, by show os.length < _; omega, hos, hs⟩⟩
end Go.Proofs.YtdhkdkefhoafnaaGreatDoor.X
set_option maxHeartbeats 1000000
set_option maxRecDepth 8000
set_option linter.unusedSimpArgs false
set_option linter.unusedVariables false
open Nat renaming reduceBEq → N1, reduceAdd → N2, reduceSub → N3, reduceMul → N4, reduceEqDiff → N5, reduceLeDiff → N6, reduceLT → N7
open Int renaming reduceLE → I1, reduceLT → I2, reduceToNat → I3
namespace Go.Proofs.YtdhkdkefhoafnaaGreatDoor.X
open Go
theorem lawSeedOf_C {C : CT} (hC : Closed Tryz.prog G1 md0 C) : ∀ xs, HasVs Tryz.prog 30 [38, 41, 45] xs → Ev C 3 xs (.bool true) := by
  rintro xs ⟨x0, r0, rfl, h0, x1, r1, rfl, h1, x2, r2, rfl, h2, rfl⟩
  obtain ⟨x, rfl, hx⟩ := hasV_se h0
  obtain ⟨s, rfl, hs⟩ := hasV_sta h1
  obtain ⟨e, rfl, he⟩ := hasV_ent h2
  exact t3 hC x s e hx hs he
theorem lawSeedOf : ∀ xs, HasVs Tryz.prog 30 [38, 41, 45] xs → Ev (CS Tryz.prog G1) 3 xs (.bool true) := lawSeedOf_C (CS_closed (by kernel_rfl))
end Go.Proofs.YtdhkdkefhoafnaaGreatDoor.X
