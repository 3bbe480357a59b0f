/- A part of the proof: lemmas on the machine or on the functions that the law reaches. No condition of its own. -/
import Derived.Test.YtiemjnkblggimaaXP4
set_option maxHeartbeats 4000000
set_option maxRecDepth 8000
set_option linter.unusedSimpArgs false
set_option linter.unusedVariables false
open Nat renaming reduceBEq → N1, reduceAdd → N2, reduceSub → N3, reduceMul → N4, reduceEqDiff → N5, reduceLeDiff → N6, reduceLT → N7
open Int renaming reduceLE → I1, reduceLT → I2, reduceToNat → I3
namespace Go.Proofs.Ytiemjnkblggimaa.X
open Go
attribute [local irreducible] Ev
def vz (l : List Fa) (v : Nat) (b : Int) : List AV := [.int .i64 (if b = -1 then 0 else if b = -2 then -1 else b), .bool (!decide (b = -1) && !decide (b = -2) && decide ((arc l b.toNat).f = v)), .bool (!decide (b = -1))]
def vis (l : List Fa) (o : List Int) : List (List AV) := (List.range o.length).map fun v => vz l v (o.getD v 0)
theorem vis_length (l : List Fa) (o : List Int) : (vis l o).length = o.length := by simp [vis]
theorem vis_get {l : List Fa} {o : List Int} {v : Nat} (h : v < o.length) : (vis l o)[v]? = some [.int .i64 (if o.getD v 0 = -1 then 0 else if o.getD v 0 = -2 then -1 else o.getD v 0), .bool (!decide (o.getD v 0 = -1) && !decide (o.getD v 0 = -2) && decide ((arc l (o.getD v 0).toNat).f = v)), .bool (!decide (o.getD v 0 = -1))] := by
  simp only [vis, List.getElem?_map, List.getElem?_range h, Option.map_some, vz]
theorem vis_set {l : List Fa} {o : List Int} {v : Nat} {b : Int} {x : List AV} (h : v < o.length) (hx : x = vz l v b) : (vis l o).set v x = vis l (o.set v b) := by
  subst hx
  apply List.ext_getElem?
  intro i
  simp only [vis, List.length_set, List.getElem?_set, List.length_map, List.length_range, List.getElem?_map]
  rcases Nat.lt_or_ge i o.length with hi | hi
  · rw [List.getElem?_range hi]
    by_cases e : v = i
    · subst e
      simp only [if_true, h, Option.map_some, List.getD, List.getElem?_set, Option.getD_some]
    · simp only [if_neg e, Option.map_some, List.getD, List.getElem?_set]
  · have e : ¬ v = i := by omega
    rw [if_neg e, List.getElem?_eq_none (by simpa using hi)]
    rfl
theorem vis_rep {l : List Fa} {n : Nat} : List.replicate n [AV.int .i64 0, AV.bool false, AV.bool false] = vis l (List.replicate n (-1)) := by
  apply List.ext_getElem?
  intro i
  simp only [vis, List.length_replicate, List.getElem?_map, List.getElem?_replicate]
  rcases Nat.lt_or_ge i n with hi | hi
  · rw [List.getElem?_range hi, if_pos hi, Option.map_some]
    simp [vz, List.getD, hi]
  · rw [List.getElem?_eq_none (by simpa using hi), if_neg (by omega)]; rfl
theorem own_vis (l : List Fa) (o : List Int) : ownRLL (vis l o) = true := by
  unfold vis
  generalize List.range o.length = r
  induction r with
  | nil => rfl
  | cons x r ih => simp only [List.map_cons, vz, ownRLL, ownRL, ownR, Bool.and_true, Bool.true_and]; exact ih
theorem vz_arc {l : List Fa} {w j : Nat} : vz l w (j : Int) = [.int .i64 (j : Int), .bool (decide ((arc l j).f = w)), .bool true] := by
  have h1 : ¬ ((j : Int) = -1) := by omega
  have h2 : ¬ ((j : Int) = -2) := by omega
  simp [vz, h1, h2]
section
variable {C : CT} (hC : Closed Try.prog G0 md0 C)
include hC
theorem t58 (l : List Fa) (n s : Nat) (hN : NetOk n l) (hs : s < n) (hn : n ≤ 1000) (hl : l.length < 2^30) : Ev C 58 [.pf [.int .i64 n, .sl (fa5 l)], .int .i64 s] (.ow 3 (vis l (mfB l n s))) := by
  refine rT hC Q58 ?_ (by simp only [ownR, own_vis])
  simp only [c58, push_cast, ↓J1, ↓J2, N1, N2, N3, reduceCtorEq, N4, N5, N6, reduceIte, N7, I1, I2, I3]
  simp only [Int.toNat_natCast, List.length_replicate, push_cast, ↓J1, ↓J2, N1, N2, N3, reduceCtorEq, N4, N5, N6, reduceIte, N7, I1, I2, I3]
  repeat (refine ⟨by omega, ?_⟩)
  have hvs := vis_set (l := l) (o := List.replicate n (-1)) (v := s) (b := -2) (x := [.int .i64 (-1), .bool false, .bool true]) (by simpa using hs) rfl
  have e0 := vis_get (l := l) (o := List.replicate n (-1)) (v := s) (by simpa using hs)
  simp only [vis_rep (l := l), vis_length, Int.toNat_natCast, e0, hvs, List.length_replicate, push_cast, ↓J1, ↓J2, N1, N2, N3, reduceCtorEq, N4, N5, N6, reduceIte, N7, I1, I2, I3]
  repeat (refine ⟨by omega, ?_⟩)
  have hNN : mfN l n s ≤ n + 1 := mfN_le
  refine RL_count (fun a => ⟨tb 107 .any [(0, .pf [.int .i64 (n : Int), .sl (fa5 l)]), (5, .ref 0 none 3 0 n), (6, .ref 1 none 1 0 (mfP l n s a).2.length), (7, .int .i64 (a : Int))], [(1, .slice 1 (ints (ni (mfP l n s a).2))), (0, .slice 3 (vis l (mfP l n s a).1))], 2⟩) (fun _ => True) (mfN l n s) 0 (hdA [(1, 1), (0, 0)]) (by omega) trivial fun a ha _ J hJ => ?_
  have inv := (mfP_inv hN hs a).1
  by_cases h1 : a < mfN l n s
  rotate_left
  · obtain rfl : a = mfN l n s := by omega
    have hend := mfN_end hN hs
    have hlt : decide (((mfN l n s : Nat) : Int) < ((mfP l n s (mfN l n s)).2.length : Int)) = false := decide_eq_false (by omega)
    have i1 := inv.len
    simp only [hlt, push_cast, ↓J1, ↓J2, N1, N2, N3, reduceCtorEq, N4, N5, N6, reduceIte, N7, I1, I2, I3]
    exact RetTo_ow rfl (by rw [vis_length]; exact i1.symm)
  have hJ1 := hJ h1 trivial
  clear hJ
  have hal := mfN_lt h1
  rw [mfP_next hal] at hJ1
  have hv := getDn_mem hal
  have hlt : decide ((a : Int) < ((mfP l n s a).2.length : Int)) = true := decide_eq_true (by omega)
  generalize mfP l n s a = p at *
  have hqv : ∃ v, p.2.getD a 0 = v := ⟨_, rfl⟩
  obtain ⟨v, hqv⟩ := hqv
  rw [hqv] at hv hJ1
  have i0 := inv.cn
  simp only [hlt, fa5_length, push_cast, ↓J1, ↓J2, N1, N2, N3, reduceCtorEq, N4, N5, N6, reduceIte, N7, I1, I2, I3]
  refine RL_count (fun j => ⟨tb 107 .any [(0, .pf [.int .i64 (n : Int), .sl (fa5 l)]), (5, .ref 0 none 3 0 n), (6, .ref 1 none 1 0 (mfR l v p j).2.length), (7, .int .i64 (a : Int)), (30, .sl (fa5 l)), (31, .int .i64 (l.length : Int)), (32, .int .i64 (j : Int))], [(1, .slice 1 (ints (ni (mfR l v p j).2))), (0, .slice 3 (vis l (mfR l v p j).1))], 2⟩) (fun _ => True) l.length 0 (hdA [(1, 1), (0, 0)]) (by omega) trivial fun j hj _ JJ hJ2 => ?_
  have inv2 := (mfR_inv hN inv hv j hj).1
  obtain ⟨tt, ht2⟩ := (mfR_inv hN inv hv j hj).2.1
  have hca : (mfR l v p j).2.getD a 0 = v := by rw [ht2, getDn_app hal]; exact hqv
  have hal2 : a < (mfR l v p j).2.length := by rw [ht2, List.length_append]; omega
  by_cases h2 : j < l.length
  rotate_left
  · obtain rfl : j = l.length := by omega
    have hd : decide ((l.length : Int) < (l.length : Int)) = false := decide_eq_false (by omega)
    simp only [hd, push_cast, ↓J1, ↓J2, N1, N2, N3, reduceCtorEq, N4, N5, N6, reduceIte, N7, I1, I2, I3]
    exact hJ1 _ (hdA [(1, 1), (0, 0)])
  have hd : decide ((j : Int) < (l.length : Int)) = true := decide_eq_true (by omega)
  have hK := hJ2 h2 trivial
  clear hJ2 hJ1
  rw [mfR_succ] at hK
  have hrg := hN.rng _ (arc_mem h2)
  have e1 := fa5_get h2
  generalize mfR l v p j = r at *
  obtain ⟨o, q⟩ := r
  rcases hc : arc l j with ⟨f, t, m, g⟩
  simp only [mfS, mf1, mf2, hc] at hK
  rw [hc] at hrg e1
  have i1 := inv2.len
  have i2 := inv2.cn
  simp only at i1 i2 hrg e1 hca hal2 ⊢
  have e0 := ni_get hal2
  rw [hca] at e0
  have e2 := vis_get (l := l) (o := o) (v := t) (by omega)
  have e3 := vis_get (l := l) (o := o) (v := f) (by omega)
  have tk : List.take q.length (ints (ni q)) = ints (ni q) := List.take_of_length_le (by rw [ints_length, ni_length]; omega)
  simp only [hd, Int.toNat_natCast, e1, e0, fa5_length, ints_length, ni_length, push_cast, ↓J1, ↓J2, N1, N2, N3, reduceCtorEq, N4, N5, N6, reduceIte, N7, I1, I2, I3]
  repeat (refine ⟨by omega, ?_⟩)
  by_cases hf : f = v
  · have htv : ¬ t = v := by omega
    have d1 : decide ((f : Int) = (v : Int)) = true := decide_eq_true (by omega)
    have d2 : decide ((t : Int) = (v : Int)) = false := decide_eq_false (by omega)
    simp only [hf, htv, decide_true, decide_false, Bool.true_and, Bool.false_and, Bool.false_eq_true, if_false] at hK
    simp only [d1, push_cast, ↓J1, ↓J2, N1, N2, N3, reduceCtorEq, N4, N5, N6, reduceIte, N7, I1, I2, I3]
    have hvs := vis_set (l := l) (o := o) (v := t) (b := (j : Int)) (x := [.int .i64 (j : Int), .bool false, .bool true]) (by omega) (by rw [vz_arc, hc]; simp only [hf, decide_eq_false (show ¬ v = t by omega)])
    simp only [Int.toNat_natCast, e2, vis_length, i1, push_cast, ↓J1, ↓J2, N1, N2, N3, reduceCtorEq, N4, N5, N6, reduceIte, N7, I1, I2, I3]
    repeat (refine ⟨by omega, ?_⟩)
    cases d4 : decide (o.getD t 0 = -1)
    · simp only [d4, Bool.and_false, Bool.false_eq_true, if_false] at hK
      simp only [d4, Bool.not_false, Bool.not_true, Int.toNat_natCast, e0, ints_length, ni_length, push_cast, ↓J1, ↓J2, N1, N2, N3, reduceCtorEq, N4, N5, N6, reduceIte, N7, I1, I2, I3]
      repeat (refine ⟨by omega, ?_⟩)
      simp only [d2, push_cast, ↓J1, ↓J2, N1, N2, N3, reduceCtorEq, N4, N5, N6, reduceIte, N7, I1, I2, I3]
      exact hK _ (hdA [(1, 1), (0, 0)])
    simp only [d4, Bool.not_false, Bool.not_true, push_cast, ↓J1, ↓J2, N1, N2, N3, reduceCtorEq, N4, N5, N6, reduceIte, N7, I1, I2, I3]
    cases d3 : decide (g < m)
    · simp only [d3, Bool.false_and, Bool.false_eq_true, if_false] at hK
      simp only [d3, Int.toNat_natCast, e0, ints_length, ni_length, push_cast, ↓J1, ↓J2, N1, N2, N3, reduceCtorEq, N4, N5, N6, reduceIte, N7, I1, I2, I3]
      repeat (refine ⟨by omega, ?_⟩)
      simp only [d2, push_cast, ↓J1, ↓J2, N1, N2, N3, reduceCtorEq, N4, N5, N6, reduceIte, N7, I1, I2, I3]
      exact hK _ (hdA [(1, 1), (0, 0)])
    simp only [d3, d4, Bool.true_and, if_true, List.length_append, List.length_singleton] at hK
    have e7 : (ints (ni q) ++ [[AV.int .i64 (t : Int)]])[a]? = some [.int .i64 (v : Int)] := by rw [List.getElem?_append_left (by rw [ints_length, ni_length]; exact hal2)]; exact e0
    simp only [d3, Int.toNat_natCast, e2, hvs, tk, i1, ints_length, ni_length, vis_length, allScs, apYR_sc, push_cast, ↓J1, ↓J2, N1, N2, N3, reduceCtorEq, N4, N5, N6, reduceIte, N7, I1, I2, I3]
    repeat (refine ⟨by omega, ?_⟩)
    simp only [Int.toNat_natCast, e7, List.length_append, ints_length, ni_length, List.length_singleton, push_cast, ↓J1, ↓J2, N1, N2, N3, reduceCtorEq, N4, N5, N6, reduceIte, N7, I1, I2, I3]
    repeat (refine ⟨by omega, ?_⟩)
    simp only [d2, push_cast, ↓J1, ↓J2, N1, N2, N3, reduceCtorEq, N4, N5, N6, reduceIte, N7, I1, I2, I3]
    refine hK _ (hdA [(4, 1), (0, 0)] (hh := ?_))
    simp only [canR, canB, renO, renL, ren, lkp, hget, N7, N5, Nat.not_lt_zero, if_false, if_true, reduceIte, List.append_nil, List.nil_append, ni_sn]
    all_goals rfl
  · have d1 : decide ((f : Int) = (v : Int)) = false := decide_eq_false (by omega)
    simp only [hf, decide_false, Bool.false_and, Bool.false_eq_true, if_false] at hK
    simp only [d1, Int.toNat_natCast, e0, ints_length, ni_length, push_cast, ↓J1, ↓J2, N1, N2, N3, reduceCtorEq, N4, N5, N6, reduceIte, N7, I1, I2, I3]
    repeat (refine ⟨by omega, ?_⟩)
    by_cases htv : t = v
    rotate_left
    · have d2 : decide ((t : Int) = (v : Int)) = false := decide_eq_false (by omega)
      simp only [htv, decide_false, Bool.false_and, Bool.false_eq_true, if_false] at hK
      simp only [d2, push_cast, ↓J1, ↓J2, N1, N2, N3, reduceCtorEq, N4, N5, N6, reduceIte, N7, I1, I2, I3]
      exact hK _ (hdA [(1, 1), (0, 0)])
    have d2 : decide ((t : Int) = (v : Int)) = true := decide_eq_true (by omega)
    simp only [htv, decide_true, Bool.true_and] at hK
    simp only [d2, push_cast, ↓J1, ↓J2, N1, N2, N3, reduceCtorEq, N4, N5, N6, reduceIte, N7, I1, I2, I3]
    have hvs := vis_set (l := l) (o := o) (v := f) (b := (j : Int)) (x := [.int .i64 (j : Int), .bool true, .bool true]) (by omega) (by rw [vz_arc, hc]; simp only [decide_true])
    simp only [Int.toNat_natCast, e0, e3, vis_length, ints_length, ni_length, i1, push_cast, ↓J1, ↓J2, N1, N2, N3, reduceCtorEq, N4, N5, N6, reduceIte, N7, I1, I2, I3]
    repeat (refine ⟨by omega, ?_⟩)
    cases d4 : decide (o.getD f 0 = -1)
    · simp only [d4, Bool.and_false, Bool.false_eq_true, if_false] at hK
      simp only [d4, Bool.not_false, Bool.not_true, push_cast, ↓J1, ↓J2, N1, N2, N3, reduceCtorEq, N4, N5, N6, reduceIte, N7, I1, I2, I3]
      exact hK _ (hdA [(1, 1), (0, 0)])
    simp only [d4, Bool.not_false, Bool.not_true, push_cast, ↓J1, ↓J2, N1, N2, N3, reduceCtorEq, N4, N5, N6, reduceIte, N7, I1, I2, I3]
    cases d3 : decide (0 < g)
    · simp only [d3, Bool.false_and, Bool.false_eq_true, if_false] at hK
      simp only [d3, push_cast, ↓J1, ↓J2, N1, N2, N3, reduceCtorEq, N4, N5, N6, reduceIte, N7, I1, I2, I3]
      exact hK _ (hdA [(1, 1), (0, 0)])
    simp only [d3, d4, Bool.true_and, if_true, List.length_append, List.length_singleton] at hK
    simp only [d3, Int.toNat_natCast, e3, hvs, tk, i1, ints_length, ni_length, vis_length, allScs, apYR_sc, push_cast, ↓J1, ↓J2, N1, N2, N3, reduceCtorEq, N4, N5, N6, reduceIte, N7, I1, I2, I3]
    repeat (refine ⟨by omega, ?_⟩)
    refine hK _ (hdA [(4, 1), (0, 0)] (hh := ?_))
    simp only [canR, canB, renO, renL, ren, lkp, hget, N7, N5, Nat.not_lt_zero, if_false, if_true, reduceIte, List.append_nil, List.nil_append, ni_sn]
    all_goals rfl
end
end Go.Proofs.Ytiemjnkblggimaa.X
set_option maxHeartbeats 4000000
set_option maxRecDepth 8000
set_option linter.unusedSimpArgs false
set_option linter.unusedVariables false
open Nat renaming reduceBEq → N1, reduceAdd → N2, reduceSub → N3, reduceMul → N4, reduceEqDiff → N5, reduceLeDiff → N6, reduceLT → N7
open Int renaming reduceLE → I1, reduceLT → I2, reduceToNat → I3
namespace Go.Proofs.Ytiemjnkblggimaa.X
open Go
attribute [local irreducible] Ev
theorem min_if (a b : Int) : min a b = if b < a then b else a := by
  split
  · exact Int.min_eq_right (by omega)
  · exact Int.min_eq_left (by omega)
theorem vis_at {l : List Fa} {o : List Int} {v i : Nat} (h : v < o.length) (hb : o.getD v 0 = (i : Int)) : (vis l o)[v]? = some [.int .i64 (i : Int), .bool (decide ((arc l i).f = v)), .bool true] := by
  have := vis_get (l := l) h
  rw [hb] at this
  have h1 : ¬ ((i : Int) = -1) := by omega
  have h2 : ¬ ((i : Int) = -2) := by omega
  simpa [h1, h2] using this
section
variable {C : CT} (hC : Closed Try.prog G0 md0 C)
include hC
theorem t42 (L : Lanes) (l : List Fa) (n s e : Nat) (lim : Int) (hN : NetOk n l) (hF : Flow n s e l 0) (hs : s < n) (he : e < n) (hse : s ≠ e) (hn : n ≤ 1000) (hl : l.length < 2^30) (hm : ∀ a ∈ l, a.m < 2^32) (hlim : 1 ≤ lim ∧ lim < 2^40) (hv : (fE l n s e lim).2 < lim) : C 42 [.ptr 2 none 0 0 0, .int .i64 s, .int .i64 e, .int .i64 lim] [(2, .var [.int .i64 n, .ref 1 none 5 0 l.length]), (1, .slice 5 (fa5 l)), (0, .var [.int .i64 L.d, .sl (lns L.ls), .sl (ints L.st)])] 3 (fun v h' n' => v = .int .i64 (fE l n s e lim).2 ∧ n' = 4 ∧ h' = [(3, .slice 3 (vis (fE l n s e lim).1 (mfB (fE l n s e lim).1 n s))), (2, .var [.int .i64 n, .ref 1 none 5 0 l.length]), (1, .slice 5 (fa5 (fE l n s e lim).1)), (0, .var [.int .i64 L.d, .sl (lns L.ls), .sl (ints L.st)])]) := by
  have hend := fN_end (lim := lim) hN hF hs he hse
  refine Closed.rT hC Q42 ?_
  simp only [c42, push_cast, ↓J1, ↓J2, N1, N2, N3, reduceCtorEq, N4, N5, N6, reduceIte, N7, I1, I2, I3]
  refine RL_count (fun k => ⟨tb 113 .any [(0, .ptr 2 none 0 0 0), (1, .int .i64 (s : Int)), (2, .int .i64 (e : Int)), (3, .int .i64 lim), (9, .int .i64 (fI l n s e lim k).2)], [(2, .var [.int .i64 (n : Int), .ref 1 none 5 0 l.length]), (1, .slice 5 (fa5 (fI l n s e lim k).1)), (0, .var [.int .i64 L.d, .sl (lns L.ls), .sl (ints L.st)])], 3⟩) (fun _ => True) (fN l n s e lim) 0 (hdA []) (by omega) trivial fun k hk _ J hJ => ?_
  obtain ⟨⟨i1, i2⟩, i3, _⟩ := fI_inv (lim := lim) hN hF hs he hse k
  have hNk := net_shp i2 hN
  have hlk : (fI l n s e lim k).1.length = l.length := shp_len i2
  have hmk : ∀ a ∈ (fI l n s e lim k).1, a.m < 2^32 := fun a ha => by
    obtain ⟨i, hi, ea⟩ := arc_of ha
    have h3 := (shp_arc i2 i).2.2
    have h4 := hm _ (arc_mem (l := l) (i := i) (by omega))
    rw [← ea, h3]; exact h4
  have hgo : k < fN l n s e lim → fGo n s e lim (fI l n s e lim k) = true := fun h => fN_lt h
  have hlt : decide ((fI l n s e lim k).2 < lim) = true := by
    by_cases h1 : k < fN l n s e lim
    · have := hgo h1
      simp only [fGo, Bool.and_eq_true] at this
      exact this.1
    · obtain rfl : k = fN l n s e lim := by omega
      exact decide_eq_true hv
  have hltv := of_decide_eq_true hlt
  have c1 := t58 hC (fI l n s e lim k).1 n s hNk hs hn (by omega)
  have hsg : (!decide ((mfB (fI l n s e lim k).1 n s).getD e 0 = -1)) = seen (fI l n s e lim k).1 n s e := rfl
  have hBl : (mfB (fI l n s e lim k).1 n s).length = n := (mfP_inv hNk hs _).1.len
  have e1 := vis_get (l := (fI l n s e lim k).1) (o := mfB (fI l n s e lim k).1 n s) (v := e) (by omega)
  have fz := frz_fa5 (fI l n s e lim k).1
  have tk : List.take l.length (fa5 (fI l n s e lim k).1) = fa5 (fI l n s e lim k).1 := by rw [← hlk]; exact fa5_take
  simp only [hlt, fz, tk, push_cast, ↓J1, ↓J2, N1, N2, N3, reduceCtorEq, N4, N5, N6, reduceIte, N7, I1, I2, I3]
  refine ⟨_, c1, ?_⟩
  simp only [Int.toNat_natCast, e1, vis_length, hBl, hsg, push_cast, ↓J1, ↓J2, N1, N2, N3, reduceCtorEq, N4, N5, N6, reduceIte, N7, I1, I2, I3]
  repeat (refine ⟨by omega, ?_⟩)
  by_cases h1 : k < fN l n s e lim
  rotate_left
  · obtain rfl : k = fN l n s e lim := by omega
    have hse' : seen (fI l n s e lim (fN l n s e lim)).1 n s e = false := by
      have := hend
      simp only [fGo, hlt, Bool.true_and] at this
      exact this
    simp only [hse', Bool.not_false, push_cast, ↓J1, ↓J2, N1, N2, N3, reduceCtorEq, N4, N5, N6, reduceIte, N7, I1, I2, I3]
    exact ⟨rfl, rfl⟩
  have hJ1 := hJ h1 trivial
  clear hJ hend
  rw [fI_next (hgo h1)] at hJ1
  have hsn : seen (fI l n s e lim k).1 n s e = true := by
    have := hgo h1
    simp only [fGo, hlt, Bool.true_and] at this
    exact this
  clear hgo hv e1 c1
  have hr := rd (r0 := lim - (fI l n s e lim k).2) hNk i1 hs he hse hsn (by omega)
  have w0 : IntKind.i64.wrap (lim - (fI l n s e lim k).2) = lim - (fI l n s e lim k).2 := wrap64 (by omega) (by omega)
  have hbk := i1.bnd
  generalize hp : fI l n s e lim k = p at *
  obtain ⟨m, x⟩ := p
  simp only at hsn hr w0 hJ1 hlk hNk hmk hbk i3 hltv hBl fz ⊢
  simp only [hsn, Bool.not_true, w0, push_cast, ↓J1, ↓J2, N1, N2, N3, reduceCtorEq, N4, N5, N6, reduceIte, N7, I1, I2, I3]
  have hmr : ∀ i, i < m.length → (arc m i).f < n ∧ (arc m i).t < n ∧ 0 ≤ (arc m i).g ∧ (arc m i).g ≤ (arc m i).m ∧ (arc m i).m < 2^32 := fun i hi => by
    have h1 := hNk.rng _ (arc_mem hi)
    have h2 := hbk _ (arc_mem hi)
    exact ⟨h1.1, h1.2.1, h2.1, h2.2, hmk _ (arc_mem hi)⟩
  refine RL_count (fun j => ⟨tb 113 .any [(0, .ptr 2 none 0 0 0), (1, .int .i64 (s : Int)), (2, .int .i64 (e : Int)), (3, .int .i64 lim), (9, .int .i64 x), (10, .ref 3 none 3 0 n), (11, .int .i64 (rmI m (mfB m n s) s e (lim - x) j)), (12, .int .i64 (pw m (mfB m n s) s e j : Nat))], [(3, .slice 3 (vis m (mfB m n s))), (2, .var [.int .i64 (n : Int), .ref 1 none 5 0 l.length]), (1, .slice 5 (fa5 m)), (0, .var [.int .i64 L.d, .sl (lns L.ls), .sl (ints L.st)])], 4⟩) (fun _ => True) (pwK m (mfB m n s) n s e) 0 (hdA [(3, 3)]) (by omega) trivial fun j hj _ Ja hJ2 => ?_
  by_cases h2 : j < pwK m (mfB m n s) n s e
  · have hK := hJ2 h2 trivial
    clear hJ2 hJ1
    obtain ⟨a1, a2, a3, a4, a5, a6⟩ := hr.at_ j h2
    have b1 := hr.rm j (by omega)
    simp only [rmI] at hK
    rw [a6] at hK
    generalize rmI m (mfB m n s) s e (lim - x) j = y at *
    generalize pw m (mfB m n s) s e j = v at *
    have e2 := vis_at (l := m) (o := mfB m n s) (v := v) (by omega) a3
    generalize byAr (mfB m n s) v = i at *
    have c2 := hmr i a2
    have hft : (arc m i).f ≠ (arc m i).t := (hNk.rng _ (arc_mem a2)).2.2
    have e3 := fa5_get a2
    have d1 : decide ((v : Int) = (s : Int)) = false := decide_eq_false (by omega)
    simp only [d1, Int.toNat_natCast, e2, e3, vis_length, fa5_length, hBl, push_cast, ↓J1, ↓J2, N1, N2, N3, reduceCtorEq, N4, N5, N6, reduceIte, N7, I1, I2, I3]
    repeat (refine ⟨by omega, ?_⟩)
    by_cases hb : (arc m i).f = v
    · have ht : ¬ (arc m i).t = v := by omega
      simp only [roomA, oth, ht, if_false, min_if] at hK
      have w5 : IntKind.i64.wrap ((arc m i).m - (arc m i).g) = (arc m i).m - (arc m i).g := wrap64 (by omega) (by omega)
      simp only [decide_eq_true hb, w5, push_cast, ↓J1, ↓J2, N1, N2, N3, reduceCtorEq, N4, N5, N6, reduceIte, N7, I1, I2, I3]
      exact ⟨hK _ (hdA [(3, 3)]), hK _ (hdA [(3, 3)])⟩
    · have ht : (arc m i).t = v := a5.elim (fun h => h.1) fun h => absurd h.1 hb
      simp only [roomA, oth, ht, if_true, min_if] at hK
      have w5 : IntKind.i64.wrap ((arc m i).m - (arc m i).g) = (arc m i).m - (arc m i).g := wrap64 (by omega) (by omega)
      simp only [decide_eq_false hb, w5, push_cast, ↓J1, ↓J2, N1, N2, N3, reduceCtorEq, N4, N5, N6, reduceIte, N7, I1, I2, I3]
      exact ⟨hK _ (hdA [(3, 3)]), hK _ (hdA [(3, 3)])⟩
  obtain rfl : j = pwK m (mfB m n s) n s e := by omega
  clear hJ2 h2
  rw [hr.st, show rmI m (mfB m n s) s e (lim - x) (pwK m (mfB m n s) n s e) = fRm m n s e (lim - x) from rfl]
  have d1 : decide ((s : Int) = (s : Int)) = true := decide_eq_true rfl
  simp only [d1, Bool.not_true, push_cast, ↓J1, ↓J2, N1, N2, N3, reduceCtorEq, N4, N5, N6, reduceIte, N7, I1, I2, I3]
  have hr1 := hr.r
  have hup := hr.up
  rw [show fUp m n s e (fRm m n s e (lim - x)) = upI m (mfB m n s) s e (fRm m n s e (lim - x)) (pwK m (mfB m n s) n s e) from rfl] at hJ1
  generalize fRm m n s e (lim - x) = y at *
  refine RL_count (fun j => ⟨tb 113 .any [(0, .ptr 2 none 0 0 0), (1, .int .i64 (s : Int)), (2, .int .i64 (e : Int)), (3, .int .i64 lim), (9, .int .i64 x), (10, .ref 3 none 3 0 n), (11, .int .i64 y), (14, .int .i64 (pw m (mfB m n s) s e j : Nat))], [(3, .slice 3 (vis m (mfB m n s))), (2, .var [.int .i64 (n : Int), .ref 1 none 5 0 l.length]), (1, .slice 5 (fa5 (upI m (mfB m n s) s e y j))), (0, .var [.int .i64 L.d, .sl (lns L.ls), .sl (ints L.st)])], 4⟩) (fun _ => True) (pwK m (mfB m n s) n s e) 0 (hdA [(3, 3)]) (by omega) trivial fun j hj _ Ja hJ2 => ?_
  by_cases h2 : j < pwK m (mfB m n s) n s e
  · have hK := hJ2 h2 trivial
    clear hJ2 hJ1
    obtain ⟨a1, a2, a3, a4, a5, a6⟩ := hr.at_ j h2
    obtain ⟨u1, u2⟩ := hup j (by omega)
    simp only [upI] at hK
    rw [a6] at hK
    generalize upI m (mfB m n s) s e y j = u at *
    generalize pw m (mfB m n s) s e j = v at *
    have e2 := vis_at (l := m) (o := mfB m n s) (v := v) (by omega) a3
    generalize byAr (mfB m n s) v = i at *
    have c2 := hmr i a2
    have u3 := u2 i a2
    have hft : (arc m i).f ≠ (arc m i).t := (hNk.rng _ (arc_mem a2)).2.2
    have e3 := fa5_get (l := u) (i := i) (by omega)
    have ho : oth (arc u i) v = oth (arc m i) v := by simp only [oth, u3.1, u3.2.1]
    have w5 : IntKind.i64.wrap ((arc u i).g + y) = (arc u i).g + y := wrap64 (by omega) (by omega)
    have w6 : IntKind.i64.wrap ((arc u i).g - y) = (arc u i).g - y := wrap64 (by omega) (by omega)
    have d2 : decide ((v : Int) = (s : Int)) = false := decide_eq_false (by omega)
    have s1 := fa5_set (l := u) (i := i) (a := ⟨(arc u i).f, (arc u i).t, (arc u i).m, (arc u i).g + y⟩) rfl
    have s2 := fa5_set (l := u) (i := i) (a := ⟨(arc u i).f, (arc u i).t, (arc u i).m, (arc u i).g - y⟩) rfl
    have g1 := fa5_get (l := u.set i ⟨(arc u i).f, (arc u i).t, (arc u i).m, (arc u i).g + y⟩) (i := i) (by rw [List.length_set]; omega)
    have g2 := fa5_get (l := u.set i ⟨(arc u i).f, (arc u i).t, (arc u i).m, (arc u i).g - y⟩) (i := i) (by rw [List.length_set]; omega)
    rw [arc_set (by omega), if_pos rfl] at g1 g2
    simp only at s1 s2 g1 g2
    simp only [d2, Int.toNat_natCast, e2, vis_length, hBl, push_cast, ↓J1, ↓J2, N1, N2, N3, reduceCtorEq, N4, N5, N6, reduceIte, N7, I1, I2, I3]
    repeat (refine ⟨by omega, ?_⟩)
    by_cases hb : (arc m i).f = v
    · have ht : ¬ (arc u i).t = v := by omega
      simp only [mv, oth, if_neg ht, show ¬ (arc m i).t = v by omega, if_false] at hK
      rw [← u3.2.1] at hK
      simp only [decide_eq_true hb, Int.toNat_natCast, e3, w6, s2, g2, fa5_length, push_cast, ↓J1, ↓J2, N1, N2, N3, reduceCtorEq, N4, N5, N6, reduceIte, N7, I1, I2, I3]
      repeat (refine ⟨by omega, ?_⟩)
      exact hK _ (hdA [(3, 3)])
    · have htm : (arc m i).t = v := a5.elim (fun h => h.1) fun h => absurd h.1 hb
      have ht : (arc u i).t = v := by omega
      simp only [mv, oth, if_pos ht, htm, if_true] at hK
      rw [← u3.1] at hK
      simp only [decide_eq_false hb, Int.toNat_natCast, e3, w5, s1, g1, fa5_length, push_cast, ↓J1, ↓J2, N1, N2, N3, reduceCtorEq, N4, N5, N6, reduceIte, N7, I1, I2, I3]
      repeat (refine ⟨by omega, ?_⟩)
      exact hK _ (hdA [(3, 3)])
  obtain rfl : j = pwK m (mfB m n s) n s e := by omega
  clear hJ2 h2
  rw [hr.st]
  have w7 : IntKind.i64.wrap (x + y) = x + y := wrap64 (by omega) (by omega)
  simp only [d1, w7, Bool.not_true, push_cast, ↓J1, ↓J2, N1, N2, N3, reduceCtorEq, N4, N5, N6, reduceIte, N7, I1, I2, I3]
  exact hJ1 _ (hdA [])
end
end Go.Proofs.Ytiemjnkblggimaa.X
set_option maxHeartbeats 1000000
set_option maxRecDepth 8000
set_option linter.unusedSimpArgs false
set_option linter.unusedVariables false
open Nat renaming reduceBEq → N1, reduceAdd → N2, reduceSub → N3, reduceMul → N4, reduceEqDiff → N5, reduceLeDiff → N6, reduceLT → N7
open Int renaming reduceLE → I1, reduceLT → I2, reduceToNat → I3
namespace Go.Proofs.Ytiemjnkblggimaa.X
open Go
attribute [local irreducible] Ev
def toFa (a : Arc) : Fa := ⟨a.f.toNat, a.t.toNat, a.m, 0⟩
def sN (L : Lanes) (F T D : Nat) : List Fa := (arcsS F T 1000000 L D).map toFa
def iN (L : Lanes) (F T D : Nat) : List Fa := (arcsL L D ++ arcsT F T 1000000000 L D).map toFa
def nN (L : Lanes) (D : Nat) : Nat := (D + 1) * L.d.toNat
def eN (L : Lanes) (T D : Nat) : Nat := D * L.d.toNat + T
def AOk (L : Lanes) (D : Nat) (a : Arc) : Prop := ∃ d x y : Nat, d < D ∧ x < L.d.toNat ∧ y < L.d.toNat ∧ a.f = ((d * L.d.toNat + x : Nat) : Int) ∧ a.t = (((d + 1) * L.d.toNat + y : Nat) : Int) ∧ 0 ≤ a.m ∧ a.m ≤ 1000000000
theorem lane_AOk {L : Lanes} (h : lanesOk L = true) {D d : Nat} (hd : d < D) (k : Nat) : ∀ a ∈ laneArcs L d k, AOk L D a := by
  have hL := lanesOk_LOk h
  have h2 := hL.d
  intro a ha
  simp only [laneArcs, List.mem_map] at ha
  obtain ⟨l, hl, rfl⟩ := ha
  simp only [lanesOk, Bool.and_eq_true, List.all_eq_true] at h
  have h3 := h.2 l (List.mem_of_mem_take hl)
  simp only [laneOk, inR, Bool.and_eq_true, decide_eq_true_eq] at h3
  have e : L.d = (L.d.toNat : Int) := by omega
  refine ⟨d, l.a.toNat, l.b.toNat, hd, by omega, by omega, ?_, ?_, by simp only [laneArc]; omega, by simp only [laneArc]; omega⟩
  · simp only [laneArc]; rw [Int.natCast_add, Int.natCast_mul, ← e]; omega
  · simp only [laneArc]; rw [Int.natCast_add, Int.natCast_mul, ← e]; simp only [Int.natCast_add, Int.natCast_one]; omega
theorem store_AOk {L : Lanes} (h : lanesOk L = true) {F T B : Int} (hB : 0 ≤ B ∧ B ≤ 1000000000) {D d : Nat} (hd : d < D) : ∀ a ∈ storeArcs F T B L d L.st.length, AOk L D a := by
  have hL := lanesOk_LOk h
  have h2 := hL.d
  have h3 := hL.s
  intro a ha
  simp only [storeArcs, List.mem_map, List.mem_range] at ha
  obtain ⟨k, hk, rfl⟩ := ha
  have h4 := hL.st k hk
  have e : L.d = (L.d.toNat : Int) := by omega
  refine ⟨d, k, k, hd, by omega, by omega, ?_, ?_, ?_, ?_⟩
  · simp only [storeArc]; rw [Int.natCast_add, Int.natCast_mul, ← e]
  · simp only [storeArc]; rw [Int.natCast_add, Int.natCast_mul, ← e]; simp only [Int.natCast_add, Int.natCast_one]
  · simp only [storeArc]; split <;> omega
  · simp only [storeArc]; split <;> omega
theorem AOk_succ {L : Lanes} {D : Nat} {a : Arc} (h : AOk L D a) : AOk L (D + 1) a := by
  obtain ⟨d, x, y, h1, h2⟩ := h
  exact ⟨d, x, y, by omega, h2⟩
theorem arcsS_AOk {L : Lanes} (h : lanesOk L = true) {F T B : Int} (hB : 0 ≤ B ∧ B ≤ 1000000000) : ∀ D, ∀ a ∈ arcsS F T B L D, AOk L D a
  | 0, a, ha => by simp [arcsS] at ha
  | D + 1, a, ha => by
    simp only [arcsS, List.mem_append] at ha
    rcases ha with (ha | ha) | ha
    · exact AOk_succ (arcsS_AOk h hB D a ha)
    · exact lane_AOk h (by omega) _ a ha
    · exact store_AOk h hB (by omega) a ha
theorem arcsL_AOk {L : Lanes} (h : lanesOk L = true) : ∀ D, ∀ a ∈ arcsL L D, AOk L D a
  | 0, a, ha => by simp [arcsL] at ha
  | D + 1, a, ha => by
    simp only [arcsL, List.mem_append] at ha
    rcases ha with ha | ha
    · exact AOk_succ (arcsL_AOk h D a ha)
    · exact lane_AOk h (by omega) _ a ha
theorem arcsT_AOk {L : Lanes} (h : lanesOk L = true) {F T B : Int} (hB : 0 ≤ B ∧ B ≤ 1000000000) : ∀ D, ∀ a ∈ arcsT F T B L D, AOk L D a
  | 0, a, ha => by simp [arcsT] at ha
  | D + 1, a, ha => by
    simp only [arcsT, List.mem_append] at ha
    rcases ha with ha | ha
    · exact AOk_succ (arcsT_AOk h hB D a ha)
    · exact store_AOk h hB (by omega) a ha
theorem arcsI_AOk {L : Lanes} (h : lanesOk L = true) {F T B : Int} (hB : 0 ≤ B ∧ B ≤ 1000000000) (D : Nat) : ∀ a ∈ arcsL L D ++ arcsT F T B L D, AOk L D a := by
  intro a ha
  rcases List.mem_append.1 ha with ha | ha
  · exact arcsL_AOk h D a ha
  · exact arcsT_AOk h hB D a ha
theorem ar4_fa4 {L : Lanes} {D : Nat} : ∀ {l : List Arc}, (∀ a ∈ l, AOk L D a) → ar4 l = fa4 (l.map toFa)
  | [], _ => rfl
  | a :: l, h => by
    have ih := ar4_fa4 (l := l) fun b hb => h b (by simp [hb])
    obtain ⟨d, x, y, h1, h2, h3, h4, h5, h6⟩ := h a (by simp)
    simp only [ar4, fa4, List.map_cons] at ih ⊢
    rw [ih]
    simp only [toFa, List.cons.injEq, AV.int.injEq, true_and, and_true]
    refine ⟨by omega, by omega⟩
theorem ar5_fa5 {L : Lanes} {D : Nat} : ∀ {l : List Arc}, (∀ a ∈ l, AOk L D a) → ar5 l = fa5 (l.map toFa)
  | [], _ => rfl
  | a :: l, h => by
    have ih := ar5_fa5 (l := l) fun b hb => h b (by simp [hb])
    obtain ⟨d, x, y, h1, h2, h3, h4, h5, h6⟩ := h a (by simp)
    simp only [ar5, fa5, List.map_cons] at ih ⊢
    rw [ih]
    simp only [toFa, List.cons.injEq, AV.int.injEq, true_and, and_true]
    refine ⟨by omega, by omega⟩
theorem net_of {L : Lanes} (hL : LOk L) {D : Nat} {l : List Arc} (h : ∀ a ∈ l, AOk L D a) : NetOk (nN L D) (l.map toFa) := by
  have h2 := hL.d
  refine ⟨fun a ha => ?_⟩
  obtain ⟨b, hb, rfl⟩ := List.mem_map.1 ha
  obtain ⟨d, x, y, h1, h2, h3, h4, h5, h6⟩ := h b hb
  simp only [toFa, h4, h5, Int.toNat_natCast, nN]
  have e1 : (d + 1) * L.d.toNat + y < (d + 2) * L.d.toNat := by
    rw [show d + 2 = (d + 1) + 1 from rfl, Nat.add_mul (d + 1)]; omega
  have e2 : (d + 2) * L.d.toNat ≤ (D + 1) * L.d.toNat := Nat.mul_le_mul_right _ (by omega)
  have e3 : d * L.d.toNat + x < (d + 1) * L.d.toNat := by rw [Nat.add_mul]; omega
  omega
theorem dv_zero {l : List Arc} (v : Nat) : dv (l.map toFa) v = 0 := by
  simp only [dv]
  induction l with
  | nil => rfl
  | cons a l ih =>
    simp only [List.map_cons, List.sum_cons]
    rw [ih]
    have : dvA (toFa a) v = 0 := by
      unfold dvA
      split <;> split <;> rfl
    rw [this]; rfl
theorem flow_of {L : Lanes} (hL : LOk L) {D s e : Nat} {l : List Arc} (h : ∀ a ∈ l, AOk L D a) : Flow (nN L D) s e (l.map toFa) 0 := by
  have hN := net_of hL h
  refine ⟨fun a ha => ⟨(hN.rng a ha).1, (hN.rng a ha).2.1⟩, fun a ha => ?_, fun v _ _ _ => dv_zero v, dv_zero s⟩
  obtain ⟨b, hb, rfl⟩ := List.mem_map.1 ha
  obtain ⟨d, x, y, h1, h2, h3, h4, h5, h6⟩ := h b hb
  exact ⟨Int.le_refl 0, h6.1⟩
theorem m_of {L : Lanes} {D : Nat} {l : List Arc} (h : ∀ a ∈ l, AOk L D a) : ∀ a ∈ l.map toFa, a.m < 2^32 := by
  intro a ha
  obtain ⟨b, hb, rfl⟩ := List.mem_map.1 ha
  obtain ⟨d, x, y, h1, h2, h3, h4, h5, h6⟩ := h b hb
  simp only [toFa]; omega
/-! cuts of the two networks -/
def crB (p : Nat → Bool) (dep d k : Nat) : Bool := p (d * dep + k) && !p ((d + 1) * dep + k)
def smS (p : Nat → Bool) (F T : Nat) (L : Lanes) (d : Nat) : Nat → Int
  | 0 => 0
  | k + 1 => smS p F T L d k + (if crB p L.d.toNat d k then (if decide (k = F) || decide (k = T) then 0 else L.st.getD k 0) else 0)
def bcS (p : Nat → Bool) (F T : Nat) (L : Lanes) (d : Nat) : Nat → Int
  | 0 => 0
  | k + 1 => bcS p F T L d k + (if crB p L.d.toNat d k then (if decide (k = F) || decide (k = T) then 1 else 0) else 0)
theorem cap_app (p : Nat → Bool) (l m : List Fa) : cap p (l ++ m) = cap p l + cap p m := by simp [cap]
theorem cap_store {p : Nat → Bool} {F T : Nat} {B : Int} {L : Lanes} (hL : LOk L) (d : Nat) : ∀ k, cap p ((storeArcs F T B L d k).map toFa) = smS p F T L d k + B * bcS p F T L d k
  | 0 => by simp [storeArcs, smS, bcS, cap]
  | k + 1 => by
    have h2 := hL.d
    have e : L.d = (L.d.toNat : Int) := by omega
    have e1 : ((d : Int) * L.d + k).toNat = d * L.d.toNat + k := by
      rw [show ((d : Int) * L.d + k) = ((d * L.d.toNat + k : Nat) : Int) by rw [Int.natCast_add, Int.natCast_mul, ← e]]; rfl
    have e2 : (((d : Int) + 1) * L.d + k).toNat = (d + 1) * L.d.toNat + k := by
      rw [show (((d : Int) + 1) * L.d + k) = (((d + 1) * L.d.toNat + k : Nat) : Int) by rw [Int.natCast_add, Int.natCast_mul, ← e]; rfl]; rfl
    have d1 : decide ((k : Int) = (F : Int)) = decide (k = F) := by rw [decide_eq_decide]; omega
    have d2 : decide ((k : Int) = (T : Int)) = decide (k = T) := by rw [decide_eq_decide]; omega
    rw [storeArcs_succ, List.map_append, cap_app, cap_store hL d k]
    simp only [smS, bcS, List.map_cons, List.map_nil, cap, List.sum_cons, List.sum_nil, capA, toFa, storeArc, e1, e2, d1, d2, crB, Int.mul_add]
    by_cases h3 : (p (d * L.d.toNat + k) && !p ((d + 1) * L.d.toNat + k)) = true
    · by_cases h4 : (decide (k = F) || decide (k = T)) = true
      · simp only [if_pos h3, if_pos h4]; simp only [Int.mul_one, Int.add_zero]; generalize B * bcS p F T L d k = z; omega
      · simp only [if_pos h3, if_neg h4]; simp only [Int.mul_zero, Int.add_zero]; generalize B * bcS p F T L d k = z; omega
    · have h5 := Bool.eq_false_iff.2 h3
      simp only [h5, Bool.false_eq_true, if_false]; simp only [Int.mul_zero, Int.add_zero]
def xC (p : Nat → Bool) (F T : Nat) (L : Lanes) : Nat → Int
  | 0 => 0
  | d + 1 => xC p F T L d + cap p ((laneArcs L d L.ls.length).map toFa) + smS p F T L d L.st.length
def yC (p : Nat → Bool) (F T : Nat) (L : Lanes) : Nat → Int
  | 0 => 0
  | d + 1 => yC p F T L d + bcS p F T L d L.st.length
theorem cap_S {p : Nat → Bool} {F T : Nat} {B : Int} {L : Lanes} (hL : LOk L) : ∀ D, cap p ((arcsS F T B L D).map toFa) = xC p F T L D + B * yC p F T L D
  | 0 => by simp [arcsS, xC, yC, cap]
  | D + 1 => by
    simp only [arcsS, List.map_append, cap_app, cap_S hL D, cap_store hL, xC, yC, Int.mul_add]
    generalize B * yC p F T L D = z; generalize B * bcS p F T L D L.st.length = z2; omega
theorem cap_I {p : Nat → Bool} {F T : Nat} {B : Int} {L : Lanes} (hL : LOk L) : ∀ D, cap p ((arcsL L D).map toFa) + cap p ((arcsT F T B L D).map toFa) = xC p F T L D + B * yC p F T L D
  | 0 => by simp [arcsL, arcsT, xC, yC, cap]
  | D + 1 => by
    have := cap_I (p := p) (F := F) (T := T) (B := B) hL D
    simp only [arcsL, arcsT, List.map_append, cap_app, cap_store hL, xC, yC, Int.mul_add]
    generalize B * yC p F T L D = z at *; generalize B * bcS p F T L D L.st.length = z2; omega
theorem smS_bnd {p : Nat → Bool} {F T : Nat} {L : Lanes} (hL : LOk L) (d : Nat) : ∀ k, k ≤ L.st.length → 0 ≤ smS p F T L d k ∧ smS p F T L d k ≤ 1000 * k
  | 0, _ => by simp [smS]
  | k + 1, hk => by
    have ih := smS_bnd (p := p) (F := F) (T := T) hL d k (by omega)
    have := hL.st k (by omega)
    simp only [smS]
    split <;> (try split) <;> omega
theorem bcS_nn {p : Nat → Bool} {F T : Nat} {L : Lanes} (d : Nat) : ∀ k, 0 ≤ bcS p F T L d k
  | 0 => by simp [bcS]
  | k + 1 => by
    have ih := bcS_nn (p := p) (F := F) (T := T) (L := L) d k
    simp only [bcS]
    split <;> (try split) <;> omega
theorem yC_nn {p : Nat → Bool} {F T : Nat} {L : Lanes} : ∀ D, 0 ≤ yC p F T L D
  | 0 => by simp [yC]
  | D + 1 => by
    have h1 := yC_nn (p := p) (F := F) (T := T) (L := L) D
    have h2 := bcS_nn (p := p) (F := F) (T := T) (L := L) D L.st.length
    simp only [yC]; omega
theorem cap_lane {p : Nat → Bool} {L : Lanes} (hL : LOk L) (d : Nat) : ∀ k, k ≤ L.ls.length → 0 ≤ cap p ((laneArcs L d k).map toFa) ∧ cap p ((laneArcs L d k).map toFa) ≤ 1000 * k
  | 0, _ => by simp [laneArcs, cap]
  | k + 1, hk => by
    have ih := cap_lane (p := p) hL d k (by omega)
    have := hL.ls _ (List.getElem_mem (show k < L.ls.length by omega))
    rw [laneArcs_succ (by omega), List.map_append, cap_app]
    simp only [List.map_cons, List.map_nil, cap, List.sum_cons, List.sum_nil, capA, toFa, laneArc] at ih ⊢
    split <;> omega
theorem xC_bnd {p : Nat → Bool} {F T : Nat} {L : Lanes} (hL : LOk L) : ∀ D, 0 ≤ xC p F T L D ∧ xC p F T L D ≤ 21000 * D
  | 0 => by simp [xC]
  | D + 1 => by
    have h1 := xC_bnd (p := p) (F := F) (T := T) hL D
    have h2 := cap_lane (p := p) hL D L.ls.length (by omega)
    have h3 := smS_bnd (p := p) (F := F) (T := T) hL D L.st.length (by omega)
    have := hL.n; have := hL.s; have := hL.d
    simp only [xC]; omega
def p0 (L : Lanes) (T : Nat) (v : Nat) : Bool := !decide (v % L.d.toNat = T)
theorem p0_at {L : Lanes} {T d k : Nat} (hk : k < L.d.toNat) : p0 L T (d * L.d.toNat + k) = !decide (k = T) := by
  simp only [p0]
  rw [Nat.mul_comm, Nat.mul_add_mod, Nat.mod_eq_of_lt hk]
theorem yC_p0 {F T : Nat} {L : Lanes} (hL : LOk L) : ∀ D, yC (p0 L T) F T L D = 0
  | 0 => rfl
  | D + 1 => by
    have h3 := hL.s
    have hb : ∀ k, k ≤ L.st.length → bcS (p0 L T) F T L D k = 0 := by
      intro k
      induction k with
      | zero => intro _; rfl
      | succ k ih =>
        intro hk
        simp only [bcS, ih (by omega), crB, p0_at (show k < L.d.toNat by omega)]
        cases decide (k = T) <;> simp
    simp only [yC, yC_p0 hL D, hb L.st.length (by omega)]; rfl
def gvL (lim : Int) (L : Lanes) (F T D : Nat) : Int := (fE (sN L F T D) (nN L D) F (eN L T D) lim).2
structure Deliv (lim lim' : Int) (L : Lanes) (F T D : Nat) : Prop where
  nS : NetOk (nN L D) (sN L F T D)
  nI : NetOk (nN L D) (iN L F T D)
  fS : Flow (nN L D) F (eN L T D) (sN L F T D) 0
  fI : Flow (nN L D) F (eN L T D) (iN L F T D) 0
  s : F < nN L D
  e : eN L T D < nN L D
  ne : F ≠ eN L T D
  n : nN L D ≤ 42
  lS : (sN L F T D).length ≤ 126
  lI : (iN L F T D).length ≤ 126
  mS : ∀ a ∈ sN L F T D, a.m < 2^32
  mI : ∀ a ∈ iN L F T D, a.m < 2^32
  vS : gvL lim L F T D < 126001 ∧ 0 ≤ gvL lim L F T D
  vI : (fE (iN L F T D) (nN L D) F (eN L T D) lim').2 = gvL lim L F T D
  sn : ∀ w, w < nN L D → seen (fE (iN L F T D) (nN L D) F (eN L T D) lim').1 (nN L D) F w = seen (fE (sN L F T D) (nN L D) F (eN L T D) lim).1 (nN L D) F w
  z0 : D = 0 → fE (iN L F T D) (nN L D) F (eN L T D) lim' = (iN L F T D, 0)
  shI : shp (fE (iN L F T D) (nN L D) F (eN L T D) lim').1 = shp (iN L F T D)
  shS : shp (fE (sN L F T D) (nN L D) F (eN L T D) lim).1 = shp (sN L F T D)
  aS : ar4 (arcsS F T 1000000 L D) = fa4 (sN L F T D)
  aI : ar5 (arcsL L D ++ arcsT F T 1000000000 L D) = fa5 (iN L F T D)
theorem deliv {lim lim' : Int} (m1 : 126000 < lim) (m2 : 126000 < lim') {L : Lanes} (h : lanesOk L = true) {F T D : Nat} (hF : F < L.d.toNat) (hT : T < L.d.toNat) (hFT : F ≠ T) (hD : D ≤ 6) : Deliv lim lim' L F T D := by
  have hL := lanesOk_LOk h
  have hd := hL.d
  have hn15 := hL.n
  have hsn := hL.s
  have oS := arcsS_AOk h (F := F) (T := T) (B := 1000000) (by omega) D
  have oI := arcsI_AOk h (F := F) (T := T) (B := 1000000000) (by omega) D
  have nS := net_of hL oS
  have nI := net_of hL oI
  have fS := flow_of hL (s := F) (e := eN L T D) oS
  have fI' := flow_of hL (s := F) (e := eN L T D) oI
  have hs : F < nN L D := by
    have : 1 * L.d.toNat ≤ (D + 1) * L.d.toNat := Nat.mul_le_mul_right _ (by omega)
    simp only [nN]; omega
  have he : eN L T D < nN L D := by simp only [nN, eN, Nat.add_mul]; omega
  have hne : F ≠ eN L T D := by
    simp only [eN]
    rcases Nat.eq_zero_or_pos D with e | e
    · subst e; omega
    · have : 1 * L.d.toNat ≤ D * L.d.toNat := Nat.mul_le_mul_right _ (by omega)
      omega
  have hn : nN L D ≤ 42 := by
    have : (D + 1) * L.d.toNat ≤ 7 * 6 := Nat.mul_le_mul (by omega) (by omega)
    exact this
  have q1 : p0 L T F = true := by
    have := p0_at (L := L) (T := T) (d := 0) hF
    rw [Nat.zero_mul, Nat.zero_add] at this
    rw [this]; simp [hFT]
  have q2 : p0 L T (eN L T D) = false := by
    rw [eN, p0_at hT]; simp
  have cS := fun p => cap_S (p := p) (F := F) (T := T) (B := 1000000) hL D
  have cI := fun p => cap_I (p := p) (F := F) (T := T) (B := 1000000000) hL D
  have cI' : ∀ p, cap p (iN L F T D) = xC p F T L D + 1000000000 * yC p F T L D := fun p => by
    rw [iN, List.map_append, cap_app]; exact cI p
  have cS' : ∀ p, cap p (sN L F T D) = xC p F T L D + 1000000 * yC p F T L D := cS
  have xb := fun p => xC_bnd (p := p) (F := F) (T := T) hL D
  have yb := fun p => yC_nn (p := p) (F := F) (T := T) (L := L) D
  have y0 := yC_p0 (F := F) (T := T) hL D
  have k1 : cap (p0 L T) (sN L F T D) ≤ 126000 := by rw [cS', y0]; have := xb (p0 L T); omega
  have k2 : cap (p0 L T) (iN L F T D) ≤ 126000 := by rw [cI', y0]; have := xb (p0 L T); omega
  have k3 : ∀ p : Nat → Bool, cap p (sN L F T D) ≤ 126000 → cap p (iN L F T D) = cap p (sN L F T D) := fun p hp => by
    rw [cS'] at hp
    rw [cS', cI']
    have h1 := xb p; have h2 := yb p
    have : yC p F T L D = 0 := by omega
    rw [this, Int.mul_zero, Int.mul_zero]
  have k4 : ∀ p : Nat → Bool, cap p (iN L F T D) ≤ 126000 → cap p (sN L F T D) = cap p (iN L F T D) := fun p hp => by
    rw [cI'] at hp
    rw [cS', cI']
    have h1 := xb p; have h2 := yb p
    have : yC p F T L D = 0 := by omega
    rw [this, Int.mul_zero, Int.mul_zero]
  obtain ⟨v1, v2⟩ := fE_same (lim := lim) (lim' := lim') nS nI fS fI' hs he hne q1 q2 k1 k2 m1 m2 k3 k4
  obtain ⟨a1, a2, a3, a4, a5⟩ := fE_ok (lim := lim) nS fS hs he hne q1 q2 k1 m1
  obtain ⟨b1, b2, b3, b4, b5⟩ := fE_ok (lim := lim') nI fI' hs he hne q1 q2 k2 m2
  have z0 : D = 0 → fE (iN L F T D) (nN L D) F (eN L T D) lim' = (iN L F T D, 0) := fun e => by
    have hnil : iN L F T D = [] := by subst e; rfl
    have hl := shp_len b2
    have hz : (iN L F T D).length = 0 := by rw [hnil]; rfl
    have h1 := List.eq_nil_of_length_eq_zero (hl.trans hz)
    have h2 : ∀ p, cap p (iN L F T D) = 0 := fun p => by rw [hnil]; rfl
    exact Prod.ext (h1.trans hnil.symm) (b5.trans (h2 _))
  have g0 := (fI_inv (lim := lim) nS fS hs he hne (fN (sN L F T D) (nN L D) F (eN L T D) lim)).2.1
  have l1 := arcsS_len (F := F) (T := T) (B := 1000000) hL D
  have l2 := arcsL_len hL D
  have l3 := arcsT_len (F := F) (T := T) (B := 1000000000) L D
  have l6 : L.st.length * D ≤ 6 * 6 := Nat.mul_le_mul (by omega) (by omega)
  refine ⟨nS, nI, fS, fI', hs, he, hne, hn, by simp only [sN, List.length_map]; omega, by simp only [iN, List.length_map, List.length_append]; omega, m_of oS, m_of oI, ⟨?_, g0⟩, v1.symm, fun w hw => (v2 w hw).symm, z0, b2, a2, ar4_fa4 oS, ar5_fa5 oI⟩
  have a3' : gvL lim L F T D ≤ 126000 := a3
  omega
end Go.Proofs.Ytiemjnkblggimaa.X
set_option maxHeartbeats 4000000
set_option maxRecDepth 8000
set_option linter.unusedSimpArgs false
set_option linter.unusedVariables false
open Nat renaming reduceBEq → N1, reduceAdd → N2, reduceSub → N3, reduceMul → N4, reduceEqDiff → N5, reduceLeDiff → N6, reduceLT → N7
open Int renaming reduceLE → I1, reduceLT → I2, reduceToNat → I3
namespace Go.Proofs.Ytiemjnkblggimaa.X
open Go
attribute [local irreducible] Ev fE
def askT (L : Lanes) (F T D : Int) : Bool := lanesOk L && inR 0 (L.d - 1) F && inR 0 (L.d - 1) T && !decide (F = T) && inR 0 6 D
def gvN (lim : Int) (L : Lanes) (F T D : Int) : Int := gvL lim L F.toNat T.toNat D.toNat
def fdF (g : Nat → Int) (x : Int) : Nat → Nat → Int × Bool
  | 0, _ => (0, false)
  | n + 1, d => if x ≤ g d then ((d : Int), true) else fdF g x n (d + 1)
def askF (L : Lanes) (F T x : Int) : Bool := askT L F T 0 && inR 0 100000 x
def fdR (lim : Int) (L : Lanes) (F T x : Int) : Int × Bool := if askF L F T x then fdF (fun d => gvL lim L F.toNat T.toNat d) x 7 0 else (0, false)
theorem askT_at {L : Lanes} {F T D : Int} (h : askT L F T D = true) : ∃ f t d : Nat, F = f ∧ T = t ∧ D = d ∧ lanesOk L = true ∧ f < L.d.toNat ∧ t < L.d.toNat ∧ f ≠ t ∧ d ≤ 6 := by
  simp only [askT, inR, Bool.and_eq_true, decide_eq_true_eq, Bool.not_eq_true', decide_eq_false_iff_not] at h
  exact ⟨F.toNat, T.toNat, D.toNat, by omega, by omega, by omega, h.1.1.1.1, by omega, by omega, by omega, by omega⟩
section
variable {C : CT} (hC : Closed Try.prog G0 md0 C)
include hC
omit hC in
theorem own_fa5 (l : List Fa) : ownRLL (fa5 l) = true := by
  unfold fa5
  induction l with
  | nil => rfl
  | cons x l ih => simp only [List.map_cons, ownRLL, ownRL, ownR, Bool.and_true, Bool.true_and]; exact ih
theorem t36 (L : Lanes) (F T D : Int) (h1 : L.ls.length < 2^50) (h2 : L.st.length < 2^50) : Ev C 36 [L.av, .int .i64 F, .int .i64 T, .int .i64 D] (.bool (askT L F T D)) := by
  have c1 := t25 hC L h1 h2
  simp only [Lanes.av] at *
  refine rT hC Q36 ?_
  simp only [c36, push_cast, ↓J1, ↓J2, N1, N2, N3, reduceCtorEq, N4, N5, N6, reduceIte, N7, I1, I2, I3]
  refine ⟨_, c1, ?_⟩
  cases g1 : lanesOk L
  · simp only [askT, g1, Bool.false_and, push_cast, ↓J1, ↓J2, N1, N2, N3, reduceCtorEq, N4, N5, N6, reduceIte, N7, I1, I2, I3]
  have hd := (lanesOk_LOk g1).d
  simp only [wrap64 (n := L.d - 1) (by omega) (by omega), push_cast, ↓J1, ↓J2, N1, N2, N3, reduceCtorEq, N4, N5, N6, reduceIte, N7, I1, I2, I3]
  refine ⟨_, t26 hC _ _ _, ?_⟩
  rw [show (decide (0 ≤ F) && decide (F ≤ L.d - 1)) = inR 0 (L.d - 1) F from rfl]
  cases g2 : inR 0 (L.d - 1) F
  · simp only [askT, g1, g2, Bool.false_and, Bool.and_false, push_cast, ↓J1, ↓J2, N1, N2, N3, reduceCtorEq, N4, N5, N6, reduceIte, N7, I1, I2, I3]
  simp only [wrap64 (n := L.d - 1) (by omega) (by omega), push_cast, ↓J1, ↓J2, N1, N2, N3, reduceCtorEq, N4, N5, N6, reduceIte, N7, I1, I2, I3]
  refine ⟨_, t26 hC _ _ _, ?_⟩
  rw [show (decide (0 ≤ T) && decide (T ≤ L.d - 1)) = inR 0 (L.d - 1) T from rfl]
  cases g3 : inR 0 (L.d - 1) T
  · simp only [askT, g1, g2, g3, Bool.false_and, Bool.and_false, push_cast, ↓J1, ↓J2, N1, N2, N3, reduceCtorEq, N4, N5, N6, reduceIte, N7, I1, I2, I3]
  cases g4 : decide (F = T)
  · simp only [g4, Bool.not_false, push_cast, ↓J1, ↓J2, N1, N2, N3, reduceCtorEq, N4, N5, N6, reduceIte, N7, I1, I2, I3]
    refine ⟨_, t26 hC _ _ _, ?_⟩
    rw [show (decide (0 ≤ D) && decide (D ≤ 6)) = inR 0 6 D from rfl]
    simp only [askT, g1, g2, g3, g4, Bool.true_and, Bool.not_false, push_cast, ↓J1, ↓J2, N1, N2, N3, reduceCtorEq, N4, N5, N6, reduceIte, N7, I1, I2, I3]
  · simp only [askT, g1, g2, g3, g4, Bool.not_true, Bool.and_false, Bool.false_and, push_cast, ↓J1, ↓J2, N1, N2, N3, reduceCtorEq, N4, N5, N6, reduceIte, N7, I1, I2, I3]
theorem t41 (L : Lanes) (F T D : Int) (h1 : L.ls.length < 2^50) (h2 : L.st.length < 2^50) : Ev C 41 [L.av, .int .i64 F, .int .i64 T, .int .i64 D] (.bool (askT L F T D)) := by
  have c1 := t30 hC L h1 h2
  simp only [Lanes.av] at *
  refine rT hC Q41 ?_
  simp only [c41, push_cast, ↓J1, ↓J2, N1, N2, N3, reduceCtorEq, N4, N5, N6, reduceIte, N7, I1, I2, I3]
  refine ⟨_, c1, ?_⟩
  cases g1 : lanesOk L
  · simp only [askT, g1, Bool.false_and, push_cast, ↓J1, ↓J2, N1, N2, N3, reduceCtorEq, N4, N5, N6, reduceIte, N7, I1, I2, I3]
  have hd := (lanesOk_LOk g1).d
  simp only [push_cast, ↓J1, ↓J2, N1, N2, N3, reduceCtorEq, N4, N5, N6, reduceIte, N7, I1, I2, I3]
  refine ⟨_, t31 hC _ _ ⟨by omega, by omega⟩, ?_⟩
  rw [show (decide (0 ≤ F) && decide (F ≤ L.d - 1)) = inR 0 (L.d - 1) F from rfl]
  cases g2 : inR 0 (L.d - 1) F
  · simp only [askT, g1, g2, Bool.false_and, Bool.and_false, push_cast, ↓J1, ↓J2, N1, N2, N3, reduceCtorEq, N4, N5, N6, reduceIte, N7, I1, I2, I3]
  simp only [push_cast, ↓J1, ↓J2, N1, N2, N3, reduceCtorEq, N4, N5, N6, reduceIte, N7, I1, I2, I3]
  refine ⟨_, t31 hC _ _ ⟨by omega, by omega⟩, ?_⟩
  rw [show (decide (0 ≤ T) && decide (T ≤ L.d - 1)) = inR 0 (L.d - 1) T from rfl]
  cases g3 : inR 0 (L.d - 1) T
  · simp only [askT, g1, g2, g3, Bool.false_and, Bool.and_false, push_cast, ↓J1, ↓J2, N1, N2, N3, reduceCtorEq, N4, N5, N6, reduceIte, N7, I1, I2, I3]
  cases g4 : decide (F = T)
  · simp only [g4, Bool.not_false, push_cast, ↓J1, ↓J2, N1, N2, N3, reduceCtorEq, N4, N5, N6, reduceIte, N7, I1, I2, I3]
    refine ⟨_, t47 hC _ _ _, ?_⟩
    rw [show (decide (0 ≤ D) && decide (D ≤ 6)) = inR 0 6 D from rfl]
    simp only [askT, g1, g2, g3, g4, Bool.true_and, Bool.not_false, push_cast, ↓J1, ↓J2, N1, N2, N3, reduceCtorEq, N4, N5, N6, reduceIte, N7, I1, I2, I3]
  · simp only [askT, g1, g2, g3, g4, Bool.not_true, Bool.and_false, Bool.false_and, push_cast, ↓J1, ↓J2, N1, N2, N3, reduceCtorEq, N4, N5, N6, reduceIte, N7, I1, I2, I3]
omit hC in
theorem nN_int {L : Lanes} (h : LOk L) (D : Nat) : ((D : Int) + 1) * L.d = ((nN L D : Nat) : Int) := by
  have hd := h.d
  rw [nN, Int.natCast_mul, show ((L.d.toNat : Nat) : Int) = L.d by omega]; rfl
omit hC in
theorem eN_int {L : Lanes} (h : LOk L) (T D : Nat) : (D : Int) * L.d + T = ((eN L T D : Nat) : Int) := by
  have hd := h.d
  rw [eN, Int.natCast_add, Int.natCast_mul, show ((L.d.toNat : Nat) : Int) = L.d by omega]
theorem t37 {lim : Int} (r1 : 10000000 = lim) (L : Lanes) (F T D : Nat) (h : lanesOk L = true) (hF : F < L.d.toNat) (hT : T < L.d.toNat) (hFT : F ≠ T) (hD : D ≤ 6) : Ev C 37 [L.av, .int .i64 F, .int .i64 T, .int .i64 D] (.int .i64 (gvL lim L F T D)) := by
  have hL := lanesOk_LOk h
  have hd := hL.d
  have hm := mul_ok (d := (D : Int)) ⟨by omega, by omega⟩ hd
  have x := deliv (lim := lim) (lim' := lim) (by omega) (by omega) h hF hT hFT hD
  have c1 := t54 hC L F T D hD hL
  rw [x.aS, nN_int hL] at c1
  have he := x.e
  have hn := x.n
  have hl := x.lS
  have w1 : IntKind.i64.wrap ((D : Int) * L.d) = (D : Int) * L.d := wrap64 (by omega) (by omega)
  have w2 : IntKind.i64.wrap ((D : Int) * L.d + T) = ((eN L T D : Nat) : Int) := by rw [eN_int hL]; exact wrap64 (by omega) (by omega)
  have c2 := t55 hC L (sN L F T D) (nN L D) F (eN L T D) lim x.nS x.fS x.s x.e x.ne (by omega) (by omega) x.mS ⟨by omega, by omega⟩ (Int.lt_of_lt_of_le x.vS.1 (by omega))
  rw [show (fE (sN L F T D) (nN L D) F (eN L T D) lim).2 = gvL lim L F T D from rfl] at c2
  simp only [Lanes.av] at *
  generalize gvL lim L F T D = g at *
  refine rT hC Q37 ?_
  simp only [c37, push_cast, ↓J1, ↓J2, N1, N2, N3, reduceCtorEq, N4, N5, N6, reduceIte, N7, I1, I2, I3]
  refine ⟨_, c1, ?_⟩
  simp only [fa4_length, w1, w2, r1, push_cast, ↓J1, ↓J2, N1, N2, N3, reduceCtorEq, N4, N5, N6, reduceIte, N7, I1, I2, I3]
  refine ⟨_, c2, ?_⟩
  rintro v h' n' ⟨rfl, rfl, rfl⟩ _
  simp only [push_cast, ↓J1, ↓J2, N1, N2, N3, reduceCtorEq, N4, N5, N6, reduceIte, N7, I1, I2, I3]
theorem t39 {lim lim' : Int} (r1 : 10000000 = lim) (r2 : 1000000000 = lim') (L : Lanes) (F T D : Nat) (h : lanesOk L = true) (hF : F < L.d.toNat) (hT : T < L.d.toNat) (hFT : F ≠ T) (hD : D ≤ 6) : Ev C 39 [L.av, .int .i64 F, .int .i64 T, .int .i64 D] (.tup [.op [.int .i64 (nN L D), .ow 5 (fa5 (fE (iN L F T D) (nN L D) F (eN L T D) lim').1)], .int .i64 (gvL lim L F T D)]) := by
  have hL := lanesOk_LOk h
  have hd := hL.d
  have hm := mul_ok (d := (D : Int)) ⟨by omega, by omega⟩ hd
  have x := deliv (lim := lim) (lim' := lim') (by omega) (by omega) h hF hT hFT hD
  have c1 := t56 hC L F T D hD hL
  rw [x.aI, nN_int hL] at c1
  have he := x.e
  have hn := x.n
  have hl := x.lI
  have w1 : IntKind.i64.wrap ((D : Int) * L.d) = (D : Int) * L.d := wrap64 (by omega) (by omega)
  have w2 : IntKind.i64.wrap ((D : Int) * L.d + T) = ((eN L T D : Nat) : Int) := by rw [eN_int hL]; exact wrap64 (by omega) (by omega)
  have c2 := t42 hC L (iN L F T D) (nN L D) F (eN L T D) lim' x.nI x.fI x.s x.e x.ne (by omega) (by omega) x.mI ⟨by omega, by omega⟩ (by rw [x.vI]; have := x.vS; omega)
  have hfl := shp_len x.shI
  rw [x.vI] at c2
  have z0 : D = 0 → fE (iN L F T D) (nN L D) F (eN L T D) lim' = (iN L F T D, 0) := x.z0
  have z1 : D = 0 → gvL lim L F T D = 0 := fun e => by rw [← x.vI, z0 e]
  simp only [Lanes.av] at *
  generalize gvL lim L F T D = g at *
  refine rT hC Q39 ?_ (by simp only [ownR, ownRL, own_fa5, Bool.and_true])
  simp only [c39, push_cast, ↓J1, ↓J2, N1, N2, N3, reduceCtorEq, N4, N5, N6, reduceIte, N7, I1, I2, I3]
  refine ⟨_, c1, ?_⟩
  simp only [fa5_length, w1, w2, r2, push_cast, ↓J1, ↓J2, N1, N2, N3, reduceCtorEq, N4, N5, N6, reduceIte, N7, I1, I2, I3]
  have tk5 : List.take (iN L F T D).length (fa5 (iN L F T D)) = fa5 (iN L F T D) := fa5_take
  refine ifB_intro (fun h0 => ?_) (fun h0 => ?_)
  · have e0 : D = 0 := by have := of_decide_eq_true h0; omega
    rw [z0 e0, z1 e0]
    exact RetTo_of (by simp only [conR, conRL, isF, hget, hdel, List.drop_zero, tk5, fa5_length, if_true, if_false, reduceIte, N5, reduceCtorEq]; rfl)
  refine ⟨_, c2, ?_⟩
  rintro v h' n' ⟨rfl, rfl, rfl⟩ _
  have tk6 : List.take (iN L F T D).length (fa5 (fE (iN L F T D) (nN L D) F (eN L T D) lim').1) = fa5 (fE (iN L F T D) (nN L D) F (eN L T D) lim').1 := by rw [← hfl]; exact fa5_take
  simp only [push_cast, ↓J1, ↓J2, N1, N2, N3, reduceCtorEq, N4, N5, N6, reduceIte, N7, I1, I2, I3]
  exact RetTo_of (by simp only [conR, conRL, isF, hget, hdel, List.drop_zero, tk6, fa5_length, hfl, if_true, if_false, reduceIte, N5, reduceCtorEq]; rfl)
omit hC in
theorem gvN_nat {lim : Int} {L : Lanes} {f t d : Nat} : gvN lim L f t d = gvL lim L f t d := by simp only [gvN, Int.toNat_natCast]
theorem qG_at {lim : Int} (r1 : 10000000 = lim) (L : Lanes) (F T D : Int) (g : askT L F T D = true) : Ev C 37 [L.av, .int .i64 F, .int .i64 T, .int .i64 D] (.int .i64 (gvN lim L F T D)) := by
  obtain ⟨f, t, d, rfl, rfl, rfl, a1, a2, a3, a4, a5⟩ := askT_at g
  rw [gvN_nat]
  exact t37 hC r1 L f t d a1 a2 a3 a4 a5
def fN5 (lim' : Int) (L : Lanes) (F T D : Int) : List Fa := (fE (iN L F.toNat T.toNat D.toNat) (nN L D.toNat) F.toNat (eN L T.toNat D.toNat) lim').1
def fN4 (lim : Int) (L : Lanes) (F T D : Int) : List Fa := (fE (sN L F.toNat T.toNat D.toNat) (nN L D.toNat) F.toNat (eN L T.toNat D.toNat) lim).1
theorem dl_at {lim lim' : Int} (r1 : 10000000 = lim) (r2 : 1000000000 = lim') (L : Lanes) (F T D : Int) (g : askT L F T D = true) : Ev C 39 [L.av, .int .i64 F, .int .i64 T, .int .i64 D] (.tup [.op [.int .i64 (nN L D.toNat), .ow 5 (fa5 (fN5 lim' L F T D))], .int .i64 (gvN lim L F T D)]) := by
  obtain ⟨f, t, d, rfl, rfl, rfl, a1, a2, a3, a4, a5⟩ := askT_at g
  rw [gvN_nat]
  simp only [fN5, Int.toNat_natCast]
  exact t39 hC r1 r2 L f t d a1 a2 a3 a4 a5
theorem t38 {lim lim' : Int} (r1 : 10000000 = lim) (r2 : 1000000000 = lim') (L : Lanes) (F T D : Int) (h1 : L.ls.length < 2^50) (h2 : L.st.length < 2^50) : Ev C 38 [L.av, .int .i64 F, .int .i64 T, .int .i64 D] (.tup [.int .i64 (if askT L F T D then gvN lim L F T D else 0), .bool (askT L F T D)]) := by
  have c1 := t41 hC L F T D h1 h2
  have c2 := dl_at hC r1 r2 L F T D
  simp only [Lanes.av] at *
  refine rT hC Q38 ?_
  simp only [c38, push_cast, ↓J1, ↓J2, N1, N2, N3, reduceCtorEq, N4, N5, N6, reduceIte, N7, I1, I2, I3]
  refine ⟨_, c1, ?_⟩
  cases g : askT L F T D
  · simp only [Bool.false_eq_true, if_false, push_cast, ↓J1, ↓J2, N1, N2, N3, reduceCtorEq, N4, N5, N6, reduceIte, N7, I1, I2, I3]
  · simp only [push_cast, ↓J1, ↓J2, N1, N2, N3, reduceCtorEq, N4, N5, N6, reduceIte, N7, I1, I2, I3]
    refine ⟨_, c2 g, ?_⟩
    simp only [if_true, push_cast, ↓J1, ↓J2, N1, N2, N3, reduceCtorEq, N4, N5, N6, reduceIte, N7, I1, I2, I3]
omit hC in
theorem ask_zero {L : Lanes} {F T : Int} {d : Nat} (h : askT L F T 0 = true) (hd : d ≤ 6) : askT L F T d = true := by
  simp only [askT, inR, Bool.and_eq_true, decide_eq_true_eq] at h ⊢
  exact ⟨h.1, by omega, by omega⟩
end
end Go.Proofs.Ytiemjnkblggimaa.X
