/- A part of the proof: lemmas on the machine or on the functions that the law reaches. No condition of its own. -/
import Derived.Test.YtiemjnkblggimaaXP4
set_option maxHeartbeats 4000000
set_option maxRecDepth 8000
set_option linter.unusedSimpArgs false
set_option linter.unusedVariables false
open Nat renaming reduceBEq → N1, reduceAdd → N2, reduceSub → N3, reduceMul → N4, reduceEqDiff → N5, reduceLeDiff → N6, reduceLT → N7
open Int renaming reduceLE → I1, reduceLT → I2, reduceToNat → I3
namespace Go.Proofs.Ytiemjnkblggimaa.X
open Go
attribute [local irreducible] Ev
theorem nc_pf {cs : List AV} {K : AV → Prop} : ncT (.pf cs) K = K (.pf cs) := _root_.id rfl
attribute [push_cast] nc_pf
def fa4 (l : List Fa) : List (List AV) := l.map fun a => [.int .i64 a.f, .int .i64 a.t, .int .i64 a.m, .int .i64 a.g]
def fa5 (l : List Fa) : List (List AV) := l.map fun a => [.int .i64 a.f, .int .i64 a.t, .int .i64 a.m, .int .i64 a.g, .bool false]
theorem fa4_length (l : List Fa) : (fa4 l).length = l.length := by simp [fa4]
theorem fa5_length (l : List Fa) : (fa5 l).length = l.length := by simp [fa5]
theorem fa4_get {l : List Fa} {i : Nat} (h : i < l.length) : (fa4 l)[i]? = some [.int .i64 (arc l i).f, .int .i64 (arc l i).t, .int .i64 (arc l i).m, .int .i64 (arc l i).g] := by
  simp [fa4, arc, List.getD, h]
theorem fa5_get {l : List Fa} {i : Nat} (h : i < l.length) : (fa5 l)[i]? = some [.int .i64 (arc l i).f, .int .i64 (arc l i).t, .int .i64 (arc l i).m, .int .i64 (arc l i).g, .bool false] := by
  simp [fa5, arc, List.getD, h]
theorem fa4_set {l : List Fa} {i : Nat} {a : Fa} {x : List AV} (h : x = [.int .i64 a.f, .int .i64 a.t, .int .i64 a.m, .int .i64 a.g]) : (fa4 l).set i x = fa4 (l.set i a) := by
  subst h; simp [fa4, List.map_set]
theorem fa5_set {l : List Fa} {i : Nat} {a : Fa} {x : List AV} (h : x = [.int .i64 a.f, .int .i64 a.t, .int .i64 a.m, .int .i64 a.g, .bool false]) : (fa5 l).set i x = fa5 (l.set i a) := by
  subst h; simp [fa5, List.map_set]
theorem fa4_take {l : List Fa} : (fa4 l).take l.length = fa4 l := List.take_of_length_le (by rw [fa4_length]; omega)
theorem fa5_take {l : List Fa} : (fa5 l).take l.length = fa5 l := List.take_of_length_le (by rw [fa5_length]; omega)
theorem frz_fa4 (l : List Fa) : frzLL (fa4 l) = fa4 l := by
  unfold fa4
  induction l with
  | nil => rfl
  | cons x l ih => simp only [List.map_cons, frzLL, frzL, frzT, ih]
theorem frz_fa5 (l : List Fa) : frzLL (fa5 l) = fa5 l := by
  unfold fa5
  induction l with
  | nil => rfl
  | cons x l ih => simp only [List.map_cons, frzLL, frzL, frzT, ih]
def ni (q : List Nat) : List Int := q.map fun v : Nat => Int.ofNat v
theorem ni_length (q : List Nat) : (ni q).length = q.length := by simp [ni]
theorem ni_get {q : List Nat} {a : Nat} (h : a < q.length) : (ints (ni q))[a]? = some [.int .i64 (q.getD a 0 : Nat)] := by
  simp [ints, ni, List.getD, h]
theorem ni_sn (q : List Nat) (x : Nat) : ints (ni q) ++ [[.int .i64 (x : Int)]] = ints (ni (q ++ [x])) := by simp [ints, ni]
theorem mints_rep {n : Nat} : List.replicate n [AV.int .i64 0] = ints (List.replicate n 0) := by simp [ints]
theorem mints_set {v : List Int} {k : Nat} {y : Int} : (ints v).set k [.int .i64 y] = ints (v.set k y) := by simp [ints, List.map_set]
def rpT (j n : Nat) : List Int := List.replicate j (-1) ++ List.replicate (n - j) 0
theorem rpT_len {j n : Nat} (h : j ≤ n) : (rpT j n).length = n := by simp [rpT]; omega
theorem rpT_set {j n : Nat} (h : j < n) : (rpT j n).set j (-1) = rpT (j + 1) n := by
  simp only [rpT]
  obtain ⟨m, hm⟩ : ∃ m, n - j = m + 1 := ⟨n - j - 1, by omega⟩
  rw [hm, show n - (j + 1) = m by omega, List.replicate_succ, List.replicate_succ', List.set_append_right _ _ (by simp), List.length_replicate, Nat.sub_self, List.set_cons_zero, List.append_assoc]; rfl
theorem rpT_0 {n : Nat} : rpT 0 n = List.replicate n 0 := by simp [rpT]
theorem rpT_n {n : Nat} : rpT n n = List.replicate n (-1) := by simp [rpT]
/-! a round of filling -/
structure Rd (l : List Fa) (n s e : Nat) (r0 : Int) : Prop where
  st : pw l (mfB l n s) s e (pwK l (mfB l n s) n s e) = s
  at_ : ∀ k, k < pwK l (mfB l n s) n s e → pw l (mfB l n s) s e k ≠ s ∧ byAr (mfB l n s) (pw l (mfB l n s) s e k) < l.length ∧ (mfB l n s).getD (pw l (mfB l n s) s e k) 0 = (byAr (mfB l n s) (pw l (mfB l n s) s e k) : Int) ∧ pw l (mfB l n s) s e k < n ∧ res (arc l (byAr (mfB l n s) (pw l (mfB l n s) s e k))) (pw l (mfB l n s) s e k) ∧ pw l (mfB l n s) s e (k + 1) = oth (arc l (byAr (mfB l n s) (pw l (mfB l n s) s e k))) (pw l (mfB l n s) s e k)
  r : 1 ≤ fRm l n s e r0 ∧ fRm l n s e r0 ≤ r0
  up : ∀ k, k ≤ pwK l (mfB l n s) n s e → (upI l (mfB l n s) s e (fRm l n s e r0) k).length = l.length ∧ (∀ i, i < l.length → (arc (upI l (mfB l n s) s e (fRm l n s e r0) k) i).f = (arc l i).f ∧ (arc (upI l (mfB l n s) s e (fRm l n s e r0) k) i).t = (arc l i).t ∧ (arc (upI l (mfB l n s) s e (fRm l n s e r0) k) i).m = (arc l i).m ∧ 0 ≤ (arc (upI l (mfB l n s) s e (fRm l n s e r0) k) i).g ∧ (arc (upI l (mfB l n s) s e (fRm l n s e r0) k) i).g ≤ (arc l i).m)
  len : (mfB l n s).length = n
  rm : ∀ k, k ≤ pwK l (mfB l n s) n s e → 1 ≤ rmI l (mfB l n s) s e r0 k ∧ rmI l (mfB l n s) s e r0 k ≤ r0
theorem rd {n s e : Nat} {l : List Fa} {val r0 : Int} (hN : NetOk n l) (h : Flow n s e l val) (hs : s < n) (he : e < n) (hse : s ≠ e) (hsn : seen l n s e = true) (h0 : 1 ≤ r0) : Rd l n s e r0 := by
  have hp := (mfP_inv hN hs (mfN l n s)).1
  obtain ⟨xe, hxe, hxq⟩ := List.getElem_of_mem ((seen_q hN hs he).1 hsn)
  have hxe' : xe < (mfP l n s (mfN l n s)).2.length := hxe
  have hxq' : (mfP l n s (mfN l n s)).2.getD xe 0 = e := by simp only [List.getD, List.getElem?_eq_getElem hxe', Option.getD_some]; exact hxq
  have hend := pwK_end hN hp hxe' hxq'
  have hlt := fun k (hk : k < pwK l (mfB l n s) n s e) => pwK_lt hk
  have harc := fun k (hk : k < pwK l (mfB l n s) n s e) => pw_arc hN hp hxe' hxq' k fun j hj => hlt j (by omega)
  have hroom : ∀ j, j < pwK l (mfB l n s) n s e → 1 ≤ roomA (arc l (byAr (mfB l n s) (pw l (mfB l n s) s e j))) (pw l (mfB l n s) s e j) := fun j hj => by
    have := harc j hj
    exact res_room (hN.rng _ (arc_mem this.1)).2.2 this.2.1
  have hr1 : 1 ≤ fRm l n s e r0 := rmI_ge _ _ _ _ _ h0 _ hroom
  have hr2 : fRm l n s e r0 ≤ r0 := rmI_le0 _ _ _ _ _ _
  refine ⟨hend, fun k hk => ?_, ⟨hr1, hr2⟩, fun k hk => ?_, hp.len, fun k hk => ⟨rmI_ge _ _ _ _ _ h0 _ fun j hj => hroom j (by omega), rmI_le0 _ _ _ _ _ _⟩⟩
  · have := harc k hk
    refine ⟨hlt k hk, this.1, this.2.2.1, this.2.2.2, this.2.1, ?_⟩
    rw [pw, if_neg (hlt k hk)]
  · obtain ⟨u1, u2, _⟩ := upI_inv (r := fRm l n s e r0) hN hp h.bnd (by omega) hxe' hxq' k (fun j hj => hlt j (by omega)) fun j hj => rmI_le _ _ _ _ _ _ j (by omega)
    exact ⟨u1, u2⟩
theorem mfB_sign {n s e : Nat} {l : List Fa} (hN : NetOk n l) (hs : s < n) (he : e < n) (hse : s ≠ e) : decide ((mfB l n s).getD e 0 < 0) = !seen l n s e := by
  have hp := (mfP_inv hN hs (mfN l n s)).1
  cases g : seen l n s e
  · simp only [seen, Bool.not_eq_false', decide_eq_true_eq] at g
    rw [g]; rfl
  · obtain ⟨xe, hxe, hxq⟩ := List.getElem_of_mem ((seen_q hN hs he).1 g)
    have hxe' : xe < (mfP l n s (mfN l n s)).2.length := hxe
    have hxq' : (mfP l n s (mfN l n s)).2.getD xe 0 = e := by simp only [List.getD, List.getElem?_eq_getElem hxe', Option.getD_some]; exact hxq
    have h0 : 0 < xe := by
      rcases Nat.eq_zero_or_pos xe with h | h
      · subst h
        obtain ⟨r, hr⟩ := hp.q0
        rw [hr] at hxq'
        exact absurd hxq' (by simpa [List.getD] using hse)
      · exact h
    obtain ⟨i, hi, _⟩ := hp.ln xe h0 hxe'
    rw [hxq'] at hi
    change (mfB l n s).getD e 0 = _ at hi
    rw [hi, Bool.not_true, decide_eq_false_iff_not]
    omega
theorem mfP_next {l : List Fa} {n s a : Nat} (h : a < (mfP l n s a).2.length) : mfP l n s (a + 1) = mfR l ((mfP l n s a).2.getD a 0) (mfP l n s a) l.length := by
  rw [mfP, if_pos h]
section
variable {C : CT} (hC : Closed Try.prog G0 md0 C)
include hC
theorem t61 (l : List Fa) (n i v : Nat) (hi : i < l.length) (hl : l.length < 2^30) (hb : (arc l i).f < 2^40 ∧ (arc l i).t < 2^40) (hv : (arc l i).f = v ∨ (arc l i).t = v) : Ev C 61 [.pf [.sl (fa4 l), .int .i64 n], .int .i64 i, .int .i64 v] (.int .i64 (oth (arc l i) v)) := by
  have e1 := fa4_get hi
  have w1 : IntKind.i64.wrap (((arc l i).f : Int) + (arc l i).t) = ((arc l i).f : Int) + (arc l i).t := wrap64 (by omega) (by omega)
  have w2 : IntKind.i64.wrap (((arc l i).f : Int) + (arc l i).t - v) = oth (arc l i) v := by
    rw [wrap64 (by omega) (by omega)]
    simp only [oth]; split <;> omega
  refine rT hC Q61 ?_
  simp only [c61, push_cast, ↓J1, ↓J2, N1, N2, N3, reduceCtorEq, N4, N5, N6, reduceIte, N7, I1, I2, I3]
  simp only [Int.toNat_natCast, e1, fa4_length, w1, w2, push_cast, ↓J1, ↓J2, N1, N2, N3, reduceCtorEq, N4, N5, N6, reduceIte, N7, I1, I2, I3]
  repeat (refine ⟨by omega, ?_⟩)
  omega
theorem t63 (l : List Fa) (n i v : Nat) (hi : i < l.length) (hl : l.length < 2^30) (hb : 0 ≤ (arc l i).g ∧ (arc l i).g ≤ (arc l i).m ∧ (arc l i).m < 2^40) : Ev C 63 [.pf [.sl (fa4 l), .int .i64 n], .int .i64 i, .int .i64 v] (.int .i64 (roomA (arc l i) v)) := by
  have e1 := fa4_get hi
  have w1 : IntKind.i64.wrap ((arc l i).m - (arc l i).g) = (arc l i).m - (arc l i).g := wrap64 (by omega) (by omega)
  have d1 : decide (((arc l i).t : Int) = (v : Int)) = decide ((arc l i).t = v) := by rw [decide_eq_decide]; omega
  refine rT hC Q63 ?_
  simp only [c63, push_cast, ↓J1, ↓J2, N1, N2, N3, reduceCtorEq, N4, N5, N6, reduceIte, N7, I1, I2, I3]
  simp only [Int.toNat_natCast, e1, fa4_length, w1, d1, push_cast, ↓J1, ↓J2, N1, N2, N3, reduceCtorEq, N4, N5, N6, reduceIte, N7, I1, I2, I3]
  repeat (refine ⟨by omega, ?_⟩)
  refine ifB_intro (fun h => ?_) (fun h => ?_)
  · simp only [roomA, of_decide_eq_true h, if_true]
    repeat (refine ⟨by omega, ?_⟩)
    trivial
  · simp only [roomA, of_decide_eq_false h, if_false]
    repeat (refine ⟨by omega, ?_⟩)
    trivial
theorem t62 (a b : Int) : Ev C 62 [.int .i64 a, .int .i64 b] (.int .i64 (min a b)) := by
  refine rT hC Q62 ?_
  simp only [c62, push_cast, ↓J1, ↓J2, N1, N2, N3, reduceCtorEq, N4, N5, N6, reduceIte, N7, I1, I2, I3]
  refine ifB_intro (fun h => ?_) (fun h => ?_)
  · have := of_decide_eq_true h
    rw [Int.min_eq_left (by omega)]
  · have := of_decide_eq_false h
    rw [Int.min_eq_right (by omega)]
theorem t60 (l : List Fa) (n s : Nat) (hN : NetOk n l) (hs : s < n) (hn : n ≤ 1000) (hl : l.length < 2^30) : Ev C 60 [.pf [.sl (fa4 l), .int .i64 n], .int .i64 s] (.ow 1 (ints (mfB l n s))) := by
  refine rT hC Q60 ?_ (own_ints _)
  simp only [c60, push_cast, ↓J1, ↓J2, N1, N2, N3, reduceCtorEq, N4, N5, N6, reduceIte, N7, I1, I2, I3]
  simp only [Int.toNat_natCast, List.length_replicate, mints_rep, push_cast, ↓J1, ↓J2, N1, N2, N3, reduceCtorEq, N4, N5, N6, reduceIte, N7, I1, I2, I3]
  repeat (refine ⟨by omega, ?_⟩)
  refine RL_count (fun i => ⟨tb 109 .any [(0, .pf [.sl (fa4 l), .int .i64 (n : Int)]), (1, .int .i64 (s : Int)), (5, .ref 0 none 1 0 n), (18, .int .i64 (n : Int)), (19, .int .i64 (i : Int))], [(0, .slice 1 (ints (rpT i n)))], 1⟩) (fun _ => True) n 0 (by rw [rpT_0]; exact (hdA [(0, 0)])) (by omega) trivial fun i hi _ J hJ => ?_
  by_cases h1 : i < n
  · have hJ1 := hJ h1 trivial
    clear hJ
    have hlt : decide ((i : Int) < (n : Int)) = true := decide_eq_true (by omega)
    have hrl := rpT_len hi
    have e1 : (ints (rpT i n))[i]? = some [.int .i64 ((rpT i n).getD i 0)] := cut_ints_get (by omega)
    rw [← rpT_set h1] at hJ1
    simp only [hlt, Int.toNat_natCast, e1, mints_set, ints_length, hrl, push_cast, ↓J1, ↓J2, N1, N2, N3, reduceCtorEq, N4, N5, N6, reduceIte, N7, I1, I2, I3]
    repeat (refine ⟨by omega, ?_⟩)
    exact hJ1 _ (hdA [(0, 0)])
  obtain rfl : i = n := by omega
  clear hJ h1
  have hlt : decide ((i : Int) < (i : Int)) = false := decide_eq_false (by omega)
  have e0 : (ints (List.replicate i (-1)))[s]? = some [.int .i64 ((List.replicate i (-1 : Int)).getD s 0)] := cut_ints_get (by simpa using hs)
  rw [rpT_n]
  simp only [hlt, ints_length, Int.toNat_natCast, e0, mints_set, List.length_replicate, push_cast, ↓J1, ↓J2, N1, N2, N3, reduceCtorEq, N4, N5, N6, reduceIte, N7, I1, I2, I3]
  repeat (refine ⟨by omega, ?_⟩)
  have hNN : mfN l i s ≤ i + 1 := mfN_le
  refine RL_count (fun a => ⟨tb 109 .any [(0, .pf [.sl (fa4 l), .int .i64 (i : Int)]), (5, .ref 0 none 1 0 i), (7, .ref 1 none 1 0 (mfP l i s a).2.length), (8, .int .i64 (a : Int))], [(1, .slice 1 (ints (ni (mfP l i s a).2))), (0, .slice 1 (ints (mfP l i s a).1))], 2⟩) (fun _ => True) (mfN l i s) 0 (hdA [(1, 1), (0, 0)]) (by omega) trivial fun a ha _ J hJ => ?_
  have inv := (mfP_inv hN hs a).1
  by_cases h1 : a < mfN l i s
  rotate_left
  · obtain rfl : a = mfN l i s := by omega
    have hend := mfN_end hN hs
    have hlt : decide (((mfN l i s : Nat) : Int) < ((mfP l i s (mfN l i s)).2.length : Int)) = false := decide_eq_false (by omega)
    have i1 := inv.len
    simp only [hlt, push_cast, ↓J1, ↓J2, N1, N2, N3, reduceCtorEq, N4, N5, N6, reduceIte, N7, I1, I2, I3]
    exact RetTo_ow rfl (by rw [ints_length]; exact i1.symm)
  have hJ1 := hJ h1 trivial
  clear hJ
  have hal := mfN_lt h1
  rw [mfP_next hal] at hJ1
  have hv := getDn_mem hal
  have hlt : decide ((a : Int) < ((mfP l i s a).2.length : Int)) = true := decide_eq_true (by omega)
  generalize mfP l i s a = p at *
  have e0 := ni_get hal
  generalize p.2.getD a 0 = v at *
  have i0 := inv.cn
  simp only [hlt, Int.toNat_natCast, e0, ints_length, ni_length, fa4_length, push_cast, ↓J1, ↓J2, N1, N2, N3, reduceCtorEq, N4, N5, N6, reduceIte, N7, I1, I2, I3]
  repeat (refine ⟨by omega, ?_⟩)
  refine RL_count (fun j => ⟨tb 109 .any [(0, .pf [.sl (fa4 l), .int .i64 (i : Int)]), (5, .ref 0 none 1 0 i), (7, .ref 1 none 1 0 (mfR l v p j).2.length), (8, .int .i64 (a : Int)), (9, .int .i64 (v : Int)), (44, .sl (fa4 l)), (45, .int .i64 (l.length : Int)), (46, .int .i64 (j : Int))], [(1, .slice 1 (ints (ni (mfR l v p j).2))), (0, .slice 1 (ints (mfR l v p j).1))], 2⟩) (fun _ => True) l.length 0 (hdA [(1, 1), (0, 0)]) (by omega) trivial fun j hj _ JJ hJ2 => ?_
  have inv2 := (mfR_inv hN inv hv j hj).1
  by_cases h2 : j < l.length
  rotate_left
  · obtain rfl : j = l.length := by omega
    have hd : decide ((l.length : Int) < (l.length : Int)) = false := decide_eq_false (by omega)
    simp only [hd, push_cast, ↓J1, ↓J2, N1, N2, N3, reduceCtorEq, N4, N5, N6, reduceIte, N7, I1, I2, I3]
    exact hJ1 _ (hdA [(1, 1), (0, 0)])
  have hd : decide ((j : Int) < (l.length : Int)) = true := decide_eq_true (by omega)
  have hK := hJ2 h2 trivial
  clear hJ2 hJ1
  rw [mfR_succ] at hK
  have hrg := hN.rng _ (arc_mem h2)
  have e1 := fa4_get h2
  generalize mfR l v p j = r at *
  obtain ⟨o, q⟩ := r
  rcases hc : arc l j with ⟨f, t, m, g⟩
  simp only [mfS, mf1, mf2, hc] at hK
  rw [hc] at hrg e1
  have i1 := inv2.len
  have i2 := inv2.cn
  simp only at i1 i2 hrg e1 ⊢
  have e2 : (ints o)[t]? = some [.int .i64 (o.getD t 0)] := cut_ints_get (by omega)
  have e3 : (ints o)[f]? = some [.int .i64 (o.getD f 0)] := cut_ints_get (by omega)
  have tk : List.take q.length (ints (ni q)) = ints (ni q) := List.take_of_length_le (by rw [ints_length, ni_length]; omega)
  simp only [hd, Int.toNat_natCast, e1, fa4_length, push_cast, ↓J1, ↓J2, N1, N2, N3, reduceCtorEq, N4, N5, N6, reduceIte, N7, I1, I2, I3]
  repeat (refine ⟨by omega, ?_⟩)
  by_cases hf : f = v
  · have htv : ¬ t = v := by omega
    have d1 : decide ((f : Int) = (v : Int)) = true := decide_eq_true (by omega)
    have d2 : decide ((t : Int) = (v : Int)) = false := decide_eq_false (by omega)
    simp only [hf, htv, decide_true, decide_false, Bool.true_and, Bool.false_and, Bool.false_eq_true, if_false] at hK
    simp only [d1, d2, push_cast, ↓J1, ↓J2, N1, N2, N3, reduceCtorEq, N4, N5, N6, reduceIte, N7, I1, I2, I3]
    cases d3 : decide (g < m)
    · simp only [d3, Bool.false_and, Bool.false_eq_true, if_false, ite_self] at hK
      simp only [d3, d2, push_cast, ↓J1, ↓J2, N1, N2, N3, reduceCtorEq, N4, N5, N6, reduceIte, N7, I1, I2, I3]
      exact hK _ (hdA [(1, 1), (0, 0)])
    simp only [d3, Int.toNat_natCast, e2, ints_length, i1, push_cast, ↓J1, ↓J2, N1, N2, N3, reduceCtorEq, N4, N5, N6, reduceIte, N7, I1, I2, I3]
    repeat (refine ⟨by omega, ?_⟩)
    cases d4 : decide (o.getD t 0 = -1)
    · simp only [d3, d4, Bool.true_and, Bool.false_eq_true, if_false] at hK
      simp only [d4, d2, push_cast, ↓J1, ↓J2, N1, N2, N3, reduceCtorEq, N4, N5, N6, reduceIte, N7, I1, I2, I3]
      exact hK _ (hdA [(1, 1), (0, 0)])
    simp only [d3, d4, Bool.true_and, if_true, List.length_append, List.length_singleton] at hK
    simp only [d4, d2, Int.toNat_natCast, e2, mints_set, tk, i1, ints_length, ni_length, allScs, apYR_sc, push_cast, ↓J1, ↓J2, N1, N2, N3, reduceCtorEq, N4, N5, N6, reduceIte, N7, I1, I2, I3]
    repeat (refine ⟨by omega, ?_⟩)
    refine hK _ (hdA [(4, 1), (0, 0)] (hh := ?_))
    simp only [canR, canB, renO, renL, ren, lkp, hget, N7, N5, Nat.not_lt_zero, if_false, if_true, reduceIte, List.append_nil, List.nil_append, ni_sn]
    all_goals rfl
  · have d1 : decide ((f : Int) = (v : Int)) = false := decide_eq_false (by omega)
    simp only [hf, decide_false, Bool.false_and, Bool.false_eq_true, if_false] at hK
    simp only [d1, push_cast, ↓J1, ↓J2, N1, N2, N3, reduceCtorEq, N4, N5, N6, reduceIte, N7, I1, I2, I3]
    by_cases htv : t = v
    rotate_left
    · have d2 : decide ((t : Int) = (v : Int)) = false := decide_eq_false (by omega)
      simp only [htv, decide_false, Bool.false_and, Bool.false_eq_true, if_false] at hK
      simp only [d2, push_cast, ↓J1, ↓J2, N1, N2, N3, reduceCtorEq, N4, N5, N6, reduceIte, N7, I1, I2, I3]
      exact hK _ (hdA [(1, 1), (0, 0)])
    have d2 : decide ((t : Int) = (v : Int)) = true := decide_eq_true (by omega)
    simp only [htv, decide_true, Bool.true_and] at hK
    simp only [d2, push_cast, ↓J1, ↓J2, N1, N2, N3, reduceCtorEq, N4, N5, N6, reduceIte, N7, I1, I2, I3]
    cases d3 : decide (0 < g)
    · simp only [d3, Bool.false_and, Bool.false_eq_true, if_false] at hK
      simp only [d3, push_cast, ↓J1, ↓J2, N1, N2, N3, reduceCtorEq, N4, N5, N6, reduceIte, N7, I1, I2, I3]
      exact hK _ (hdA [(1, 1), (0, 0)])
    simp only [d3, Int.toNat_natCast, e3, ints_length, i1, push_cast, ↓J1, ↓J2, N1, N2, N3, reduceCtorEq, N4, N5, N6, reduceIte, N7, I1, I2, I3]
    repeat (refine ⟨by omega, ?_⟩)
    cases d4 : decide (o.getD f 0 = -1)
    · simp only [d3, d4, Bool.true_and, Bool.false_eq_true, if_false] at hK
      simp only [d4, push_cast, ↓J1, ↓J2, N1, N2, N3, reduceCtorEq, N4, N5, N6, reduceIte, N7, I1, I2, I3]
      exact hK _ (hdA [(1, 1), (0, 0)])
    simp only [d3, d4, Bool.true_and, if_true, List.length_append, List.length_singleton] at hK
    simp only [d4, Int.toNat_natCast, e3, mints_set, tk, i1, ints_length, ni_length, allScs, apYR_sc, push_cast, ↓J1, ↓J2, N1, N2, N3, reduceCtorEq, N4, N5, N6, reduceIte, N7, I1, I2, I3]
    repeat (refine ⟨by omega, ?_⟩)
    refine hK _ (hdA [(4, 1), (0, 0)] (hh := ?_))
    simp only [canR, canB, renO, renL, ren, lkp, hget, N7, N5, Nat.not_lt_zero, if_false, if_true, reduceIte, List.append_nil, List.nil_append, ni_sn]
    all_goals rfl
end
end Go.Proofs.Ytiemjnkblggimaa.X
set_option maxHeartbeats 4000000
set_option maxRecDepth 8000
set_option linter.unusedSimpArgs false
set_option linter.unusedVariables false
open Nat renaming reduceBEq → N1, reduceAdd → N2, reduceSub → N3, reduceMul → N4, reduceEqDiff → N5, reduceLeDiff → N6, reduceLT → N7
open Int renaming reduceLE → I1, reduceLT → I2, reduceToNat → I3
namespace Go.Proofs.Ytiemjnkblggimaa.X
open Go
attribute [local irreducible] Ev
theorem fI_next {l : List Fa} {n s e : Nat} {lim : Int} {k : Nat} (h : fGo n s e lim (fI l n s e lim k) = true) : fI l n s e lim (k + 1) = (fUp (fI l n s e lim k).1 n s e (fRm (fI l n s e lim k).1 n s e (lim - (fI l n s e lim k).2)), (fI l n s e lim k).2 + fRm (fI l n s e lim k).1 n s e (lim - (fI l n s e lim k).2)) := by
  rw [fI, if_pos h]
section
variable {C : CT} (hC : Closed Try.prog G0 md0 C)
include hC
theorem t55 (L : Lanes) (l : List Fa) (n s e : Nat) (lim : Int) (hN : NetOk n l) (hF : Flow n s e l 0) (hs : s < n) (he : e < n) (hse : s ≠ e) (hn : n ≤ 1000) (hl : l.length < 2^30) (hm : ∀ a ∈ l, a.m < 2^32) (hlim : 1 ≤ lim ∧ lim < 2^40) (hv : (fE l n s e lim).2 < lim) : C 55 [.ptr 2 none 0 0 0, .int .i64 s, .int .i64 e, .int .i64 lim] [(2, .var [.ref 1 none 4 0 l.length, .int .i64 n]), (1, .slice 4 (fa4 l)), (0, .var [.int .i64 L.d, .sl (lns L.ls), .sl (ints L.st)])] 3 (fun v h' n' => v = .int .i64 (fE l n s e lim).2 ∧ n' = 4 ∧ h' = [(3, .slice 1 (ints (mfB (fE l n s e lim).1 n s))), (2, .var [.ref 1 none 4 0 l.length, .int .i64 n]), (1, .slice 4 (fa4 (fE l n s e lim).1)), (0, .var [.int .i64 L.d, .sl (lns L.ls), .sl (ints L.st)])]) := by
  have hend := fN_end (lim := lim) hN hF hs he hse
  refine Closed.rT hC Q55 ?_
  simp only [c55, push_cast, ↓J1, ↓J2, N1, N2, N3, reduceCtorEq, N4, N5, N6, reduceIte, N7, I1, I2, I3]
  refine RL_count (fun k => ⟨tb 98 .any [(0, .ptr 2 none 0 0 0), (1, .int .i64 (s : Int)), (2, .int .i64 (e : Int)), (3, .int .i64 lim), (9, .int .i64 (fI l n s e lim k).2)], [(2, .var [.ref 1 none 4 0 l.length, .int .i64 (n : Int)]), (1, .slice 4 (fa4 (fI l n s e lim k).1)), (0, .var [.int .i64 L.d, .sl (lns L.ls), .sl (ints L.st)])], 3⟩) (fun _ => True) (fN l n s e lim) 0 (hdA []) (by omega) trivial fun k hk _ J hJ => ?_
  obtain ⟨⟨i1, i2⟩, i3, _⟩ := fI_inv (lim := lim) hN hF hs he hse k
  have hNk := net_shp i2 hN
  have hlk : (fI l n s e lim k).1.length = l.length := shp_len i2
  have hmk : ∀ a ∈ (fI l n s e lim k).1, a.m < 2^32 := fun a ha => by
    obtain ⟨i, hi, ea⟩ := arc_of ha
    have h3 := (shp_arc i2 i).2.2
    have h4 := hm _ (arc_mem (l := l) (i := i) (by omega))
    rw [← ea, h3]; exact h4
  have hgo : k < fN l n s e lim → fGo n s e lim (fI l n s e lim k) = true := fun h => fN_lt h
  have hlt : decide ((fI l n s e lim k).2 < lim) = true := by
    by_cases h1 : k < fN l n s e lim
    · have := hgo h1
      simp only [fGo, Bool.and_eq_true] at this
      exact this.1
    · obtain rfl : k = fN l n s e lim := by omega
      exact decide_eq_true hv
  have hltv := of_decide_eq_true hlt
  have c1 := t60 hC (fI l n s e lim k).1 n s hNk hs hn (by omega)
  have hsg := mfB_sign hNk hs he hse
  have hBl : (mfB (fI l n s e lim k).1 n s).length = n := (mfP_inv hNk hs _).1.len
  have e1 : (ints (mfB (fI l n s e lim k).1 n s))[e]? = some [.int .i64 ((mfB (fI l n s e lim k).1 n s).getD e 0)] := cut_ints_get (by omega)
  have fz := frz_fa4 (fI l n s e lim k).1
  have tk : List.take l.length (fa4 (fI l n s e lim k).1) = fa4 (fI l n s e lim k).1 := by rw [← hlk]; exact fa4_take
  simp only [hlt, fz, tk, push_cast, ↓J1, ↓J2, N1, N2, N3, reduceCtorEq, N4, N5, N6, reduceIte, N7, I1, I2, I3]
  refine ⟨_, c1, ?_⟩
  simp only [Int.toNat_natCast, e1, ints_length, hBl, hsg, push_cast, ↓J1, ↓J2, N1, N2, N3, reduceCtorEq, N4, N5, N6, reduceIte, N7, I1, I2, I3]
  repeat (refine ⟨by omega, ?_⟩)
  by_cases h1 : k < fN l n s e lim
  rotate_left
  · obtain rfl : k = fN l n s e lim := by omega
    have hse' : seen (fI l n s e lim (fN l n s e lim)).1 n s e = false := by
      have := hend
      simp only [fGo, hlt, Bool.true_and] at this
      exact this
    simp only [hse', Bool.not_false, push_cast, ↓J1, ↓J2, N1, N2, N3, reduceCtorEq, N4, N5, N6, reduceIte, N7, I1, I2, I3]
    exact ⟨rfl, rfl⟩
  have hJ1 := hJ h1 trivial
  clear hJ hend
  rw [fI_next (hgo h1)] at hJ1
  have hsn : seen (fI l n s e lim k).1 n s e = true := by
    have := hgo h1
    simp only [fGo, hlt, Bool.true_and] at this
    exact this
  clear hgo hv e1 c1
  have hr := rd (r0 := lim - (fI l n s e lim k).2) hNk i1 hs he hse hsn (by omega)
  have w0 : IntKind.i64.wrap (lim - (fI l n s e lim k).2) = lim - (fI l n s e lim k).2 := wrap64 (by omega) (by omega)
  have hbk := i1.bnd
  generalize hp : fI l n s e lim k = p at *
  obtain ⟨m, x⟩ := p
  simp only at hsn hr w0 hJ1 hlk hNk hmk hbk i3 hltv hBl fz ⊢
  simp only [hsn, Bool.not_true, w0, push_cast, ↓J1, ↓J2, N1, N2, N3, reduceCtorEq, N4, N5, N6, reduceIte, N7, I1, I2, I3]
  have hmr : ∀ i, i < m.length → (arc m i).f < n ∧ (arc m i).t < n ∧ 0 ≤ (arc m i).g ∧ (arc m i).g ≤ (arc m i).m ∧ (arc m i).m < 2^32 := fun i hi => by
    have h1 := hNk.rng _ (arc_mem hi)
    have h2 := hbk _ (arc_mem hi)
    exact ⟨h1.1, h1.2.1, h2.1, h2.2, hmk _ (arc_mem hi)⟩
  refine RL_count (fun j => ⟨tb 98 .any [(0, .ptr 2 none 0 0 0), (1, .int .i64 (s : Int)), (2, .int .i64 (e : Int)), (3, .int .i64 lim), (9, .int .i64 x), (10, .ref 3 none 1 0 n), (11, .int .i64 (rmI m (mfB m n s) s e (lim - x) j)), (12, .int .i64 (pw m (mfB m n s) s e j : Nat))], [(3, .slice 1 (ints (mfB m n s))), (2, .var [.ref 1 none 4 0 l.length, .int .i64 (n : Int)]), (1, .slice 4 (fa4 m)), (0, .var [.int .i64 L.d, .sl (lns L.ls), .sl (ints L.st)])], 4⟩) (fun _ => True) (pwK m (mfB m n s) n s e) 0 (hdA [(3, 3)]) (by omega) trivial fun j hj _ Ja hJ2 => ?_
  by_cases h2 : j < pwK m (mfB m n s) n s e
  · have hK := hJ2 h2 trivial
    clear hJ2 hJ1
    obtain ⟨a1, a2, a3, a4, a5, a6⟩ := hr.at_ j h2
    have b1 := hr.rm j (by omega)
    simp only [rmI] at hK
    rw [a6] at hK
    generalize rmI m (mfB m n s) s e (lim - x) j = y at *
    generalize pw m (mfB m n s) s e j = v at *
    have e2 : (ints (mfB m n s))[v]? = some [.int .i64 ((mfB m n s).getD v 0)] := cut_ints_get (by omega)
    rw [a3] at e2
    generalize byAr (mfB m n s) v = i at *
    have c2 := hmr i a2
    have c3 := t63 hC m n i v a2 (by omega) ⟨c2.2.2.1, c2.2.2.2.1, by omega⟩
    have c4 := t62 hC y (roomA (arc m i) v)
    have c5 := t61 hC m n i v a2 (by omega) ⟨by omega, by omega⟩ (a5.elim (fun h => .inr h.1) fun h => .inl h.1)
    have d1 : decide ((v : Int) = (s : Int)) = false := decide_eq_false (by omega)
    simp only [d1, Int.toNat_natCast, e2, ints_length, hBl, fz, tk, push_cast, ↓J1, ↓J2, N1, N2, N3, reduceCtorEq, N4, N5, N6, reduceIte, N7, I1, I2, I3]
    repeat (refine ⟨by omega, ?_⟩)
    refine ⟨_, c3, ?_⟩
    simp only [push_cast, ↓J1, ↓J2, N1, N2, N3, reduceCtorEq, N4, N5, N6, reduceIte, N7, I1, I2, I3]
    refine ⟨_, c4, ?_⟩
    simp only [Int.toNat_natCast, e2, ints_length, hBl, fz, tk, push_cast, ↓J1, ↓J2, N1, N2, N3, reduceCtorEq, N4, N5, N6, reduceIte, N7, I1, I2, I3]
    repeat (refine ⟨by omega, ?_⟩)
    refine ⟨_, c5, ?_⟩
    simp only [push_cast, ↓J1, ↓J2, N1, N2, N3, reduceCtorEq, N4, N5, N6, reduceIte, N7, I1, I2, I3]
    exact hK _ (hdA [(3, 3)])
  obtain rfl : j = pwK m (mfB m n s) n s e := by omega
  clear hJ2 h2
  rw [hr.st, show rmI m (mfB m n s) s e (lim - x) (pwK m (mfB m n s) n s e) = fRm m n s e (lim - x) from rfl]
  have d1 : decide ((s : Int) = (s : Int)) = true := decide_eq_true rfl
  simp only [d1, Bool.not_true, push_cast, ↓J1, ↓J2, N1, N2, N3, reduceCtorEq, N4, N5, N6, reduceIte, N7, I1, I2, I3]
  have hr1 := hr.r
  have hup := hr.up
  rw [show fUp m n s e (fRm m n s e (lim - x)) = upI m (mfB m n s) s e (fRm m n s e (lim - x)) (pwK m (mfB m n s) n s e) from rfl] at hJ1
  generalize fRm m n s e (lim - x) = y at *
  refine RL_count (fun j => ⟨tb 98 .any [(0, .ptr 2 none 0 0 0), (1, .int .i64 (s : Int)), (2, .int .i64 (e : Int)), (3, .int .i64 lim), (9, .int .i64 x), (10, .ref 3 none 1 0 n), (11, .int .i64 y), (13, .int .i64 (pw m (mfB m n s) s e j : Nat))], [(3, .slice 1 (ints (mfB m n s))), (2, .var [.ref 1 none 4 0 l.length, .int .i64 (n : Int)]), (1, .slice 4 (fa4 (upI m (mfB m n s) s e y j))), (0, .var [.int .i64 L.d, .sl (lns L.ls), .sl (ints L.st)])], 4⟩) (fun _ => True) (pwK m (mfB m n s) n s e) 0 (hdA [(3, 3)]) (by omega) trivial fun j hj _ Ja hJ2 => ?_
  by_cases h2 : j < pwK m (mfB m n s) n s e
  · have hK := hJ2 h2 trivial
    clear hJ2 hJ1
    obtain ⟨a1, a2, a3, a4, a5, a6⟩ := hr.at_ j h2
    obtain ⟨u1, u2⟩ := hup j (by omega)
    simp only [upI] at hK
    rw [a6] at hK
    generalize upI m (mfB m n s) s e y j = u at *
    generalize pw m (mfB m n s) s e j = v at *
    have e2 : (ints (mfB m n s))[v]? = some [.int .i64 ((mfB m n s).getD v 0)] := cut_ints_get (by omega)
    rw [a3] at e2
    generalize byAr (mfB m n s) v = i at *
    have c2 := hmr i a2
    have u3 := u2 i a2
    have e3 := fa4_get (l := u) (i := i) (by omega)
    have fzu := frz_fa4 u
    have tku : List.take l.length (fa4 u) = fa4 u := by rw [← hlk, ← u1]; exact fa4_take
    have ho : oth (arc u i) v = oth (arc m i) v := by simp only [oth, u3.1, u3.2.1]
    have c5 := t61 hC u n i v (by omega) (by omega) ⟨by omega, by omega⟩ (by rw [u3.1, u3.2.1]; exact a5.elim (fun h => .inr h.1) fun h => .inl h.1)
    rw [ho] at c5
    rw [← ho] at hK
    rw [← ho] at c5
    have w5 : IntKind.i64.wrap ((arc u i).g + y) = (arc u i).g + y := wrap64 (by omega) (by omega)
    have w6 : IntKind.i64.wrap ((arc u i).g - y) = (arc u i).g - y := wrap64 (by omega) (by omega)
    have d2 : decide ((v : Int) = (s : Int)) = false := decide_eq_false (by omega)
    have d3 : decide (((arc u i).t : Int) = (v : Int)) = decide ((arc u i).t = v) := by rw [decide_eq_decide]; omega
    have s1 := fa4_set (l := u) (i := i) (a := ⟨(arc u i).f, (arc u i).t, (arc u i).m, (arc u i).g + y⟩) rfl
    have s2 := fa4_set (l := u) (i := i) (a := ⟨(arc u i).f, (arc u i).t, (arc u i).m, (arc u i).g - y⟩) rfl
    simp only at s1 s2
    simp only [d2, Int.toNat_natCast, e2, ints_length, hBl, fzu, tku, push_cast, ↓J1, ↓J2, N1, N2, N3, reduceCtorEq, N4, N5, N6, reduceIte, N7, I1, I2, I3]
    repeat (refine ⟨by omega, ?_⟩)
    refine ⟨_, c5, ?_⟩
    simp only [Int.toNat_natCast, e3, d3, fa4_length, push_cast, ↓J1, ↓J2, N1, N2, N3, reduceCtorEq, N4, N5, N6, reduceIte, N7, I1, I2, I3]
    repeat (refine ⟨by omega, ?_⟩)
    by_cases ht : (arc u i).t = v
    · simp only [mv, if_pos ht] at hK
      have ht' : decide ((arc u i).t = v) = true := decide_eq_true ht
      simp only [ht', Int.toNat_natCast, e3, w5, s1, push_cast, ↓J1, ↓J2, N1, N2, N3, reduceCtorEq, N4, N5, N6, reduceIte, N7, I1, I2, I3]
      repeat (refine ⟨by omega, ?_⟩)
      exact hK _ (hdA [(3, 3)])
    · simp only [mv, if_neg ht] at hK
      have ht' : decide ((arc u i).t = v) = false := decide_eq_false ht
      simp only [ht', Int.toNat_natCast, e3, w6, s2, push_cast, ↓J1, ↓J2, N1, N2, N3, reduceCtorEq, N4, N5, N6, reduceIte, N7, I1, I2, I3]
      repeat (refine ⟨by omega, ?_⟩)
      exact hK _ (hdA [(3, 3)])
  obtain rfl : j = pwK m (mfB m n s) n s e := by omega
  clear hJ2 h2
  rw [hr.st]
  have w7 : IntKind.i64.wrap (x + y) = x + y := wrap64 (by omega) (by omega)
  simp only [d1, w7, Bool.not_true, push_cast, ↓J1, ↓J2, N1, N2, N3, reduceCtorEq, N4, N5, N6, reduceIte, N7, I1, I2, I3]
  exact hJ1 _ (hdA [])
end
end Go.Proofs.Ytiemjnkblggimaa.X
set_option maxHeartbeats 4000000
set_option maxRecDepth 8000
set_option linter.unusedSimpArgs false
set_option linter.unusedVariables false
open Nat renaming reduceBEq → N1, reduceAdd → N2, reduceSub → N3, reduceMul → N4, reduceEqDiff → N5, reduceLeDiff → N6, reduceLT → N7
open Int renaming reduceLE → I1, reduceLT → I2, reduceToNat → I3
namespace Go.Proofs.Ytiemjnkblggimaa.X
open Go
attribute [local irreducible] Ev
def vz (l : List Fa) (v : Nat) (b : Int) : List AV := [.int .i64 (if b = -1 then 0 else if b = -2 then -1 else b), .bool (!decide (b = -1) && !decide (b = -2) && decide ((arc l b.toNat).f = v)), .bool (!decide (b = -1))]
def vis (l : List Fa) (o : List Int) : List (List AV) := (List.range o.length).map fun v => vz l v (o.getD v 0)
theorem vis_length (l : List Fa) (o : List Int) : (vis l o).length = o.length := by simp [vis]
theorem vis_get {l : List Fa} {o : List Int} {v : Nat} (h : v < o.length) : (vis l o)[v]? = some [.int .i64 (if o.getD v 0 = -1 then 0 else if o.getD v 0 = -2 then -1 else o.getD v 0), .bool (!decide (o.getD v 0 = -1) && !decide (o.getD v 0 = -2) && decide ((arc l (o.getD v 0).toNat).f = v)), .bool (!decide (o.getD v 0 = -1))] := by
  simp only [vis, List.getElem?_map, List.getElem?_range h, Option.map_some, vz]
theorem vis_set {l : List Fa} {o : List Int} {v : Nat} {b : Int} {x : List AV} (h : v < o.length) (hx : x = vz l v b) : (vis l o).set v x = vis l (o.set v b) := by
  subst hx
  apply List.ext_getElem?
  intro i
  simp only [vis, List.length_set, List.getElem?_set, List.length_map, List.length_range, List.getElem?_map]
  rcases Nat.lt_or_ge i o.length with hi | hi
  · rw [List.getElem?_range hi]
    by_cases e : v = i
    · subst e
      simp only [if_true, h, Option.map_some, List.getD, List.getElem?_set, Option.getD_some]
    · simp only [if_neg e, Option.map_some, List.getD, List.getElem?_set]
  · have e : ¬ v = i := by omega
    rw [if_neg e, List.getElem?_eq_none (by simpa using hi)]
    rfl
theorem vis_rep {l : List Fa} {n : Nat} : List.replicate n [AV.int .i64 0, AV.bool false, AV.bool false] = vis l (List.replicate n (-1)) := by
  apply List.ext_getElem?
  intro i
  simp only [vis, List.length_replicate, List.getElem?_map, List.getElem?_replicate]
  rcases Nat.lt_or_ge i n with hi | hi
  · rw [List.getElem?_range hi, if_pos hi, Option.map_some]
    simp [vz, List.getD, hi]
  · rw [List.getElem?_eq_none (by simpa using hi), if_neg (by omega)]; rfl
theorem own_vis (l : List Fa) (o : List Int) : ownRLL (vis l o) = true := by
  unfold vis
  generalize List.range o.length = r
  induction r with
  | nil => rfl
  | cons x r ih => simp only [List.map_cons, vz, ownRLL, ownRL, ownR, Bool.and_true, Bool.true_and]; exact ih
theorem vz_arc {l : List Fa} {w j : Nat} : vz l w (j : Int) = [.int .i64 (j : Int), .bool (decide ((arc l j).f = w)), .bool true] := by
  have h1 : ¬ ((j : Int) = -1) := by omega
  have h2 : ¬ ((j : Int) = -2) := by omega
  simp [vz, h1, h2]
section
variable {C : CT} (hC : Closed Try.prog G0 md0 C)
include hC
theorem t58 (l : List Fa) (n s : Nat) (hN : NetOk n l) (hs : s < n) (hn : n ≤ 1000) (hl : l.length < 2^30) : Ev C 58 [.pf [.int .i64 n, .sl (fa5 l)], .int .i64 s] (.ow 3 (vis l (mfB l n s))) := by
  refine rT hC Q58 ?_ (by simp only [ownR, own_vis])
  simp only [c58, push_cast, ↓J1, ↓J2, N1, N2, N3, reduceCtorEq, N4, N5, N6, reduceIte, N7, I1, I2, I3]
  simp only [Int.toNat_natCast, List.length_replicate, push_cast, ↓J1, ↓J2, N1, N2, N3, reduceCtorEq, N4, N5, N6, reduceIte, N7, I1, I2, I3]
  repeat (refine ⟨by omega, ?_⟩)
  have hvs := vis_set (l := l) (o := List.replicate n (-1)) (v := s) (b := -2) (x := [.int .i64 (-1), .bool false, .bool true]) (by simpa using hs) rfl
  have e0 := vis_get (l := l) (o := List.replicate n (-1)) (v := s) (by simpa using hs)
  simp only [vis_rep (l := l), vis_length, Int.toNat_natCast, e0, hvs, List.length_replicate, push_cast, ↓J1, ↓J2, N1, N2, N3, reduceCtorEq, N4, N5, N6, reduceIte, N7, I1, I2, I3]
  repeat (refine ⟨by omega, ?_⟩)
  have hNN : mfN l n s ≤ n + 1 := mfN_le
  refine RL_count (fun a => ⟨tb 107 .any [(0, .pf [.int .i64 (n : Int), .sl (fa5 l)]), (5, .ref 0 none 3 0 n), (6, .ref 1 none 1 0 (mfP l n s a).2.length), (7, .int .i64 (a : Int))], [(1, .slice 1 (ints (ni (mfP l n s a).2))), (0, .slice 3 (vis l (mfP l n s a).1))], 2⟩) (fun _ => True) (mfN l n s) 0 (hdA [(1, 1), (0, 0)]) (by omega) trivial fun a ha _ J hJ => ?_
  have inv := (mfP_inv hN hs a).1
  by_cases h1 : a < mfN l n s
  rotate_left
  · obtain rfl : a = mfN l n s := by omega
    have hend := mfN_end hN hs
    have hlt : decide (((mfN l n s : Nat) : Int) < ((mfP l n s (mfN l n s)).2.length : Int)) = false := decide_eq_false (by omega)
    have i1 := inv.len
    simp only [hlt, push_cast, ↓J1, ↓J2, N1, N2, N3, reduceCtorEq, N4, N5, N6, reduceIte, N7, I1, I2, I3]
    exact RetTo_ow rfl (by rw [vis_length]; exact i1.symm)
  have hJ1 := hJ h1 trivial
  clear hJ
  have hal := mfN_lt h1
  rw [mfP_next hal] at hJ1
  have hv := getDn_mem hal
  have hlt : decide ((a : Int) < ((mfP l n s a).2.length : Int)) = true := decide_eq_true (by omega)
  generalize mfP l n s a = p at *
  have hqv : ∃ v, p.2.getD a 0 = v := ⟨_, rfl⟩
  obtain ⟨v, hqv⟩ := hqv
  rw [hqv] at hv hJ1
  have i0 := inv.cn
  simp only [hlt, fa5_length, push_cast, ↓J1, ↓J2, N1, N2, N3, reduceCtorEq, N4, N5, N6, reduceIte, N7, I1, I2, I3]
  refine RL_count (fun j => ⟨tb 107 .any [(0, .pf [.int .i64 (n : Int), .sl (fa5 l)]), (5, .ref 0 none 3 0 n), (6, .ref 1 none 1 0 (mfR l v p j).2.length), (7, .int .i64 (a : Int)), (30, .sl (fa5 l)), (31, .int .i64 (l.length : Int)), (32, .int .i64 (j : Int))], [(1, .slice 1 (ints (ni (mfR l v p j).2))), (0, .slice 3 (vis l (mfR l v p j).1))], 2⟩) (fun _ => True) l.length 0 (hdA [(1, 1), (0, 0)]) (by omega) trivial fun j hj _ JJ hJ2 => ?_
  have inv2 := (mfR_inv hN inv hv j hj).1
  obtain ⟨tt, ht2⟩ := (mfR_inv hN inv hv j hj).2.1
  have hca : (mfR l v p j).2.getD a 0 = v := by rw [ht2, getDn_app hal]; exact hqv
  have hal2 : a < (mfR l v p j).2.length := by rw [ht2, List.length_append]; omega
  by_cases h2 : j < l.length
  rotate_left
  · obtain rfl : j = l.length := by omega
    have hd : decide ((l.length : Int) < (l.length : Int)) = false := decide_eq_false (by omega)
    simp only [hd, push_cast, ↓J1, ↓J2, N1, N2, N3, reduceCtorEq, N4, N5, N6, reduceIte, N7, I1, I2, I3]
    exact hJ1 _ (hdA [(1, 1), (0, 0)])
  have hd : decide ((j : Int) < (l.length : Int)) = true := decide_eq_true (by omega)
  have hK := hJ2 h2 trivial
  clear hJ2 hJ1
  rw [mfR_succ] at hK
  have hrg := hN.rng _ (arc_mem h2)
  have e1 := fa5_get h2
  generalize mfR l v p j = r at *
  obtain ⟨o, q⟩ := r
  rcases hc : arc l j with ⟨f, t, m, g⟩
  simp only [mfS, mf1, mf2, hc] at hK
  rw [hc] at hrg e1
  have i1 := inv2.len
  have i2 := inv2.cn
  simp only at i1 i2 hrg e1 hca hal2 ⊢
  have e0 := ni_get hal2
  rw [hca] at e0
  have e2 := vis_get (l := l) (o := o) (v := t) (by omega)
  have e3 := vis_get (l := l) (o := o) (v := f) (by omega)
  have tk : List.take q.length (ints (ni q)) = ints (ni q) := List.take_of_length_le (by rw [ints_length, ni_length]; omega)
  simp only [hd, Int.toNat_natCast, e1, e0, fa5_length, ints_length, ni_length, push_cast, ↓J1, ↓J2, N1, N2, N3, reduceCtorEq, N4, N5, N6, reduceIte, N7, I1, I2, I3]
  repeat (refine ⟨by omega, ?_⟩)
  by_cases hf : f = v
  · have htv : ¬ t = v := by omega
    have d1 : decide ((f : Int) = (v : Int)) = true := decide_eq_true (by omega)
    have d2 : decide ((t : Int) = (v : Int)) = false := decide_eq_false (by omega)
    simp only [hf, htv, decide_true, decide_false, Bool.true_and, Bool.false_and, Bool.false_eq_true, if_false] at hK
    simp only [d1, push_cast, ↓J1, ↓J2, N1, N2, N3, reduceCtorEq, N4, N5, N6, reduceIte, N7, I1, I2, I3]
    have hvs := vis_set (l := l) (o := o) (v := t) (b := (j : Int)) (x := [.int .i64 (j : Int), .bool false, .bool true]) (by omega) (by rw [vz_arc, hc]; simp only [hf, decide_eq_false (show ¬ v = t by omega)])
    simp only [Int.toNat_natCast, e2, vis_length, i1, push_cast, ↓J1, ↓J2, N1, N2, N3, reduceCtorEq, N4, N5, N6, reduceIte, N7, I1, I2, I3]
    repeat (refine ⟨by omega, ?_⟩)
    cases d4 : decide (o.getD t 0 = -1)
    · simp only [d4, Bool.and_false, Bool.false_eq_true, if_false] at hK
      simp only [d4, Bool.not_false, Bool.not_true, Int.toNat_natCast, e0, ints_length, ni_length, push_cast, ↓J1, ↓J2, N1, N2, N3, reduceCtorEq, N4, N5, N6, reduceIte, N7, I1, I2, I3]
      repeat (refine ⟨by omega, ?_⟩)
      simp only [d2, push_cast, ↓J1, ↓J2, N1, N2, N3, reduceCtorEq, N4, N5, N6, reduceIte, N7, I1, I2, I3]
      exact hK _ (hdA [(1, 1), (0, 0)])
    simp only [d4, Bool.not_false, Bool.not_true, push_cast, ↓J1, ↓J2, N1, N2, N3, reduceCtorEq, N4, N5, N6, reduceIte, N7, I1, I2, I3]
    cases d3 : decide (g < m)
    · simp only [d3, Bool.false_and, Bool.false_eq_true, if_false] at hK
      simp only [d3, Int.toNat_natCast, e0, ints_length, ni_length, push_cast, ↓J1, ↓J2, N1, N2, N3, reduceCtorEq, N4, N5, N6, reduceIte, N7, I1, I2, I3]
      repeat (refine ⟨by omega, ?_⟩)
      simp only [d2, push_cast, ↓J1, ↓J2, N1, N2, N3, reduceCtorEq, N4, N5, N6, reduceIte, N7, I1, I2, I3]
      exact hK _ (hdA [(1, 1), (0, 0)])
    simp only [d3, d4, Bool.true_and, if_true, List.length_append, List.length_singleton] at hK
    have e7 : (ints (ni q) ++ [[AV.int .i64 (t : Int)]])[a]? = some [.int .i64 (v : Int)] := by rw [List.getElem?_append_left (by rw [ints_length, ni_length]; exact hal2)]; exact e0
    simp only [d3, Int.toNat_natCast, e2, hvs, tk, i1, ints_length, ni_length, vis_length, allScs, apYR_sc, push_cast, ↓J1, ↓J2, N1, N2, N3, reduceCtorEq, N4, N5, N6, reduceIte, N7, I1, I2, I3]
    repeat (refine ⟨by omega, ?_⟩)
    simp only [Int.toNat_natCast, e7, List.length_append, ints_length, ni_length, List.length_singleton, push_cast, ↓J1, ↓J2, N1, N2, N3, reduceCtorEq, N4, N5, N6, reduceIte, N7, I1, I2, I3]
    repeat (refine ⟨by omega, ?_⟩)
    simp only [d2, push_cast, ↓J1, ↓J2, N1, N2, N3, reduceCtorEq, N4, N5, N6, reduceIte, N7, I1, I2, I3]
    refine hK _ (hdA [(4, 1), (0, 0)] (hh := ?_))
    simp only [canR, canB, renO, renL, ren, lkp, hget, N7, N5, Nat.not_lt_zero, if_false, if_true, reduceIte, List.append_nil, List.nil_append, ni_sn]
    all_goals rfl
  · have d1 : decide ((f : Int) = (v : Int)) = false := decide_eq_false (by omega)
    simp only [hf, decide_false, Bool.false_and, Bool.false_eq_true, if_false] at hK
    simp only [d1, Int.toNat_natCast, e0, ints_length, ni_length, push_cast, ↓J1, ↓J2, N1, N2, N3, reduceCtorEq, N4, N5, N6, reduceIte, N7, I1, I2, I3]
    repeat (refine ⟨by omega, ?_⟩)
    by_cases htv : t = v
    rotate_left
    · have d2 : decide ((t : Int) = (v : Int)) = false := decide_eq_false (by omega)
      simp only [htv, decide_false, Bool.false_and, Bool.false_eq_true, if_false] at hK
      simp only [d2, push_cast, ↓J1, ↓J2, N1, N2, N3, reduceCtorEq, N4, N5, N6, reduceIte, N7, I1, I2, I3]
      exact hK _ (hdA [(1, 1), (0, 0)])
    have d2 : decide ((t : Int) = (v : Int)) = true := decide_eq_true (by omega)
    simp only [htv, decide_true, Bool.true_and] at hK
    simp only [d2, push_cast, ↓J1, ↓J2, N1, N2, N3, reduceCtorEq, N4, N5, N6, reduceIte, N7, I1, I2, I3]
    have hvs := vis_set (l := l) (o := o) (v := f) (b := (j : Int)) (x := [.int .i64 (j : Int), .bool true, .bool true]) (by omega) (by rw [vz_arc, hc]; simp only [decide_true])
    simp only [Int.toNat_natCast, e0, e3, vis_length, ints_length, ni_length, i1, push_cast, ↓J1, ↓J2, N1, N2, N3, reduceCtorEq, N4, N5, N6, reduceIte, N7, I1, I2, I3]
    repeat (refine ⟨by omega, ?_⟩)
    cases d4 : decide (o.getD f 0 = -1)
    · simp only [d4, Bool.and_false, Bool.false_eq_true, if_false] at hK
      simp only [d4, Bool.not_false, Bool.not_true, push_cast, ↓J1, ↓J2, N1, N2, N3, reduceCtorEq, N4, N5, N6, reduceIte, N7, I1, I2, I3]
      exact hK _ (hdA [(1, 1), (0, 0)])
    simp only [d4, Bool.not_false, Bool.not_true, push_cast, ↓J1, ↓J2, N1, N2, N3, reduceCtorEq, N4, N5, N6, reduceIte, N7, I1, I2, I3]
    cases d3 : decide (0 < g)
    · simp only [d3, Bool.false_and, Bool.false_eq_true, if_false] at hK
      simp only [d3, push_cast, ↓J1, ↓J2, N1, N2, N3, reduceCtorEq, N4, N5, N6, reduceIte, N7, I1, I2, I3]
      exact hK _ (hdA [(1, 1), (0, 0)])
    simp only [d3, d4, Bool.true_and, if_true, List.length_append, List.length_singleton] at hK
    simp only [d3, Int.toNat_natCast, e3, hvs, tk, i1, ints_length, ni_length, vis_length, allScs, apYR_sc, push_cast, ↓J1, ↓J2, N1, N2, N3, reduceCtorEq, N4, N5, N6, reduceIte, N7, I1, I2, I3]
    repeat (refine ⟨by omega, ?_⟩)
    refine hK _ (hdA [(4, 1), (0, 0)] (hh := ?_))
    simp only [canR, canB, renO, renL, ren, lkp, hget, N7, N5, Nat.not_lt_zero, if_false, if_true, reduceIte, List.append_nil, List.nil_append, ni_sn]
    all_goals rfl
end
end Go.Proofs.Ytiemjnkblggimaa.X
set_option maxHeartbeats 4000000
set_option maxRecDepth 8000
set_option linter.unusedSimpArgs false
set_option linter.unusedVariables false
open Nat renaming reduceBEq → N1, reduceAdd → N2, reduceSub → N3, reduceMul → N4, reduceEqDiff → N5, reduceLeDiff → N6, reduceLT → N7
open Int renaming reduceLE → I1, reduceLT → I2, reduceToNat → I3
namespace Go.Proofs.Ytiemjnkblggimaa.X
open Go
attribute [local irreducible] Ev
theorem min_if (a b : Int) : min a b = if b < a then b else a := by
  split
  · exact Int.min_eq_right (by omega)
  · exact Int.min_eq_left (by omega)
theorem vis_at {l : List Fa} {o : List Int} {v i : Nat} (h : v < o.length) (hb : o.getD v 0 = (i : Int)) : (vis l o)[v]? = some [.int .i64 (i : Int), .bool (decide ((arc l i).f = v)), .bool true] := by
  have := vis_get (l := l) h
  rw [hb] at this
  have h1 : ¬ ((i : Int) = -1) := by omega
  have h2 : ¬ ((i : Int) = -2) := by omega
  simpa [h1, h2] using this
section
variable {C : CT} (hC : Closed Try.prog G0 md0 C)
include hC
theorem t42 (L : Lanes) (l : List Fa) (n s e : Nat) (lim : Int) (hN : NetOk n l) (hF : Flow n s e l 0) (hs : s < n) (he : e < n) (hse : s ≠ e) (hn : n ≤ 1000) (hl : l.length < 2^30) (hm : ∀ a ∈ l, a.m < 2^32) (hlim : 1 ≤ lim ∧ lim < 2^40) (hv : (fE l n s e lim).2 < lim) : C 42 [.ptr 2 none 0 0 0, .int .i64 s, .int .i64 e, .int .i64 lim] [(2, .var [.int .i64 n, .ref 1 none 5 0 l.length]), (1, .slice 5 (fa5 l)), (0, .var [.int .i64 L.d, .sl (lns L.ls), .sl (ints L.st)])] 3 (fun v h' n' => v = .int .i64 (fE l n s e lim).2 ∧ n' = 4 ∧ h' = [(3, .slice 3 (vis (fE l n s e lim).1 (mfB (fE l n s e lim).1 n s))), (2, .var [.int .i64 n, .ref 1 none 5 0 l.length]), (1, .slice 5 (fa5 (fE l n s e lim).1)), (0, .var [.int .i64 L.d, .sl (lns L.ls), .sl (ints L.st)])]) := by
  have hend := fN_end (lim := lim) hN hF hs he hse
  refine Closed.rT hC Q42 ?_
  simp only [c42, push_cast, ↓J1, ↓J2, N1, N2, N3, reduceCtorEq, N4, N5, N6, reduceIte, N7, I1, I2, I3]
  refine RL_count (fun k => ⟨tb 113 .any [(0, .ptr 2 none 0 0 0), (1, .int .i64 (s : Int)), (2, .int .i64 (e : Int)), (3, .int .i64 lim), (9, .int .i64 (fI l n s e lim k).2)], [(2, .var [.int .i64 (n : Int), .ref 1 none 5 0 l.length]), (1, .slice 5 (fa5 (fI l n s e lim k).1)), (0, .var [.int .i64 L.d, .sl (lns L.ls), .sl (ints L.st)])], 3⟩) (fun _ => True) (fN l n s e lim) 0 (hdA []) (by omega) trivial fun k hk _ J hJ => ?_
  obtain ⟨⟨i1, i2⟩, i3, _⟩ := fI_inv (lim := lim) hN hF hs he hse k
  have hNk := net_shp i2 hN
  have hlk : (fI l n s e lim k).1.length = l.length := shp_len i2
  have hmk : ∀ a ∈ (fI l n s e lim k).1, a.m < 2^32 := fun a ha => by
    obtain ⟨i, hi, ea⟩ := arc_of ha
    have h3 := (shp_arc i2 i).2.2
    have h4 := hm _ (arc_mem (l := l) (i := i) (by omega))
    rw [← ea, h3]; exact h4
  have hgo : k < fN l n s e lim → fGo n s e lim (fI l n s e lim k) = true := fun h => fN_lt h
  have hlt : decide ((fI l n s e lim k).2 < lim) = true := by
    by_cases h1 : k < fN l n s e lim
    · have := hgo h1
      simp only [fGo, Bool.and_eq_true] at this
      exact this.1
    · obtain rfl : k = fN l n s e lim := by omega
      exact decide_eq_true hv
  have hltv := of_decide_eq_true hlt
  have c1 := t58 hC (fI l n s e lim k).1 n s hNk hs hn (by omega)
  have hsg : (!decide ((mfB (fI l n s e lim k).1 n s).getD e 0 = -1)) = seen (fI l n s e lim k).1 n s e := rfl
  have hBl : (mfB (fI l n s e lim k).1 n s).length = n := (mfP_inv hNk hs _).1.len
  have e1 := vis_get (l := (fI l n s e lim k).1) (o := mfB (fI l n s e lim k).1 n s) (v := e) (by omega)
  have fz := frz_fa5 (fI l n s e lim k).1
  have tk : List.take l.length (fa5 (fI l n s e lim k).1) = fa5 (fI l n s e lim k).1 := by rw [← hlk]; exact fa5_take
  simp only [hlt, fz, tk, push_cast, ↓J1, ↓J2, N1, N2, N3, reduceCtorEq, N4, N5, N6, reduceIte, N7, I1, I2, I3]
  refine ⟨_, c1, ?_⟩
  simp only [Int.toNat_natCast, e1, vis_length, hBl, hsg, push_cast, ↓J1, ↓J2, N1, N2, N3, reduceCtorEq, N4, N5, N6, reduceIte, N7, I1, I2, I3]
  repeat (refine ⟨by omega, ?_⟩)
  by_cases h1 : k < fN l n s e lim
  rotate_left
  · obtain rfl : k = fN l n s e lim := by omega
    have hse' : seen (fI l n s e lim (fN l n s e lim)).1 n s e = false := by
      have := hend
      simp only [fGo, hlt, Bool.true_and] at this
      exact this
    simp only [hse', Bool.not_false, push_cast, ↓J1, ↓J2, N1, N2, N3, reduceCtorEq, N4, N5, N6, reduceIte, N7, I1, I2, I3]
    exact ⟨rfl, rfl⟩
  have hJ1 := hJ h1 trivial
  clear hJ hend
  rw [fI_next (hgo h1)] at hJ1
  have hsn : seen (fI l n s e lim k).1 n s e = true := by
    have := hgo h1
    simp only [fGo, hlt, Bool.true_and] at this
    exact this
  clear hgo hv e1 c1
  have hr := rd (r0 := lim - (fI l n s e lim k).2) hNk i1 hs he hse hsn (by omega)
  have w0 : IntKind.i64.wrap (lim - (fI l n s e lim k).2) = lim - (fI l n s e lim k).2 := wrap64 (by omega) (by omega)
  have hbk := i1.bnd
  generalize hp : fI l n s e lim k = p at *
  obtain ⟨m, x⟩ := p
  simp only at hsn hr w0 hJ1 hlk hNk hmk hbk i3 hltv hBl fz ⊢
  simp only [hsn, Bool.not_true, w0, push_cast, ↓J1, ↓J2, N1, N2, N3, reduceCtorEq, N4, N5, N6, reduceIte, N7, I1, I2, I3]
  have hmr : ∀ i, i < m.length → (arc m i).f < n ∧ (arc m i).t < n ∧ 0 ≤ (arc m i).g ∧ (arc m i).g ≤ (arc m i).m ∧ (arc m i).m < 2^32 := fun i hi => by
    have h1 := hNk.rng _ (arc_mem hi)
    have h2 := hbk _ (arc_mem hi)
    exact ⟨h1.1, h1.2.1, h2.1, h2.2, hmk _ (arc_mem hi)⟩
  refine RL_count (fun j => ⟨tb 113 .any [(0, .ptr 2 none 0 0 0), (1, .int .i64 (s : Int)), (2, .int .i64 (e : Int)), (3, .int .i64 lim), (9, .int .i64 x), (10, .ref 3 none 3 0 n), (11, .int .i64 (rmI m (mfB m n s) s e (lim - x) j)), (12, .int .i64 (pw m (mfB m n s) s e j : Nat))], [(3, .slice 3 (vis m (mfB m n s))), (2, .var [.int .i64 (n : Int), .ref 1 none 5 0 l.length]), (1, .slice 5 (fa5 m)), (0, .var [.int .i64 L.d, .sl (lns L.ls), .sl (ints L.st)])], 4⟩) (fun _ => True) (pwK m (mfB m n s) n s e) 0 (hdA [(3, 3)]) (by omega) trivial fun j hj _ Ja hJ2 => ?_
  by_cases h2 : j < pwK m (mfB m n s) n s e
  · have hK := hJ2 h2 trivial
    clear hJ2 hJ1
    obtain ⟨a1, a2, a3, a4, a5, a6⟩ := hr.at_ j h2
    have b1 := hr.rm j (by omega)
    simp only [rmI] at hK
    rw [a6] at hK
    generalize rmI m (mfB m n s) s e (lim - x) j = y at *
    generalize pw m (mfB m n s) s e j = v at *
    have e2 := vis_at (l := m) (o := mfB m n s) (v := v) (by omega) a3
    generalize byAr (mfB m n s) v = i at *
    have c2 := hmr i a2
    have hft : (arc m i).f ≠ (arc m i).t := (hNk.rng _ (arc_mem a2)).2.2
    have e3 := fa5_get a2
    have d1 : decide ((v : Int) = (s : Int)) = false := decide_eq_false (by omega)
    simp only [d1, Int.toNat_natCast, e2, e3, vis_length, fa5_length, hBl, push_cast, ↓J1, ↓J2, N1, N2, N3, reduceCtorEq, N4, N5, N6, reduceIte, N7, I1, I2, I3]
    repeat (refine ⟨by omega, ?_⟩)
    by_cases hb : (arc m i).f = v
    · have ht : ¬ (arc m i).t = v := by omega
      simp only [roomA, oth, ht, if_false, min_if] at hK
      have w5 : IntKind.i64.wrap ((arc m i).m - (arc m i).g) = (arc m i).m - (arc m i).g := wrap64 (by omega) (by omega)
      simp only [decide_eq_true hb, w5, push_cast, ↓J1, ↓J2, N1, N2, N3, reduceCtorEq, N4, N5, N6, reduceIte, N7, I1, I2, I3]
      exact ⟨hK _ (hdA [(3, 3)]), hK _ (hdA [(3, 3)])⟩
    · have ht : (arc m i).t = v := a5.elim (fun h => h.1) fun h => absurd h.1 hb
      simp only [roomA, oth, ht, if_true, min_if] at hK
      have w5 : IntKind.i64.wrap ((arc m i).m - (arc m i).g) = (arc m i).m - (arc m i).g := wrap64 (by omega) (by omega)
      simp only [decide_eq_false hb, w5, push_cast, ↓J1, ↓J2, N1, N2, N3, reduceCtorEq, N4, N5, N6, reduceIte, N7, I1, I2, I3]
      exact ⟨hK _ (hdA [(3, 3)]), hK _ (hdA [(3, 3)])⟩
  obtain rfl : j = pwK m (mfB m n s) n s e := by omega
  clear hJ2 h2
  rw [hr.st, show rmI m (mfB m n s) s e (lim - x) (pwK m (mfB m n s) n s e) = fRm m n s e (lim - x) from rfl]
  have d1 : decide ((s : Int) = (s : Int)) = true := decide_eq_true rfl
  simp only [d1, Bool.not_true, push_cast, ↓J1, ↓J2, N1, N2, N3, reduceCtorEq, N4, N5, N6, reduceIte, N7, I1, I2, I3]
  have hr1 := hr.r
  have hup := hr.up
  rw [show fUp m n s e (fRm m n s e (lim - x)) = upI m (mfB m n s) s e (fRm m n s e (lim - x)) (pwK m (mfB m n s) n s e) from rfl] at hJ1
  generalize fRm m n s e (lim - x) = y at *
  refine RL_count (fun j => ⟨tb 113 .any [(0, .ptr 2 none 0 0 0), (1, .int .i64 (s : Int)), (2, .int .i64 (e : Int)), (3, .int .i64 lim), (9, .int .i64 x), (10, .ref 3 none 3 0 n), (11, .int .i64 y), (14, .int .i64 (pw m (mfB m n s) s e j : Nat))], [(3, .slice 3 (vis m (mfB m n s))), (2, .var [.int .i64 (n : Int), .ref 1 none 5 0 l.length]), (1, .slice 5 (fa5 (upI m (mfB m n s) s e y j))), (0, .var [.int .i64 L.d, .sl (lns L.ls), .sl (ints L.st)])], 4⟩) (fun _ => True) (pwK m (mfB m n s) n s e) 0 (hdA [(3, 3)]) (by omega) trivial fun j hj _ Ja hJ2 => ?_
  by_cases h2 : j < pwK m (mfB m n s) n s e
  · have hK := hJ2 h2 trivial
    clear hJ2 hJ1
    obtain ⟨a1, a2, a3, a4, a5, a6⟩ := hr.at_ j h2
    obtain ⟨u1, u2⟩ := hup j (by omega)
    simp only [upI] at hK
    rw [a6] at hK
    generalize upI m (mfB m n s) s e y j = u at *
    generalize pw m (mfB m n s) s e j = v at *
    have e2 := vis_at (l := m) (o := mfB m n s) (v := v) (by omega) a3
    generalize byAr (mfB m n s) v = i at *
    have c2 := hmr i a2
    have u3 := u2 i a2
    have hft : (arc m i).f ≠ (arc m i).t := (hNk.rng _ (arc_mem a2)).2.2
    have e3 := fa5_get (l := u) (i := i) (by omega)
    have ho : oth (arc u i) v = oth (arc m i) v := by simp only [oth, u3.1, u3.2.1]
    have w5 : IntKind.i64.wrap ((arc u i).g + y) = (arc u i).g + y := wrap64 (by omega) (by omega)
    have w6 : IntKind.i64.wrap ((arc u i).g - y) = (arc u i).g - y := wrap64 (by omega) (by omega)
    have d2 : decide ((v : Int) = (s : Int)) = false := decide_eq_false (by omega)
    have s1 := fa5_set (l := u) (i := i) (a := ⟨(arc u i).f, (arc u i).t, (arc u i).m, (arc u i).g + y⟩) rfl
    have s2 := fa5_set (l := u) (i := i) (a := ⟨(arc u i).f, (arc u i).t, (arc u i).m, (arc u i).g - y⟩) rfl
    have g1 := fa5_get (l := u.set i ⟨(arc u i).f, (arc u i).t, (arc u i).m, (arc u i).g + y⟩) (i := i) (by rw [List.length_set]; omega)
    have g2 := fa5_get (l := u.set i ⟨(arc u i).f, (arc u i).t, (arc u i).m, (arc u i).g - y⟩) (i := i) (by rw [List.length_set]; omega)
    rw [arc_set (by omega), if_pos rfl] at g1 g2
    simp only at s1 s2 g1 g2
    simp only [d2, Int.toNat_natCast, e2, vis_length, hBl, push_cast, ↓J1, ↓J2, N1, N2, N3, reduceCtorEq, N4, N5, N6, reduceIte, N7, I1, I2, I3]
    repeat (refine ⟨by omega, ?_⟩)
    by_cases hb : (arc m i).f = v
    · have ht : ¬ (arc u i).t = v := by omega
      simp only [mv, oth, if_neg ht, show ¬ (arc m i).t = v by omega, if_false] at hK
      rw [← u3.2.1] at hK
      simp only [decide_eq_true hb, Int.toNat_natCast, e3, w6, s2, g2, fa5_length, push_cast, ↓J1, ↓J2, N1, N2, N3, reduceCtorEq, N4, N5, N6, reduceIte, N7, I1, I2, I3]
      repeat (refine ⟨by omega, ?_⟩)
      exact hK _ (hdA [(3, 3)])
    · have htm : (arc m i).t = v := a5.elim (fun h => h.1) fun h => absurd h.1 hb
      have ht : (arc u i).t = v := by omega
      simp only [mv, oth, if_pos ht, htm, if_true] at hK
      rw [← u3.1] at hK
      simp only [decide_eq_false hb, Int.toNat_natCast, e3, w5, s1, g1, fa5_length, push_cast, ↓J1, ↓J2, N1, N2, N3, reduceCtorEq, N4, N5, N6, reduceIte, N7, I1, I2, I3]
      repeat (refine ⟨by omega, ?_⟩)
      exact hK _ (hdA [(3, 3)])
  obtain rfl : j = pwK m (mfB m n s) n s e := by omega
  clear hJ2 h2
  rw [hr.st]
  have w7 : IntKind.i64.wrap (x + y) = x + y := wrap64 (by omega) (by omega)
  simp only [d1, w7, Bool.not_true, push_cast, ↓J1, ↓J2, N1, N2, N3, reduceCtorEq, N4, N5, N6, reduceIte, N7, I1, I2, I3]
  exact hJ1 _ (hdA [])
end
end Go.Proofs.Ytiemjnkblggimaa.X
