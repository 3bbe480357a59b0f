/- A part of the proof: lemmas on the machine or on the functions that the law reaches. No condition of its own. -/
import Derived.Test.YtjaccjeejeiphaaGreatDoorXP11
import Derived.Test.YtjaccjeejeiphaaGreatDoorXP14
import Derived.Test.YtjaccjeejeiphaaGreatDoorXP8
import Derived.Test.YtjaccjeejeiphaaGreatDoorXP4
set_option maxHeartbeats 4000000
set_option maxRecDepth 8000
set_option linter.unusedSimpArgs false
set_option linter.unusedVariables false
open Nat renaming reduceBEq → N1, reduceAdd → N2, reduceSub → N3, reduceMul → N4, reduceEqDiff → N5, reduceLeDiff → N6, reduceLT → N7
open Int renaming reduceLE → I1, reduceLT → I2, reduceToNat → I3
namespace Go.Proofs.YtjaccjeejeiphaaGreatDoor.X
open Go
attribute [local irreducible] Ev
theorem putI_cut {x : Int} {l : List Int} {j : Nat} (hp : l.Pairwise (· < ·)) (hx : hasI l x = false) (hj : j ≤ l.length) (h1 : ∀ k (h : k < l.length), j ≤ k → x < l[k]) (h2 : 0 < j → ∀ h : j - 1 < l.length, ¬ x < l[j - 1]) : l.take j ++ x :: l.drop j = putI x l := by
  have hne : ∀ k (h : k < l.length), l[k] ≠ x := fun k h e => by
    have := hasI_mem.2 (List.getElem_mem h)
    rw [e] at this
    rw [this] at hx; cases hx
  have h3 : ∀ k (h : k < l.length), k < j → l[k] < x := by
    intro k hk hkj
    have hj1 : j - 1 < l.length := by omega
    have a := h2 (by omega) hj1
    have b := hne (j - 1) hj1
    by_cases e : k = j - 1
    · subst e; omega
    · have := List.pairwise_iff_getElem.1 hp k (j - 1) hk hj1 (by omega)
      omega
  rw [putI_at x l j hj h3 (fun h => by have := h1 j h (Nat.le_refl _); omega)]
  split
  · rename_i h
    rw [if_neg (hne j h)]
  · rename_i h
    have : j = l.length := by omega
    subst this
    simp
theorem swp {l : List Int} {x : Int} {j : Nat} (h : j < l.length) : ((l.take (j + 1) ++ x :: l.drop (j + 1)).set (j + 1) l[j]).set j x = l.take j ++ x :: l.drop j := by
  rw [mid_set (by simp; omega), List.take_succ_eq_append_getElem h, List.append_assoc, List.singleton_append, mid_set (by simp; omega), List.drop_eq_getElem_cons h]
section
variable {C : CT} (hC : Closed Tryz.prog G1 md0 C)
include hC
theorem t298 (a : Int) : Ev C 298 [.int .i64 a] (.bool false) := by
  refine rT hC Q298 ?_
  simp only [c298, push_cast, ↓J1, ↓J2, N1, N2, N3, reduceCtorEq, N4, N5, N6, reduceIte, N7, I1, I2, I3]
  all_goals simp only [decide_true, Bool.not_true, push_cast, ↓J1, ↓J2, N1, N2, N3, reduceCtorEq, N4, N5, N6, reduceIte, N7, I1, I2, I3]
theorem t255 (a b : Int) : Ev C 255 [.int .i64 a, .int .i64 b] (.bool (decide (a < b))) := by
  have c1 := fun a => t298 hC a
  refine rT hC Q255 ?_
  simp only [c255, push_cast, ↓J1, ↓J2, N1, N2, N3, reduceCtorEq, N4, N5, N6, reduceIte, N7, I1, I2, I3]
  refine ⟨_, c1 a, ?_⟩
  simp only [push_cast, ↓J1, ↓J2, N1, N2, N3, reduceCtorEq, N4, N5, N6, reduceIte, N7, I1, I2, I3]
theorem t259 (n : Nat) (h : n < 8) : ∃ r, Ev C 259 [.int .u64 (n : Int)] (.int .i64 r) := by
  have g1 : decide (4294967296 ≤ (n : Int)) = false := decide_eq_false (by omega)
  have g2 : decide (65536 ≤ (n : Int)) = false := decide_eq_false (by omega)
  have g3 : decide (256 ≤ (n : Int)) = false := decide_eq_false (by omega)
  have w8 : IntKind.u8.wrap (n : Int) = n := by
    rcases (show n = 0 ∨ n = 1 ∨ n = 2 ∨ n = 3 ∨ n = 4 ∨ n = 5 ∨ n = 6 ∨ n = 7 by omega) with e | e | e | e | e | e | e | e <;> subst e <;> rfl
  apply Exists.intro
  refine rT hC Q259 ?_
  simp only [c259, g1, g2, g3, w8, push_cast, ↓J1, ↓J2, N1, N2, N3, reduceCtorEq, N4, N5, N6, reduceIte, N7, I1, I2, I3]
  refine ⟨by omega, ?_, rfl⟩
  exact Int.lt_of_lt_of_le (b := 8) (by omega) (by decide)
omit hC in
theorem know_c {s : St} {v : Value} {b : Bool} : know s (.const v) b = s := rfl
theorem t199 (n : Nat) (h : n < 8) : ∃ r, Ev C 199 [.int .u64 (n : Int)] (.int .i64 r) := by
  obtain ⟨r, c1⟩ := t259 hC n h
  refine ⟨r, ?_⟩
  refine rT hC Q199 ?_
  simp only [c199, push_cast, ↓J1, ↓J2, N1, N2, N3, reduceCtorEq, N4, N5, N6, reduceIte, N7, I1, I2, I3]
  simp only [know, push_cast, ↓J1, ↓J2, N1, N2, N3, reduceCtorEq, N4, N5, N6, reduceIte, N7, I1, I2, I3]
  refine ⟨_, c1, ?_⟩
  simp only [push_cast, ↓J1, ↓J2, N1, N2, N3, reduceCtorEq, N4, N5, N6, reduceIte, N7, I1, I2, I3]
theorem t249 (l : List Int) (x : Int) (h : Heap) (id n : Nat) (hg : hget h id = some (.slice 1 (ints (l ++ [x])))) (hb : below n h) (hs : solid h) (hl : l.length < 2^20) (hp : l.Pairwise (· < ·)) (hx : hasI l x = false) : C 249 [.ref id none 1 0 (l.length + 1), .int .i64 0, .int .i64 ((l.length : Int) + 1)] h n (fun v h' n' => v = .tup [] ∧ n' = n ∧ h' = hset h id (.slice 1 (ints (putI x l)))) := by
  have hid := below_lt hb hg
  have cl := fun a b => t255 hC a b
  have hgi : ∀ es : List (List AV), hget (hset h id (.slice 1 es)) id = some (.slice 1 es) := fun es => hget_same hg
  have hks : killH h = h := hs
  have hks2 : ∀ es, killH (hset h id (.slice 1 es)) = hset h id (.slice 1 es) := fun es => solid_set hs
  have w1 : IntKind.i64.wrap (0 + 1) = 1 := rfl
  have hlen1 : (l ++ [x]).length = l.length + 1 := by simp
  have sorted : ∀ i (h : i < l.length), 0 < i → ∀ h' : i - 1 < l.length, ¬ l[i] < l[i - 1] := fun i h h0 h' => by
    have := List.pairwise_iff_getElem.1 hp (i - 1) i h' h (by omega); omega
  refine Closed.rT hC Q249 ?_
  simp only [c249, w1, push_cast, ↓J1, ↓J2, N1, N2, N3, reduceCtorEq, N4, N5, N6, reduceIte, N7, I1, I2, I3]
  refine RL_count (fun i => ⟨tb 49 .any [(0, .ref id none 1 0 (l.length + 1)), (1, .int .i64 0), (2, .int .i64 ((l.length : Int) + 1)), (6, .int .i64 (i : Int))], hset h id (.slice 1 (ints (if i ≤ l.length then l ++ [x] else putI x l))), n⟩) (fun i => 1 ≤ i) (l.length + 1) 1 (head_tb [] (by simp [rhoOk, objIds]) (by simp only [hid, keptV_cons, keptV_nil, tb_get, lk_same, lk_ne, lk_nil, ren, renL, lkp, N7, N1, N5, reduceIte, and_true, true_and, Nat.not_lt_zero, if_false, if_true, Nat.add_zero, Nat.zero_add]; all_goals simp) (by
    have e : (if 1 ≤ l.length then l ++ [x] else putI x l) = l ++ [x] := by
      split
      · rfl
      · have e0 : l = [] := List.length_eq_zero_iff.1 (by omega)
        subst e0; rfl
    rw [e, hset_get hg]; exact hb)) (by omega) (Nat.le_refl _) fun i hi hi1 J hJ => ?_
  by_cases h1 : i < l.length + 1
  rotate_left
  · obtain rfl : i = l.length + 1 := by omega
    have hlt : decide (((l.length + 1 : Nat) : Int) < (l.length : Int) + 1) = false := decide_eq_false (by omega)
    have hc : ((l.length + 1 : Nat) : Int) = (l.length : Int) + 1 := by omega
    have hlt' : decide ((l.length : Int) + 1 < (l.length : Int) + 1) = false := decide_eq_false (by omega)
    simp only [hlt, hlt', if_neg (show ¬ l.length + 1 ≤ l.length by omega), push_cast, ↓J1, ↓J2, N1, N2, N3, reduceCtorEq, N4, N5, N6, reduceIte, N7, I1, I2, I3]
    all_goals first
      | done
      | trivial
      | exact ⟨rfl, rfl, rfl⟩
  have hJ1 := hJ h1 (by omega)
  clear hJ
  have hlt : decide ((i : Int) < (l.length : Int) + 1) = true := decide_eq_true (by omega)
  have w2 : IntKind.i64.wrap ((i : Int) + 1) = ((i + 1 : Nat) : Int) := by rw [wrap64 (by omega) (by omega)]; omega
  simp only [if_pos (show i ≤ l.length by omega)]
  by_cases h2 : i < l.length
  · simp only [if_pos (show i + 1 ≤ l.length by omega)] at hJ1
    have hi2 : i - 1 < l.length := by omega
    have e1 : (ints (l ++ [x]))[i]? = some [.int .i64 l[i]] := by rw [cut_ints_get (by omega)]; simp only [List.getD, List.getElem?_append_left h2, List.getElem?_eq_getElem h2, Option.getD_some]
    have e2 : (ints (l ++ [x]))[i - 1]? = some [.int .i64 l[i - 1]] := by rw [cut_ints_get (by omega)]; simp only [List.getD, List.getElem?_append_left hi2, List.getElem?_eq_getElem hi2, Option.getD_some]
    have hns : decide (l[i] < l[i - 1]) = false := decide_eq_false (sorted i h2 (by omega) hi2)
    have g0 : decide (0 < (i : Int)) = true := decide_eq_true (by omega)
    have w3 : IntKind.i64.wrap ((i : Int) - 1) = (i : Int) - 1 := wrap64 (by omega) (by omega)
    have t3 : ((i : Int) - 1).toNat = i - 1 := by omega
    simp only [hlt, push_cast, ↓J1, ↓J2, N1, N2, N3, reduceCtorEq, N4, N5, N6, reduceIte, N7, I1, I2, I3]
    refine RL_count (fun t => ⟨tb 49 .any [(0, .ref id none 1 0 (l.length + 1)), (1, .int .i64 0), (2, .int .i64 ((l.length : Int) + 1)), (6, .int .i64 (i : Int)), (7, .int .i64 (i : Int))], hset h id (.slice 1 (ints (l ++ [x]))), n⟩) (fun _ => True) 0 0 (head_tb [] (by simp [rhoOk, objIds]) (by simp only [hid, keptV_cons, keptV_nil, tb_get, lk_same, lk_ne, lk_nil, ren, renL, lkp, N7, N1, N5, reduceIte, and_true, true_and, Nat.not_lt_zero, if_false, if_true, Nat.add_zero, Nat.zero_add]; all_goals simp) (by exact below_set hb)) (by omega) trivial fun t ht _ JJ hJJ => ?_
    simp only [g0, w3, t3, hgi, e1, e2, Int.toNat_natCast, ints_length, hlen1, push_cast, ↓J1, ↓J2, N1, N2, N3, reduceCtorEq, N4, N5, N6, reduceIte, N7, I1, I2, I3]
    repeat (refine ⟨by omega, ?_⟩)
    refine ⟨_, cl _ _, ?_⟩
    simp only [hns, w2, push_cast, ↓J1, ↓J2, N1, N2, N3, reduceCtorEq, N4, N5, N6, reduceIte, N7, I1, I2, I3]
    refine hJ1 _ (head_tb [] (by simp [rhoOk, objIds]) ?_ (by exact below_set hb))
    simp only [hid, keptV_cons, keptV_nil, tb_get, lk_same, lk_ne, lk_nil, ren, renL, lkp, N7, N1, N5, reduceIte, and_true, true_and, Nat.not_lt_zero, if_false, if_true, Nat.add_zero, Nat.zero_add]; all_goals simp
  obtain rfl : i = l.length := by omega
  simp only [if_neg (show ¬ l.length + 1 ≤ l.length by omega)] at hJ1
  simp only [hlt, push_cast, ↓J1, ↓J2, N1, N2, N3, reduceCtorEq, N4, N5, N6, reduceIte, N7, I1, I2, I3]
  refine RL_count (fun t => ⟨tb 49 .any [(0, .ref id none 1 0 (l.length + 1)), (1, .int .i64 0), (2, .int .i64 ((l.length : Int) + 1)), (6, .int .i64 (l.length : Int)), (7, .int .i64 ((l.length - t : Nat) : Int))], hset h id (.slice 1 (ints (l.take (l.length - t) ++ x :: l.drop (l.length - t)))), n⟩) (fun t => ∀ k (h : k < l.length), l.length - t ≤ k → x < l[k]) l.length 0 (head_tb [] (by simp [rhoOk, objIds]) (by simp only [hid, keptV_cons, keptV_nil, tb_get, lk_same, lk_ne, lk_nil, ren, renL, lkp, N7, N1, N5, reduceIte, and_true, true_and, Nat.not_lt_zero, if_false, if_true, Nat.add_zero, Nat.zero_add]; all_goals simp) (by
    rw [Nat.sub_zero, List.take_length, List.drop_length]; exact below_set hb)) (by omega) (fun k hk hk2 => by omega) fun t ht hI JJ hJJ => ?_
  have hend : ∀ j : Nat, l.length - t = j → (0 < j → ∀ h : j - 1 < l.length, ¬ x < l[j - 1]) → l.take j ++ x :: l.drop j = putI x l := fun j ej h2 => putI_cut hp hx (by omega) (fun k hk hjk => hI k hk (by omega)) h2
  have hJt := hJJ
  clear hJJ
  by_cases h3 : l.length - t = 0
  · have g0 : decide (0 < ((l.length - t : Nat) : Int)) = false := decide_eq_false (by omega)
    have e0 := hend 0 h3 (fun h => by omega)
    rw [h3, e0]
    have g0' : decide (0 < (((0 : Nat)) : Int)) = false := rfl
    simp only [g0', decide_false, w2, push_cast, ↓J1, ↓J2, N1, N2, N3, reduceCtorEq, N4, N5, N6, reduceIte, N7, I1, I2, I3]
    refine hJ1 _ (head_tb [] (by simp [rhoOk, objIds]) ?_ (by exact below_set hb))
    simp only [hid, keptV_cons, keptV_nil, tb_get, lk_same, lk_ne, lk_nil, ren, renL, lkp, N7, N1, N5, reduceIte, and_true, true_and, Nat.not_lt_zero, if_false, if_true, Nat.add_zero, Nat.zero_add]; all_goals simp
    all_goals (try rw [wrap64 (by omega) (by omega)])
  obtain ⟨j, ej⟩ : ∃ j, l.length - t = j + 1 := ⟨l.length - t - 1, by omega⟩
  have hj : j < l.length := by omega
  have ht1 : t < l.length := by omega
  have en : l.length - (t + 1) = j := by omega
  have hJ2 := hJt ht1
  clear hJt
  rw [en] at hJ2
  have hcl : (l.take (j + 1) ++ x :: l.drop (j + 1)).length = l.length + 1 := by simp; omega
  have e1 : (ints (l.take (j + 1) ++ x :: l.drop (j + 1)))[j + 1]? = some [.int .i64 x] := by rw [cut_ints_get (by omega)]; rw [show (l.take (j + 1) ++ x :: l.drop (j + 1)).getD (j + 1) 0 = x by rw [List.getD, mid_get (by simp; omega)]; rfl]
  have e2 : (ints (l.take (j + 1) ++ x :: l.drop (j + 1)))[j]? = some [.int .i64 l[j]] := by
    rw [cut_ints_get (by omega)]
    simp only [List.getD]
    rw [List.getElem?_append_left (by simp; omega), List.getElem?_take_of_lt (by omega), List.getElem?_eq_getElem hj]
    rfl
  have g0 : decide (0 < (((j + 1 : Nat)) : Int)) = true := decide_eq_true (by omega)
  have w3 : IntKind.i64.wrap (((j + 1 : Nat) : Int) - 1) = (j : Int) := by rw [wrap64 (by omega) (by omega)]; omega
  have w3' : IntKind.i64.wrap ((j : Int) + 1 - 1) = (j : Int) := by rw [wrap64 (by omega) (by omega)]; omega
  have t1 : ((j : Int) + 1).toNat = j + 1 := by omega
  have g0' : decide (0 < (j : Int) + 1) = true := decide_eq_true (by omega)
  rw [ej]
  simp only [g0, g0', w3, w3', t1, hgi, e1, e2, Int.toNat_natCast, ints_length, hcl, push_cast, ↓J1, ↓J2, N1, N2, N3, reduceCtorEq, N4, N5, N6, reduceIte, N7, I1, I2, I3]
  repeat (refine ⟨by omega, ?_⟩)
  refine ⟨_, cl _ _, ?_⟩
  cases g5 : decide (x < l[j])
  · have h5 := of_decide_eq_false g5
    have e0 := hend (j + 1) ej (fun _ _ => h5)
    rw [e0]
    simp only [g5, w2, push_cast, ↓J1, ↓J2, N1, N2, N3, reduceCtorEq, N4, N5, N6, reduceIte, N7, I1, I2, I3]
    refine hJ1 _ (head_tb [] (by simp [rhoOk, objIds]) ?_ (by exact below_set hb))
    simp only [hid, keptV_cons, keptV_nil, tb_get, lk_same, lk_ne, lk_nil, ren, renL, lkp, N7, N1, N5, reduceIte, and_true, true_and, Nat.not_lt_zero, if_false, if_true, Nat.add_zero, Nat.zero_add]; all_goals simp
    all_goals (try rw [wrap64 (by omega) (by omega)])
  · have h5 := of_decide_eq_true g5
    have hJ3 := hJ2 (fun k hk hjk => by
      by_cases e : k = j
      · subst e; exact h5
      · exact hI k hk (by omega))
    clear hJ2
    have sw := swp (x := x) hj
    have e3 : ∀ a : Int, (ints ((l.take (j + 1) ++ x :: l.drop (j + 1)).set (j + 1) a))[j]? = some [.int .i64 (((l.take (j + 1) ++ x :: l.drop (j + 1)).set (j + 1) a).getD j 0)] := fun a => cut_ints_get (by rw [List.length_set]; omega)
    have hsl : ∀ a : Int, ((l.take (j + 1) ++ x :: l.drop (j + 1)).set (j + 1) a).length = l.length + 1 := fun a => by rw [List.length_set]; exact hcl
    repeat' (first | refine ⟨by omega, ?_⟩ | simp only [g5, g0, g0', w3, w3', t1, hgi, hset_hset, hks, hks2, e1, e2, e3, ints_set, sw, Int.toNat_natCast, ints_length, hcl, hsl, push_cast, ↓J1, ↓J2, N1, N2, N3, reduceCtorEq, N4, N5, N6, reduceIte, N7, I1, I2, I3])
    refine hJ3 _ (head_tb [] (by simp [rhoOk, objIds]) ?_ (by exact below_set hb))
    simp only [hid, keptV_cons, keptV_nil, tb_get, lk_same, lk_ne, lk_nil, ren, renL, lkp, N7, N1, N5, reduceIte, and_true, true_and, Nat.not_lt_zero, if_false, if_true, Nat.add_zero, Nat.zero_add]; all_goals simp
    all_goals (try rw [wrap64 (by omega) (by omega)])
theorem t198 (l : List Int) (x lim : Int) (h : Heap) (id n : Nat) (hg : hget h id = some (.slice 1 (ints (l ++ [x])))) (hb : below n h) (hs : solid h) (hl : l.length < 8) (hp : l.Pairwise (· < ·)) (hx : hasI l x = false) : C 198 [.ref id none 1 0 (l.length + 1), .int .i64 0, .int .i64 ((l.length : Int) + 1), .int .i64 lim] h n (fun v h' n' => v = .tup [] ∧ n' = n ∧ h' = hset h id (.slice 1 (ints (putI x l)))) := by
  have hid := below_lt hb hg
  have c1 := t249 hC l x h id n hg hb hs (by omega) hp hx
  have w1 : IntKind.i64.wrap ((l.length : Int) + 1 - 0) = (l.length : Int) + 1 := by rw [wrap64 (by omega) (by omega)]; omega
  have g1 : decide ((l.length : Int) + 1 ≤ 12) = true := decide_eq_true (by omega)
  refine Closed.rT hC Q198 ?_
  simp only [c198, push_cast, ↓J1, ↓J2, N1, N2, N3, reduceCtorEq, N4, N5, N6, reduceIte, N7, I1, I2, I3]
  refine RL_count (fun t => ⟨tb 134 .any [(0, .ref id none 1 0 (l.length + 1)), (1, .int .i64 0), (2, .int .i64 ((l.length : Int) + 1)), (3, .int .i64 lim), (8, .bool true), (9, .bool true)], h, n⟩) (fun _ => True) 0 0 (head_tb [] (by simp [rhoOk, objIds]) (by simp only [hid, keptV_cons, keptV_nil, tb_get, lk_same, lk_ne, lk_nil, ren, renL, lkp, N7, N1, N5, reduceIte, and_true, true_and, Nat.not_lt_zero, if_false, if_true, Nat.add_zero, Nat.zero_add]; all_goals simp) (by exact hb)) (by omega) trivial fun t ht _ JJ hJJ => ?_
  simp only [w1, g1, push_cast, ↓J1, ↓J2, N1, N2, N3, reduceCtorEq, N4, N5, N6, reduceIte, N7, I1, I2, I3]
  refine ⟨_, c1, ?_⟩
  rintro v a m ⟨rfl, rfl, rfl⟩ _
  simp only [push_cast, ↓J1, ↓J2, N1, N2, N3, reduceCtorEq, N4, N5, N6, reduceIte, N7, I1, I2, I3]
  all_goals first
    | done
    | trivial
    | rfl
    | exact solid_set hs
    | exact ⟨rfl, rfl, rfl⟩
theorem t137 (l : List Int) (x : Int) (h : Heap) (id n : Nat) (hg : hget h id = some (.slice 1 (ints (l ++ [x])))) (hb : below n h) (hs : solid h) (hl : l.length < 7) (hp : l.Pairwise (· < ·)) (hx : hasI l x = false) : C 137 [.ref id none 1 0 (l.length + 1)] h n (fun v h' n' => v = .tup [] ∧ n' = n ∧ h' = hset h id (.slice 1 (ints (putI x l)))) := by
  have hid := below_lt hb hg
  have c1 := fun lim => t198 hC l x lim h id n hg hb hs (by omega) hp hx
  obtain ⟨r, c2⟩ := t199 hC (l.length + 1) (by omega)
  have wu : IntKind.u64.wrap (((l.length + 1 : Nat) : Int)) = ((l.length + 1 : Nat) : Int) := by
    rcases (show l.length = 0 ∨ l.length = 1 ∨ l.length = 2 ∨ l.length = 3 ∨ l.length = 4 ∨ l.length = 5 ∨ l.length = 6 by omega) with e | e | e | e | e | e | e <;> rw [e] <;> rfl
  have ec : ((l.length + 1 : Nat) : Int) = (l.length : Int) + 1 := by omega
  rw [ec] at wu c2
  refine Closed.rT hC Q137 ?_
  simp only [c137, ec, wu, push_cast, ↓J1, ↓J2, N1, N2, N3, reduceCtorEq, N4, N5, N6, reduceIte, N7, I1, I2, I3]
  refine ⟨_, c2, ?_⟩
  simp only [push_cast, ↓J1, ↓J2, N1, N2, N3, reduceCtorEq, N4, N5, N6, reduceIte, N7, I1, I2, I3]
  refine ⟨_, c1 r, ?_⟩
  rintro v a m ⟨rfl, rfl, rfl⟩ _
  simp only [push_cast, ↓J1, ↓J2, N1, N2, N3, reduceCtorEq, N4, N5, N6, reduceIte, N7, I1, I2, I3]
  all_goals first
    | done
    | trivial
    | rfl
    | exact solid_set hs
    | exact ⟨rfl, rfl, rfl⟩
theorem t133 (l : List Int) (x : Int) (hl : l.length < 2^20) (hx : hasI l x = false) : Ev C 133 [.sl (ints l), .int .i64 x] (.ow 1 (ints (putI x l))) := by
  have hne : ∀ k (h : k < l.length), decide (l[k] = x) = false := fun k h => decide_eq_false fun e => by
    have := hasI_mem.2 (List.getElem_mem h)
    rw [e] at this
    rw [this] at hx; cases hx
  refine rT hC Q133 ?_ (own_ints _)
  simp only [c133, ints_length, push_cast, ↓J1, ↓J2, N1, N2, N3, reduceCtorEq, N4, N5, N6, reduceIte, N7, I1, I2, I3]
  refine RL_count (fun k => ⟨tb 48 .any [(0, .sl (ints l)), (1, .int .i64 x), (5, .int .i64 (k : Int))], [], 0⟩) (fun k => ∀ j (h : j < l.length), j < k → l[j] < x) l.length 0 (hdA []) (by omega) (fun j h hj => by omega) fun k hk hI J hJ => ?_
  have hfin : (∀ h : k < l.length, ¬ l[k] < x) → l.take k ++ x :: l.drop k = putI x l := fun h2 => by
    rw [putI_at x l k hk hI h2]
    split
    · rename_i h
      rw [if_neg (of_decide_eq_false (hne k h))]
    · have : k = l.length := by omega
      subst this; simp
  have tk1 : List.take k (List.drop 0 (ints l)) = ints (l.take k) := by simp [ints, List.map_take]
  have tk1' : List.take k (ints l) = ints (l.take k) := by simp [ints, List.map_take]
  have tk2 : List.drop k (ints l) = ints (l.drop k) := by simp [ints, List.map_drop]
  have tkl : (l.take k).length = k := by simp; omega
  have tz : ((k : Int) - 0).toNat = k := by omega
  have el1 : ∀ el, el ∈ ints l → el.length = 1 := fun el h => by obtain ⟨n, _, rfl⟩ := List.mem_map.1 h; rfl
  have ints_app : ∀ a c : List Int, ints a ++ ints c = ints (a ++ c) := fun a c => by simp [ints]
  have eall : ∀ l : List Int, ((ints l).all fun e => e.length == 1) = true := fun l => by simp [ints]
  have tkk : List.take k (ints (l.take k)) = ints (l.take k) := List.take_of_length_le (by rw [ints_length]; omega)
  have tk3 : List.take (k + 1) (ints (l.take k ++ [x])) = ints (l.take k ++ [x]) := List.take_of_length_le (by rw [ints_length]; simp; omega)
  have tzz : ((l.length : Int) - (k : Int)).toNat = l.length - k := by omega
  have tk4 : List.take (l.length - k) (ints (l.drop k)) = ints (l.drop k) := List.take_of_length_le (by rw [ints_length]; simp)
  have tl3 : (l.take k ++ [x]).length = k + 1 := by simp; omega
  have tl4 : (l.drop k).length = l.length - k := by simp
  have tka : ∀ l : List Int, List.take l.length (ints l) = ints l := fun l => List.take_of_length_le (by rw [ints_length]; omega)
  by_cases h1 : k < l.length
  · have hlt : decide ((k : Int) < (l.length : Int)) = true := decide_eq_true (by omega)
    have e1 : (ints l)[k]? = some [.int .i64 l[k]] := by simp [ints, h1]
    simp only [hlt, Int.toNat_natCast, e1, ints_length, push_cast, ↓J1, ↓J2, N1, N2, N3, reduceCtorEq, N4, N5, N6, reduceIte, N7, I1, I2, I3]
    repeat (refine ⟨by omega, ?_⟩)
    cases g1 : decide (l[k] < x)
    · have e2 := hne k h1
      have e3 := hfin fun _ => of_decide_eq_false g1
      simp only [g1, hlt, e2, Int.toNat_natCast, e1, ints_length, push_cast, ↓J1, ↓J2, N1, N2, N3, reduceCtorEq, N4, N5, N6, reduceIte, N7, I1, I2, I3]
      repeat' (first | refine ⟨el1, ?_⟩ | refine ⟨by omega, ?_⟩ | simp only [tz, tzz, tkk, tk3, tk4, tl3, tl4, eall, tk1', tk2, tka, tkl, List.nil_append, List.length_nil, List.append_nil, ints_length, ints_sn, ints_app, allScs, apYR_sc, Int.toNat_natCast, push_cast, ↓J1, ↓J2, N1, N2, N3, reduceCtorEq, N4, N5, N6, reduceIte, N7, I1, I2, I3])
      rw [← e3, show l.take k ++ x :: l.drop k = l.take k ++ [x] ++ l.drop k by simp]
      exact RetTo_ow rfl (by rw [ints_length]; simp; omega)
    · simp only [g1, push_cast, ↓J1, ↓J2, N1, N2, N3, reduceCtorEq, N4, N5, N6, reduceIte, N7, I1, I2, I3]
      refine hJ h1 ?_ _ (hdA [])
      intro j hj hjk
      by_cases e : j = k
      · subst e; exact of_decide_eq_true g1
      · exact hI j hj (by omega)
  · have hlt : decide ((k : Int) < (l.length : Int)) = false := decide_eq_false (by omega)
    have e3 := hfin fun h => absurd h h1
    simp only [hlt, ints_length, push_cast, ↓J1, ↓J2, N1, N2, N3, reduceCtorEq, N4, N5, N6, reduceIte, N7, I1, I2, I3]
    repeat' (first | refine ⟨el1, ?_⟩ | refine ⟨by omega, ?_⟩ | simp only [tz, tzz, tkk, tk3, tk4, tl3, tl4, eall, tk1', tk2, tka, tkl, List.nil_append, List.length_nil, List.append_nil, ints_length, ints_sn, ints_app, allScs, apYR_sc, Int.toNat_natCast, push_cast, ↓J1, ↓J2, N1, N2, N3, reduceCtorEq, N4, N5, N6, reduceIte, N7, I1, I2, I3])
    rw [← e3, show l.take k ++ x :: l.drop k = l.take k ++ [x] ++ l.drop k by simp]
    exact RetTo_ow rfl (by rw [ints_length]; simp; omega)
end
end Go.Proofs.YtjaccjeejeiphaaGreatDoor.X
set_option linter.unusedVariables false
set_option maxHeartbeats 1000000
open Nat renaming reduceBEq → N1, reduceAdd → N2, reduceSub → N3, reduceMul → N4, reduceEqDiff → N5, reduceLeDiff → N6, reduceLT → N7
open Int renaming reduceLE → I1, reduceLT → I2, reduceToNat → I3
namespace Go.Proofs.YtjaccjeejeiphaaGreatDoor.X
open Go
theorem andThen_le {f g : Int → Int} {v : Int} (hf : -1 ≤ f v ∧ f v ≤ v) (hg : 0 ≤ f v → -1 ≤ g (f v) ∧ g (f v) ≤ f v) : -1 ≤ andThen f g v ∧ andThen f g v ≤ v := by
  have e : andThen f g v = if f v < 0 then -1 else if g (f v) < 0 then -1 else g (f v) := rfl
  rw [e]
  split
  · omega
  · have := hg (by omega)
    split <;> omega
theorem szSe_le {s : Se} {v : Int} (h0 : 0 ≤ v) (hB : v ≤ 2 ^ 50) : -1 ≤ szSe s v ∧ szSe s v ≤ v := by
  unfold szSe
  refine andThen_le (andThen_le (andThen_le (szBrd_le h0 hB) fun h => szCt_rng h) fun h => szCl_rng h) fun h => szSS_rng h
end Go.Proofs.YtjaccjeejeiphaaGreatDoor.X
set_option maxHeartbeats 4000000
set_option maxRecDepth 8000
set_option linter.unusedSimpArgs false
set_option linter.unusedVariables false
open Nat renaming reduceBEq → N1, reduceAdd → N2, reduceSub → N3, reduceMul → N4, reduceEqDiff → N5, reduceLeDiff → N6, reduceLT → N7
open Int renaming reduceLE → I1, reduceLT → I2, reduceToNat → I3
namespace Go.Proofs.YtjaccjeejeiphaaGreatDoor.X
open Go
attribute [local irreducible] Ev
theorem put_B {b : Brd} {l : List Int} {i : Nat} (g : brdOk b = true) (h : srcOk b l = true) (hi : i < b.m.t.length) : SrcB b (putI (i : Nat) l) := by
  have ht := brd_t g
  have h1 := src_in h
  refine ⟨putI_in (P := fun x => 0 ≤ x ∧ x < b.m.w * b.m.h) ⟨by omega, by omega⟩ h1.2, ?_⟩
  have := putI_len (i : Nat) l
  omega
section
variable {C : CT} (hC : Closed Tryz.prog G1 md0 C)
include hC
theorem t55 (x : Se) (s : Sta) (sd : Int) (hb : SeB (2^50) x) (hl : s.us.length < 2^40) : Ev C 55 [seF x, .agg (staF s), .int .i64 sd] (.tup [.int .i64 (bsR1 x s sd), .int .i64 (bsR2 x s sd), .bool (bsOk x s sd)]) := by
  have c1 := t76 hC x s 0 hb hl
  rw [show (gaOk x s && inR 0 4611686016279904236 0) = gaOk x s by rw [show inR 0 4611686016279904236 0 = true by rfl, Bool.and_true]] at c1
  have c2 : Ev C 105 [.int .i64 sd, .int .i64 0, .int .i64 1] (.bool (inR 0 1 sd)) := tIn hC sd 0 1
  have cm := fun (h1 : 1 ≤ x.b.m.w ∧ x.b.m.w ≤ 10) (h2 : 1 ≤ x.b.m.h ∧ x.b.m.h ≤ 10) => t130 hC x.b.m h1 h2
  have ch := fun l (i : Int) h => t131 hC l i h
  have cp := fun l (i : Int) h1 h2 => t133 hC l i h1 h2
  have cw := fun l g h => t132 hC x.b s sd l g h hb.b
  have hbm := hb.b.m.t
  simp only [seF, brdF, rulF, mpF, ctF, clA, List.cons_append, List.nil_append, staF] at *
  refine rT hC Q55 ?_ (by simp only [ownR, ownRL, Bool.and_true])
  simp only [c55, push_cast, ↓J1, ↓J2, N1, N2, N3, reduceCtorEq, N4, N5, N6, reduceIte, N7, I1, I2, I3]
  refine ⟨_, c1, ?_⟩
  cases g1 : gaOk x s
  · simp only [bsR1, bsR2, bsOk, vaOk, g1, Bool.false_and, Bool.false_eq_true, if_false, push_cast, ↓J1, ↓J2, N1, N2, N3, reduceCtorEq, N4, N5, N6, reduceIte, N7, I1, I2, I3]
    exact rtA
  have gg := g1
  simp only [gaOk, Bool.and_eq_true] at gg
  have gb := se_brd gg.1
  have hm := mp_wh (brd_mp gb)
  have ht := brd_t gb
  have hn := (brd_n gb).1
  simp only [push_cast, ↓J1, ↓J2, N1, N2, N3, reduceCtorEq, N4, N5, N6, reduceIte, N7, I1, I2, I3]
  refine ⟨_, c2, ?_⟩
  cases g2 : inR 0 1 sd
  · simp only [bsR1, bsR2, bsOk, vaOk, g1, g2, Bool.and_false, Bool.false_and, Bool.false_eq_true, if_false, push_cast, ↓J1, ↓J2, N1, N2, N3, reduceCtorEq, N4, N5, N6, reduceIte, N7, I1, I2, I3]
    exact rtA
  have hs : sd = 0 ∨ sd = 1 := by simp only [inR, Bool.and_eq_true, decide_eq_true_eq] at g2; omega
  obtain ⟨e0, s0, l0, ll⟩ := srcs_at gg.1 hs
  have il : (intss x.src).length = x.src.length := by simp [intss]
  have hsr : srcOk x.b (x.src.getD sd.toNat []) = true := by
    have := se_src gg.1
    rcases hs with e | e <;> subst e
    · exact this.2.1
    · exact this.2.2
  have hrel := fun n => bs_rel (sd := sd) gg.2 n
  have hfull := src_full gb hsr
  have hl6 := (src_in hsr).1
  have hinc := src_inc hsr
  have hput := fun i (hi : i < x.b.m.t.length) => put_B (i := i) gb hsr hi
  have hsS := fun n => bsS_succ x s sd n
  have hsJ := fun n => bsJ_succ x s sd n
  have hb1 := fun n => sideW_bnd (sd := sd) (l := putI (n : Nat) (x.src.getD sd.toNat [])) gg.2
  have hV : vaOk x s sd = true := by simp only [vaOk, g1, g2, Bool.and_self]
  have hOk : bsOk x s sd = (!decide ((x.src.getD sd.toNat []).length = 6) && !decide ((x.src.getD sd.toNat []).length = x.b.m.t.length)) := by simp only [bsOk, hV, Bool.true_and]
  have hR1 : bsR1 x s sd = if bsOk x s sd then (bsJ x s sd x.b.m.t.length).1 else 0 := rfl
  have hR2 : bsR2 x s sd = if bsOk x s sd then (bsJ x s sd x.b.m.t.length).2 else 0 := rfl
  have hS1 : ∀ p i, bsS1 x s sd p i = if hasI (x.src.getD sd.toNat []) (i : Nat) then p else if decide (p.1 < 0) || decide (p.2 < sideW x.b s sd (putI (i : Nat) (x.src.getD sd.toNat []))) then ((i : Int), sideW x.b s sd (putI (i : Nat) (x.src.getD sd.toNat []))) else p := fun _ _ => rfl
  have hJ1 : ∀ p i, bsJ1 x s sd p i = if hasI (x.src.getD sd.toNat []) (i : Nat) then p else if decide (p.2 < sideW x.b s sd (putI (i : Nat) (x.src.getD sd.toNat []))) then ((i : Int), sideW x.b s sd (putI (i : Nat) (x.src.getD sd.toNat []))) else p := fun _ _ => rfl
  rw [hR1, hR2, hOk]
  generalize x.src.getD sd.toNat [] = src at *
  simp only [e0, il, ints_length, push_cast, ↓J1, ↓J2, N1, N2, N3, reduceCtorEq, N4, N5, N6, reduceIte, N7, I1, I2, I3]
  repeat (refine ⟨by omega, ?_⟩)
  by_cases h6 : src.length = 6
  · have g6 : decide ((src.length : Int) = 6) = true := decide_eq_true (by omega)
    have g6' : decide (src.length = 6) = true := decide_eq_true h6
    simp only [g6, g6', Bool.not_true, Bool.false_and, Bool.false_eq_true, if_false, push_cast, ↓J1, ↓J2, N1, N2, N3, reduceCtorEq, N4, N5, N6, reduceIte, N7, I1, I2, I3]
    exact rtA
  have g6 : decide ((src.length : Int) = 6) = false := decide_eq_false (by omega)
  have g6' : decide (src.length = 6) = false := decide_eq_false h6
  simp only [g6, g6', Bool.not_false, Bool.true_and, push_cast, ↓J1, ↓J2, N1, N2, N3, reduceCtorEq, N4, N5, N6, reduceIte, N7, I1, I2, I3]
  refine RL_count (fun i => ⟨tb 71 .any [(2, .int .i64 sd), (3, .ptr 0 none 0 0 0), (4, .ptr 1 none 0 0 0), (9, .int .i64 (bsS x s sd i).1), (10, .int .i64 (bsS x s sd i).2), (11, .int .i64 (i : Int))], [(1, .var [.int .i64 s.t, .int .i64 s.w, .sl (uns s.us)]), (0, .var [.sl (tersF x.b.r.ts), .sl (kins x.b.r.ks), .int .i64 x.b.r.stack, .int .i64 x.b.r.river, .int .i64 x.b.r.road, .int .i64 x.b.r.supply, .int .i64 x.b.r.turns, .int .i64 x.b.m.w, .int .i64 x.b.m.h, .sl (ints x.b.m.t), .sl (ints x.b.m.ri), .sl (ints x.b.m.ro), .sl (ods x.t.cs), .int .i64 x.t.d, .sl (intss x.t.rs), .sl (intss x.c), .sl (intss x.src)])], 2⟩) (fun _ => True) x.b.m.t.length 0 (hdA [(1, 1), (0, 0)]) (by omega) trivial fun i hi _ J hJ => ?_
  have cm := cm hm.1 hm.2
  rw [← ht] at cm
  by_cases h1 : i < x.b.m.t.length
  · have hK := hJ h1 trivial
    clear hJ
    have hlt : decide ((i : Int) < (x.b.m.t.length : Int)) = true := decide_eq_true (by omega)
    rw [hsS, hS1] at hK
    simp only [push_cast, ↓J1, ↓J2, N1, N2, N3, reduceCtorEq, N4, N5, N6, reduceIte, N7, I1, I2, I3]
    refine ⟨_, cm, ?_⟩
    simp only [hlt, e0, il, push_cast, ↓J1, ↓J2, N1, N2, N3, reduceCtorEq, N4, N5, N6, reduceIte, N7, I1, I2, I3]
    repeat (refine ⟨by omega, ?_⟩)
    refine ⟨_, ch src (i : Nat) (by omega), ?_⟩
    cases g3 : hasI src (i : Nat)
    rotate_left
    · simp only [g3, if_true] at hK
      simp only [push_cast, ↓J1, ↓J2, N1, N2, N3, reduceCtorEq, N4, N5, N6, reduceIte, N7, I1, I2, I3]
      exact hK _ (hdA [(1, 1), (0, 0)])
    simp only [g3, Bool.false_eq_true, if_false] at hK
    simp only [e0, il, push_cast, ↓J1, ↓J2, N1, N2, N3, reduceCtorEq, N4, N5, N6, reduceIte, N7, I1, I2, I3]
    repeat (refine ⟨by omega, ?_⟩)
    refine ⟨_, cp src (i : Nat) (by omega) g3, ?_⟩
    have cw := cw _ gg.2 (hput i h1)
    have tki : ∀ l : List Int, List.take l.length (ints l) = ints l := fun l => List.take_of_length_le (by rw [ints_length]; omega)
    simp only [tki, frzLL_ints, ints_length, push_cast, ↓J1, ↓J2, N1, N2, N3, reduceCtorEq, N4, N5, N6, reduceIte, N7, I1, I2, I3]
    refine ⟨_, cw, ?_⟩
    generalize sideW x.b s sd (putI (i : Nat) src) = w at *
    generalize bsS x s sd i = p at *
    obtain ⟨p1, p2⟩ := p
    simp only at hK ⊢
    cases g4 : decide (p1 < 0)
    · cases g5 : decide (p2 < w)
      · simp only [g4, g5, Bool.false_or, Bool.false_eq_true, if_false] at hK
        simp only [g4, g5, push_cast, ↓J1, ↓J2, N1, N2, N3, reduceCtorEq, N4, N5, N6, reduceIte, N7, I1, I2, I3]
        exact hK _ (hdA [(1, 1), (0, 0)])
      · simp only [g4, g5, Bool.false_or, if_true] at hK
        simp only [g4, g5, push_cast, ↓J1, ↓J2, N1, N2, N3, reduceCtorEq, N4, N5, N6, reduceIte, N7, I1, I2, I3]
        exact hK _ (hdA [(1, 1), (0, 0)])
    · simp only [g4, Bool.true_or, if_true] at hK
      simp only [g4, push_cast, ↓J1, ↓J2, N1, N2, N3, reduceCtorEq, N4, N5, N6, reduceIte, N7, I1, I2, I3]
      exact hK _ (hdA [(1, 1), (0, 0)])
  obtain rfl : i = x.b.m.t.length := by omega
  have hlt : decide ((x.b.m.t.length : Int) < (x.b.m.t.length : Int)) = false := decide_eq_false (by omega)
  simp only [push_cast, ↓J1, ↓J2, N1, N2, N3, reduceCtorEq, N4, N5, N6, reduceIte, N7, I1, I2, I3]
  refine ⟨_, cm, ?_⟩
  rcases hrel x.b.m.t.length with ⟨e1, e2, e3⟩ | ⟨e1, e2, i, hi, e3⟩
  · have h7 : decide (src.length = x.b.m.t.length) = true := decide_eq_true (hfull.1 e3)
    have gm : decide ((-1 : Int) < 0) = true := rfl
    have h7n : ¬ ¬ src.length = x.b.m.t.length := not_not_intro (hfull.1 e3)
    simp only [e1, h7, if_neg h7n, hlt, gm, decide_true, Bool.not_true, Bool.false_eq_true, if_false, push_cast, ↓J1, ↓J2, N1, N2, N3, reduceCtorEq, N4, N5, N6, reduceIte, N7, I1, I2, I3]
    exact rtA
  · have h7 : decide (src.length = x.b.m.t.length) = false := decide_eq_false fun e => by
      have := hfull.2 e i hi
      rw [e3] at this; cases this
    have gm : decide ((bsS x s sd x.b.m.t.length).1 < 0) = false := decide_eq_false (by omega)
    have h7n : ¬ src.length = x.b.m.t.length := of_decide_eq_false h7
    simp only [e2, h7, if_pos h7n, hlt, gm, Bool.not_false, if_true, push_cast, ↓J1, ↓J2, N1, N2, N3, reduceCtorEq, N4, N5, N6, reduceIte, N7, I1, I2, I3]
    exact rtA
theorem t56 (x : Se) (s : Sta) (sd : Int) (hb : SeB (2^50) x) (hl : s.us.length < 2^40) : Ev C 56 [seF x, .agg (staF s), .int .i64 sd] (.tup [.int .i64 (bsR1 x s sd), .int .i64 (bsR2 x s sd), .bool (bsOk x s sd)]) := by
  have c1 := t81 hC x s hb hl

  have c2 : Ev C 117 [.int .i64 sd] (.bool (inR 0 1 sd)) := t117 hC sd
  have cz := t134 hC x.b
  have ch := fun l (i : Int) h => t135 hC l i h
  have cc := fun l h => t136 hC l h
  have cs := fun l (i : Int) h id n h1 h2 h3 h4 h5 h6 => t137 hC l i h id n h1 h2 h3 h4 h5 h6
  have cw := fun l g h => t138 hC x.b s sd l g h hb.b
  have hbm := hb.b.m.t
  simp only [seF, brdF, rulF, mpF, ctF, clA, List.cons_append, List.nil_append, staF] at *
  refine rT hC Q56 ?_ (by simp only [ownR, ownRL, Bool.and_true])
  simp only [c56, push_cast, ↓J1, ↓J2, N1, N2, N3, reduceCtorEq, N4, N5, N6, reduceIte, N7, I1, I2, I3]
  refine ⟨_, c1, ?_⟩
  cases g1 : gaOk x s
  · simp only [bsR1, bsR2, bsOk, vaOk, g1, Bool.false_and, Bool.false_eq_true, if_false, push_cast, ↓J1, ↓J2, N1, N2, N3, reduceCtorEq, N4, N5, N6, reduceIte, N7, I1, I2, I3]
    exact rtA
  have gg := g1
  simp only [gaOk, Bool.and_eq_true] at gg
  have gb := se_brd gg.1
  have hm := mp_wh (brd_mp gb)
  have ht := brd_t gb
  have hn := (brd_n gb).1
  simp only [push_cast, ↓J1, ↓J2, N1, N2, N3, reduceCtorEq, N4, N5, N6, reduceIte, N7, I1, I2, I3]
  refine ⟨_, c2, ?_⟩
  cases g2 : inR 0 1 sd
  · simp only [bsR1, bsR2, bsOk, vaOk, g1, g2, Bool.and_false, Bool.false_and, Bool.false_eq_true, if_false, push_cast, ↓J1, ↓J2, N1, N2, N3, reduceCtorEq, N4, N5, N6, reduceIte, N7, I1, I2, I3]
    exact rtA
  have hs : sd = 0 ∨ sd = 1 := by simp only [inR, Bool.and_eq_true, decide_eq_true_eq] at g2; omega
  obtain ⟨e0, s0, l0, ll⟩ := srcs_at gg.1 hs
  have il : (intss x.src).length = x.src.length := by simp [intss]
  have hsr : srcOk x.b (x.src.getD sd.toNat []) = true := by
    have := se_src gg.1
    rcases hs with e | e <;> subst e
    · exact this.2.1
    · exact this.2.2
  have hrel := fun n => bs_rel (sd := sd) gg.2 n
  have hfull := src_full gb hsr
  have hl6 := (src_in hsr).1
  have hinc := src_inc hsr
  have hput := fun i (hi : i < x.b.m.t.length) => put_B (i := i) gb hsr hi
  have hsS := fun n => bsS_succ x s sd n
  have hsJ := fun n => bsJ_succ x s sd n
  have hb1 := fun n => sideW_bnd (sd := sd) (l := putI (n : Nat) (x.src.getD sd.toNat [])) gg.2
  have hV : vaOk x s sd = true := by simp only [vaOk, g1, g2, Bool.and_self]
  have hOk : bsOk x s sd = (!decide ((x.src.getD sd.toNat []).length = 6) && !decide ((x.src.getD sd.toNat []).length = x.b.m.t.length)) := by simp only [bsOk, hV, Bool.true_and]
  have hR1 : bsR1 x s sd = if bsOk x s sd then (bsJ x s sd x.b.m.t.length).1 else 0 := rfl
  have hR2 : bsR2 x s sd = if bsOk x s sd then (bsJ x s sd x.b.m.t.length).2 else 0 := rfl
  have hS1 : ∀ p i, bsS1 x s sd p i = if hasI (x.src.getD sd.toNat []) (i : Nat) then p else if decide (p.1 < 0) || decide (p.2 < sideW x.b s sd (putI (i : Nat) (x.src.getD sd.toNat []))) then ((i : Int), sideW x.b s sd (putI (i : Nat) (x.src.getD sd.toNat []))) else p := fun _ _ => rfl
  have hJ1 : ∀ p i, bsJ1 x s sd p i = if hasI (x.src.getD sd.toNat []) (i : Nat) then p else if decide (p.2 < sideW x.b s sd (putI (i : Nat) (x.src.getD sd.toNat []))) then ((i : Int), sideW x.b s sd (putI (i : Nat) (x.src.getD sd.toNat []))) else p := fun _ _ => rfl
  rw [hR1, hR2, hOk]
  generalize x.src.getD sd.toNat [] = src at *
  simp only [e0, il, ints_length, push_cast, ↓J1, ↓J2, N1, N2, N3, reduceCtorEq, N4, N5, N6, reduceIte, N7, I1, I2, I3]
  repeat (refine ⟨by omega, ?_⟩)
  by_cases h6 : src.length = 6
  · have g6 : decide ((src.length : Int) = 6) = true := decide_eq_true (by omega)
    have g6' : decide (src.length = 6) = true := decide_eq_true h6
    simp only [g6, g6', Bool.not_true, Bool.false_and, Bool.false_eq_true, if_false, push_cast, ↓J1, ↓J2, N1, N2, N3, reduceCtorEq, N4, N5, N6, reduceIte, N7, I1, I2, I3]
    exact rtA
  have g6 : decide ((src.length : Int) = 6) = false := decide_eq_false (by omega)
  have g6' : decide (src.length = 6) = false := decide_eq_false h6
  simp only [g6, g6', Bool.not_false, Bool.true_and, push_cast, ↓J1, ↓J2, N1, N2, N3, reduceCtorEq, N4, N5, N6, reduceIte, N7, I1, I2, I3]
  refine ⟨_, cz, ?_⟩
  by_cases h7 : src.length = x.b.m.t.length
  · have g7 : decide ((src.length : Int) = (x.b.m.t.length : Int)) = true := decide_eq_true (by omega)
    have g7' : decide (src.length = x.b.m.t.length) = true := decide_eq_true h7
    simp only [g7, g7', if_neg (not_not_intro h7), Bool.not_true, Bool.false_eq_true, if_false, ints_length, push_cast, ↓J1, ↓J2, N1, N2, N3, reduceCtorEq, N4, N5, N6, reduceIte, N7, I1, I2, I3]
    exact rtA
  have g7 : decide ((src.length : Int) = (x.b.m.t.length : Int)) = false := decide_eq_false (by omega)
  have g7' : decide (src.length = x.b.m.t.length) = false := decide_eq_false h7
  simp only [g7, g7', if_pos h7, Bool.not_false, if_true, ints_length, push_cast, ↓J1, ↓J2, N1, N2, N3, reduceCtorEq, N4, N5, N6, reduceIte, N7, I1, I2, I3]
  refine RL_count (fun i => ⟨tb 72 .any [(2, .int .i64 sd), (3, .ptr 0 none 0 0 0), (4, .ptr 1 none 0 0 0), (9, .sl (ints src)), (10, .int .i64 (bsJ x s sd i).1), (11, .int .i64 (bsJ x s sd i).2), (44, .int .i64 (x.b.m.t.length : Int)), (45, .int .i64 (i : Int))], [(1, .var [.int .i64 s.t, .int .i64 s.w, .sl (uns s.us)]), (0, .var [.sl (tersF x.b.r.ts), .sl (kins x.b.r.ks), .int .i64 x.b.r.stack, .int .i64 x.b.r.river, .int .i64 x.b.r.road, .int .i64 x.b.r.supply, .int .i64 x.b.r.turns, .int .i64 x.b.m.w, .int .i64 x.b.m.h, .sl (ints x.b.m.t), .sl (ints x.b.m.ri), .sl (ints x.b.m.ro), .sl (ods x.t.cs), .int .i64 x.t.d, .sl (intss x.t.rs), .sl (intss x.c), .sl (intss x.src)])], 2⟩) (fun _ => True) x.b.m.t.length 0 (hdA [(1, 1), (0, 0)]) (by omega) trivial fun i hi _ J hJ => ?_
  by_cases h1 : i < x.b.m.t.length
  · have hK := hJ h1 trivial
    clear hJ
    have hlt : decide ((i : Int) < (x.b.m.t.length : Int)) = true := decide_eq_true (by omega)
    rw [hsJ, hJ1] at hK
    simp only [hlt, push_cast, ↓J1, ↓J2, N1, N2, N3, reduceCtorEq, N4, N5, N6, reduceIte, N7, I1, I2, I3]
    refine ⟨_, ch src (i : Nat) (by omega), ?_⟩
    cases g3 : hasI src (i : Nat)
    rotate_left
    · simp only [g3, if_true] at hK
      simp only [push_cast, ↓J1, ↓J2, N1, N2, N3, reduceCtorEq, N4, N5, N6, reduceIte, N7, I1, I2, I3]
      exact hK _ (hdA [(1, 1), (0, 0)])
    simp only [g3, Bool.false_eq_true, if_false] at hK
    simp only [push_cast, ↓J1, ↓J2, N1, N2, N3, reduceCtorEq, N4, N5, N6, reduceIte, N7, I1, I2, I3]
    refine ⟨_, cc src (by omega), ?_⟩
    have cw := cw _ gg.2 (hput i h1)
    have tki : ∀ l : List Int, List.take l.length (ints l) = ints l := fun l => List.take_of_length_le (by rw [ints_length]; omega)
    have tk1 : ∀ l : List Int, List.take (l.length + 1) (ints l) = ints l := fun l => List.take_of_length_le (by rw [ints_length]; omega)
    have pl := putI_len1 (n := (i : Nat)) g3
    simp only [tki, ints_length, allScs, apYR_sc, ints_sn, push_cast, ↓J1, ↓J2, N1, N2, N3, reduceCtorEq, N4, N5, N6, reduceIte, N7, I1, I2, I3]
    repeat (refine ⟨by omega, ?_⟩)
    refine ⟨_, cs src (i : Nat) _ _ _ rfl rfl rfl (by omega) hinc g3, ?_⟩
    rintro v a m ⟨rfl, rfl, rfl⟩ _
    have tk2 : List.take (src.length + 1) (ints (putI (i : Nat) src)) = ints (putI (i : Nat) src) := List.take_of_length_le (by rw [ints_length]; omega)
    simp only [hset, N5, N7, if_true, if_false, reduceIte, tki, tk2, frzLL_ints, ints_length, push_cast, ↓J1, ↓J2, N1, N2, N3, reduceCtorEq, N4, N5, N6, reduceIte, N7, I1, I2, I3]
    refine ⟨_, cw, ?_⟩
    generalize sideW x.b s sd (putI (i : Nat) src) = w at *
    generalize bsJ x s sd i = p at *
    obtain ⟨p1, p2⟩ := p
    simp only at hK ⊢
    cases g5 : decide (p2 < w)
    · simp only [g5, Bool.false_eq_true, if_false] at hK
      simp only [g5, push_cast, ↓J1, ↓J2, N1, N2, N3, reduceCtorEq, N4, N5, N6, reduceIte, N7, I1, I2, I3]
      exact hK _ (hdA [(1, 1), (0, 0)])
    · simp only [g5, if_true] at hK
      simp only [g5, push_cast, ↓J1, ↓J2, N1, N2, N3, reduceCtorEq, N4, N5, N6, reduceIte, N7, I1, I2, I3]
      exact hK _ (hdA [(1, 1), (0, 0)])
  obtain rfl : i = x.b.m.t.length := by omega
  have hlt : decide ((x.b.m.t.length : Int) < (x.b.m.t.length : Int)) = false := decide_eq_false (by omega)
  simp only [hlt, push_cast, ↓J1, ↓J2, N1, N2, N3, reduceCtorEq, N4, N5, N6, reduceIte, N7, I1, I2, I3]
  exact rtA
theorem t14 (x : Se) (s : Sta) (d : Int) (hx : SeB (2^50) x) (hs : s.us.length < 2^50) : Ev C 14 [seF x, .agg (staF s), .int .i64 d] (.bool true) := by
  have z0 := fun p => t26 hC x 1048576 p hx
  have z1 := fun p => t16 hC s (szSe x 1048576) p hs
  have d0 := fun Hx => t28 hC x Hx
  have e0 := t30 hC x x hx hx
  have d1 := fun Hs => t20 hC s Hs
  have e1 := t24 hC s s hs hs
  have f1 := fun (Hx : SeB (2^30) x) (Hs : s.us.length < 2^30) => t55 hC x s d hx (by omega)
  have f2 := fun (Hx : SeB (2^30) x) (Hs : s.us.length < 2^30) => t56 hC x s d hx (by omega)
  simp only [brdO, rulO, mpO, brdF, rulF, mpF, seF, seO, ctF, ctO, szSta, staF, staO, List.cons_append, List.nil_append, List.append_assoc, decide_true] at *
  refine rT hC Q14 ?_
  simp only [c14, push_cast, ↓J1, ↓J2, N1, N2, N3, reduceCtorEq, N4, N5, N6, reduceIte, N7, I1, I2, I3]
  refine ⟨_, z0 (by omega), ?_⟩
  simp only [push_cast, ↓J1, ↓J2, N1, N2, N3, reduceCtorEq, N4, N5, N6, reduceIte, N7, I1, I2, I3]
  refine ifB_intro (fun h => trivial) (fun h => ?_)
  have n0 := of_decide_eq_false h
  clear h
  have l0 := szSe_le (s := x) (v := 1048576) (by omega) (by omega)
  have Hx : SeB (2^30) x := (szSe_pos (by omega)).mono (by omega)
  refine ⟨_, z1 (by omega), ?_⟩
  simp only [push_cast, ↓J1, ↓J2, N1, N2, N3, reduceCtorEq, N4, N5, N6, reduceIte, N7, I1, I2, I3]
  refine ifB_intro (fun h => trivial) (fun h => ?_)
  have n1 := of_decide_eq_false h
  clear h
  have l1 := sub1_le (v := (szSe x 1048576)) (n := s.us.length) (by omega)
  have Hs : s.us.length < 2^30 := by have := sub1_pos (v := (szSe x 1048576)) (n := s.us.length) (by omega); omega
  repeat' (first
    | simp only [frzLL_ints, frzLL_ters, frzLL_kins, frzLL_owss, frzLL_ods, frzLL_uns, push_cast, ↓J1, ↓J2, N1, N2, N3, reduceCtorEq, N4, N5, N6, reduceIte, N7, I1, I2, I3]
    | refine ⟨_, d0 Hx, ?_⟩
    | refine ⟨_, e0, ?_⟩
    | refine ⟨_, d1 Hs, ?_⟩
    | refine ⟨_, e1, ?_⟩
    | refine ⟨_, f1 Hx Hs, ?_⟩
    | refine ⟨_, f2 Hx Hs, ?_⟩
    | refine ifB_intro (fun h => ?_) (fun h => ?_))
end
end Go.Proofs.YtjaccjeejeiphaaGreatDoor.X
set_option maxHeartbeats 4000000
set_option maxRecDepth 8000
set_option linter.unusedSimpArgs false
set_option linter.unusedVariables false
open Nat renaming reduceBEq → N1, reduceAdd → N2, reduceSub → N3, reduceMul → N4, reduceEqDiff → N5, reduceLeDiff → N6, reduceLT → N7
open Int renaming reduceLE → I1, reduceLT → I2, reduceToNat → I3
namespace Go.Proofs.YtjaccjeejeiphaaGreatDoor.X
open Go
theorem has_ints {k : Nat} {xs : List AV} (h : Has Tryz.prog (k + 2) 26 xs) : ∃ l, xs = [.sl (ints l)] ∧ l.length < 2 ^ 50 := by
  obtain ⟨es, rfl, _, hb, he⟩ := has_slice tk_26 h
  rw [bo_3] at hb
  obtain ⟨l, rfl⟩ := all_map (f := fun n : Int => [AV.int .i64 n]) (es := es) fun e hx => by
    obtain ⟨n, hn, _⟩ := has_int tk_3 (he e hx).2
    exact ⟨n, hn⟩
  simp only [reachBytes, List.length_map] at hb
  exact ⟨l, rfl, by omega⟩
theorem all_map2 {α : Type} {f : α → List AV} {p : α → Prop} {es : List (List AV)} (h : ∀ e ∈ es, ∃ x, e = f x ∧ p x) : ∃ l : List α, es = l.map f ∧ ∀ x ∈ l, p x := by
  induction es with
  | nil => exact ⟨[], rfl, by simp⟩
  | cons e es ih =>
    obtain ⟨l, hl, hp⟩ := ih fun x hx => h x (by simp [hx])
    obtain ⟨x, hx, px⟩ := h e (by simp)
    exact ⟨x :: l, by rw [hl, hx]; rfl, by simp only [List.mem_cons, forall_eq_or_imp]; exact ⟨px, hp⟩⟩
theorem has_ter {k : Nat} {xs : List AV} (h : Has Tryz.prog (k + 9) 213 xs) : ∃ t : Ter, xs = terF t ∧ t.n.size < 2 ^ 50 ∧ t.c.length < 2 ^ 50 := by
  have h := has_struct sty_213 h
  obtain ⟨x0, r, rfl, _, h0, h⟩ := hasE_cons h
  obtain ⟨x1, r, rfl, _, h1, h⟩ := hasE_cons h
  obtain ⟨x2, r, rfl, _, h2, h⟩ := hasE_cons h
  obtain ⟨x3, r, rfl, _, h3, h⟩ := hasE_cons h
  obtain ⟨x4, r, rfl, _, h4, h⟩ := hasE_cons h
  obtain rfl := hasE_nil h
  obtain ⟨n, rfl, hn⟩ := has_str tk_9 h0
  obtain ⟨c, rfl, hc⟩ := has_ints h1
  obtain ⟨s, rfl, _⟩ := has_int tk_3 h2
  obtain ⟨e, rfl, _⟩ := has_int tk_3 h3
  obtain ⟨b, rfl⟩ := has_bool tk_4 h4
  simp only [reachBytes] at hn
  exact ⟨⟨n, c, s, e, b⟩, rfl, by show n.size < _; omega, hc⟩
theorem has_kin {k : Nat} {xs : List AV} (h : Has Tryz.prog (k + 9) 215 xs) : ∃ t : Kin, xs = kinA t ∧ t.n.size < 2 ^ 50 := by
  have h := has_struct sty_215 h
  obtain ⟨x0, r, rfl, _, h0, h⟩ := hasE_cons h
  obtain ⟨x1, r, rfl, _, h1, h⟩ := hasE_cons h
  obtain ⟨x2, r, rfl, _, h2, h⟩ := hasE_cons h
  obtain ⟨x3, r, rfl, _, h3, h⟩ := hasE_cons h
  obtain ⟨x4, r, rfl, _, h4, h⟩ := hasE_cons h
  obtain ⟨x5, r, rfl, _, h5, h⟩ := hasE_cons h
  obtain rfl := hasE_nil h
  obtain ⟨n, rfl, hn⟩ := has_str tk_9 h0
  obtain ⟨s, rfl, _⟩ := has_int tk_3 h1
  obtain ⟨m, rfl, _⟩ := has_int tk_3 h2
  obtain ⟨p, rfl, _⟩ := has_int tk_3 h3
  obtain ⟨z, rfl⟩ := has_bool tk_4 h4
  obtain ⟨v, rfl, _⟩ := has_int tk_3 h5
  simp only [reachBytes] at hn
  exact ⟨⟨n, s, m, p, z, v⟩, rfl, by show n.size < _; omega⟩
theorem has_rul {k : Nat} {xs : List AV} (h : Has Tryz.prog (k + 16) 25 xs) : ∃ r : Rul, xs = rulF r ∧ RulB (2 ^ 50) r := by
  have h := has_struct sty_25 h
  obtain ⟨x0, r, rfl, _, h0, h⟩ := hasE_cons h
  obtain ⟨x1, r, rfl, _, h1, h⟩ := hasE_cons h
  obtain ⟨x2, r, rfl, _, h2, h⟩ := hasE_cons h
  obtain ⟨x3, r, rfl, _, h3, h⟩ := hasE_cons h
  obtain ⟨x4, r, rfl, _, h4, h⟩ := hasE_cons h
  obtain ⟨x5, r, rfl, _, h5, h⟩ := hasE_cons h
  obtain ⟨x6, r, rfl, _, h6, h⟩ := hasE_cons h
  obtain rfl := hasE_nil h
  obtain ⟨es, rfl, _, hb, he⟩ := has_slice tk_22 h0
  obtain ⟨ts, rfl, ht⟩ := all_map2 (f := terF) (es := es) fun e hx => has_ter (he e hx).2
  obtain ⟨fs, rfl, _, hc, hf⟩ := has_slice tk_23 h1
  obtain ⟨ks, rfl, hk⟩ := all_map2 (f := kinA) (es := fs) fun e hx => has_kin (hf e hx).2
  obtain ⟨a, rfl, _⟩ := has_int tk_3 h2
  obtain ⟨b, rfl, _⟩ := has_int tk_3 h3
  obtain ⟨c, rfl, _⟩ := has_int tk_3 h4
  obtain ⟨d, rfl, _⟩ := has_int tk_3 h5
  obtain ⟨e, rfl, _⟩ := has_int tk_3 h6
  rw [bo_213] at hb
  rw [bo_215] at hc
  simp only [reachBytes, List.length_map] at hb hc
  exact ⟨⟨ts, ks, a, b, c, d, e⟩, rfl, ⟨by show ts.length < _; omega, by show ks.length < _; omega, ht, hk⟩⟩
theorem has_mp {k : Nat} {xs : List AV} (h : Has Tryz.prog (k + 16) 28 xs) : ∃ m : Mp, xs = mpF m ∧ MpB (2 ^ 50) m := by
  have h := has_struct sty_28 h
  obtain ⟨x0, r, rfl, _, h0, h⟩ := hasE_cons h
  obtain ⟨x1, r, rfl, _, h1, h⟩ := hasE_cons h
  obtain ⟨x2, r, rfl, _, h2, h⟩ := hasE_cons h
  obtain ⟨x3, r, rfl, _, h3, h⟩ := hasE_cons h
  obtain ⟨x4, r, rfl, _, h4, h⟩ := hasE_cons h
  obtain rfl := hasE_nil h
  obtain ⟨w, rfl, _⟩ := has_int tk_3 h0
  obtain ⟨e, rfl, _⟩ := has_int tk_3 h1
  obtain ⟨t, rfl, ht⟩ := has_ints h2
  obtain ⟨ri, rfl, hri⟩ := has_ints h3
  obtain ⟨ro, rfl, hro⟩ := has_ints h4
  exact ⟨⟨w, e, t, ri, ro⟩, rfl, ⟨ht, hri, hro⟩⟩
theorem has_brd {k : Nat} {xs : List AV} (h : Has Tryz.prog (k + 20) 30 xs) : ∃ b : Brd, xs = rulF b.r ++ mpF b.m ∧ BrdB (2 ^ 50) b := by
  have h := has_struct sty_30 h
  obtain ⟨x0, r, rfl, _, h0, h⟩ := hasE_cons h
  obtain ⟨x1, r, rfl, _, h1, h⟩ := hasE_cons h
  obtain rfl := hasE_nil h
  obtain ⟨r, rfl, hr⟩ := has_rul h0
  obtain ⟨m, rfl, hm⟩ := has_mp h1
  exact ⟨⟨r, m⟩, by simp only [List.append_nil], ⟨hr, hm⟩⟩
theorem hasV_brd {k : Nat} {x : AV} (hv : HasV Tryz.prog (k + 20) 30 x) : ∃ b : Brd, x = brdF b ∧ BrdB (2 ^ 50) b := by
  obtain ⟨ys, rfl, h⟩ := hasV_struct sty_30 hv
  obtain ⟨x0, r, rfl, _, h0, h⟩ := hasE_cons h
  obtain ⟨x1, r, rfl, _, h1, h⟩ := hasE_cons h
  obtain rfl := hasE_nil h
  obtain ⟨r, rfl, hr⟩ := has_rul h0
  obtain ⟨m, rfl, hm⟩ := has_mp h1
  exact ⟨⟨r, m⟩, by simp only [brdF, List.append_nil], ⟨hr, hm⟩⟩
end Go.Proofs.YtjaccjeejeiphaaGreatDoor.X
set_option maxHeartbeats 1000000
set_option maxRecDepth 8000
set_option linter.unusedSimpArgs false
set_option linter.unusedVariables false
open Nat renaming reduceBEq → N1, reduceAdd → N2, reduceSub → N3, reduceMul → N4, reduceEqDiff → N5, reduceLeDiff → N6, reduceLT → N7
open Int renaming reduceLE → I1, reduceLT → I2, reduceToNat → I3
namespace Go.Proofs.YtjaccjeejeiphaaGreatDoor.X
open Go
theorem hasV_sta {k : Nat} {x : AV} (hv : HasV Tryz.prog (k + 20) 33 x) : ∃ s : Sta, x = .agg (staF s) ∧ s.us.length < 2 ^ 50 := by
  obtain ⟨ys, rfl, h⟩ := hasV_struct sty_33 hv
  obtain ⟨x0, r, rfl, _, h0, h⟩ := hasE_cons h
  obtain ⟨x1, r, rfl, _, h1, h⟩ := hasE_cons h
  obtain ⟨x2, r, rfl, _, h2, h⟩ := hasE_cons h
  obtain rfl := hasE_nil h
  obtain ⟨a, rfl, _⟩ := has_int tk_3 h0
  obtain ⟨b, rfl, _⟩ := has_int tk_3 h1
  obtain ⟨es, rfl, _, hb, he⟩ := has_slice tk_31 h2
  obtain ⟨us, rfl⟩ := all_map (f := unA) (es := es) fun e hx => by
    have h := has_struct sty_170 (he e hx).2
    obtain ⟨x0, r, rfl, _, h0, h⟩ := hasE_cons h
    obtain ⟨x1, r, rfl, _, h1, h⟩ := hasE_cons h
    obtain ⟨x2, r, rfl, _, h2, h⟩ := hasE_cons h
    obtain ⟨x3, r, rfl, _, h3, h⟩ := hasE_cons h
    obtain rfl := hasE_nil h
    obtain ⟨a, rfl, _⟩ := has_int tk_3 h0
    obtain ⟨b, rfl, _⟩ := has_int tk_3 h1
    obtain ⟨c, rfl, _⟩ := has_int tk_3 h2
    obtain ⟨d, rfl, _⟩ := has_int tk_3 h3
    exact ⟨⟨a, b, c, d⟩, rfl⟩
  rw [bo_170] at hb
  simp only [reachBytes, List.length_map] at hb
  exact ⟨⟨a, b, us⟩, rfl, by show us.length < _; omega⟩
end Go.Proofs.YtjaccjeejeiphaaGreatDoor.X
set_option maxHeartbeats 1000000
set_option maxRecDepth 8000
set_option linter.unusedSimpArgs false
set_option linter.unusedVariables false
open Nat renaming reduceBEq → N1, reduceAdd → N2, reduceSub → N3, reduceMul → N4, reduceEqDiff → N5, reduceLeDiff → N6, reduceLT → N7
open Int renaming reduceLE → I1, reduceLT → I2, reduceToNat → I3
namespace Go.Proofs.YtjaccjeejeiphaaGreatDoor.X
open Go
theorem has_intss {k : Nat} {xs : List AV} (h : Has Tryz.prog (k + 3) 60 xs) : ∃ W, xs = [.sl (intss W)] ∧ SSB (2 ^ 50) W := by
  obtain ⟨es, rfl, _, hb, he⟩ := has_slice tk_60 h
  rw [bo_26] at hb
  obtain ⟨W, rfl, hr⟩ := all_map2 (f := fun r : List Int => [AV.sl (ints r)]) (p := fun r => r.length < 2 ^ 50) (es := es) fun e hx => by
    obtain ⟨l, rfl, hl⟩ := has_ints (he e hx).2
    exact ⟨l, rfl, hl⟩
  simp only [reachBytes, List.length_map] at hb
  exact ⟨W, rfl, ⟨by omega, hr⟩⟩
theorem has_od {k : Nat} {xs : List AV} (h : Has Tryz.prog (k + 6) 229 xs) : ∃ p : Od, xs = odA p := by
  have h := has_struct sty_229 h
  obtain ⟨x1, r, rfl, _, h1, h⟩ := hasE_cons h
  obtain ⟨x2, r, rfl, _, h2, h⟩ := hasE_cons h
  obtain rfl := hasE_nil h
  obtain ⟨a, rfl, _⟩ := has_int tk_3 h1
  obtain ⟨b, rfl, _⟩ := has_int tk_3 h2
  exact ⟨⟨a, b⟩, rfl⟩
theorem has_ct {k : Nat} {xs : List AV} (h : Has Tryz.prog (k + 12) 62 xs) : ∃ t : Ct, xs = ctF t ∧ CtB (2 ^ 50) t := by
  have h := has_struct sty_62 h
  obtain ⟨x0, r, rfl, _, h0, h⟩ := hasE_cons h
  obtain ⟨x1, r, rfl, _, h1, h⟩ := hasE_cons h
  obtain ⟨x2, r, rfl, _, h2, h⟩ := hasE_cons h
  obtain rfl := hasE_nil h
  obtain ⟨es, rfl, _, hb, he⟩ := has_slice tk_59 h0
  obtain ⟨cs, rfl⟩ := all_map (f := odA) (es := es) fun e hx => has_od (he e hx).2
  obtain ⟨d, rfl, _⟩ := has_int tk_3 h1
  obtain ⟨rs, rfl, hr⟩ := has_intss h2
  rw [bo_229] at hb
  simp only [reachBytes, List.length_map] at hb
  exact ⟨⟨cs, d, rs⟩, rfl, ⟨by show cs.length < _; omega, hr⟩⟩
theorem has_cl {k : Nat} {xs : List AV} (h : Has Tryz.prog (k + 8) 64 xs) : ∃ W, xs = [.sl (intss W)] ∧ SSB (2 ^ 50) W := by
  have h := has_struct sty_64 h
  obtain ⟨x0, r, rfl, _, h0, h⟩ := hasE_cons h
  obtain rfl := hasE_nil h
  obtain ⟨W, rfl, hr⟩ := has_intss h0
  exact ⟨W, rfl, hr⟩
theorem hasV_se {k : Nat} {x : AV} (hv : HasV Tryz.prog (k + 26) 66 x) : ∃ s : Se, x = seF s ∧ SeB (2 ^ 50) s := by
  obtain ⟨ys, rfl, h⟩ := hasV_struct sty_66 hv
  obtain ⟨x0, r, rfl, _, h0, h⟩ := hasE_cons h
  obtain ⟨x1, r, rfl, _, h1, h⟩ := hasE_cons h
  obtain ⟨x2, r, rfl, _, h2, h⟩ := hasE_cons h
  obtain ⟨x3, r, rfl, _, h3, h⟩ := hasE_cons h
  obtain rfl := hasE_nil h
  obtain ⟨b, rfl, hb⟩ := has_brd h0
  obtain ⟨t, rfl, ht⟩ := has_ct h1
  obtain ⟨c, rfl, hc⟩ := has_cl h2
  obtain ⟨w, rfl, hw⟩ := has_intss h3
  exact ⟨⟨b, t, c, w⟩, by simp only [seF, List.append_nil, List.append_assoc, List.cons_append, List.nil_append], ⟨hb, ht, hc, hw⟩⟩
end Go.Proofs.YtjaccjeejeiphaaGreatDoor.X
set_option maxHeartbeats 1000000
set_option maxRecDepth 8000
set_option linter.unusedSimpArgs false
set_option linter.unusedVariables false
open Nat renaming reduceBEq → N1, reduceAdd → N2, reduceSub → N3, reduceMul → N4, reduceEqDiff → N5, reduceLeDiff → N6, reduceLT → N7
open Int renaming reduceLE → I1, reduceLT → I2, reduceToNat → I3
namespace Go.Proofs.YtjaccjeejeiphaaGreatDoor.X
open Go
theorem lawBestSource_C {C : CT} (hC : Closed Tryz.prog G1 md0 C) : ∀ xs, HasVs Tryz.prog 30 [66, 33, 3] xs → Ev C 14 xs (.bool true) := by
  rintro xs ⟨x0, r0, rfl, h0, x1, r1, rfl, h1, x2, r2, rfl, h2, rfl⟩
  obtain ⟨x, rfl, hx⟩ := hasV_se h0
  obtain ⟨s, rfl, hs⟩ := hasV_sta h1
  obtain ⟨d, rfl, _⟩ := hasV_int tk_3 h2
  exact t14 hC x s d hx hs
theorem lawBestSource : ∀ xs, HasVs Tryz.prog 30 [66, 33, 3] xs → Ev (CS Tryz.prog G1) 14 xs (.bool true) := lawBestSource_C (CS_closed (by kernel_rfl))
end Go.Proofs.YtjaccjeejeiphaaGreatDoor.X
