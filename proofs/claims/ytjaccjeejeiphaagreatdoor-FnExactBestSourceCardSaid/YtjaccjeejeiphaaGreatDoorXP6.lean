/- A part of the proof: lemmas on the machine or on the functions that the law reaches. No condition of its own. -/
import Derived.Test.YtjaccjeejeiphaaGreatDoorXP5
import Derived.Test.YtjaccjeejeiphaaGreatDoorXP4
set_option maxHeartbeats 4000000
set_option maxRecDepth 8000
set_option linter.unusedSimpArgs false
set_option linter.unusedVariables false
open Nat renaming reduceBEq → N1, reduceAdd → N2, reduceSub → N3, reduceMul → N4, reduceEqDiff → N5, reduceLeDiff → N6, reduceLT → N7
open Int renaming reduceLE → I1, reduceLT → I2, reduceToNat → I3
namespace Go.Proofs.YtjaccjeejeiphaaGreatDoor.X
open Go
attribute [local irreducible] Ev
theorem zon_at {b : Brd} {u : Un} (hw : 1 ≤ b.m.w * b.m.h) (h : unOk b u = true) : u.at_ < b.m.w * b.m.h := by
  simp only [unOk, placed, inR, Bool.and_eq_true, Bool.or_eq_true, decide_eq_true_eq] at h
  omega
section
variable {C : CT} (hC : Closed Tryz.prog G1 md0 C)
include hC
theorem t172 (b : Brd) (u : Un) (i : Int) (g : brdOk b = true) (hu : unOk b u = true) (hi : inR 0 (b.m.w * b.m.h - 1) i = true) (hb : BrdB (2^50) b) : Ev C 172 [brdF b, .agg (unA u), .int .i64 i] (.bool (zonOf b u i)) := by
  have hm := mp_wh (brd_mp g)
  have hwh := brd_wh g
  have hk := un_kind g (by simp only [unOk, Bool.and_eq_true] at hu; exact hu.1.1.2)
  have hk' := kind_at hk
  have hat := zon_at hwh.2.1 hu
  have c1 := t151 hC b u.k i g (by simp only [unOk, Bool.and_eq_true] at hu; exact hu.1.1.2) hi hb
  have c2 := fun a d (h1 : 0 ≤ a) (h2 : a < 300) (h3 : d < 6) => t223 hC b.m a (d : Nat) hm.1 hm.2 ⟨h1, h2⟩ ⟨by omega, by omega⟩
  have c4 := fun a d (h1 : 0 ≤ a) (h2 : a < 100) (h3 : d < 6) (h4 : 0 ≤ nextM b.m a (d : Nat)) => t225 hC b.m a d hm.1 hm.2 ⟨h1, h2⟩ h3 h4
  have c5 := fun e => t224 hC b.m e hb.m
  obtain ⟨k, ek⟩ : ∃ m : Nat, u.k = m := ⟨u.k.toNat, by omega⟩
  have e1 := kins_get (b := b) (k := k) (by omega)
  have b2 := hb.r.ks
  have hi' := hi
  simp only [inR, Bool.and_eq_true, decide_eq_true_eq] at hi'
  skip
  simp only [brdF, rulF, mpF, List.cons_append, List.nil_append, unA, staF] at *
  refine rT hC Q172 ?_
  simp only [c172, push_cast, ↓J1, ↓J2, N1, N2, N3, reduceCtorEq, N4, N5, N6, reduceIte, N7, I1, I2, I3]
  have z0 : decide (u.at_ < 0) = !decide (0 ≤ u.at_) := by rw [Bool.eq_iff_iff]; simp
  simp only [z0, push_cast, ↓J1, ↓J2, N1, N2, N3, reduceCtorEq, N4, N5, N6, reduceIte, N7, I1, I2, I3]
  cases g1 : decide (0 ≤ u.at_)
  · simp only [zonOf, g1, Bool.false_and, push_cast, ↓J1, ↓J2, N1, N2, N3, reduceCtorEq, N4, N5, N6, reduceIte, N7, I1, I2, I3]
  simp only [ek, Int.toNat_natCast, e1, kinA, kins_length, push_cast, ↓J1, ↓J2, N1, N2, N3, reduceCtorEq, N4, N5, N6, reduceIte, N7, I1, I2, I3]
  repeat (refine ⟨by omega, ?_⟩)
  rw [← ek]
  cases g2 : (kindOf b u.k).z
  · simp only [zonOf, g1, g2, Bool.false_and, Bool.and_false, push_cast, ↓J1, ↓J2, N1, N2, N3, reduceCtorEq, N4, N5, N6, reduceIte, N7, I1, I2, I3]
  simp only [push_cast, ↓J1, ↓J2, N1, N2, N3, reduceCtorEq, N4, N5, N6, reduceIte, N7, I1, I2, I3]
  refine ⟨_, c1, ?_⟩
  cases g3 : decide (costAt b u.k i = 0)
  rotate_left
  · simp only [zonOf, g1, g2, g3, Bool.not_true, Bool.false_and, Bool.and_false, push_cast, ↓J1, ↓J2, N1, N2, N3, reduceCtorEq, N4, N5, N6, reduceIte, N7, I1, I2, I3]
  have h0 := of_decide_eq_true g1
  rw [show zonOf b u i = wayFree b u.at_ i by simp only [zonOf, g1, g2, g3, Bool.not_false, Bool.true_and, Bool.and_self]]
  simp only [g3, push_cast, ↓J1, ↓J2, N1, N2, N3, reduceCtorEq, N4, N5, N6, reduceIte, N7, I1, I2, I3]
  refine RL_count (fun j => ⟨tb 51 .any [(2, .int .i64 i), (3, .ptr 0 none 0 0 0), (4, .ptr 1 none 0 0 0), (30, .int .i64 (j : Int))], [(1, .var (unA u)), (0, .var (rulF b.r ++ mpF b.m))], 2⟩) (fun j => ∀ d, d < j → decide (nextM b.m u.at_ (d : Nat) = i) = false) 6 0 (hdA [(1, 1), (0, 0)]) (by omega) (by intro d h; omega) fun j hj ht J hJ => ?_
  simp only [brdF, rulF, mpF, List.cons_append, List.nil_append, unA]
  by_cases h1 : j < 6
  · have c3 := c2 u.at_ j h0 (by omega) h1
    have g5 : decide ((j : Int) < 6) = true := decide_eq_true (by omega)
    simp only [g5, push_cast, ↓J1, ↓J2, N1, N2, N3, reduceCtorEq, N4, N5, N6, reduceIte, N7, I1, I2, I3]
    refine ⟨_, c3, ?_⟩
    cases g4 : decide (nextM b.m u.at_ (j : Int) = i)
    · simp only [g4, push_cast, ↓J1, ↓J2, N1, N2, N3, reduceCtorEq, N4, N5, N6, reduceIte, N7, I1, I2, I3]
      refine hJ h1 ?_ _ (hdA [(1, 1), (0, 0)])
      intro d hd
      by_cases hdj : d = j
      · subst hdj; exact g4
      · exact ht d (by omega)
    · have hw : wayFree b u.at_ i = freeE b.m (edgeM b.m u.at_ j) := by
        simp only [wayFree, first6_at (p := fun d => decide (nextM b.m u.at_ (d : Nat) = i)) h1 g4 ht]
      rw [hw]
      have hn := of_decide_eq_true g4
      simp only [g4, push_cast, ↓J1, ↓J2, N1, N2, N3, reduceCtorEq, N4, N5, N6, reduceIte, N7, I1, I2, I3]
      refine ⟨_, c4 u.at_ j h0 (by omega) h1 (by omega), ?_⟩
      simp only [push_cast, ↓J1, ↓J2, N1, N2, N3, reduceCtorEq, N4, N5, N6, reduceIte, N7, I1, I2, I3]
      refine ⟨_, c5 _, ?_⟩
      simp only [push_cast, ↓J1, ↓J2, N1, N2, N3, reduceCtorEq, N4, N5, N6, reduceIte, N7, I1, I2, I3]
  · have hw : wayFree b u.at_ i = false := by
      simp only [wayFree, first6_no (p := fun d => decide (nextM b.m u.at_ (d : Nat) = i)) fun d hd => ht d (by omega)]
    rw [hw]
    have g5 : decide ((j : Int) < 6) = false := decide_eq_false (by omega)
    simp only [g5, push_cast, ↓J1, ↓J2, N1, N2, N3, reduceCtorEq, N4, N5, N6, reduceIte, N7, I1, I2, I3]
theorem t220 (b : Brd) (s : Sta) (n : Nat) (hn : n < s.us.length) (hl : s.us.length < 2^40) (i : Int) (g : brdOk b = true) (hu : unOk b (unOf s n) = true) (hi : inR 0 (b.m.w * b.m.h - 1) i = true) (hb : BrdB (2^50) b) : Ev C 220 [brdF b, .agg (staF s), .int .i64 (n : Int), .int .i64 i] (.bool (zonOf b (unOf s n) i)) := by
  have hm := mp_wh (brd_mp g)
  have hwh := brd_wh g
  have hk := un_kind g (by simp only [unOk, Bool.and_eq_true] at hu; exact hu.1.1.2)
  have hk' := kind_at hk
  have hat := zon_at hwh.2.1 hu
  have c1 := t143 hC b (unOf s n).k i g (by simp only [unOk, Bool.and_eq_true] at hu; exact hu.1.1.2) hi hb
  have c2 := fun a d (h1 : 0 ≤ a) (h2 : a < 300) (h3 : d < 6) => t189 hC b.m a (d : Nat) hm.1 hm.2 ⟨h1, h2⟩ ⟨by omega, by omega⟩
  have c4 := fun a d (h1 : 0 ≤ a) (h2 : a < 100) (h3 : d < 6) => t271 hC b.m a d hm.1 hm.2 ⟨h1, h2⟩ h3 hb.m
  have c5 := fun a d (h1 : 0 ≤ a) (h2 : a < 100) (h3 : d < 6) => t272 hC b.m a d hm.1 hm.2 ⟨h1, h2⟩ h3 hb.m
  obtain ⟨k, ek⟩ : ∃ m : Nat, (unOf s n).k = m := ⟨(unOf s n).k.toNat, by omega⟩
  have e1 := kins_get (b := b) (k := k) (by omega)
  have b2 := hb.r.ks
  have hi' := hi
  simp only [inR, Bool.and_eq_true, decide_eq_true_eq] at hi'
  have e0 := uns_un hn
  generalize unOf s n = u at *
  simp only [brdF, rulF, mpF, List.cons_append, List.nil_append, unA, staF] at *
  refine rT hC Q220 ?_
  simp only [c220, push_cast, ↓J1, ↓J2, N1, N2, N3, reduceCtorEq, N4, N5, N6, reduceIte, N7, I1, I2, I3]
  simp only [Int.toNat_natCast, e0, uns_length, push_cast, ↓J1, ↓J2, N1, N2, N3, reduceCtorEq, N4, N5, N6, reduceIte, N7, I1, I2, I3]
  repeat (refine ⟨by omega, ?_⟩)
  have z0 : decide (u.at_ < 0) = !decide (0 ≤ u.at_) := by rw [Bool.eq_iff_iff]; simp
  simp only [z0, push_cast, ↓J1, ↓J2, N1, N2, N3, reduceCtorEq, N4, N5, N6, reduceIte, N7, I1, I2, I3]
  cases g1 : decide (0 ≤ u.at_)
  · simp only [zonOf, g1, Bool.false_and, push_cast, ↓J1, ↓J2, N1, N2, N3, reduceCtorEq, N4, N5, N6, reduceIte, N7, I1, I2, I3]
  simp only [ek, Int.toNat_natCast, e1, kinA, kins_length, push_cast, ↓J1, ↓J2, N1, N2, N3, reduceCtorEq, N4, N5, N6, reduceIte, N7, I1, I2, I3]
  repeat (refine ⟨by omega, ?_⟩)
  rw [← ek]
  cases g2 : (kindOf b u.k).z
  · simp only [zonOf, g1, g2, Bool.false_and, Bool.and_false, push_cast, ↓J1, ↓J2, N1, N2, N3, reduceCtorEq, N4, N5, N6, reduceIte, N7, I1, I2, I3]
  simp only [push_cast, ↓J1, ↓J2, N1, N2, N3, reduceCtorEq, N4, N5, N6, reduceIte, N7, I1, I2, I3]
  refine ⟨_, c1, ?_⟩
  cases g3 : decide (costAt b u.k i = 0)
  rotate_left
  · simp only [zonOf, g1, g2, g3, Bool.not_true, Bool.false_and, Bool.and_false, push_cast, ↓J1, ↓J2, N1, N2, N3, reduceCtorEq, N4, N5, N6, reduceIte, N7, I1, I2, I3]
  have h0 := of_decide_eq_true g1
  rw [show zonOf b u i = wayFree b u.at_ i by simp only [zonOf, g1, g2, g3, Bool.not_false, Bool.true_and, Bool.and_self]]
  simp only [g3, push_cast, ↓J1, ↓J2, N1, N2, N3, reduceCtorEq, N4, N5, N6, reduceIte, N7, I1, I2, I3]
  refine RL_count (fun j => ⟨tb 65 .any [(3, .int .i64 i), (4, .ptr 0 none 0 0 0), (9, .ptr 1 none 0 0 0), (10, .int .i64 (j : Int))], [(1, .var (unA u)), (0, .var (rulF b.r ++ mpF b.m))], 2⟩) (fun j => ∀ d, d < j → decide (nextM b.m u.at_ (d : Nat) = i) = false) 6 0 (hdA [(2, 1), (0, 0)]) (by omega) (by intro d h; omega) fun j hj ht J hJ => ?_
  simp only [brdF, rulF, mpF, List.cons_append, List.nil_append, unA]
  by_cases h1 : j < 6
  · have c3 := c2 u.at_ j h0 (by omega) h1
    have g5 : decide ((j : Int) < 6) = true := decide_eq_true (by omega)
    simp only [g5, push_cast, ↓J1, ↓J2, N1, N2, N3, reduceCtorEq, N4, N5, N6, reduceIte, N7, I1, I2, I3]
    refine ⟨_, c3, ?_⟩
    cases g4 : decide (nextM b.m u.at_ (j : Int) = i)
    · simp only [g4, push_cast, ↓J1, ↓J2, N1, N2, N3, reduceCtorEq, N4, N5, N6, reduceIte, N7, I1, I2, I3]
      refine hJ h1 ?_ _ (hdA [(1, 1), (0, 0)])
      intro d hd
      by_cases hdj : d = j
      · subst hdj; exact g4
      · exact ht d (by omega)
    · have hw : wayFree b u.at_ i = freeE b.m (edgeM b.m u.at_ j) := by
        simp only [wayFree, first6_at (p := fun d => decide (nextM b.m u.at_ (d : Nat) = i)) h1 g4 ht]
      rw [hw]
      have hn := of_decide_eq_true g4
      simp only [g4, push_cast, ↓J1, ↓J2, N1, N2, N3, reduceCtorEq, N4, N5, N6, reduceIte, N7, I1, I2, I3]
      refine ⟨_, c4 u.at_ j h0 (by omega) h1, ?_⟩
      simp only [freeE]
      cases g6 : hasI b.m.ri (edgeM b.m u.at_ j)
      · simp only [push_cast, ↓J1, ↓J2, N1, N2, N3, reduceCtorEq, N4, N5, N6, reduceIte, N7, I1, I2, I3]
      simp only [push_cast, ↓J1, ↓J2, N1, N2, N3, reduceCtorEq, N4, N5, N6, reduceIte, N7, I1, I2, I3]
      refine ⟨_, c5 u.at_ j h0 (by omega) h1, ?_⟩
      simp only [push_cast, ↓J1, ↓J2, N1, N2, N3, reduceCtorEq, N4, N5, N6, reduceIte, N7, I1, I2, I3]
  · have hw : wayFree b u.at_ i = false := by
      simp only [wayFree, first6_no (p := fun d => decide (nextM b.m u.at_ (d : Nat) = i)) fun d hd => ht d (by omega)]
    rw [hw]
    have g5 : decide ((j : Int) < 6) = false := decide_eq_false (by omega)
    simp only [g5, push_cast, ↓J1, ↓J2, N1, N2, N3, reduceCtorEq, N4, N5, N6, reduceIte, N7, I1, I2, I3]
theorem t96 (b : Brd) (s : Sta) (sd i : Int) (g : brdOk b = true) (hu : s.us.all (unOk b) = true) (hi : inR 0 (b.m.w * b.m.h - 1) i = true) (hb : BrdB (2^50) b) (hl : s.us.length < 2^40) : Ev C 96 [brdF b, .agg (staF s), .int .i64 sd, .int .i64 i] (.bool (inZon b s sd i)) := by
  have c1 := fun u h => t172 hC b u i g h hi hb
  simp only [brdF, rulF, mpF, List.cons_append, List.nil_append, staF] at *
  refine rT hC Q96 ?_
  simp only [c96, uns_length, push_cast, ↓J1, ↓J2, N1, N2, N3, reduceCtorEq, N4, N5, N6, reduceIte, N7, I1, I2, I3]
  refine RL_count (fun k => ⟨tb 29 .any [(2, .int .i64 sd), (3, .int .i64 i), (4, .ptr 0 none 0 0 0), (12, .sl (uns s.us)), (13, .int .i64 (s.us.length : Int)), (14, .int .i64 (k : Int))], [(0, .var (rulF b.r ++ mpF b.m))], 1⟩) (fun k => inZon b s sd i = (s.us.drop k).any (zonS b sd i)) s.us.length 0 (hdA [(0, 0)]) (by omega) rfl fun k hk ht J hJ => ?_
  simp only [brdF, rulF, mpF, List.cons_append, List.nil_append]
  by_cases h1 : k < s.us.length
  · have e1 := uns_get h1
    have hok := List.all_eq_true.1 hu _ (List.getElem_mem h1)
    rw [List.drop_eq_getElem_cons h1, List.any_cons] at ht
    generalize s.us[k] = u at *
    have c1' := c1 u hok
    simp only [Int.toNat_natCast, e1, unA, push_cast, ↓J1, ↓J2, N1, N2, N3, reduceCtorEq, N4, N5, N6, reduceIte, N7, I1, I2, I3] at c1' ⊢
    refine ifB_intro (fun _ => ?_) (fun h => by simp at h; omega)
    repeat (refine ⟨by omega, ?_⟩)
    cases g1 : decide (u.sd = sd)
    · have hz : zonS b sd i u = false := by simp only [zonS, g1, Bool.false_and]
      simp only [push_cast, ↓J1, ↓J2, N1, N2, N3, reduceCtorEq, N4, N5, N6, reduceIte, N7, I1, I2, I3]
      exact hJ h1 (by rw [ht, hz, Bool.false_or]) _ (hdA [(0, 0)])
    simp only [push_cast, ↓J1, ↓J2, N1, N2, N3, reduceCtorEq, N4, N5, N6, reduceIte, N7, I1, I2, I3]
    refine ⟨_, c1', ?_⟩
    cases g2 : zonOf b u i
    · have hz : zonS b sd i u = false := by simp only [zonS, g1, g2, Bool.and_false]
      simp only [push_cast, ↓J1, ↓J2, N1, N2, N3, reduceCtorEq, N4, N5, N6, reduceIte, N7, I1, I2, I3]
      exact hJ h1 (by rw [ht, hz, Bool.false_or]) _ (hdA [(0, 0)])
    · have hz : zonS b sd i u = true := by simp only [zonS, g1, g2, Bool.and_self]
      rw [ht, hz]
      simp only [Bool.true_or, push_cast, ↓J1, ↓J2, N1, N2, N3, reduceCtorEq, N4, N5, N6, reduceIte, N7, I1, I2, I3]
  · simp only [uns_length, push_cast, ↓J1, ↓J2, N1, N2, N3, reduceCtorEq, N4, N5, N6, reduceIte, N7, I1, I2, I3]
    refine ifB_intro (fun h => by simp at h; omega) (fun h => ?_)
    rw [ht, List.drop_eq_nil_of_le (by omega)]
    rfl
theorem t163 (b : Brd) (s : Sta) (sd i : Int) (g : brdOk b = true) (hu : s.us.all (unOk b) = true) (hi : inR 0 (b.m.w * b.m.h - 1) i = true) (hb : BrdB (2^50) b) (hl : s.us.length < 2^40) : Ev C 163 [brdF b, .agg (staF s), .int .i64 sd, .int .i64 i] (.ow 1 (ints (fil (zonS b sd i) s.us s.us.length))) := by
  have c1 := fun k hk h => t220 hC b s k hk hl i g h hi hb
  simp only [brdF, rulF, mpF, List.cons_append, List.nil_append, staF] at *
  refine rT hC Q163 ?_ (own_ints _)
  simp only [c163, uns_length, push_cast, ↓J1, ↓J2, N1, N2, N3, reduceCtorEq, N4, N5, N6, reduceIte, N7, I1, I2, I3]
  refine RL_count (fun i0 => ⟨tb 37 .any [(9, .ref 0 none 1 0 (fil (zonS b sd i) s.us i0).length), (2, .int .i64 sd), (3, .int .i64 i), (4, .ptr 2 none 0 0 0), (5, .ptr 1 none 0 0 0), (13, .sl (uns s.us)), (14, .int .i64 (s.us.length : Int)), (15, .int .i64 (i0 : Int))], [(0, .slice 1 (ints (fil (zonS b sd i) s.us i0))), (1, .var (staF s)), (2, .var (rulF b.r ++ mpF b.m))], 3⟩) (fun _ => True) s.us.length 0 (hdO 9 0 1 [(1, 1), (0, 2)]) (by omega) trivial fun i0 hi0 _ J hJ => ?_
  simp only [brdF, rulF, mpF, List.cons_append, List.nil_append, staF]
  by_cases h1 : i0 < s.us.length
  · have e1 := uns_get h1
    have e2 := fil_succ (p := (zonS b sd i)) h1
    have hfl := fil_le (p := (zonS b sd i)) hi0
    have tk : List.take (fil (zonS b sd i) s.us i0).length (ints (fil (zonS b sd i) s.us i0)) = ints (fil (zonS b sd i) s.us i0) := List.take_of_length_le (by rw [ints_length]; omega)
    have hok : unOk b (unOf s i0) = true := by simp only [unOf, List.getD, Int.toNat_natCast, List.getElem?_eq_getElem h1, Option.getD_some]; exact List.all_eq_true.1 hu _ (List.getElem_mem h1)
    have eu : unOf s i0 = s.us[i0] := by simp [unOf, List.getD, h1]
    rw [eu] at hok
    have c1 := c1 i0 h1
    rw [eu] at c1
    clear eu
    generalize s.us[i0] = u at *

    simp only [Int.toNat_natCast, e1, unA, push_cast, ↓J1, ↓J2, N1, N2, N3, reduceCtorEq, N4, N5, N6, reduceIte, N7, I1, I2, I3]
    refine ifB_intro (fun _ => ?_) (fun h => by simp at h; omega)
    repeat (refine ⟨by omega, ?_⟩)
    cases g1 : decide (u.sd = sd)
    · have hp : (zonS b sd i) u = false := by simp only [zonS, g1, Bool.false_and, Bool.and_false]
      rw [hp, if_neg Bool.false_ne_true] at e2
      simp only [g1, push_cast, ↓J1, ↓J2, N1, N2, N3, reduceCtorEq, N4, N5, N6, reduceIte, N7, I1, I2, I3]
      exact hJ h1 trivial _ (by rw [e2]; exact (hdA [(0, 0), (1, 1), (2, 2)]))
    simp only [g1, push_cast, ↓J1, ↓J2, N1, N2, N3, reduceCtorEq, N4, N5, N6, reduceIte, N7, I1, I2, I3]
    refine ⟨_, c1 hok, ?_⟩
    cases g2 : zonOf b u i
    · have hp : (zonS b sd i) u = false := by simp only [zonS, g1, g2, Bool.false_and, Bool.and_false]
      rw [hp, if_neg Bool.false_ne_true] at e2
      simp only [g1, g2, push_cast, ↓J1, ↓J2, N1, N2, N3, reduceCtorEq, N4, N5, N6, reduceIte, N7, I1, I2, I3]
      exact hJ h1 trivial _ (by rw [e2]; exact (hdA [(0, 0), (1, 1), (2, 2)]))
    have hp : (zonS b sd i) u = true := by simp only [zonS, g1, g2, Bool.and_self]
    rw [hp, if_pos rfl] at e2
    simp only [g1, g2, tk, ints_length, allScs, apYR_sc, push_cast, ↓J1, ↓J2, N1, N2, N3, reduceCtorEq, N4, N5, N6, reduceIte, N7, I1, I2, I3]
    repeat (refine ⟨by omega, ?_⟩)
    refine hJ h1 trivial _ ?_
    rw [e2]
    refine (hdA [(5, 0), (1, 1), (2, 2)] (hh := ?_))
    simp only [canR, canB, renO, renL, ren, lkp, hget, N7, N5, Nat.not_lt_zero, if_false, if_true, reduceIte, List.append_nil, List.nil_append, ints_sn]
    all_goals rfl
  · simp only [uns_length, push_cast, ↓J1, ↓J2, N1, N2, N3, reduceCtorEq, N4, N5, N6, reduceIte, N7, I1, I2, I3]
    refine ifB_intro (fun h => by simp at h; omega) (fun h => ?_)
    obtain rfl : i0 = s.us.length := by omega
    exact RetTo_ow rfl (by rw [ints_length])
end
end Go.Proofs.YtjaccjeejeiphaaGreatDoor.X
set_option maxHeartbeats 4000000
set_option maxRecDepth 8000
set_option linter.unusedSimpArgs false
set_option linter.unusedVariables false
open Nat renaming reduceBEq → N1, reduceAdd → N2, reduceSub → N3, reduceMul → N4, reduceEqDiff → N5, reduceLeDiff → N6, reduceLT → N7
open Int renaming reduceLE → I1, reduceLT → I2, reduceToNat → I3
namespace Go.Proofs.YtjaccjeejeiphaaGreatDoor.X
open Go
attribute [local irreducible] Ev
def inHex (i : Int) (u : Un) : Bool := decide (u.at_ = i)
def owner (s : Sta) (i : Int) : Int := match s.us.find? (inHex i) with
  | some u => u.sd
  | none => -1
theorem find_drop {α : Type} {p : α → Bool} : ∀ {l : List α} {k : Nat}, (∀ j (h : j < l.length), j < k → p l[j] = false) → l.find? p = (l.drop k).find? p
  | [], k, _ => by simp
  | x :: l, 0, _ => by simp
  | x :: l, k + 1, h => by
    have h0 := h 0 (by simp) (by omega)
    simp only [List.getElem_cons_zero] at h0
    rw [List.find?_cons_of_neg (by simp [h0]), List.drop_succ_cons]
    exact find_drop fun j hj hk => by
      have := h (j + 1) (by simp; omega) (by omega)
      rwa [List.getElem_cons_succ] at this
theorem owner_at {s : Sta} {i : Int} {k : Nat} (h : k < s.us.length) (hp : inHex i s.us[k] = true) (hn : ∀ j (h : j < s.us.length), j < k → inHex i s.us[j] = false) : owner s i = s.us[k].sd := by
  simp only [owner, find_drop hn, List.drop_eq_getElem_cons h, List.find?_cons_of_pos hp]
theorem owner_no {s : Sta} {i : Int} (hn : ∀ j (h : j < s.us.length), inHex i s.us[j] = false) : owner s i = -1 := by
  simp only [owner, find_drop (k := s.us.length) (fun j hj _ => hn j hj), List.drop_length, List.find?_nil]
theorem owner_sd {s : Sta} {b : Brd} (hu : s.us.all (unOk b) = true) (i : Int) : owner s i = -1 ∨ owner s i = 0 ∨ owner s i = 1 := by
  simp only [owner]
  split
  · rename_i u h
    have := un_sd (List.all_eq_true.1 hu _ (List.mem_of_find?_eq_some h))
    omega
  · simp
theorem inZon_fil {b : Brd} {s : Sta} {sd i : Int} : decide (0 < (((fil (zonS b sd i) s.us s.us.length).length : Nat) : Int)) = inZon b s sd i := by
  rw [fil_len (Nat.le_refl _), List.take_length, inZon, Bool.eq_iff_iff, decide_eq_true_eq, List.any_eq_true]
  have : (0 : Int) < ((s.us.countP (zonS b sd i) : Nat) : Int) ↔ 0 < s.us.countP (zonS b sd i) := by omega
  rw [this, List.countP_pos_iff]
theorem sta_all {b : Brd} {s : Sta} (h : staOk b s = true) : s.us.all (unOk b) = true := by
  simp only [staOk, staOk0, Bool.and_eq_true] at h; exact h.2.1.2
theorem own_cnt {b : Brd} {s : Sta} {sd i : Int} (h : staOk b s = true) (hs : sd = 0 ∨ sd = 1) (hi : 0 ≤ i) (ho : owner s i ≠ 1 - sd) : (fil (inHex i) s.us s.us.length).length = cnt s.us i sd := by
  rw [fil_len (Nat.le_refl _), List.take_length]
  refine List.countP_congr fun u hu => ?_
  have hst : s.us.all (stackOk b s.us) = true := by simp only [staOk, staOk0, Bool.and_eq_true] at h; exact h.2.2
  have hun := sta_all h
  have key : ∀ u ∈ s.us, u.at_ = i → u.sd = 1 - sd → False := by
    intro u hu ha hsd
    simp only [owner] at ho
    split at ho
    · rename_i v hv
      have hv1 := List.mem_of_find?_eq_some hv
      have hv2 := List.find?_some hv
      simp only [inHex, decide_eq_true_eq] at hv2
      have hvs := un_sd (List.all_eq_true.1 hun _ hv1)
      have := List.all_eq_true.1 hst _ hv1
      simp only [stackOk, Bool.not_eq_true', Bool.and_eq_false_iff, Bool.or_eq_false_iff, decide_eq_false_iff_not, hv2] at this
      rcases this with this | ⟨this, _⟩
      · omega
      · apply this
        exact List.countP_pos_iff.2 ⟨u, hu, by simp only [isAt, Bool.and_eq_true, decide_eq_true_eq]; omega⟩
    · rename_i hv
      have := List.find?_eq_none.1 hv u hu
      simp [inHex, ha] at this
  have hus := un_sd (List.all_eq_true.1 hun _ hu)
  simp only [inHex, isAt, Bool.and_eq_true, decide_eq_true_eq]
  constructor
  · intro ha
    refine ⟨ha, ?_⟩
    have := key u hu ha
    rcases hus with e | e <;> rcases hs with e2 | e2 <;> first | omega | (exfalso; exact this (by omega))
  · exact fun h => h.1
def badPl (b : Brd) (s : Sta) (x : Wk) : Bool := decide (costAt b (x.q.getD 0 0) x.at_ = 0) || decide (owner s x.at_ = 1 - x.sd) || decide ((cnt s.us x.at_ x.sd : Int) = b.r.stack) || inZon b s (1 - x.sd) x.at_
def pcode (b : Brd) (s : Sta) (x : Wk) : Int := if x.q.length = 0 then 1 else if x.pt < priceOf b (x.q.getD 0 0) then 2 else if s.us.length = 12 then 4 else if badPl b s x then 3 else 0
def prOk (b : Brd) (s : Sta) (x : Wk) : Bool := staOk b s && wkR b x
theorem wk_in {b : Brd} {x : Wk} (h : wkR b x = true) : (x.sd = 0 ∨ x.sd = 1) ∧ inR 0 (b.m.w * b.m.h - 1) x.at_ = true ∧ x.q.length ≤ 8 ∧ ∀ k ∈ x.q, inR 0 (b.r.ks.length - 1) k = true := by
  simp only [wkR, Bool.and_eq_true, decide_eq_true_eq, List.all_eq_true] at h
  have h1 := h.1.1.1.1
  simp only [inR, Bool.and_eq_true, decide_eq_true_eq] at h1
  exact ⟨by omega, h.1.1.1.2, by omega, h.2⟩
section
variable {C : CT} (hC : Closed Tryz.prog G1 md0 C)
include hC
theorem t192 (s : Sta) (i : Int) (hl : s.us.length < 2^40) : Ev C 192 [.agg (staF s), .int .i64 i] (.int .i64 (owner s i)) := by
  simp only [staF]
  refine rT hC Q192 ?_
  simp only [c192, uns_length, push_cast, ↓J1, ↓J2, N1, N2, N3, reduceCtorEq, N4, N5, N6, reduceIte, N7, I1, I2, I3]
  refine RL_count (fun k => ⟨tb 21 .any [(1, .int .i64 i), (8, .sl (uns s.us)), (9, .int .i64 (s.us.length : Int)), (10, .int .i64 (k : Int))], [], 0⟩) (fun k => ∀ j (h : j < s.us.length), j < k → inHex i s.us[j] = false) s.us.length 0 (hdA []) (by omega) (by intro j h h'; omega) fun k hk ht J hJ => ?_
  by_cases h1 : k < s.us.length
  · have e1 := uns_get h1
    have hh := fun hp => owner_at h1 hp ht
    have hJ' : inHex i s.us[k] = false → _ := fun hp => hJ h1 (fun j hj hji => by
      by_cases hij : j = k
      · subst hij; exact hp
      · exact ht j hj (by omega))
    clear hJ ht
    simp only [inHex] at hJ' hh
    generalize s.us[k] = u at *
    simp only [Int.toNat_natCast, e1, unA, push_cast, ↓J1, ↓J2, N1, N2, N3, reduceCtorEq, N4, N5, N6, reduceIte, N7, I1, I2, I3]
    refine ifB_intro (fun _ => ?_) (fun h => by simp at h; omega)
    repeat (refine ⟨by omega, ?_⟩)
    cases g1 : decide (u.at_ = i)
    · simp only [g1, push_cast, ↓J1, ↓J2, N1, N2, N3, reduceCtorEq, N4, N5, N6, reduceIte, N7, I1, I2, I3]
      exact hJ' g1 _ (hdA [])
    · rw [hh g1]
      simp only [g1, push_cast, ↓J1, ↓J2, N1, N2, N3, reduceCtorEq, N4, N5, N6, reduceIte, N7, I1, I2, I3]
  · simp only [uns_length, push_cast, ↓J1, ↓J2, N1, N2, N3, reduceCtorEq, N4, N5, N6, reduceIte, N7, I1, I2, I3]
    refine ifB_intro (fun h => by simp at h; omega) (fun h => ?_)
    rw [owner_no fun j hj => ht j hj (by omega)]
theorem t144 (s : Sta) (i : Int) (hl : s.us.length < 2^40) : Ev C 144 [.agg (staF s), .int .i64 i] (.int .i64 (owner s i)) := by
  simp only [staF]
  refine rT hC Q144 ?_
  simp only [c144, uns_length, push_cast, ↓J1, ↓J2, N1, N2, N3, reduceCtorEq, N4, N5, N6, reduceIte, N7, I1, I2, I3]
  refine RL_count (fun k => ⟨tb 21 .any [(1, .int .i64 i), (8, .sl (uns s.us)), (9, .int .i64 (s.us.length : Int)), (10, .int .i64 (k : Int))], [], 0⟩) (fun k => ∀ j (h : j < s.us.length), j < k → inHex i s.us[j] = false) s.us.length 0 (hdA []) (by omega) (by intro j h h'; omega) fun k hk ht J hJ => ?_
  by_cases h1 : k < s.us.length
  · have e1 := uns_get h1
    have hh := fun hp => owner_at h1 hp ht
    have hJ' : inHex i s.us[k] = false → _ := fun hp => hJ h1 (fun j hj hji => by
      by_cases hij : j = k
      · subst hij; exact hp
      · exact ht j hj (by omega))
    clear hJ ht
    simp only [inHex] at hJ' hh
    generalize s.us[k] = u at *
    simp only [Int.toNat_natCast, e1, unA, push_cast, ↓J1, ↓J2, N1, N2, N3, reduceCtorEq, N4, N5, N6, reduceIte, N7, I1, I2, I3]
    refine ifB_intro (fun _ => ?_) (fun h => by simp at h; omega)
    repeat (refine ⟨by omega, ?_⟩)
    cases g1 : decide (u.at_ = i)
    · simp only [g1, push_cast, ↓J1, ↓J2, N1, N2, N3, reduceCtorEq, N4, N5, N6, reduceIte, N7, I1, I2, I3]
      exact hJ' g1 _ (hdA [])
    · rw [hh g1]
      simp only [g1, push_cast, ↓J1, ↓J2, N1, N2, N3, reduceCtorEq, N4, N5, N6, reduceIte, N7, I1, I2, I3]
  · simp only [uns_length, push_cast, ↓J1, ↓J2, N1, N2, N3, reduceCtorEq, N4, N5, N6, reduceIte, N7, I1, I2, I3]
    refine ifB_intro (fun h => by simp at h; omega) (fun h => ?_)
    rw [owner_no fun j hj => ht j hj (by omega)]
theorem t209 (s : Sta) (i0 : Int) (hl : s.us.length < 2^40) : Ev C 209 [.agg (staF s), .int .i64 i0] (.ow 1 (ints (fil (inHex i0) s.us s.us.length))) := by
  simp only [staF]
  refine rT hC Q209 ?_ (own_ints _)
  simp only [c209, uns_length, push_cast, ↓J1, ↓J2, N1, N2, N3, reduceCtorEq, N4, N5, N6, reduceIte, N7, I1, I2, I3]
  refine RL_count (fun i => ⟨tb 27 .any [(5, .ref 0 none 1 0 (fil (inHex i0) s.us i).length), (1, .int .i64 i0), (10, .sl (uns s.us)), (11, .int .i64 (s.us.length : Int)), (12, .int .i64 (i : Int))], [(0, .slice 1 (ints (fil (inHex i0) s.us i)))], 1⟩) (fun _ => True) s.us.length 0 (hdA [(1, 0)]) (by omega) trivial fun i hi _ J hJ => ?_
  by_cases h1 : i < s.us.length
  · have e1 := uns_get h1
    have e2 := fil_succ (p := (inHex i0)) h1
    have hfl := fil_le (p := (inHex i0)) hi
    have tk : List.take (fil (inHex i0) s.us i).length (ints (fil (inHex i0) s.us i)) = ints (fil (inHex i0) s.us i) := List.take_of_length_le (by rw [ints_length]; omega)
    generalize s.us[i] = u at *
    simp only [Int.toNat_natCast, e1, unA, push_cast, ↓J1, ↓J2, N1, N2, N3, reduceCtorEq, N4, N5, N6, reduceIte, N7, I1, I2, I3]
    refine ifB_intro (fun _ => ?_) (fun h => by simp at h; omega)
    repeat (refine ⟨by omega, ?_⟩)
    cases g1 : decide (u.at_ = i0)
    · have hp : (inHex i0) u = false := by simp only [inHex, g1]
      rw [hp, if_neg Bool.false_ne_true] at e2
      simp only [g1, push_cast, ↓J1, ↓J2, N1, N2, N3, reduceCtorEq, N4, N5, N6, reduceIte, N7, I1, I2, I3]
      exact hJ h1 trivial _ (by rw [e2]; exact (hdA [(0, 0)]))
    have hp : (inHex i0) u = true := by simp only [inHex, g1]
    rw [hp, if_pos rfl] at e2
    simp only [g1, tk, ints_length, allScs, apYR_sc, push_cast, ↓J1, ↓J2, N1, N2, N3, reduceCtorEq, N4, N5, N6, reduceIte, N7, I1, I2, I3]
    repeat (refine ⟨by omega, ?_⟩)
    refine hJ h1 trivial _ ?_
    rw [e2]
    refine (hdA [(3, 0)] (hh := ?_))
    simp only [canR, canB, renO, renL, ren, lkp, hget, N7, N5, Nat.not_lt_zero, if_false, if_true, reduceIte, List.append_nil, List.nil_append, ints_sn]
    all_goals rfl
  · simp only [uns_length, push_cast, ↓J1, ↓J2, N1, N2, N3, reduceCtorEq, N4, N5, N6, reduceIte, N7, I1, I2, I3]
    refine ifB_intro (fun h => by simp at h; omega) (fun h => ?_)
    obtain rfl : i = s.us.length := by omega
    exact RetTo_ow rfl (by rw [ints_length])
theorem t152 (b : Brd) (s : Sta) (sd i : Int) (hs : sd = 0 ∨ sd = 1) (hst : 1 ≤ b.r.stack ∧ b.r.stack ≤ 4) (hl : s.us.length < 2^40) : Ev C 152 [brdF b, .agg (staF s), .int .i64 sd, .int .i64 i] (.int .i64 (if owner s i = 1 - sd then 0 else b.r.stack - (fil (inHex i) s.us s.us.length).length)) := by
  have c1 := t192 hC s i hl
  have c2 := t209 hC s i hl
  have hle := fil_le (p := inHex i) (l := s.us) (Nat.le_refl _)
  simp only [brdF, rulF, mpF, List.cons_append, List.nil_append, staF] at *
  refine rT hC Q152 ?_
  simp only [c152, push_cast, ↓J1, ↓J2, N1, N2, N3, reduceCtorEq, N4, N5, N6, reduceIte, N7, I1, I2, I3]
  refine ⟨_, c1, ?_⟩
  simp only [push_cast, ↓J1, ↓J2, N1, N2, N3, reduceCtorEq, N4, N5, N6, reduceIte, N7, I1, I2, I3]
  rw [wrap64 (n := 1 - sd) (by omega) (by omega)]
  cases g1 : decide (owner s i = 1 - sd)
  · have h1 := of_decide_eq_false g1
    simp only [g1, if_neg h1, push_cast, ↓J1, ↓J2, N1, N2, N3, reduceCtorEq, N4, N5, N6, reduceIte, N7, I1, I2, I3]
    refine ⟨_, c2, ?_⟩
    simp only [ints_length, push_cast, ↓J1, ↓J2, N1, N2, N3, reduceCtorEq, N4, N5, N6, reduceIte, N7, I1, I2, I3]
    rw [wrap64 (by omega) (by omega)]
  · have h1 := of_decide_eq_true g1
    simp only [g1, if_pos h1, push_cast, ↓J1, ↓J2, N1, N2, N3, reduceCtorEq, N4, N5, N6, reduceIte, N7, I1, I2, I3]
theorem t87 (b : Brd) (s : Sta) (sd i : Int) (g : brdOk b = true) (hu : s.us.all (unOk b) = true) (hi : inR 0 (b.m.w * b.m.h - 1) i = true) (hb : BrdB (2^50) b) (hl : s.us.length < 2^40) : Ev C 87 [brdF b, .agg (staF s), .int .i64 i, .int .i64 sd] (.bool (inZon b s sd i)) := by
  have c1 := t163 hC b s sd i g hu hi hb hl
  simp only [brdF, rulF, mpF, List.cons_append, List.nil_append, staF] at *
  refine rT hC Q87 ?_
  simp only [c87, push_cast, ↓J1, ↓J2, N1, N2, N3, reduceCtorEq, N4, N5, N6, reduceIte, N7, I1, I2, I3]
  refine ⟨_, c1, ?_⟩
  simp only [ints_length, inZon_fil, push_cast, ↓J1, ↓J2, N1, N2, N3, reduceCtorEq, N4, N5, N6, reduceIte, N7, I1, I2, I3]
theorem t61 (b : Brd) (s : Sta) (x : Wk) (hb : BrdB (2^50) b) (hl : s.us.length < 2^40) (hq : x.q.length < 2^50) : Ev C 61 [brdF b, .agg (staF s), .agg (wkF x)] (.bool (prOk b s x)) := by
  have c1 := t119 hC b s hb hl
  have c2 := t141 hC b x hb hq
  simp only [brdF, rulF, mpF, List.cons_append, List.nil_append, staF, wkF] at *
  refine rT hC Q61 ?_
  simp only [c61, push_cast, ↓J1, ↓J2, N1, N2, N3, reduceCtorEq, N4, N5, N6, reduceIte, N7, I1, I2, I3]
  refine ⟨_, c1, ?_⟩
  cases g1 : staOk b s
  · simp only [prOk, g1, Bool.false_and, push_cast, ↓J1, ↓J2, N1, N2, N3, reduceCtorEq, N4, N5, N6, reduceIte, N7, I1, I2, I3]
  have g2 := sta_brd g1
  simp only [push_cast, ↓J1, ↓J2, N1, N2, N3, reduceCtorEq, N4, N5, N6, reduceIte, N7, I1, I2, I3]
  refine ⟨_, c2, ?_⟩
  simp only [prOk, g1, wkOk, g2, Bool.true_and, push_cast, ↓J1, ↓J2, N1, N2, N3, reduceCtorEq, N4, N5, N6, reduceIte, N7, I1, I2, I3]
theorem t67 (b : Brd) (s : Sta) (x : Wk) (hb : BrdB (2^50) b) (hl : s.us.length < 2^40) (hq : x.q.length < 2^50) : Ev C 67 [brdF b, .agg (staF s), .agg (wkF x)] (.bool (prOk b s x)) := by
  have c1 := t149 hC b s hb hl
  have c2 := fun g => t93 hC b x g hb hq
  simp only [brdF, rulF, mpF, List.cons_append, List.nil_append, staF, wkF] at *
  refine rT hC Q67 ?_
  simp only [c67, push_cast, ↓J1, ↓J2, N1, N2, N3, reduceCtorEq, N4, N5, N6, reduceIte, N7, I1, I2, I3]
  refine ⟨_, c1, ?_⟩
  cases g1 : staOk b s
  · simp only [prOk, g1, Bool.false_and, push_cast, ↓J1, ↓J2, N1, N2, N3, reduceCtorEq, N4, N5, N6, reduceIte, N7, I1, I2, I3]
  simp only [push_cast, ↓J1, ↓J2, N1, N2, N3, reduceCtorEq, N4, N5, N6, reduceIte, N7, I1, I2, I3]
  refine ⟨_, c2 (sta_brd g1), ?_⟩
  simp only [prOk, g1, Bool.true_and, push_cast, ↓J1, ↓J2, N1, N2, N3, reduceCtorEq, N4, N5, N6, reduceIte, N7, I1, I2, I3]
theorem t68 (b : Brd) (s : Sta) (x : Wk) (g0 : prOk b s x = true) (hb : BrdB (2^50) b) : Ev C 68 [brdF b, .agg (staF s), .agg (wkF x)] (.int .i64 (pcode b s x)) := by
  have g := g0
  simp only [prOk, Bool.and_eq_true] at g
  have gb := sta_brd g.1
  have hlen := sta_len g.1
  have hl : s.us.length < 2^40 := by omega
  have hw := wk_in g.2
  have hun := sta_all g.1
  have hr := brd_ru gb
  simp only [rulOk, tailOk, inR, Bool.and_eq_true, decide_eq_true_eq] at hr
  have hst : 1 ≤ b.r.stack ∧ b.r.stack ≤ 4 := by omega
  have c0 := fun k h => t150 hC b k h hb
  have c1 := fun k h => t151 hC b k x.at_ gb h hw.2.1 hb
  have c2 := t152 hC b s x.sd x.at_ hw.1 hst hl
  have c3 := t96 hC b s (1 - x.sd) x.at_ gb hun hw.2.1 hb hl
  have ho := fun h => own_cnt (sd := x.sd) (i := x.at_) g.1 hw.1 h
  have hle := fil_le (p := inHex x.at_) (l := s.us) (Nat.le_refl _)
  have hi := hw.2.1
  simp only [inR, Bool.and_eq_true, decide_eq_true_eq] at hi
  simp only [brdF, rulF, mpF, List.cons_append, List.nil_append, staF, wkF] at *
  refine rT hC Q68 ?_
  simp only [c68, ints_length, push_cast, ↓J1, ↓J2, N1, N2, N3, reduceCtorEq, N4, N5, N6, reduceIte, N7, I1, I2, I3]
  cases g1 : decide ((x.q.length : Int) = 0)
  rotate_left
  · have h1 := of_decide_eq_true g1
    simp only [pcode, if_pos (show x.q.length = 0 by omega), push_cast, ↓J1, ↓J2, N1, N2, N3, reduceCtorEq, N4, N5, N6, reduceIte, N7, I1, I2, I3]
  have h1 := of_decide_eq_false g1
  have e1 : (ints x.q)[0]? = some [.int .i64 (x.q.getD 0 0)] := ints_get (by omega)
  have hk : inR 0 (b.r.ks.length - 1) (x.q.getD 0 0) = true := by
    refine hw.2.2.2 _ ?_
    have h0 : 0 < x.q.length := by omega
    simp only [List.getD, List.getElem?_eq_getElem h0, Option.getD_some]
    exact List.getElem_mem h0
  have hask : kindAsk b (x.q.getD 0 0) = true := un_kind (u := ⟨0, x.q.getD 0 0, 0, 0⟩) gb hk
  have z0 : (0 : Int).toNat = 0 := rfl
  rw [show pcode b s x = if x.pt < priceOf b (x.q.getD 0 0) then 2 else if s.us.length = 12 then 4 else if badPl b s x then 3 else 0 by simp only [pcode, if_neg (show ¬ x.q.length = 0 by omega)]]
  simp only [z0, e1, ints_length, push_cast, ↓J1, ↓J2, N1, N2, N3, reduceCtorEq, N4, N5, N6, reduceIte, N7, I1, I2, I3]
  repeat (refine ⟨by omega, ?_⟩)
  refine ⟨_, c0 _ hask, ?_⟩
  cases g2 : decide (x.pt < priceOf b (x.q.getD 0 0))
  rotate_left
  · simp only [g2, if_pos (of_decide_eq_true g2), push_cast, ↓J1, ↓J2, N1, N2, N3, reduceCtorEq, N4, N5, N6, reduceIte, N7, I1, I2, I3]
  simp only [g2, if_neg (of_decide_eq_false g2), uns_length, push_cast, ↓J1, ↓J2, N1, N2, N3, reduceCtorEq, N4, N5, N6, reduceIte, N7, I1, I2, I3]
  cases g3 : decide ((s.us.length : Int) = 12)
  rotate_left
  · have h3 := of_decide_eq_true g3
    simp only [if_pos (show s.us.length = 12 by omega), push_cast, ↓J1, ↓J2, N1, N2, N3, reduceCtorEq, N4, N5, N6, reduceIte, N7, I1, I2, I3]
  have h3 := of_decide_eq_false g3
  simp only [if_neg (show ¬ s.us.length = 12 by omega), z0, e1, ints_length, push_cast, ↓J1, ↓J2, N1, N2, N3, reduceCtorEq, N4, N5, N6, reduceIte, N7, I1, I2, I3]
  repeat (refine ⟨by omega, ?_⟩)
  refine ⟨_, c1 _ hk, ?_⟩
  cases g4 : decide (costAt b (x.q.getD 0 0) x.at_ = 0)
  rotate_left
  · simp only [badPl, g4, Bool.true_or, push_cast, ↓J1, ↓J2, N1, N2, N3, reduceCtorEq, N4, N5, N6, reduceIte, N7, I1, I2, I3]
  simp only [g4, push_cast, ↓J1, ↓J2, N1, N2, N3, reduceCtorEq, N4, N5, N6, reduceIte, N7, I1, I2, I3]
  refine ⟨_, c2, ?_⟩
  by_cases h5 : owner s x.at_ = 1 - x.sd
  · simp only [if_pos h5, badPl, decide_eq_true h5, Bool.true_or, Bool.or_true, push_cast, ↓J1, ↓J2, N1, N2, N3, reduceCtorEq, N4, N5, N6, reduceIte, N7, I1, I2, I3]
  simp only [if_neg h5]
  rw [ho hi.1 h5]
  cases g6 : decide (b.r.stack - ((cnt s.us x.at_ x.sd : Nat) : Int) = 0)
  rotate_left
  · have h6 := of_decide_eq_true g6
    have : decide (((cnt s.us x.at_ x.sd : Nat) : Int) = b.r.stack) = true := decide_eq_true (by omega)
    simp only [g6, badPl, this, Bool.true_or, Bool.or_true, push_cast, ↓J1, ↓J2, N1, N2, N3, reduceCtorEq, N4, N5, N6, reduceIte, N7, I1, I2, I3]
  have h6 := of_decide_eq_false g6
  have g7 : decide (((cnt s.us x.at_ x.sd : Nat) : Int) = b.r.stack) = false := decide_eq_false (by omega)
  simp only [g6, push_cast, ↓J1, ↓J2, N1, N2, N3, reduceCtorEq, N4, N5, N6, reduceIte, N7, I1, I2, I3]
  rw [wrap64 (n := 1 - x.sd) (by omega) (by omega)]
  refine ⟨_, c3, ?_⟩
  cases g8 : inZon b s (1 - x.sd) x.at_
  · simp only [badPl, g4, decide_eq_false h5, g7, g8, Bool.or_self, Bool.false_eq_true, if_false, push_cast, ↓J1, ↓J2, N1, N2, N3, reduceCtorEq, N4, N5, N6, reduceIte, N7, I1, I2, I3]
  · simp only [badPl, g8, Bool.or_true, push_cast, ↓J1, ↓J2, N1, N2, N3, reduceCtorEq, N4, N5, N6, reduceIte, N7, I1, I2, I3]
theorem t62 (b : Brd) (s : Sta) (x : Wk) (g0 : prOk b s x = true) (hb : BrdB (2^50) b) : Ev C 62 [brdF b, .agg (staF s), .agg (wkF x)] (.int .i64 (pcode b s x)) := by
  have g := g0
  simp only [prOk, Bool.and_eq_true] at g
  have gb := sta_brd g.1
  have hlen := sta_len g.1
  have hl : s.us.length < 2^40 := by omega
  have hw := wk_in g.2
  have hun := sta_all g.1
  have hr := brd_ru gb
  simp only [rulOk, tailOk, inR, Bool.and_eq_true, decide_eq_true_eq] at hr
  have hst : 1 ≤ b.r.stack ∧ b.r.stack ≤ 4 := by omega
  have c0 := fun k h => t142 hC b k h hb
  have c1 := fun k h => t143 hC b k x.at_ gb h hw.2.1 hb
  have c2 := t144 hC s x.at_ hl
  have c4 := t145 hC s x.at_ x.sd hl
  have c3 := t87 hC b s (1 - x.sd) x.at_ gb hun hw.2.1 hb hl
  have hi := hw.2.1
  simp only [inR, Bool.and_eq_true, decide_eq_true_eq] at hi
  simp only [brdF, rulF, mpF, List.cons_append, List.nil_append, staF, wkF] at *
  refine rT hC Q62 ?_
  simp only [c62, ints_length, push_cast, ↓J1, ↓J2, N1, N2, N3, reduceCtorEq, N4, N5, N6, reduceIte, N7, I1, I2, I3]
  cases g1 : decide ((x.q.length : Int) = 0)
  rotate_left
  · have h1 := of_decide_eq_true g1
    simp only [pcode, if_pos (show x.q.length = 0 by omega), push_cast, ↓J1, ↓J2, N1, N2, N3, reduceCtorEq, N4, N5, N6, reduceIte, N7, I1, I2, I3]
  have h1 := of_decide_eq_false g1
  have e1 : (ints x.q)[0]? = some [.int .i64 (x.q.getD 0 0)] := ints_get (by omega)
  have hk : inR 0 (b.r.ks.length - 1) (x.q.getD 0 0) = true := by
    refine hw.2.2.2 _ ?_
    have h0 : 0 < x.q.length := by omega
    simp only [List.getD, List.getElem?_eq_getElem h0, Option.getD_some]
    exact List.getElem_mem h0
  have hask : kindAsk b (x.q.getD 0 0) = true := un_kind (u := ⟨0, x.q.getD 0 0, 0, 0⟩) gb hk
  have z0 : (0 : Int).toNat = 0 := rfl
  rw [show pcode b s x = if x.pt < priceOf b (x.q.getD 0 0) then 2 else if s.us.length = 12 then 4 else if badPl b s x then 3 else 0 by simp only [pcode, if_neg (show ¬ x.q.length = 0 by omega)]]
  simp only [z0, e1, ints_length, push_cast, ↓J1, ↓J2, N1, N2, N3, reduceCtorEq, N4, N5, N6, reduceIte, N7, I1, I2, I3]
  repeat (refine ⟨by omega, ?_⟩)
  refine ⟨_, c0 _ hask, ?_⟩
  cases g2 : decide (x.pt < priceOf b (x.q.getD 0 0))
  rotate_left
  · simp only [g2, if_pos (of_decide_eq_true g2), push_cast, ↓J1, ↓J2, N1, N2, N3, reduceCtorEq, N4, N5, N6, reduceIte, N7, I1, I2, I3]
  simp only [g2, if_neg (of_decide_eq_false g2), uns_length, push_cast, ↓J1, ↓J2, N1, N2, N3, reduceCtorEq, N4, N5, N6, reduceIte, N7, I1, I2, I3]
  cases g3 : decide ((s.us.length : Int) = 12)
  rotate_left
  · have h3 := of_decide_eq_true g3
    simp only [if_pos (show s.us.length = 12 by omega), push_cast, ↓J1, ↓J2, N1, N2, N3, reduceCtorEq, N4, N5, N6, reduceIte, N7, I1, I2, I3]
  have h3 := of_decide_eq_false g3
  simp only [if_neg (show ¬ s.us.length = 12 by omega), z0, e1, ints_length, push_cast, ↓J1, ↓J2, N1, N2, N3, reduceCtorEq, N4, N5, N6, reduceIte, N7, I1, I2, I3]
  repeat (refine ⟨by omega, ?_⟩)
  refine ⟨_, c1 _ hk, ?_⟩
  cases g4 : decide (costAt b (x.q.getD 0 0) x.at_ = 0)
  rotate_left
  · simp only [badPl, g4, Bool.true_or, push_cast, ↓J1, ↓J2, N1, N2, N3, reduceCtorEq, N4, N5, N6, reduceIte, N7, I1, I2, I3]
  simp only [g4, push_cast, ↓J1, ↓J2, N1, N2, N3, reduceCtorEq, N4, N5, N6, reduceIte, N7, I1, I2, I3]
  rw [wrap64 (n := 1 - x.sd) (by omega) (by omega)]
  refine ⟨_, c2, ?_⟩
  cases g5 : decide (owner s x.at_ = 1 - x.sd)
  rotate_left
  · simp only [g5, badPl, Bool.true_or, Bool.or_true, push_cast, ↓J1, ↓J2, N1, N2, N3, reduceCtorEq, N4, N5, N6, reduceIte, N7, I1, I2, I3]
  simp only [g5, push_cast, ↓J1, ↓J2, N1, N2, N3, reduceCtorEq, N4, N5, N6, reduceIte, N7, I1, I2, I3]
  refine ⟨_, c4, ?_⟩
  simp only [ints_length, fil_cnt, push_cast, ↓J1, ↓J2, N1, N2, N3, reduceCtorEq, N4, N5, N6, reduceIte, N7, I1, I2, I3]
  cases g7 : decide (((cnt s.us x.at_ x.sd : Nat) : Int) = b.r.stack)
  rotate_left
  · simp only [g7, badPl, Bool.true_or, Bool.or_true, push_cast, ↓J1, ↓J2, N1, N2, N3, reduceCtorEq, N4, N5, N6, reduceIte, N7, I1, I2, I3]
  simp only [g7, push_cast, ↓J1, ↓J2, N1, N2, N3, reduceCtorEq, N4, N5, N6, reduceIte, N7, I1, I2, I3]
  rw [wrap64 (n := 1 - x.sd) (by omega) (by omega)]
  refine ⟨_, c3, ?_⟩
  cases g8 : inZon b s (1 - x.sd) x.at_
  · simp only [badPl, g4, g5, g7, g8, Bool.or_self, Bool.false_eq_true, if_false, push_cast, ↓J1, ↓J2, N1, N2, N3, reduceCtorEq, N4, N5, N6, reduceIte, N7, I1, I2, I3]
  · simp only [badPl, g8, Bool.or_true, push_cast, ↓J1, ↓J2, N1, N2, N3, reduceCtorEq, N4, N5, N6, reduceIte, N7, I1, I2, I3]
theorem t18 (b : Brd) (s : Sta) (x : Wk) (hb : BrdB (2^50) b) (hl : s.us.length < 2^40) (hq : x.q.length < 2^50) : Ev C 18 [brdF b, .agg (staF s), .agg (wkF x)] (.tup [.int .i64 (if prOk b s x then pcode b s x else 0), .bool (prOk b s x)]) := by
  have c1 := t61 hC b s x hb hl hq
  have c2 := fun g => t62 hC b s x g hb
  simp only [brdF, rulF, mpF, List.cons_append, List.nil_append, staF, wkF] at *
  refine rT hC Q18 ?_
  simp only [c18, push_cast, ↓J1, ↓J2, N1, N2, N3, reduceCtorEq, N4, N5, N6, reduceIte, N7, I1, I2, I3]
  refine ⟨_, c1, ?_⟩
  cases g1 : prOk b s x
  · simp only [push_cast, ↓J1, ↓J2, N1, N2, N3, reduceCtorEq, N4, N5, N6, reduceIte, N7, I1, I2, I3]
  simp only [push_cast, ↓J1, ↓J2, N1, N2, N3, reduceCtorEq, N4, N5, N6, reduceIte, N7, I1, I2, I3]
  refine ⟨_, c2 g1, ?_⟩
  simp only [push_cast, ↓J1, ↓J2, N1, N2, N3, reduceCtorEq, N4, N5, N6, reduceIte, N7, I1, I2, I3]
theorem t22 (b : Brd) (s : Sta) (x : Wk) (hb : BrdB (2^50) b) (hl : s.us.length < 2^40) (hq : x.q.length < 2^50) : Ev C 22 [brdF b, .agg (staF s), .agg (wkF x)] (.tup [.int .i64 (if prOk b s x then pcode b s x else 0), .bool (prOk b s x)]) := by
  have c1 := t67 hC b s x hb hl hq
  have c2 := fun g => t68 hC b s x g hb
  simp only [brdF, rulF, mpF, List.cons_append, List.nil_append, staF, wkF] at *
  refine rT hC Q22 ?_
  simp only [c22, push_cast, ↓J1, ↓J2, N1, N2, N3, reduceCtorEq, N4, N5, N6, reduceIte, N7, I1, I2, I3]
  refine ⟨_, c1, ?_⟩
  cases g1 : prOk b s x
  · simp only [push_cast, ↓J1, ↓J2, N1, N2, N3, reduceCtorEq, N4, N5, N6, reduceIte, N7, I1, I2, I3]
  simp only [push_cast, ↓J1, ↓J2, N1, N2, N3, reduceCtorEq, N4, N5, N6, reduceIte, N7, I1, I2, I3]
  refine ⟨_, c2 g1, ?_⟩
  simp only [push_cast, ↓J1, ↓J2, N1, N2, N3, reduceCtorEq, N4, N5, N6, reduceIte, N7, I1, I2, I3]
end
end Go.Proofs.YtjaccjeejeiphaaGreatDoor.X
set_option maxRecDepth 8000
set_option linter.unusedSimpArgs false
set_option linter.unusedVariables false
open Nat renaming reduceBEq → N1, reduceAdd → N2, reduceSub → N3, reduceMul → N4, reduceEqDiff → N5, reduceLeDiff → N6, reduceLT → N7
open Int renaming reduceLE → I1, reduceLT → I2, reduceToNat → I3
namespace Go.Proofs.YtjaccjeejeiphaaGreatDoor.X
def bfst (op : List Bool) (c : Int) (p : List Int × List Int) (k : Int) : List Int × List Int :=
  if op.getD k.toNat false && decide (p.1.getD k.toNat 0 < 0) then (p.1.set k.toNat (p.1.getD c.toNat 0 + 1), p.2 ++ [k]) else p
def bnode (nb : Int → List Int) (op : List Bool) (a : Nat) (p : List Int × List Int) : List Int × List Int := (nb (p.2.getD a 0)).foldl (bfst op (p.2.getD a 0)) p
def bsrc (op : List Bool) (p : List Int × List Int) (i : Int) : List Int × List Int :=
  if op.getD i.toNat false then (p.1.set i.toNat 0, p.2 ++ [i]) else p
def bp0 (op : List Bool) (l : List Int) : List Int × List Int := l.foldl (bsrc op) (List.replicate op.length (-1), [])
def bP (nb : Int → List Int) (op : List Bool) (l : List Int) : Nat → List Int × List Int
  | 0 => bp0 op l
  | i + 1 => if i < (bP nb op l i).2.length then bnode nb op i (bP nb op l i) else bP nb op l i
def bN (nb : Int → List Int) (op : List Bool) (l : List Int) : Nat := (List.range (op.length + l.length + 1)).findIdx fun i => decide ((bP nb op l i).2.length ≤ i)
def bFar (nb : Int → List Int) (op : List Bool) (l : List Int) : List Int := (bP nb op l (bN nb op l)).1
def negs (l : List Int) : Nat := l.countP fun v => decide (v < 0)
structure BInv (n M : Nat) (p : List Int × List Int) : Prop where
  len : p.1.length = n
  q : ∀ k ∈ p.2, 0 ≤ k ∧ k < n ∧ 0 ≤ p.1.getD k.toNat 0
  bnd : ∀ v ∈ p.1, -1 ≤ v ∧ v ≤ p.2.length
  cn : p.2.length + negs p.1 ≤ M
theorem getD_set (l : List Int) (i j : Nat) (v d : Int) (h : i < l.length) : (l.set i v).getD j d = if i = j then v else l.getD j d := by
  simp only [List.getD, List.getElem?_set]
  split
  · simp only [h, if_true, Option.getD_some]
  · rfl
theorem getD_mem {l : List Int} {i : Nat} (h : i < l.length) (d : Int) : l.getD i d ∈ l := by
  simp only [List.getD, List.getElem?_eq_getElem h, Option.getD_some]; exact List.getElem_mem h
theorem bfst_inv {n M : Nat} {op : List Bool} {c k : Int} {p : List Int × List Int} (h : BInv n M p) (hc : 0 ≤ c ∧ c < n ∧ 0 ≤ p.1.getD c.toNat 0) (hk : 0 ≤ k ∧ k < n) : BInv n M (bfst op c p k) ∧ (∃ t, (bfst op c p k).2 = p.2 ++ t) ∧ (bfst op c p k).1.getD c.toNat 0 = p.1.getD c.toNat 0 := by
  simp only [bfst]
  by_cases g : (op.getD k.toNat false && decide (p.1.getD k.toNat 0 < 0)) = true
  rotate_left
  · rw [if_neg g]; exact ⟨h, ⟨[], by simp⟩, rfl⟩
  rw [if_pos g]
  simp only [Bool.and_eq_true, decide_eq_true_eq] at g
  have hl := h.len
  have hk1 : k.toNat < p.1.length := by omega
  have hc1 : c.toNat < p.1.length := by omega
  have hbc := h.bnd _ (getD_mem hc1 0)
  have hne : k.toNat ≠ c.toNat := by intro e; rw [e] at g; omega
  refine ⟨⟨by simp only [List.length_set]; exact hl, ?_, ?_, ?_⟩, ⟨[k], rfl⟩, ?_⟩
  · intro x hx
    simp only [getD_set _ _ _ _ _ hk1]
    rcases List.mem_append.1 hx with hx | hx
    · have := h.q x hx
      refine ⟨this.1, this.2.1, ?_⟩
      split
      · omega
      · exact this.2.2
    · rw [List.mem_singleton.1 hx]
      refine ⟨hk.1, hk.2, ?_⟩
      rw [if_pos rfl]; omega
  · intro v hv
    simp only [List.length_append, List.length_singleton]
    rcases List.mem_or_eq_of_mem_set hv with hv | hv
    · have := h.bnd v hv; omega
    · omega
  · have h1 := h.cn
    have : negs (p.1.set k.toNat (p.1.getD c.toNat 0 + 1)) + 1 = negs p.1 := by
      simp only [negs]
      have hp : 0 < p.1.countP fun v => decide (v < 0) := List.countP_pos_iff.2 ⟨_, getD_mem hk1 0, by simpa using g.2⟩
      rw [List.countP_set hk1]
      have e1 : decide (p.1[k.toNat] < 0) = true := by
        have := g.2
        simp only [List.getD, List.getElem?_eq_getElem hk1, Option.getD_some] at this
        simpa using this
      rw [e1, if_pos rfl, if_neg (show ¬ (decide (p.1.getD c.toNat 0 + 1 < 0) = true) by simp only [decide_eq_true_eq]; omega)]
      omega
    simp only [List.length_append, List.length_singleton]
    omega
  · rw [getD_set _ _ _ _ _ hk1, if_neg hne]
theorem bfold_inv {n M : Nat} {op : List Bool} {c : Int} (l : List Int) : ∀ {p : List Int × List Int}, BInv n M p → (0 ≤ c ∧ c < n ∧ 0 ≤ p.1.getD c.toNat 0) → (∀ k ∈ l, 0 ≤ k ∧ k < n) → BInv n M (l.foldl (bfst op c) p) ∧ (∃ t, (l.foldl (bfst op c) p).2 = p.2 ++ t) ∧ (l.foldl (bfst op c) p).1.getD c.toNat 0 = p.1.getD c.toNat 0 := by
  induction l with
  | nil => intro p h _ _; exact ⟨h, ⟨[], by simp⟩, rfl⟩
  | cons k l ih =>
    intro p h hc hl
    obtain ⟨h1, ⟨t1, h2⟩, h3⟩ := bfst_inv (op := op) h hc (hl k (by simp))
    obtain ⟨h4, ⟨t2, h5⟩, h6⟩ := ih h1 (by rw [h3]; exact hc) fun x hx => hl x (by simp [hx])
    simp only [List.foldl_cons]
    exact ⟨h4, ⟨t1 ++ t2, by rw [h5, h2, List.append_assoc]⟩, by rw [h6, h3]⟩
theorem bq_at {n M : Nat} {p : List Int × List Int} (h : BInv n M p) {a : Nat} (ha : a < p.2.length) : 0 ≤ p.2.getD a 0 ∧ p.2.getD a 0 < n ∧ 0 ≤ p.1.getD (p.2.getD a 0).toNat 0 := h.q _ (getD_mem ha 0)
theorem bsrc_inv {n M : Nat} {op : List Bool} {i : Int} {p : List Int × List Int} (h : BInv n M p) (hi : 0 ≤ i ∧ i < n) : BInv n (M + 1) (bsrc op p i) := by
  simp only [bsrc]
  have h1 := h.cn
  by_cases g : op.getD i.toNat false = true
  rotate_left
  · rw [if_neg g]; exact ⟨h.len, h.q, h.bnd, by omega⟩
  rw [if_pos g]
  have hl := h.len
  have hi1 : i.toNat < p.1.length := by omega
  refine ⟨by simp only [List.length_set]; exact hl, ?_, ?_, ?_⟩
  · intro x hx
    simp only [getD_set _ _ _ _ _ hi1]
    rcases List.mem_append.1 hx with hx | hx
    · have := h.q x hx
      refine ⟨this.1, this.2.1, ?_⟩
      split
      · omega
      · exact this.2.2
    · rw [List.mem_singleton.1 hx]
      refine ⟨hi.1, hi.2, ?_⟩
      rw [if_pos rfl]; omega
  · intro v hv
    simp only [List.length_append, List.length_singleton]
    rcases List.mem_or_eq_of_mem_set hv with hv | hv
    · have := h.bnd v hv; omega
    · omega
  · have : negs (p.1.set i.toNat 0) ≤ negs p.1 := by
      simp only [negs]
      rw [List.countP_set hi1, if_neg (show ¬ decide ((0 : Int) < 0) = true by simp)]
      omega
    simp only [List.length_append, List.length_singleton]
    omega
theorem bsrcs_inv {n M : Nat} {op : List Bool} (l : List Int) : ∀ {M : Nat} {p : List Int × List Int}, BInv n M p → (∀ i ∈ l, 0 ≤ i ∧ i < n) → BInv n (M + l.length) (l.foldl (bsrc op) p) := by
  induction l with
  | nil => intro M p h _; exact h
  | cons k l ih =>
    intro M p h hl
    have := ih (bsrc_inv (op := op) h (hl k (by simp))) fun x hx => hl x (by simp [hx])
    simp only [List.foldl_cons, List.length_cons]
    rwa [show M + (l.length + 1) = M + 1 + l.length by omega]
theorem bp0_start (op : List Bool) : BInv op.length op.length (List.replicate op.length (-1), []) := by
  refine ⟨by simp, by simp, ?_, ?_⟩
  · intro v hv; rw [List.eq_of_mem_replicate hv]; simp
  · simp only [negs, List.length_nil, Nat.zero_add]
    exact Nat.le_trans List.countP_le_length (by simp)
theorem bp0_inv {op : List Bool} {l : List Int} (hl : ∀ i ∈ l, 0 ≤ i ∧ i < op.length) : BInv op.length (op.length + l.length) (bp0 op l) := bsrcs_inv (M := 0) l (bp0_start op) hl
theorem bP_inv {nb : Int → List Int} {op : List Bool} {l : List Int} (hl : ∀ i ∈ l, 0 ≤ i ∧ i < op.length) (hnb : ∀ c : Int, 0 ≤ c → c < (op.length : Int) → ∀ k ∈ nb c, 0 ≤ k ∧ k < (op.length : Int)) (i : Nat) : BInv op.length (op.length + l.length) (bP nb op l i) := by
  induction i with
  | zero => exact bp0_inv hl
  | succ i ih =>
    simp only [bP]
    split
    · rename_i ha
      have hq := bq_at ih ha
      exact (bfold_inv _ ih hq (hnb _ hq.1 hq.2.1)).1
    · exact ih
theorem bN_lt {nb : Int → List Int} {op : List Bool} {l : List Int} {i : Nat} (h : i < bN nb op l) : i < (bP nb op l i).2.length := by
  have hle : bN nb op l ≤ op.length + l.length + 1 := by simp only [bN]; exact Nat.le_trans List.findIdx_le_length (by simp)
  have := List.not_of_lt_findIdx (xs := List.range (op.length + l.length + 1)) (p := fun i => decide ((bP nb op l i).2.length ≤ i)) (i := i) h
  simp only [List.getElem_range, decide_eq_false_iff_not] at this
  omega
theorem bN_end {nb : Int → List Int} {op : List Bool} {l : List Int} (hl : ∀ i ∈ l, 0 ≤ i ∧ i < op.length) (hnb : ∀ c : Int, 0 ≤ c → c < (op.length : Int) → ∀ k ∈ nb c, 0 ≤ k ∧ k < (op.length : Int)) : (bP nb op l (bN nb op l)).2.length ≤ bN nb op l := by
  have hlt : bN nb op l < (List.range (op.length + l.length + 1)).length := by
    simp only [bN]
    refine List.findIdx_lt_length_of_exists ⟨op.length + l.length, by simp, ?_⟩
    have := (bP_inv hl hnb (op.length + l.length)).cn
    simp only [decide_eq_true_eq]
    omega
  have h1 : decide ((bP nb op l ((List.range (op.length + l.length + 1))[bN nb op l]'hlt)).2.length ≤ (List.range (op.length + l.length + 1))[bN nb op l]'hlt) = true := List.findIdx_getElem (w := hlt)
  rw [List.getElem_range hlt] at h1
  exact of_decide_eq_true h1
theorem bN_le {nb : Int → List Int} {op : List Bool} {l : List Int} : bN nb op l ≤ op.length + l.length + 1 := by
  simp only [bN]; exact Nat.le_trans List.findIdx_le_length (by simp)
end Go.Proofs.YtjaccjeejeiphaaGreatDoor.X
