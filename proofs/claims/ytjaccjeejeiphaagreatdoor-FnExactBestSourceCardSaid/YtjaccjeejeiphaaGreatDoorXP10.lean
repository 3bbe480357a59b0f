/- A part of the proof: lemmas on the machine or on the functions that the law reaches. No condition of its own. -/
import Derived.Test.YtjaccjeejeiphaaGreatDoorXP9
set_option maxHeartbeats 4000000
set_option maxRecDepth 8000
set_option linter.unusedSimpArgs false
set_option linter.unusedVariables false
open Nat renaming reduceBEq → N1, reduceAdd → N2, reduceSub → N3, reduceMul → N4, reduceEqDiff → N5, reduceLeDiff → N6, reduceLT → N7
open Int renaming reduceLE → I1, reduceLT → I2, reduceToNat → I3
namespace Go.Proofs.YtjaccjeejeiphaaGreatDoor.X
open Go
attribute [local irreducible] Ev
def bools (l : List Bool) : List (List AV) := l.map fun n => [.bool n]
theorem bools_length (l : List Bool) : (bools l).length = l.length := by simp [bools]
theorem bools_get {v : List Bool} {k : Nat} (h : k < v.length) : (bools v)[k]? = some [.bool (v.getD k false)] := by
  simp [bools, List.getD, h]
theorem bools_set {v : List Bool} {k : Nat} {y : Bool} : (bools v).set k [.bool y] = bools (v.set k y) := by
  simp [bools, List.map_set]
theorem bools_sn (l : List Bool) (x : Bool) : bools l ++ [[.bool x]] = bools (l ++ [x]) := by simp [bools]
theorem bools_rep {n : Nat} : List.replicate n [AV.bool false] = bools (List.replicate n false) := by simp [bools]
theorem ints_rep0 {n : Nat} : List.replicate n [AV.int .i64 0] = ints (List.replicate n 0) := by simp [ints]
theorem frzLL_bools (l : List Bool) : frzLL (bools l) = bools l := by
  unfold bools
  induction l with
  | nil => rfl
  | cons x l ih => simp only [List.map_cons, frzLL, frzL, frzT, ih]
theorem own_bools (l : List Bool) : ownRLL (bools l) = true := by
  induction l with
  | nil => rfl
  | cons x l ih => simp only [bools, List.map_cons, ownRLL, ownRL, ownR] at ih ⊢; simp [ih]
theorem own_bls (l : List Bool) : ownR (.ow 1 (bools l)) = true := by simp only [ownR, own_bools]
def repT (j n : Nat) : List Int := List.replicate j (-1) ++ List.replicate (n - j) 0
theorem repT_len {j n : Nat} (h : j ≤ n) : (repT j n).length = n := by simp [repT]; omega
theorem repT_set {j n : Nat} (h : j < n) : (repT j n).set j (-1) = repT (j + 1) n := by
  simp only [repT]
  rw [show n - j = (n - (j + 1)) + 1 by omega, List.replicate_succ, mid_set (by simp), List.replicate_succ' (n := j), List.append_assoc]
  rfl
theorem repT_0 {n : Nat} : repT 0 n = List.replicate n 0 := by simp [repT]
theorem repT_n {n : Nat} : repT n n = List.replicate n (-1) := by simp [repT]
def opnM (b : Brd) (s : Sta) (sd k : Int) (j n : Nat) : List Bool := opnT b s sd k j ++ List.replicate (n - j) false
theorem opnT_len (b : Brd) (s : Sta) (sd k : Int) (j : Nat) : (opnT b s sd k j).length = j := by simp [opnT]
theorem opnT_succ (b : Brd) (s : Sta) (sd k : Int) (j : Nat) : opnT b s sd k (j + 1) = opnT b s sd k j ++ [opnAt b s sd k (j : Nat)] := by
  simp only [opnT, List.range_succ, List.map_append, List.map_cons, List.map_nil]
theorem opnM_set {b : Brd} {s : Sta} {sd k : Int} {j n : Nat} (h : j < n) : (opnM b s sd k j n).set j (opnAt b s sd k (j : Nat)) = opnM b s sd k (j + 1) n := by
  simp only [opnM]
  rw [show n - j = (n - (j + 1)) + 1 by omega, List.replicate_succ, mid_set (opnT_len b s sd k j), opnT_succ, List.append_assoc]
  rfl
theorem opnM_len {b : Brd} {s : Sta} {sd k : Int} {j n : Nat} (h : j ≤ n) : (opnM b s sd k j n).length = n := by simp [opnM, opnT_len]; omega
theorem opnM_0 {b : Brd} {s : Sta} {sd k : Int} {n : Nat} : opnM b s sd k 0 n = List.replicate n false := by simp [opnM, opnT]
theorem opnM_n {b : Brd} {s : Sta} {sd k : Int} {n : Nat} : opnM b s sd k n n = opnT b s sd k n := by simp [opnM]
theorem ne_lt {o sd : Int} (h : o = -1 ∨ o = 0 ∨ o = 1) (hs : sd = 0 ∨ sd = 1) (h1 : decide (o = 1 - sd) = false) : decide (o = sd) = !decide (o < 0) := by
  simp only [decide_eq_false_iff_not] at h1
  rw [Bool.eq_iff_iff]; simp; omega
section
variable {C : CT} (hC : Closed Tryz.prog G1 md0 C)
include hC
theorem t312 (b : Brd) (s : Sta) (sd i : Int) (g : staOk b s = true) (hsd : sd = 0 ∨ sd = 1) (hi : inR 0 (b.m.w * b.m.h - 1) i = true) (hb : BrdB (2^50) b) : Ev C 312 [brdF b, .agg (staF s), .int .i64 sd, .int .i64 i] (.bool (blk b s sd i)) := by
  have gb := sta_brd g
  have hun := sta_all g
  have hl := sta_len g
  have ho := owner_sd hun i
  have c1 := t192 hC s i (by omega)
  have c2 := t96 hC b s (1 - sd) i gb hun hi hb (by omega)
  have w1 : IntKind.i64.wrap (1 - sd) = 1 - sd := wrap64 (by omega) (by omega)
  simp only [brdF, rulF, mpF, List.cons_append, List.nil_append, staF, blk] at *
  refine rT hC Q312 ?_
  simp only [c312, push_cast, ↓J1, ↓J2, N1, N2, N3, reduceCtorEq, N4, N5, N6, reduceIte, N7, I1, I2, I3]
  refine ⟨_, c1, ?_⟩
  simp only [w1, push_cast, ↓J1, ↓J2, N1, N2, N3, reduceCtorEq, N4, N5, N6, reduceIte, N7, I1, I2, I3]
  cases g1 : decide (owner s i = 1 - sd)
  rotate_left
  · simp only [g1, push_cast, ↓J1, ↓J2, N1, N2, N3, reduceCtorEq, N4, N5, N6, reduceIte, N7, I1, I2, I3]
    first | done | rfl
  have g2 := ne_lt ho hsd g1
  simp only [g1, g2, push_cast, ↓J1, ↓J2, N1, N2, N3, reduceCtorEq, N4, N5, N6, reduceIte, N7, I1, I2, I3]
  cases g3 : decide (owner s i < 0)
  · simp only [g3, push_cast, ↓J1, ↓J2, N1, N2, N3, reduceCtorEq, N4, N5, N6, reduceIte, N7, I1, I2, I3]
    first | done | rfl
  simp only [g3, push_cast, ↓J1, ↓J2, N1, N2, N3, reduceCtorEq, N4, N5, N6, reduceIte, N7, I1, I2, I3]
  refine ⟨_, c2, ?_⟩
  simp only [push_cast, ↓J1, ↓J2, N1, N2, N3, reduceCtorEq, N4, N5, N6, reduceIte, N7, I1, I2, I3]
  first | done | rfl
theorem t313 (b : Brd) (s : Sta) (sd i : Int) (g : staOk b s = true) (hsd : sd = 0 ∨ sd = 1) (hi : inR 0 (b.m.w * b.m.h - 1) i = true) (hb : BrdB (2^50) b) : Ev C 313 [brdF b, .agg (staF s), .int .i64 sd, .int .i64 i] (.bool (blk b s sd i)) := by
  have gb := sta_brd g
  have hun := sta_all g
  have hl := sta_len g
  have ho := owner_sd hun i
  have c1 := t144 hC s i (by omega)
  have c2 := t87 hC b s (1 - sd) i gb hun hi hb (by omega)
  have w1 : IntKind.i64.wrap (1 - sd) = 1 - sd := wrap64 (by omega) (by omega)
  simp only [brdF, rulF, mpF, List.cons_append, List.nil_append, staF, blk] at *
  refine rT hC Q313 ?_
  simp only [c313, push_cast, ↓J1, ↓J2, N1, N2, N3, reduceCtorEq, N4, N5, N6, reduceIte, N7, I1, I2, I3]
  refine ⟨_, c1, ?_⟩
  simp only [w1, push_cast, ↓J1, ↓J2, N1, N2, N3, reduceCtorEq, N4, N5, N6, reduceIte, N7, I1, I2, I3]
  cases g1 : decide (owner s i = 1 - sd)
  rotate_left
  · simp only [g1, push_cast, ↓J1, ↓J2, N1, N2, N3, reduceCtorEq, N4, N5, N6, reduceIte, N7, I1, I2, I3]
    first | done | rfl
  have g2 := ne_lt ho hsd g1
  simp only [g1, g2, push_cast, ↓J1, ↓J2, N1, N2, N3, reduceCtorEq, N4, N5, N6, reduceIte, N7, I1, I2, I3]
  cases g3 : decide (owner s i < 0)
  · simp only [g3, push_cast, ↓J1, ↓J2, N1, N2, N3, reduceCtorEq, N4, N5, N6, reduceIte, N7, I1, I2, I3]
    first | done | rfl
  simp only [g3, push_cast, ↓J1, ↓J2, N1, N2, N3, reduceCtorEq, N4, N5, N6, reduceIte, N7, I1, I2, I3]
  refine ⟨_, c2, ?_⟩
  simp only [push_cast, ↓J1, ↓J2, N1, N2, N3, reduceCtorEq, N4, N5, N6, reduceIte, N7, I1, I2, I3]
  first | done | rfl
theorem t290 (b : Brd) (s : Sta) (sd k : Int) (g : staOk b s = true) (hsd : sd = 0 ∨ sd = 1) (hk : inR 0 (b.r.ks.length - 1) k = true) (hb : BrdB (2^50) b) : Ev C 290 [brdF b, .agg (staF s), .int .i64 sd, .int .i64 k] (.ow 1 (bools (opn b s sd k))) := by
  have gb := sta_brd g
  have ht := brd_t gb
  have hn := (show b.m.t.length ≤ 100 by have := wh_le (mp_wh (brd_mp gb)).1 (mp_wh (brd_mp gb)).2; omega)
  have hin : ∀ j, j < b.m.t.length → inR 0 (b.m.w * b.m.h - 1) (j : Nat) = true := fun j hj => by simp only [inR, Bool.and_eq_true, decide_eq_true_eq]; omega
  have c1 := fun j hj => t151 hC b k (j : Nat) gb hk (hin j hj) hb
  have c2 := fun j hj => t312 hC b s sd (j : Nat) g hsd (hin j hj) hb
  have cz : ∀ j : Nat, j < b.m.t.length → decide (0 < costAt b k j) = !decide (costAt b k j = 0) := fun j hj => by
    have hka := kind_at (show kindAsk b k = true by simp only [kindAsk, gb, hk, Bool.and_self])
    have := (cost_get (b := b) (k := k.toNat) (i := j) gb (by omega) (hin j hj)).2.1
    rw [show ((k.toNat : Nat) : Int) = k by omega] at this
    rw [Bool.eq_iff_iff]; simp; omega
  simp only [brdF, rulF, mpF, List.cons_append, List.nil_append, staF] at *
  refine rT hC Q290 ?_ (own_bls _)
  simp only [c290, ints_length, push_cast, ↓J1, ↓J2, N1, N2, N3, reduceCtorEq, N4, N5, N6, reduceIte, N7, I1, I2, I3]
  refine RL_count (fun i => ⟨tb 37 .any [(2, .int .i64 sd), (3, .int .i64 k), (4, .ptr 0 none 0 0 0), (5, .ptr 1 none 0 0 0), (9, .ref 2 none 1 0 i), (15, .int .i64 (b.m.t.length : Int)), (16, .int .i64 (i : Int))], [(2, .slice 1 (bools (opnT b s sd k i))), (1, .var (staF s)), (0, .var (rulF b.r ++ mpF b.m))], 3⟩) (fun _ => True) b.m.t.length 0 (hdA [(2, 2), (1, 1), (0, 0)]) (by omega) trivial fun i hi _ J hJ => ?_
  simp only [rulF, mpF, List.cons_append, List.nil_append, staF]
  by_cases h1 : i < b.m.t.length
  · have hJ1 := hJ h1 trivial
    clear hJ
    have hlt : decide ((i : Int) < (b.m.t.length : Int)) = true := decide_eq_true (by omega)
    have hol := opnT_len b s sd k i
    have tk : List.take i (bools (opnT b s sd k i)) = bools (opnT b s sd k i) := List.take_of_length_le (by rw [bools_length]; omega)
    have e2 : opnAt b s sd k i = (!decide (costAt b k i = 0) && !blk b s sd i) := by simp only [opnAt, cz i h1]
    rw [opnT_succ, e2] at hJ1
    simp only [hlt, push_cast, ↓J1, ↓J2, N1, N2, N3, reduceCtorEq, N4, N5, N6, reduceIte, N7, I1, I2, I3]
    refine ⟨_, c1 i h1, ?_⟩
    cases g1 : decide (costAt b k i = 0)
    · simp only [g1, push_cast, ↓J1, ↓J2, N1, N2, N3, reduceCtorEq, N4, N5, N6, reduceIte, N7, I1, I2, I3]
      refine ⟨_, c2 i h1, ?_⟩
      simp only [g1, Bool.not_false, Bool.true_and] at hJ1
      simp only [tk, bools_length, hol, allScs, apYR_sc, push_cast, ↓J1, ↓J2, N1, N2, N3, reduceCtorEq, N4, N5, N6, reduceIte, N7, I1, I2, I3]
      repeat (refine ⟨by omega, ?_⟩)
      refine hJ1 _ (hdA [(4, 2), (1, 1), (0, 0)] (hh := ?_))
      simp only [canR, canB, renO, renL, ren, lkp, hget, N7, N5, Nat.not_lt_zero, if_false, if_true, reduceIte, List.append_nil, List.nil_append, bools_sn]
      all_goals rfl
    · simp only [g1, Bool.not_true, Bool.false_and] at hJ1
      simp only [g1, tk, bools_length, hol, allScs, apYR_sc, push_cast, ↓J1, ↓J2, N1, N2, N3, reduceCtorEq, N4, N5, N6, reduceIte, N7, I1, I2, I3]
      repeat (refine ⟨by omega, ?_⟩)
      refine hJ1 _ (hdA [(4, 2), (1, 1), (0, 0)] (hh := ?_))
      simp only [canR, canB, renO, renL, ren, lkp, hget, N7, N5, Nat.not_lt_zero, if_false, if_true, reduceIte, List.append_nil, List.nil_append, bools_sn]
      all_goals rfl
  · obtain rfl : i = b.m.t.length := by omega
    have hlt : decide ((b.m.t.length : Int) < (b.m.t.length : Int)) = false := decide_eq_false (by omega)
    simp only [hlt, push_cast, ↓J1, ↓J2, N1, N2, N3, reduceCtorEq, N4, N5, N6, reduceIte, N7, I1, I2, I3]
    exact RetTo_ow rfl (by rw [bools_length, opn_length])
theorem t291 (b : Brd) (s : Sta) (sd k : Int) (g : staOk b s = true) (hsd : sd = 0 ∨ sd = 1) (hk : inR 0 (b.r.ks.length - 1) k = true) (hb : BrdB (2^50) b) : Ev C 291 [brdF b, .agg (staF s), .int .i64 sd, .int .i64 k] (.ow 1 (bools (opn b s sd k))) := by
  have gb := sta_brd g
  have hm := mp_wh (brd_mp gb)
  have ht := brd_t gb
  have hn := (show b.m.t.length ≤ 100 by have := wh_le (mp_wh (brd_mp gb)).1 (mp_wh (brd_mp gb)).2; omega)
  have hin : ∀ j, j < b.m.t.length → inR 0 (b.m.w * b.m.h - 1) (j : Nat) = true := fun j hj => by simp only [inR, Bool.and_eq_true, decide_eq_true_eq]; omega
  have c0 := t130 hC b.m hm.1 hm.2
  rw [← ht] at c0
  have c1 := fun j hj => t143 hC b k (j : Nat) gb hk (hin j hj) hb
  have c2 := fun j hj => t313 hC b s sd (j : Nat) g hsd (hin j hj) hb
  simp only [brdF, rulF, mpF, List.cons_append, List.nil_append, staF] at *
  refine rT hC Q291 ?_ (own_bls _)
  simp only [c291, push_cast, ↓J1, ↓J2, N1, N2, N3, reduceCtorEq, N4, N5, N6, reduceIte, N7, I1, I2, I3]
  refine ⟨_, c0, ?_⟩
  simp only [Int.toNat_natCast, List.length_replicate, bools_rep, push_cast, ↓J1, ↓J2, N1, N2, N3, reduceCtorEq, N4, N5, N6, reduceIte, N7, I1, I2, I3]
  repeat (refine ⟨by omega, ?_⟩)
  refine RL_count (fun i => ⟨tb 38 .any [(2, .int .i64 sd), (3, .int .i64 k), (4, .ptr 0 none 0 0 0), (5, .ptr 1 none 0 0 0), (9, .ref 2 none 1 0 b.m.t.length), (16, .int .i64 (b.m.t.length : Int)), (17, .int .i64 (i : Int))], [(2, .slice 1 (bools (opnM b s sd k i b.m.t.length))), (1, .var (staF s)), (0, .var (rulF b.r ++ mpF b.m))], 3⟩) (fun _ => True) b.m.t.length 0 (by rw [opnM_0]; exact (hdA [(2, 2), (1, 1), (0, 0)])) (by omega) trivial fun i hi _ J hJ => ?_
  simp only [rulF, mpF, List.cons_append, List.nil_append, staF]
  by_cases h1 : i < b.m.t.length
  · have hJ1 := hJ h1 trivial
    clear hJ
    have hlt : decide ((i : Int) < (b.m.t.length : Int)) = true := decide_eq_true (by omega)
    have hol := opnM_len (b := b) (s := s) (sd := sd) (k := k) hi
    have hset := opnM_set (b := b) (s := s) (sd := sd) (k := k) h1
    have e1 := bools_get (v := opnM b s sd k i b.m.t.length) (k := i) (by omega)
    have e2 : opnAt b s sd k i = (decide (0 < costAt b k i) && !blk b s sd i) := rfl
    rw [← hset, e2] at hJ1
    simp only [hlt, push_cast, ↓J1, ↓J2, N1, N2, N3, reduceCtorEq, N4, N5, N6, reduceIte, N7, I1, I2, I3]
    refine ⟨_, c1 i h1, ?_⟩
    cases g1 : decide (0 < costAt b k i)
    · simp only [g1, Bool.false_and] at hJ1
      simp only [g1, Int.toNat_natCast, e1, bools_set, bools_length, hol, push_cast, ↓J1, ↓J2, N1, N2, N3, reduceCtorEq, N4, N5, N6, reduceIte, N7, I1, I2, I3]
      repeat (refine ⟨by omega, ?_⟩)
      exact hJ1 _ (hdA [(2, 2), (1, 1), (0, 0)])
    · simp only [g1, Bool.true_and] at hJ1
      simp only [g1, push_cast, ↓J1, ↓J2, N1, N2, N3, reduceCtorEq, N4, N5, N6, reduceIte, N7, I1, I2, I3]
      refine ⟨_, c2 i h1, ?_⟩
      simp only [Int.toNat_natCast, e1, bools_set, bools_length, hol, push_cast, ↓J1, ↓J2, N1, N2, N3, reduceCtorEq, N4, N5, N6, reduceIte, N7, I1, I2, I3]
      repeat (refine ⟨by omega, ?_⟩)
      exact hJ1 _ (hdA [(2, 2), (1, 1), (0, 0)])
  · obtain rfl : i = b.m.t.length := by omega
    have hlt : decide ((b.m.t.length : Int) < (b.m.t.length : Int)) = false := decide_eq_false (by omega)
    rw [opnM_n]
    simp only [hlt, push_cast, ↓J1, ↓J2, N1, N2, N3, reduceCtorEq, N4, N5, N6, reduceIte, N7, I1, I2, I3]
    exact RetTo_ow rfl (by rw [bools_length, opn_length])
theorem t241 (m : Mp) (c : Int) (hw : 1 ≤ m.w ∧ m.w ≤ 10) (hh : 1 ≤ m.h ∧ m.h ≤ 10) (hc : 0 ≤ c ∧ c < 300) : Ev C 241 [.agg (mpF m), .int .i64 c] (.ow 1 (ints (nbs m c))) := by
  have c1 := fun d (hd : d < 6) => t223 hC m c (d : Nat) hw hh hc ⟨by omega, by omega⟩
  simp only [mpF] at *
  refine rT hC Q241 ?_ (own_ints _)
  simp only [c241, push_cast, ↓J1, ↓J2, N1, N2, N3, reduceCtorEq, N4, N5, N6, reduceIte, N7, I1, I2, I3]
  refine RL_count (fun i => ⟨tb 24 .any [(1, .int .i64 c), (2, .ptr 0 none 0 0 0), (5, .ref 1 none 1 0 (nbT m c i).length), (9, .int .i64 (i : Int))], [(1, .slice 1 (ints (nbT m c i))), (0, .var (mpF m))], 2⟩) (fun _ => True) 6 0 (hdA [(1, 1), (0, 0)]) (by omega) trivial fun i hi _ J hJ => ?_
  simp only [mpF]
  by_cases h1 : i < 6
  · have hJ1 := hJ h1 trivial
    clear hJ
    have hlt : decide ((i : Int) < 6) = true := decide_eq_true (by omega)
    have hle := nbT_le m c i
    have tk : List.take (nbT m c i).length (ints (nbT m c i)) = ints (nbT m c i) := List.take_of_length_le (by rw [ints_length]; omega)
    rw [nbT_succ] at hJ1
    simp only [hlt, push_cast, ↓J1, ↓J2, N1, N2, N3, reduceCtorEq, N4, N5, N6, reduceIte, N7, I1, I2, I3]
    refine ⟨_, c1 i h1, ?_⟩
    by_cases g1 : 0 ≤ nextM m c (i : Nat)
    · have g2 : decide (0 ≤ nextM m c (i : Nat)) = true := decide_eq_true g1
      simp only [if_pos g1] at hJ1
      simp only [g2, tk, ints_length, allScs, apYR_sc, push_cast, ↓J1, ↓J2, N1, N2, N3, reduceCtorEq, N4, N5, N6, reduceIte, N7, I1, I2, I3]
      repeat (refine ⟨by omega, ?_⟩)
      refine hJ1 _ (hdA [(3, 1), (0, 0)] (hh := ?_))
      simp only [canR, canB, renO, renL, ren, lkp, hget, N7, N5, Nat.not_lt_zero, if_false, if_true, reduceIte, List.append_nil, List.nil_append, ints_sn]
      all_goals rfl
    · have g2 : decide (0 ≤ nextM m c (i : Nat)) = false := decide_eq_false g1
      simp only [if_neg g1] at hJ1
      simp only [g2, push_cast, ↓J1, ↓J2, N1, N2, N3, reduceCtorEq, N4, N5, N6, reduceIte, N7, I1, I2, I3]
      exact hJ1 _ (hdA [(1, 1), (0, 0)])
  · have hlt : decide ((i : Int) < 6) = false := decide_eq_false (by omega)
    rw [show nbs m c = nbT m c i by rw [show i = 6 by omega]; rfl]
    simp only [hlt, push_cast, ↓J1, ↓J2, N1, N2, N3, reduceCtorEq, N4, N5, N6, reduceIte, N7, I1, I2, I3]
    exact RetTo_ow rfl (by rw [ints_length])
end
end Go.Proofs.YtjaccjeejeiphaaGreatDoor.X
set_option maxHeartbeats 4000000
set_option maxRecDepth 8000
set_option linter.unusedSimpArgs false
set_option linter.unusedVariables false
open Nat renaming reduceBEq → N1, reduceAdd → N2, reduceSub → N3, reduceMul → N4, reduceEqDiff → N5, reduceLeDiff → N6, reduceLT → N7
open Int renaming reduceLE → I1, reduceLT → I2, reduceToNat → I3
namespace Go.Proofs.YtjaccjeejeiphaaGreatDoor.X
open Go
attribute [local irreducible] Ev
def bS (op : List Bool) (l : List Int) (j : Nat) : List Int × List Int := (l.take j).foldl (bsrc op) (List.replicate op.length (-1), [])
theorem bS_succ {op : List Bool} {l : List Int} {j : Nat} (h : j < l.length) : bS op l (j + 1) = bsrc op (bS op l j) (l.getD j 0) := by
  simp only [bS]
  rw [List.take_succ_eq_append_getElem h, List.foldl_append]
  simp only [List.foldl_cons, List.foldl_nil, List.getD, List.getElem?_eq_getElem h, Option.getD_some]
theorem bS_inv {op : List Bool} {l : List Int} (hl : ∀ i ∈ l, 0 ≤ i ∧ i < op.length) (j : Nat) : BInv op.length (op.length + (l.take j).length) (bS op l j) :=
  bsrcs_inv (M := 0) (l.take j) (bp0_start op) fun i hi => hl i (List.mem_of_mem_take hi)
theorem bS_all {op : List Bool} {l : List Int} : bS op l l.length = bp0 op l := by simp only [bS, bp0, List.take_length]
theorem getD_app {l t : List Int} {a : Nat} (h : a < l.length) : (l ++ t).getD a 0 = l.getD a 0 := by
  simp only [List.getD, List.getElem?_append_left h]
theorem getD_in {l : List Int} {j : Nat} (h : j < l.length) : l.getD j 0 ∈ l := getD_mem h 0
theorem bP_next {nb : Int → List Int} {op : List Bool} {l : List Int} {a : Nat} (h : a < (bP nb op l a).2.length) : bP nb op l (a + 1) = (nb ((bP nb op l a).2.getD a 0)).foldl (bfst op ((bP nb op l a).2.getD a 0)) (bP nb op l a) := by
  simp only [bP, if_pos h, bnode]
def bDn (m : Mp) (op : List Bool) (c : Int) (p : List Int × List Int) (d : Nat) : List Int × List Int := (nbT m c d).foldl (bfst op c) p
theorem bDn_succ (m : Mp) (op : List Bool) (c : Int) (p : List Int × List Int) (d : Nat) : bDn m op c p (d + 1) = if 0 ≤ nextM m c (d : Nat) then bfst op c (bDn m op c p d) (nextM m c (d : Nat)) else bDn m op c p d := by
  simp only [bDn, nbT_succ]
  split
  · rw [List.foldl_append]; rfl
  · rfl
def bDl (op : List Bool) (c : Int) (p : List Int × List Int) (ks : List Int) (j : Nat) : List Int × List Int := (ks.take j).foldl (bfst op c) p
theorem bDl_succ {op : List Bool} {c : Int} {p : List Int × List Int} {ks : List Int} {j : Nat} (h : j < ks.length) : bDl op c p ks (j + 1) = bfst op c (bDl op c p ks j) (ks.getD j 0) := by
  simp only [bDl]
  rw [List.take_succ_eq_append_getElem h, List.foldl_append]
  simp only [List.foldl_cons, List.foldl_nil, List.getD, List.getElem?_eq_getElem h, Option.getD_some]
theorem nbT_bnd {b : Brd} (g : brdOk b = true) (c : Int) (d : Nat) : ∀ k ∈ nbT b.m c d, 0 ≤ k ∧ k < (b.m.t.length : Int) := by
  intro k hk
  have hm := mp_wh (brd_mp g)
  simp only [nbT, List.mem_filter, List.mem_map, decide_eq_true_eq] at hk
  obtain ⟨⟨d, _, rfl⟩, h⟩ := hk
  rw [brd_t g]
  exact ⟨h, (nextM_bnd hm.1 hm.2).2⟩
section
variable {C : CT} (hC : Closed Tryz.prog G1 md0 C)
include hC
theorem t292 (b : Brd) (op : List Bool) (l : List Int) (g : brdOk b = true) (ho : op.length = b.m.t.length) (hl : ∀ i ∈ l, 0 ≤ i ∧ i < b.m.w * b.m.h) (hll : l.length < 2^20) : Ev C 292 [.agg (mpF b.m), .sl (bools op), .sl (ints l)] (.ow 1 (ints (far b.m op l))) := by
  have hm := mp_wh (brd_mp g)
  have ht := brd_t g
  have hn : op.length ≤ 100 := (by have := wh_le hm.1 hm.2; omega)
  have hlo : ∀ i ∈ l, 0 ≤ i ∧ i < (op.length : Int) := by rw [ho, ht]; exact hl
  have cn := fun c d (h1 : 0 ≤ c ∧ c < 300) (h2 : d < 6) => t189 hC b.m c (d : Nat) hm.1 hm.2 h1 ⟨by omega, by omega⟩
  simp only [mpF] at *
  refine rT hC Q292 ?_ (own_ints _)
  simp only [c292, bools_length, push_cast, ↓J1, ↓J2, N1, N2, N3, reduceCtorEq, N4, N5, N6, reduceIte, N7, I1, I2, I3]
  simp only [Int.toNat_natCast, List.length_replicate, ints_rep0, push_cast, ↓J1, ↓J2, N1, N2, N3, reduceCtorEq, N4, N5, N6, reduceIte, N7, I1, I2, I3]
  repeat (refine ⟨by omega, ?_⟩)
  refine RL_count (fun i => ⟨tb 93 .any [(1, .sl (bools op)), (2, .sl (ints l)), (3, .ptr 0 none 0 0 0), (7, .ref 1 none 1 0 op.length), (19, .int .i64 (op.length : Int)), (20, .int .i64 (i : Int))], [(1, .slice 1 (ints (repT i op.length))), (0, .var (mpF b.m))], 2⟩) (fun _ => True) op.length 0 (by rw [repT_0]; exact (hdA [(1, 1), (0, 0)])) (by omega) trivial fun i hi _ J hJ => ?_
  simp only [mpF]
  by_cases h1 : i < op.length
  · have hJ1 := hJ h1 trivial
    clear hJ
    have hlt : decide ((i : Int) < (op.length : Int)) = true := decide_eq_true (by omega)
    have hrl := repT_len hi
    have e1 : (ints (repT i op.length))[i]? = some [.int .i64 ((repT i op.length).getD i 0)] := cut_ints_get (by omega)
    rw [← repT_set h1] at hJ1
    simp only [hlt, Int.toNat_natCast, e1, ints_set, ints_length, hrl, push_cast, ↓J1, ↓J2, N1, N2, N3, reduceCtorEq, N4, N5, N6, reduceIte, N7, I1, I2, I3]
    repeat (refine ⟨by omega, ?_⟩)
    exact hJ1 _ (hdA [(1, 1), (0, 0)])
  obtain rfl : i = op.length := by omega
  clear hJ h1
  have hlt : decide ((op.length : Int) < (op.length : Int)) = false := decide_eq_false (by omega)
  rw [repT_n]
  simp only [hlt, ints_length, push_cast, ↓J1, ↓J2, N1, N2, N3, reduceCtorEq, N4, N5, N6, reduceIte, N7, I1, I2, I3]
  refine RL_count (fun j => ⟨tb 93 .any [(9, .ref 2 none 1 0 (bS op l j).2.length), (1, .sl (bools op)), (3, .ptr 0 none 0 0 0), (7, .ref 1 none 1 0 op.length), (27, .sl (ints l)), (28, .int .i64 (l.length : Int)), (29, .int .i64 (j : Int))], [(2, .slice 1 (ints (bS op l j).2)), (1, .slice 1 (ints (bS op l j).1)), (0, .var (mpF b.m))], 3⟩) (fun _ => True) l.length 0 (hdO 9 2 1 [(1, 1), (0, 0)]) (by omega) trivial fun j hj _ J hJ => ?_
  simp only [mpF]
  by_cases h1 : j < l.length
  · have hJ1 := hJ h1 trivial
    clear hJ
    have hlt : decide ((j : Int) < (l.length : Int)) = true := decide_eq_true (by omega)
    have inv := bS_inv hlo j
    have hx := hlo _ (getD_in h1)
    rw [bS_succ h1] at hJ1
    have e1 : (ints l)[j]? = some [.int .i64 (l.getD j 0)] := cut_ints_get h1
    have hlt2 : (l.take j).length ≤ l.length := by simp; omega
    generalize bS op l j = p at *
    obtain ⟨o, q⟩ := p
    have i1 := inv.len
    have i2 := inv.cn
    simp only at i1 i2 hJ1 ⊢
    generalize l.getD j 0 = k at *
    obtain ⟨kk, rfl⟩ : ∃ m : Nat, k = m := ⟨k.toNat, by omega⟩
    have e2 := bools_get (v := op) (k := kk) (by omega)
    have e3 : (ints o)[kk]? = some [.int .i64 (o.getD kk 0)] := cut_ints_get (by omega)
    have tk : List.take q.length (ints q) = ints q := List.take_of_length_le (by rw [ints_length]; omega)
    simp only [bsrc, Int.toNat_natCast] at hJ1
    simp only [hlt, Int.toNat_natCast, e1, e2, ints_length, bools_length, push_cast, ↓J1, ↓J2, N1, N2, N3, reduceCtorEq, N4, N5, N6, reduceIte, N7, I1, I2, I3]
    repeat (refine ⟨by omega, ?_⟩)
    cases g1 : op.getD kk false
    · simp only [g1, Bool.false_eq_true, if_false] at hJ1
      simp only [g1, push_cast, ↓J1, ↓J2, N1, N2, N3, reduceCtorEq, N4, N5, N6, reduceIte, N7, I1, I2, I3]
      exact hJ1 _ (hdA [(2, 2), (1, 1), (0, 0)])
    · simp only [g1, if_true, List.length_append, List.length_singleton] at hJ1
      simp only [g1, Int.toNat_natCast, e3, ints_set, tk, i1, ints_length, allScs, apYR_sc, push_cast, ↓J1, ↓J2, N1, N2, N3, reduceCtorEq, N4, N5, N6, reduceIte, N7, I1, I2, I3]
      repeat (refine ⟨by omega, ?_⟩)
      refine hJ1 _ (hdA [(4, 2), (1, 1), (0, 0)] (hh := ?_))
      simp only [canR, canB, renO, renL, ren, lkp, hget, N7, N5, Nat.not_lt_zero, if_false, if_true, reduceIte, List.append_nil, List.nil_append, ints_sn]
      all_goals rfl
  obtain rfl : j = l.length := by omega
  clear hJ h1
  have hlt : decide ((l.length : Int) < (l.length : Int)) = false := decide_eq_false (by omega)
  simp only [bS_all]
  simp only [hlt, push_cast, ↓J1, ↓J2, N1, N2, N3, reduceCtorEq, N4, N5, N6, reduceIte, N7, I1, I2, I3]
  have hN := bN_le (nb := nbs b.m) (op := op) (l := l)
  refine RL_count (fun a => ⟨tb 93 .any [(9, .ref 2 none 1 0 (bP (nbs b.m) op l a).2.length), (1, .sl (bools op)), (3, .ptr 0 none 0 0 0), (7, .ref 1 none 1 0 op.length), (12, .int .i64 (a : Int))], [(2, .slice 1 (ints (bP (nbs b.m) op l a).2)), (1, .slice 1 (ints (bP (nbs b.m) op l a).1)), (0, .var (mpF b.m))], 3⟩) (fun _ => True) (bN (nbs b.m) op l) 0 (hdA [(2, 2), (1, 1), (0, 0)]) (by omega) trivial fun a ha _ J hJ => ?_
  simp only [mpF]
  have inv := far_inv (op := op) (l := l) g ho hl a
  by_cases h1 : a < bN (nbs b.m) op l
  rotate_left
  · obtain rfl : a = bN (nbs b.m) op l := by omega
    have hend := far_end (op := op) (l := l) g ho hl
    have hlt : decide (((bN (nbs b.m) op l : Nat) : Int) < ((bP (nbs b.m) op l (bN (nbs b.m) op l)).2.length : Int)) = false := decide_eq_false (by omega)
    have i1 := inv.len
    simp only [hlt, push_cast, ↓J1, ↓J2, N1, N2, N3, reduceCtorEq, N4, N5, N6, reduceIte, N7, I1, I2, I3]
    exact RetTo_ow rfl (by rw [ints_length]; exact i1.symm)
  have hJ1 := hJ h1 trivial
  clear hJ
  have hal := bN_lt h1
  rw [bP_next hal] at hJ1
  have hq := bq_at inv hal
  have hlt : decide ((a : Int) < ((bP (nbs b.m) op l a).2.length : Int)) = true := decide_eq_true (by omega)
  generalize bP (nbs b.m) op l a = p at *
  simp only [hlt, push_cast, ↓J1, ↓J2, N1, N2, N3, reduceCtorEq, N4, N5, N6, reduceIte, N7, I1, I2, I3]
  generalize hc : p.2.getD a 0 = c at *
  obtain ⟨cc, rfl⟩ : ∃ m : Nat, c = m := ⟨c.toNat, by omega⟩
  refine RL_count (fun d => ⟨tb 93 .any [(9, .ref 2 none 1 0 (bDn b.m op cc p d).2.length), (1, .sl (bools op)), (3, .ptr 0 none 0 0 0), (7, .ref 1 none 1 0 op.length), (12, .int .i64 (a : Int)), (13, .int .i64 (d : Int))], [(2, .slice 1 (ints (bDn b.m op cc p d).2)), (1, .slice 1 (ints (bDn b.m op cc p d).1)), (0, .var (mpF b.m))], 3⟩) (fun _ => True) 6 0 (hdA [(2, 2), (1, 1), (0, 0)]) (by omega) trivial fun d hd _ JJ hJ2 => ?_
  simp only [mpF]
  obtain ⟨inv2, ⟨tt, ht2⟩, hv⟩ := bfold_inv (op := op) (nbT b.m cc d) inv hq (by rw [ho]; exact nbT_bnd g cc d)
  by_cases h2 : d < 6
  rotate_left
  · have hd6 : decide ((d : Int) < 6) = false := decide_eq_false (by omega)
    have e6 : (nbs b.m cc).foldl (bfst op cc) p = bDn b.m op cc p d := by rw [show d = 6 by omega]; rfl
    rw [e6] at hJ1
    simp only [hd6, push_cast, ↓J1, ↓J2, N1, N2, N3, reduceCtorEq, N4, N5, N6, reduceIte, N7, I1, I2, I3]
    exact hJ1 _ (hdA [(2, 2), (1, 1), (0, 0)])
  have hd6 : decide ((d : Int) < 6) = true := decide_eq_true (by omega)
  have hK := hJ2 h2 trivial
  clear hJ2 hJ1
  rw [bDn_succ] at hK
  have eb : bDn b.m op cc p d = (nbT b.m cc d).foldl (bfst op cc) p := rfl
  rw [← eb] at inv2 ht2 hv
  have hca : (bDn b.m op cc p d).2.getD a 0 = cc := by rw [ht2, getD_app hal]; exact hc
  have hal2 : a < (bDn b.m op cc p d).2.length := by rw [ht2, List.length_append]; omega
  clear eb
  have hnx := nextM_bnd (m := b.m) (i := cc) (d := d) hm.1 hm.2
  have cn1 := cn cc d (by omega) h2
  have hq3 := bq_at inv2 hal2
  rw [hca] at hq3
  generalize bDn b.m op cc p d = r at *
  obtain ⟨o, q⟩ := r
  have i1 := inv2.len
  have i2 := inv2.cn
  have i3 := inv2.bnd
  simp only at i1 i2 i3 hK hca hal2 hq3 ⊢
  have e1 : (ints q)[a]? = some [.int .i64 cc] := by rw [cut_ints_get hal2, hca]
  simp only [hd6, Int.toNat_natCast, e1, ints_length, push_cast, ↓J1, ↓J2, N1, N2, N3, reduceCtorEq, N4, N5, N6, reduceIte, N7, I1, I2, I3]
  repeat (refine ⟨by omega, ?_⟩)
  refine ⟨_, cn1, ?_⟩
  clear cn1
  generalize nextM b.m cc (d : Nat) = k at *
  by_cases g1 : 0 ≤ k
  rotate_left
  · have g2 : decide (0 ≤ k) = false := decide_eq_false g1
    simp only [if_neg g1] at hK
    simp only [g2, push_cast, ↓J1, ↓J2, N1, N2, N3, reduceCtorEq, N4, N5, N6, reduceIte, N7, I1, I2, I3]
    exact hK _ (hdA [(2, 2), (1, 1), (0, 0)])
  have g2 : decide (0 ≤ k) = true := decide_eq_true g1
  simp only [if_pos g1] at hK
  obtain ⟨kk, rfl⟩ : ∃ m : Nat, k = m := ⟨k.toNat, by omega⟩
  have hko : kk < op.length := by omega
  have e2 := bools_get (v := op) (k := kk) hko
  have e3 : (ints o)[kk]? = some [.int .i64 (o.getD kk 0)] := cut_ints_get (by omega)
  have e5 : (ints o)[cc]? = some [.int .i64 (o.getD cc 0)] := cut_ints_get (by omega)
  have hb5 := i3 _ (getD_mem (l := o) (i := cc) (by omega) 0)
  have w5 : IntKind.i64.wrap (o.getD cc 0 + 1) = o.getD cc 0 + 1 := wrap64 (by omega) (by omega)
  have tk : List.take q.length (ints q) = ints q := List.take_of_length_le (by rw [ints_length]; omega)
  simp only [bfst, Int.toNat_natCast] at hK
  simp only [g2, Int.toNat_natCast, e2, ints_length, bools_length, push_cast, ↓J1, ↓J2, N1, N2, N3, reduceCtorEq, N4, N5, N6, reduceIte, N7, I1, I2, I3]
  repeat (refine ⟨by omega, ?_⟩)
  cases g3 : op.getD kk false
  · simp only [g3, Bool.false_and, Bool.false_eq_true, if_false] at hK
    simp only [g3, push_cast, ↓J1, ↓J2, N1, N2, N3, reduceCtorEq, N4, N5, N6, reduceIte, N7, I1, I2, I3]
    exact hK _ (hdA [(2, 2), (1, 1), (0, 0)])
  simp only [g3, Int.toNat_natCast, e3, ints_length, i1, push_cast, ↓J1, ↓J2, N1, N2, N3, reduceCtorEq, N4, N5, N6, reduceIte, N7, I1, I2, I3]
  repeat (refine ⟨by omega, ?_⟩)
  cases g4 : decide (o.getD kk 0 < 0)
  · simp only [g3, g4, Bool.true_and, Bool.false_eq_true, if_false] at hK
    simp only [g4, push_cast, ↓J1, ↓J2, N1, N2, N3, reduceCtorEq, N4, N5, N6, reduceIte, N7, I1, I2, I3]
    exact hK _ (hdA [(2, 2), (1, 1), (0, 0)])
  simp only [g3, g4, Bool.true_and, if_true, List.length_append, List.length_singleton] at hK
  simp only [g4, Int.toNat_natCast, e1, e3, e5, w5, ints_set, tk, i1, ints_length, allScs, apYR_sc, push_cast, ↓J1, ↓J2, N1, N2, N3, reduceCtorEq, N4, N5, N6, reduceIte, N7, I1, I2, I3]
  repeat (refine ⟨by omega, ?_⟩)
  refine hK _ (hdA [(4, 2), (1, 1), (0, 0)] (hh := ?_))
  simp only [canR, canB, renO, renL, ren, lkp, hget, N7, N5, Nat.not_lt_zero, if_false, if_true, reduceIte, List.append_nil, List.nil_append, ints_sn]
  all_goals rfl
theorem t311 (b : Brd) (op : List Bool) (l : List Int) (g : brdOk b = true) (ho : op.length = b.m.t.length) (hl : ∀ i ∈ l, 0 ≤ i ∧ i < b.m.w * b.m.h) (hll : l.length < 2^20) : Ev C 311 [.agg (mpF b.m), .sl (bools op), .sl (ints l)] (.ow 1 (ints (far b.m op l))) := by
  have hm := mp_wh (brd_mp g)
  have ht := brd_t g
  have hn : op.length ≤ 100 := (by have := wh_le hm.1 hm.2; omega)
  have hlo : ∀ i ∈ l, 0 ≤ i ∧ i < (op.length : Int) := by rw [ho, ht]; exact hl
  have cn := fun c (h1 : 0 ≤ c ∧ c < 300) => t241 hC b.m c hm.1 hm.2 h1
  simp only [mpF] at *
  refine rT hC Q311 ?_ (own_ints _)
  simp only [c311, bools_length, push_cast, ↓J1, ↓J2, N1, N2, N3, reduceCtorEq, N4, N5, N6, reduceIte, N7, I1, I2, I3]
  simp only [Int.toNat_natCast, List.length_replicate, ints_rep0, push_cast, ↓J1, ↓J2, N1, N2, N3, reduceCtorEq, N4, N5, N6, reduceIte, N7, I1, I2, I3]
  repeat (refine ⟨by omega, ?_⟩)
  refine RL_count (fun i => ⟨tb 91 .any [(1, .sl (bools op)), (2, .sl (ints l)), (3, .ptr 0 none 0 0 0), (7, .ref 1 none 1 0 op.length), (8, .ref 2 none 1 0 0), (20, .int .i64 (op.length : Int)), (21, .int .i64 (i : Int))], [(2, .slice 1 []), (1, .slice 1 (ints (repT i op.length))), (0, .var (mpF b.m))], 3⟩) (fun _ => True) op.length 0 (by rw [repT_0]; exact (hdA [(2, 2), (1, 1), (0, 0)])) (by omega) trivial fun i hi _ J hJ => ?_
  simp only [mpF]
  by_cases h1 : i < op.length
  · have hJ1 := hJ h1 trivial
    clear hJ
    have hlt : decide ((i : Int) < (op.length : Int)) = true := decide_eq_true (by omega)
    have hrl := repT_len hi
    have e1 : (ints (repT i op.length))[i]? = some [.int .i64 ((repT i op.length).getD i 0)] := cut_ints_get (by omega)
    rw [← repT_set h1] at hJ1
    simp only [hlt, Int.toNat_natCast, e1, ints_set, ints_length, hrl, push_cast, ↓J1, ↓J2, N1, N2, N3, reduceCtorEq, N4, N5, N6, reduceIte, N7, I1, I2, I3]
    repeat (refine ⟨by omega, ?_⟩)
    exact hJ1 _ (hdA [(2, 2), (1, 1), (0, 0)])
  obtain rfl : i = op.length := by omega
  clear hJ h1
  have hlt : decide ((op.length : Int) < (op.length : Int)) = false := decide_eq_false (by omega)
  rw [repT_n]
  simp only [hlt, ints_length, push_cast, ↓J1, ↓J2, N1, N2, N3, reduceCtorEq, N4, N5, N6, reduceIte, N7, I1, I2, I3]
  refine RL_count (fun j => ⟨tb 91 .any [(8, .ref 2 none 1 0 (bS op l j).2.length), (1, .sl (bools op)), (3, .ptr 0 none 0 0 0), (7, .ref 1 none 1 0 op.length), (28, .sl (ints l)), (29, .int .i64 (l.length : Int)), (30, .int .i64 (j : Int))], [(2, .slice 1 (ints (bS op l j).2)), (1, .slice 1 (ints (bS op l j).1)), (0, .var (mpF b.m))], 3⟩) (fun _ => True) l.length 0 (hdA [(2, 2), (1, 1), (0, 0)]) (by omega) trivial fun j hj _ J hJ => ?_
  simp only [mpF]
  by_cases h1 : j < l.length
  · have hJ1 := hJ h1 trivial
    clear hJ
    have hlt : decide ((j : Int) < (l.length : Int)) = true := decide_eq_true (by omega)
    have inv := bS_inv hlo j
    have hx := hlo _ (getD_in h1)
    rw [bS_succ h1] at hJ1
    have e1 : (ints l)[j]? = some [.int .i64 (l.getD j 0)] := cut_ints_get h1
    have hlt2 : (l.take j).length ≤ l.length := by simp; omega
    generalize bS op l j = p at *
    obtain ⟨o, q⟩ := p
    have i1 := inv.len
    have i2 := inv.cn
    simp only at i1 i2 hJ1 ⊢
    generalize l.getD j 0 = k at *
    obtain ⟨kk, rfl⟩ : ∃ m : Nat, k = m := ⟨k.toNat, by omega⟩
    have e2 := bools_get (v := op) (k := kk) (by omega)
    have e3 : (ints o)[kk]? = some [.int .i64 (o.getD kk 0)] := cut_ints_get (by omega)
    have tk : List.take q.length (ints q) = ints q := List.take_of_length_le (by rw [ints_length]; omega)
    simp only [bsrc, Int.toNat_natCast] at hJ1
    simp only [hlt, Int.toNat_natCast, e1, e2, ints_length, bools_length, push_cast, ↓J1, ↓J2, N1, N2, N3, reduceCtorEq, N4, N5, N6, reduceIte, N7, I1, I2, I3]
    repeat (refine ⟨by omega, ?_⟩)
    cases g1 : op.getD kk false
    · simp only [g1, Bool.false_eq_true, if_false] at hJ1
      simp only [g1, push_cast, ↓J1, ↓J2, N1, N2, N3, reduceCtorEq, N4, N5, N6, reduceIte, N7, I1, I2, I3]
      exact hJ1 _ (hdA [(2, 2), (1, 1), (0, 0)])
    · simp only [g1, if_true, List.length_append, List.length_singleton] at hJ1
      simp only [g1, Int.toNat_natCast, e3, ints_set, tk, i1, ints_length, allScs, apYR_sc, push_cast, ↓J1, ↓J2, N1, N2, N3, reduceCtorEq, N4, N5, N6, reduceIte, N7, I1, I2, I3]
      repeat (refine ⟨by omega, ?_⟩)
      refine hJ1 _ (hdA [(4, 2), (1, 1), (0, 0)] (hh := ?_))
      simp only [canR, canB, renO, renL, ren, lkp, hget, N7, N5, Nat.not_lt_zero, if_false, if_true, reduceIte, List.append_nil, List.nil_append, ints_sn]
      all_goals rfl
  obtain rfl : j = l.length := by omega
  clear hJ h1
  have hlt : decide ((l.length : Int) < (l.length : Int)) = false := decide_eq_false (by omega)
  simp only [bS_all]
  simp only [hlt, push_cast, ↓J1, ↓J2, N1, N2, N3, reduceCtorEq, N4, N5, N6, reduceIte, N7, I1, I2, I3]
  have hN := bN_le (nb := nbs b.m) (op := op) (l := l)
  refine RL_count (fun a => ⟨tb 91 .any [(8, .ref 2 none 1 0 (bP (nbs b.m) op l a).2.length), (1, .sl (bools op)), (3, .ptr 0 none 0 0 0), (7, .ref 1 none 1 0 op.length), (12, .int .i64 (a : Int))], [(2, .slice 1 (ints (bP (nbs b.m) op l a).2)), (1, .slice 1 (ints (bP (nbs b.m) op l a).1)), (0, .var (mpF b.m))], 3⟩) (fun _ => True) (bN (nbs b.m) op l) 0 (hdA [(2, 2), (1, 1), (0, 0)]) (by omega) trivial fun a ha _ J hJ => ?_
  simp only [mpF]
  have inv := far_inv (op := op) (l := l) g ho hl a
  by_cases h1 : a < bN (nbs b.m) op l
  rotate_left
  · obtain rfl : a = bN (nbs b.m) op l := by omega
    have hend := far_end (op := op) (l := l) g ho hl
    have hlt : decide (((bN (nbs b.m) op l : Nat) : Int) < ((bP (nbs b.m) op l (bN (nbs b.m) op l)).2.length : Int)) = false := decide_eq_false (by omega)
    have i1 := inv.len
    simp only [hlt, push_cast, ↓J1, ↓J2, N1, N2, N3, reduceCtorEq, N4, N5, N6, reduceIte, N7, I1, I2, I3]
    exact RetTo_ow rfl (by rw [ints_length]; exact i1.symm)
  have hJ1 := hJ h1 trivial
  clear hJ
  have hal := bN_lt h1
  rw [bP_next hal] at hJ1
  have hq := bq_at inv hal
  have hlt : decide ((a : Int) < ((bP (nbs b.m) op l a).2.length : Int)) = true := decide_eq_true (by omega)
  generalize bP (nbs b.m) op l a = p at *
  simp only [hlt, push_cast, ↓J1, ↓J2, N1, N2, N3, reduceCtorEq, N4, N5, N6, reduceIte, N7, I1, I2, I3]
  have hcn := cn _ (show 0 ≤ p.2.getD a 0 ∧ p.2.getD a 0 < 300 by omega)
  generalize hc : p.2.getD a 0 = c at *
  obtain ⟨cc, rfl⟩ : ∃ m : Nat, c = m := ⟨c.toNat, by omega⟩
  have e0 : (ints p.2)[a]? = some [.int .i64 cc] := by rw [cut_ints_get hal, hc]
  simp only [Int.toNat_natCast, e0, ints_length, push_cast, ↓J1, ↓J2, N1, N2, N3, reduceCtorEq, N4, N5, N6, reduceIte, N7, I1, I2, I3]
  repeat (refine ⟨by omega, ?_⟩)
  refine ⟨_, hcn, ?_⟩
  have hnb := nbs_bnd g cc
  have hnl : (nbs b.m cc).length ≤ 6 := nbT_le b.m cc 6
  simp only [ints_length, push_cast, ↓J1, ↓J2, N1, N2, N3, reduceCtorEq, N4, N5, N6, reduceIte, N7, I1, I2, I3]
  generalize nbs b.m cc = ks at *
  refine RL_count (fun d => ⟨tb 91 .any [(8, .ref 2 none 1 0 (bDl op cc p ks d).2.length), (1, .sl (bools op)), (3, .ptr 0 none 0 0 0), (7, .ref 1 none 1 0 op.length), (12, .int .i64 (a : Int)), (57, .ref 3 none 1 0 ks.length), (58, .int .i64 (ks.length : Int)), (59, .int .i64 (d : Int))], [(3, .slice 1 (ints ks)), (2, .slice 1 (ints (bDl op cc p ks d).2)), (1, .slice 1 (ints (bDl op cc p ks d).1)), (0, .var (mpF b.m))], 4⟩) (fun _ => True) ks.length 0 (hdA [(3, 3), (2, 2), (1, 1), (0, 0)]) (by omega) trivial fun d hd _ JJ hJ2 => ?_
  simp only [mpF]
  obtain ⟨inv2, ⟨tt, ht2⟩, hv⟩ := bfold_inv (op := op) (ks.take d) inv hq (by rw [ho]; exact fun k hk => hnb k (List.mem_of_mem_take hk))
  by_cases h2 : d < ks.length
  rotate_left
  · have hd6 : decide ((d : Int) < (ks.length : Int)) = false := decide_eq_false (by omega)
    have e6 : ks.foldl (bfst op cc) p = bDl op cc p ks d := by rw [show d = ks.length by omega]; simp only [bDl, List.take_length]
    rw [e6] at hJ1
    simp only [hd6, push_cast, ↓J1, ↓J2, N1, N2, N3, reduceCtorEq, N4, N5, N6, reduceIte, N7, I1, I2, I3]
    exact hJ1 _ (hdA [(2, 2), (1, 1), (0, 0)])
  have hd6 : decide ((d : Int) < (ks.length : Int)) = true := decide_eq_true (by omega)
  have hK := hJ2 h2 trivial
  clear hJ2 hJ1
  rw [bDl_succ h2] at hK
  have eb : bDl op cc p ks d = (ks.take d).foldl (bfst op cc) p := rfl
  rw [← eb] at inv2 ht2 hv
  have hca : (bDl op cc p ks d).2.getD a 0 = cc := by rw [ht2, getD_app hal]; exact hc
  have hal2 : a < (bDl op cc p ks d).2.length := by rw [ht2, List.length_append]; omega
  clear eb
  have hnx := hnb _ (getD_in h2)
  have e4 : (ints ks)[d]? = some [.int .i64 (ks.getD d 0)] := cut_ints_get h2
  have hq3 := bq_at inv2 hal2
  rw [hca] at hq3
  generalize bDl op cc p ks d = r at *
  obtain ⟨o, q⟩ := r
  have i1 := inv2.len
  have i2 := inv2.cn
  have i3 := inv2.bnd
  simp only at i1 i2 i3 hK hca hal2 hq3 ⊢
  have e1 : (ints q)[a]? = some [.int .i64 cc] := by rw [cut_ints_get hal2, hca]
  generalize ks.getD d 0 = k at *
  obtain ⟨kk, rfl⟩ : ∃ m : Nat, k = m := ⟨k.toNat, by omega⟩
  have hko : kk < op.length := by omega
  simp only [hd6, Int.toNat_natCast, e4, ints_length, push_cast, ↓J1, ↓J2, N1, N2, N3, reduceCtorEq, N4, N5, N6, reduceIte, N7, I1, I2, I3]
  repeat (refine ⟨by omega, ?_⟩)
  have e2 := bools_get (v := op) (k := kk) hko
  have e3 : (ints o)[kk]? = some [.int .i64 (o.getD kk 0)] := cut_ints_get (by omega)
  have e5 : (ints o)[cc]? = some [.int .i64 (o.getD cc 0)] := cut_ints_get (by omega)
  have hb5 := i3 _ (getD_mem (l := o) (i := cc) (by omega) 0)
  have w5 : IntKind.i64.wrap (o.getD cc 0 + 1) = o.getD cc 0 + 1 := wrap64 (by omega) (by omega)
  have tk : List.take q.length (ints q) = ints q := List.take_of_length_le (by rw [ints_length]; omega)
  simp only [bfst, Int.toNat_natCast] at hK
  simp only [Int.toNat_natCast, e2, ints_length, bools_length, push_cast, ↓J1, ↓J2, N1, N2, N3, reduceCtorEq, N4, N5, N6, reduceIte, N7, I1, I2, I3]
  repeat (refine ⟨by omega, ?_⟩)
  cases g3 : op.getD kk false
  · simp only [g3, Bool.false_and, Bool.false_eq_true, if_false] at hK
    simp only [g3, push_cast, ↓J1, ↓J2, N1, N2, N3, reduceCtorEq, N4, N5, N6, reduceIte, N7, I1, I2, I3]
    exact hK _ (hdA [(3, 3), (2, 2), (1, 1), (0, 0)])
  simp only [g3, Int.toNat_natCast, e3, ints_length, i1, push_cast, ↓J1, ↓J2, N1, N2, N3, reduceCtorEq, N4, N5, N6, reduceIte, N7, I1, I2, I3]
  repeat (refine ⟨by omega, ?_⟩)
  cases g4 : decide (o.getD kk 0 < 0)
  · simp only [g3, g4, Bool.true_and, Bool.false_eq_true, if_false] at hK
    simp only [g4, push_cast, ↓J1, ↓J2, N1, N2, N3, reduceCtorEq, N4, N5, N6, reduceIte, N7, I1, I2, I3]
    exact hK _ (hdA [(3, 3), (2, 2), (1, 1), (0, 0)])
  simp only [g3, g4, Bool.true_and, if_true, List.length_append, List.length_singleton] at hK
  simp only [g4, Int.toNat_natCast, e1, e3, e5, w5, ints_set, tk, i1, ints_length, allScs, apYR_sc, push_cast, ↓J1, ↓J2, N1, N2, N3, reduceCtorEq, N4, N5, N6, reduceIte, N7, I1, I2, I3]
  repeat (refine ⟨by omega, ?_⟩)
  refine hK _ (hdA [(3, 3), (5, 2), (1, 1), (0, 0)] (hh := ?_))
  simp only [canR, canB, renO, renL, ren, lkp, hget, N7, N5, Nat.not_lt_zero, if_false, if_true, reduceIte, List.append_nil, List.nil_append, ints_sn]
  all_goals rfl
end
end Go.Proofs.YtjaccjeejeiphaaGreatDoor.X
