/- A part of the proof: lemmas on the machine or on the functions that the law reaches. No condition of its own. -/
import Derived.Test.YtdhkdkefhoafnaaGreatDoorXP4
import Derived.Test.YtdhkdkefhoafnaaGreatDoorXP5
set_option maxHeartbeats 4000000
set_option maxRecDepth 8000
set_option linter.unusedSimpArgs false
set_option linter.unusedVariables false
open Nat renaming reduceBEq → N1, reduceAdd → N2, reduceSub → N3, reduceMul → N4, reduceEqDiff → N5, reduceLeDiff → N6, reduceLT → N7
open Int renaming reduceLE → I1, reduceLT → I2, reduceToNat → I3
namespace Go.Proofs.YtdhkdkefhoafnaaGreatDoor.X
open Go
attribute [local irreducible] Ev
section
variable {C : CT} (hC : Closed Tryz.prog G1 md0 C)
include hC
theorem t135 (b : Brd) (i : Int) (g : brdOk b = true) (hi : inR 0 (b.m.w * b.m.h - 1) i = true) (hb : BrdB (2^50) b) : C 135 [brdF b, .int .i64 i] [(0, .var (rulF b.r ++ mpF b.m))] 1 (fun v h' n' => v = .agg (terF (terAt b i)) ∧ h' = [(2, .var (terF (terAt b i))), (1, .var (rulF b.r ++ mpF b.m)), (0, .var (rulF b.r ++ mpF b.m))] ∧ n' = 3) := by
  have hwh := brd_wh g
  have b1 := hb.m.t
  have b2 := hb.r.ts
  simp only [inR, Bool.and_eq_true, decide_eq_true_eq] at hi
  obtain ⟨i, rfl⟩ : ∃ k : Nat, i = k := ⟨i.toNat, by omega⟩
  have h1 : i < b.m.t.length := by omega
  have ht := ter_in g h1
  have e1 := ints_get h1
  obtain ⟨j, hj⟩ : ∃ k : Nat, b.m.t.getD i 0 = k := ⟨(b.m.t.getD i 0).toNat, by omega⟩
  have h2 : j < b.r.ts.length := by omega
  have e2 : (tersF b.r.ts)[j]? = some (terF b.r.ts[j]) := by simp [tersF, h2]
  have e3 : terAt b i = b.r.ts[j] := by simp only [terAt, Int.toNat_natCast, hj]; simp [h2]
  rw [e3]
  rw [hj] at e1
  simp only [brdF, rulF, mpF, List.cons_append, List.nil_append, terF] at *
  refine Closed.rT hC Q135 ?_
  simp only [c135, push_cast, ↓J1, ↓J2, N1, N2, N3, reduceCtorEq, N4, N5, N6, reduceIte, N7, I1, I2, I3]
  simp only [Int.toNat_natCast, e1, push_cast, ↓J1, ↓J2, N1, N2, N3, reduceCtorEq, N4, N5, N6, reduceIte, N7, I1, I2, I3]
  repeat (refine ⟨by omega, ?_⟩)
  simp only [Int.toNat_natCast, e2, tersF_length, ints_length, push_cast, ↓J1, ↓J2, N1, N2, N3, reduceCtorEq, N4, N5, N6, reduceIte, N7, I1, I2, I3]
  repeat (refine ⟨by omega, ?_⟩)
theorem t130 (b : Brd) (i : Int) (g : brdOk b = true) (hi : inR 0 (b.m.w * b.m.h - 1) i = true) (hb : BrdB (2^50) b) : C 130 [brdF b, .int .i64 i] [(0, .var (rulF b.r ++ mpF b.m))] 1 (fun v h' n' => v = .agg (terF (terAt b i)) ∧ h' = [(2, .var (terF (terAt b i))), (1, .var (rulF b.r ++ mpF b.m)), (0, .var (rulF b.r ++ mpF b.m))] ∧ n' = 3) := by
  have hwh := brd_wh g
  have b1 := hb.m.t
  have b2 := hb.r.ts
  simp only [inR, Bool.and_eq_true, decide_eq_true_eq] at hi
  obtain ⟨i, rfl⟩ : ∃ k : Nat, i = k := ⟨i.toNat, by omega⟩
  have h1 : i < b.m.t.length := by omega
  have ht := ter_in g h1
  have e1 := ints_get h1
  obtain ⟨j, hj⟩ : ∃ k : Nat, b.m.t.getD i 0 = k := ⟨(b.m.t.getD i 0).toNat, by omega⟩
  have h2 : j < b.r.ts.length := by omega
  have e2 : (tersF b.r.ts)[j]? = some (terF b.r.ts[j]) := by simp [tersF, h2]
  have e3 : terAt b i = b.r.ts[j] := by simp only [terAt, Int.toNat_natCast, hj]; simp [h2]
  rw [e3]
  rw [hj] at e1
  simp only [brdF, rulF, mpF, List.cons_append, List.nil_append, terF] at *
  refine Closed.rT hC Q130 ?_
  simp only [c130, push_cast, ↓J1, ↓J2, N1, N2, N3, reduceCtorEq, N4, N5, N6, reduceIte, N7, I1, I2, I3]
  simp only [Int.toNat_natCast, e1, push_cast, ↓J1, ↓J2, N1, N2, N3, reduceCtorEq, N4, N5, N6, reduceIte, N7, I1, I2, I3]
  repeat (refine ⟨by omega, ?_⟩)
  simp only [Int.toNat_natCast, e2, tersF_length, ints_length, push_cast, ↓J1, ↓J2, N1, N2, N3, reduceCtorEq, N4, N5, N6, reduceIte, N7, I1, I2, I3]
  repeat (refine ⟨by omega, ?_⟩)
omit hC in
theorem cost_get {b : Brd} {k : Nat} {i : Int} (g : brdOk b = true) (hk : k < b.r.ks.length) (hi : inR 0 (b.m.w * b.m.h - 1) i = true) : (ints (terAt b i).c)[k]? = some [.int .i64 (costAt b k i)] ∧ 0 ≤ costAt b k i ∧ costAt b k i ≤ 9 ∧ (terAt b i).c.length = b.r.ks.length := by
  have hwh := brd_wh g
  simp only [inR, Bool.and_eq_true, decide_eq_true_eq] at hi
  have h1 : i.toNat < b.m.t.length := by omega
  have ht := ter_in g h1
  have h2 : (b.m.t.getD i.toNat 0).toNat < b.r.ts.length := by omega
  have e : terAt b i = b.r.ts[(b.m.t.getD i.toNat 0).toNat] := by
    simp only [terAt]
    rw [List.getD, List.getElem?_eq_getElem h2, Option.getD_some]
  have hl := terOk_len g h2
  rw [← e] at hl
  have h3 : k < (terAt b i).c.length := by omega
  have hm : costAt b k i ∈ (terAt b i).c := by
    simp only [costAt, Int.toNat_natCast, List.getD, List.getElem?_eq_getElem h3, Option.getD_some]
    exact List.getElem_mem h3
  refine ⟨?_, (hl.2 _ hm).1, (hl.2 _ hm).2, hl.1⟩
  have := ints_get h3
  simpa only [costAt, Int.toNat_natCast] using this
theorem t122 (b : Brd) (k i : Int) (g : brdOk b = true) (hk : inR 0 (b.r.ks.length - 1) k = true) (hi : inR 0 (b.m.w * b.m.h - 1) i = true) (hb : BrdB (2^50) b) : Ev C 122 [brdF b, .int .i64 k, .int .i64 i] (.int .i64 (costAt b k i)) := by
  have c1 := t135 hC b i g hi hb
  have hk' := hk
  simp only [inR, Bool.and_eq_true, decide_eq_true_eq] at hk'
  obtain ⟨k, rfl⟩ : ∃ m : Nat, k = m := ⟨k.toNat, by omega⟩
  have hc := cost_get (k := k) g (by omega) hi
  have b2 := hb.r.ks
  simp only [brdF, rulF, mpF, List.cons_append, List.nil_append, terF] at *
  refine rT hC Q122 ?_
  simp only [c122, push_cast, ↓J1, ↓J2, N1, N2, N3, reduceCtorEq, N4, N5, N6, reduceIte, N7, I1, I2, I3]
  refine ⟨_, c1, ?_⟩
  rintro v h' n' ⟨rfl, rfl, rfl⟩ _
  simp only [Int.toNat_natCast, hc.1, push_cast, ↓J1, ↓J2, N1, N2, N3, reduceCtorEq, N4, N5, N6, reduceIte, N7, I1, I2, I3]
  omega
theorem t111 (b : Brd) (k i : Int) (g : brdOk b = true) (hk : inR 0 (b.r.ks.length - 1) k = true) (hi : inR 0 (b.m.w * b.m.h - 1) i = true) (hb : BrdB (2^50) b) : Ev C 111 [brdF b, .int .i64 k, .int .i64 i] (.int .i64 (costAt b k i)) := by
  have c1 := t130 hC b i g hi hb
  have hk' := hk
  simp only [inR, Bool.and_eq_true, decide_eq_true_eq] at hk'
  obtain ⟨k, rfl⟩ : ∃ m : Nat, k = m := ⟨k.toNat, by omega⟩
  have hc := cost_get (k := k) g (by omega) hi
  have b2 := hb.r.ks
  simp only [brdF, rulF, mpF, List.cons_append, List.nil_append, terF] at *
  refine rT hC Q111 ?_
  simp only [c111, push_cast, ↓J1, ↓J2, N1, N2, N3, reduceCtorEq, N4, N5, N6, reduceIte, N7, I1, I2, I3]
  refine ⟨_, c1, ?_⟩
  rintro v h' n' ⟨rfl, rfl, rfl⟩ _
  simp only [Int.toNat_natCast, hc.1, push_cast, ↓J1, ↓J2, N1, N2, N3, reduceCtorEq, N4, N5, N6, reduceIte, N7, I1, I2, I3]
  omega
omit hC in
theorem un_kind {b : Brd} {u : Un} (g : brdOk b = true) (h : inR 0 (b.r.ks.length - 1) u.k = true) : kindAsk b u.k = true := by
  simp only [kindAsk, g, h, Bool.and_self]
theorem t95 (b : Brd) (u : Un) (g : brdOk b = true) (hb : BrdB (2^50) b) : Ev C 95 [brdF b, .agg (unA u)] (.bool (unOk b u)) := by
  have hwh := brd_wh g
  have hm := mp_wh (brd_mp g)
  have c2 := t121 hC b.m hm.1 hm.2
  have c3 := fun hk hi => t122 hC b u.k u.at_ g hk hi hb
  have b2 := hb.r.ks
  have e0 := fun (k : Nat) (h : k < b.r.ks.length) => kins_get h
  simp only [brdF, rulF, mpF, List.cons_append, List.nil_append, unA, unOk, placed] at *
  refine rT hC Q95 ?_
  simp only [c95, push_cast, ↓J1, ↓J2, N1, N2, N3, reduceCtorEq, N4, N5, N6, reduceIte, N7, I1, I2, I3]
  refine ⟨_, tIn hC _ _ _, ?_⟩
  cases inR 0 1 u.sd
  · simp only [push_cast, ↓J1, ↓J2, N1, N2, N3, reduceCtorEq, N4, N5, N6, reduceIte, N7, I1, I2, I3]
  simp only [kins_length, push_cast, ↓J1, ↓J2, N1, N2, N3, reduceCtorEq, N4, N5, N6, reduceIte, N7, I1, I2, I3]
  rw [wrap64 (n := (b.r.ks.length : Int) - 1) (by omega) (by omega)]
  refine ⟨_, tIn hC _ _ _, ?_⟩
  cases g2 : inR 0 ((b.r.ks.length : Int) - 1) u.k
  · simp only [push_cast, ↓J1, ↓J2, N1, N2, N3, reduceCtorEq, N4, N5, N6, reduceIte, N7, I1, I2, I3]
  have hk := g2
  simp only [inR, Bool.and_eq_true, decide_eq_true_eq] at hk
  obtain ⟨k, ek⟩ : ∃ m : Nat, u.k = m := ⟨u.k.toNat, by omega⟩
  have e1 := e0 k (by omega)
  rw [← ek] at e1
  have en : u.k.toNat = k := by omega
  simp only [en, e1, kinA, kins_length, push_cast, ↓J1, ↓J2, N1, N2, N3, reduceCtorEq, N4, N5, N6, reduceIte, N7, I1, I2, I3]
  repeat (refine ⟨by omega, ?_⟩)
  refine ⟨_, tIn hC _ _ _, ?_⟩
  cases inR 0 (kindOf b u.k).sp u.st
  · simp only [push_cast, ↓J1, ↓J2, N1, N2, N3, reduceCtorEq, N4, N5, N6, reduceIte, N7, I1, I2, I3]
  simp only [push_cast, ↓J1, ↓J2, N1, N2, N3, reduceCtorEq, N4, N5, N6, reduceIte, N7, I1, I2, I3]
  cases decide (u.at_ = -1)
  · simp only [push_cast, ↓J1, ↓J2, N1, N2, N3, reduceCtorEq, N4, N5, N6, reduceIte, N7, I1, I2, I3]
    cases decide (0 < u.st)
    · simp only [push_cast, ↓J1, ↓J2, N1, N2, N3, reduceCtorEq, N4, N5, N6, reduceIte, N7, I1, I2, I3]
    simp only [push_cast, ↓J1, ↓J2, N1, N2, N3, reduceCtorEq, N4, N5, N6, reduceIte, N7, I1, I2, I3]
    refine ⟨_, c2, ?_⟩
    simp only [push_cast, ↓J1, ↓J2, N1, N2, N3, reduceCtorEq, N4, N5, N6, reduceIte, N7, I1, I2, I3]
    rw [wrap64 (n := b.m.w * b.m.h - 1) (by omega) (by omega)]
    refine ⟨_, tIn hC _ _ _, ?_⟩
    cases g3 : inR 0 (b.m.w * b.m.h - 1) u.at_
    · simp only [push_cast, ↓J1, ↓J2, N1, N2, N3, reduceCtorEq, N4, N5, N6, reduceIte, N7, I1, I2, I3]
    simp only [push_cast, ↓J1, ↓J2, N1, N2, N3, reduceCtorEq, N4, N5, N6, reduceIte, N7, I1, I2, I3]
    refine ⟨_, c3 g2 g3, ?_⟩
    simp only [push_cast, ↓J1, ↓J2, N1, N2, N3, reduceCtorEq, N4, N5, N6, reduceIte, N7, I1, I2, I3]
  · simp only [push_cast, ↓J1, ↓J2, N1, N2, N3, reduceCtorEq, N4, N5, N6, reduceIte, N7, I1, I2, I3]
theorem t83 (b : Brd) (u : Un) (g : brdOk b = true) (hb : BrdB (2^50) b) : Ev C 83 [brdF b, .agg (unA u)] (.bool (unOk b u)) := by
  have hwh := brd_wh g
  have c2 := t82 hC b
  rw [hwh.1] at c2
  have c3 := fun hk hi => t111 hC b u.k u.at_ g hk hi hb
  have cz := fun hk hi => (cost_get (b := b) (k := u.k.toNat) (i := u.at_) g hk hi).2
  have b2 := hb.r.ks
  have e0 := fun (k : Nat) (h : k < b.r.ks.length) => kins_get h
  simp only [brdF, rulF, mpF, List.cons_append, List.nil_append, unA, unOk, placed] at *
  refine rT hC Q83 ?_
  simp only [c83, push_cast, ↓J1, ↓J2, N1, N2, N3, reduceCtorEq, N4, N5, N6, reduceIte, N7, I1, I2, I3]
  refine ⟨_, t110 hC _, ?_⟩
  cases inR 0 1 u.sd
  · simp only [push_cast, ↓J1, ↓J2, N1, N2, N3, reduceCtorEq, N4, N5, N6, reduceIte, N7, I1, I2, I3]
  simp only [kins_length, push_cast, ↓J1, ↓J2, N1, N2, N3, reduceCtorEq, N4, N5, N6, reduceIte, N7, I1, I2, I3]
  refine ⟨_, tIdx hC _ _ (by omega), ?_⟩
  cases g2 : inR 0 ((b.r.ks.length : Int) - 1) u.k
  · simp only [push_cast, ↓J1, ↓J2, N1, N2, N3, reduceCtorEq, N4, N5, N6, reduceIte, N7, I1, I2, I3]
  have hk := g2
  simp only [inR, Bool.and_eq_true, decide_eq_true_eq] at hk
  obtain ⟨k, ek⟩ : ∃ m : Nat, u.k = m := ⟨u.k.toNat, by omega⟩
  have e1 := e0 k (by omega)
  rw [← ek] at e1
  have en : u.k.toNat = k := by omega
  simp only [en, e1, kinA, kins_length, push_cast, ↓J1, ↓J2, N1, N2, N3, reduceCtorEq, N4, N5, N6, reduceIte, N7, I1, I2, I3]
  repeat (refine ⟨by omega, ?_⟩)
  refine ⟨_, tRange hC _ _ _, ?_⟩
  cases inR 0 (kindOf b u.k).sp u.st
  · simp only [push_cast, ↓J1, ↓J2, N1, N2, N3, reduceCtorEq, N4, N5, N6, reduceIte, N7, I1, I2, I3]
  simp only [push_cast, ↓J1, ↓J2, N1, N2, N3, reduceCtorEq, N4, N5, N6, reduceIte, N7, I1, I2, I3]
  cases decide (u.at_ = -1)
  · simp only [push_cast, ↓J1, ↓J2, N1, N2, N3, reduceCtorEq, N4, N5, N6, reduceIte, N7, I1, I2, I3]
    cases decide (0 < u.st)
    · simp only [push_cast, ↓J1, ↓J2, N1, N2, N3, reduceCtorEq, N4, N5, N6, reduceIte, N7, I1, I2, I3]
    simp only [push_cast, ↓J1, ↓J2, N1, N2, N3, reduceCtorEq, N4, N5, N6, reduceIte, N7, I1, I2, I3]
    refine ⟨_, c2, ?_⟩
    simp only [push_cast, ↓J1, ↓J2, N1, N2, N3, reduceCtorEq, N4, N5, N6, reduceIte, N7, I1, I2, I3]
    refine ⟨_, tIdx hC _ _ (by omega), ?_⟩
    cases g3 : inR 0 (b.m.w * b.m.h - 1) u.at_
    · simp only [push_cast, ↓J1, ↓J2, N1, N2, N3, reduceCtorEq, N4, N5, N6, reduceIte, N7, I1, I2, I3]
    simp only [push_cast, ↓J1, ↓J2, N1, N2, N3, reduceCtorEq, N4, N5, N6, reduceIte, N7, I1, I2, I3]
    refine ⟨_, c3 g2 g3, ?_⟩
    have hz := cz (by omega) g3
    rw [Int.toNat_of_nonneg (by omega)] at hz
    simp only [push_cast, ↓J1, ↓J2, N1, N2, N3, reduceCtorEq, N4, N5, N6, reduceIte, N7, I1, I2, I3]
    rw [Bool.eq_iff_iff]
    simp only [Bool.not_eq_true', decide_eq_false_iff_not, decide_eq_true_eq]
    omega
  · simp only [push_cast, ↓J1, ↓J2, N1, N2, N3, reduceCtorEq, N4, N5, N6, reduceIte, N7, I1, I2, I3]
end
end Go.Proofs.YtdhkdkefhoafnaaGreatDoor.X
set_option maxHeartbeats 4000000
set_option maxRecDepth 8000
set_option linter.unusedSimpArgs false
set_option linter.unusedVariables false
open Nat renaming reduceBEq → N1, reduceAdd → N2, reduceSub → N3, reduceMul → N4, reduceEqDiff → N5, reduceLeDiff → N6, reduceLT → N7
open Int renaming reduceLE → I1, reduceLT → I2, reduceToNat → I3
namespace Go.Proofs.YtdhkdkefhoafnaaGreatDoor.X
open Go
attribute [local irreducible] Ev
def hasU (b : Brd) (s : Sta) (u : Int) : Bool := staOk b s && inR 0 (s.us.length - 1) u
def un0 : Un := ⟨0, 0, 0, 0⟩
def unOf (s : Sta) (u : Int) : Un := s.us.getD u.toNat un0
def canRe (b : Brd) (u : Un) : Bool := decide (0 ≤ u.at_) && decide (u.st < (kindOf b u.k).sp)
def hurt (b : Brd) (s : Sta) (u : Int) : Bool := hasU b s u && canRe b (unOf s u)
theorem uns_un {s : Sta} {k : Nat} (h : k < s.us.length) : (uns s.us)[k]? = some (unA (unOf s k)) := by
  simp [uns, unOf, List.getD, h]
theorem sta_brd {b : Brd} {s : Sta} (h : staOk b s = true) : brdOk b = true := by
  simp only [staOk, Bool.and_eq_true] at h; exact h.1
theorem sta_un {b : Brd} {s : Sta} (h : staOk b s = true) {k : Nat} (hk : k < s.us.length) : unOk b (unOf s k) = true := by
  simp only [staOk, staOk0, Bool.and_eq_true, List.all_eq_true] at h
  have := h.2.1.2 _ (List.getElem_mem hk)
  simpa [unOf, List.getD, hk] using this
theorem sta_kind {b : Brd} {s : Sta} (h : staOk b s = true) {k : Nat} (hk : k < s.us.length) : kindAsk b (unOf s k).k = true := by
  have := sta_un h hk
  simp only [unOk, Bool.and_eq_true] at this
  exact un_kind (sta_brd h) this.1.1.2
theorem sta_len {b : Brd} {s : Sta} (h : staOk b s = true) : s.us.length ≤ 12 := by
  simp only [staOk, staOk0, Bool.and_eq_true, decide_eq_true_eq] at h; omega
theorem unOk_at {b : Brd} {u : Un} (h : unOk b u = true) (ha : ¬ u.at_ < 0) : 0 ≤ u.at_ ∧ u.at_ < b.m.w * b.m.h := by
  simp only [unOk, placed, inR, Bool.and_eq_true, Bool.or_eq_true, decide_eq_true_eq] at h
  omega
theorem ints_sn (l : List Int) (x : Int) : ints l ++ [[.int .i64 x]] = ints (l ++ [x]) := by simp [ints]
theorem fil_cnt {us : List Un} {a sd : Int} : (fil (isAt a sd) us us.length).length = cnt us a sd := by
  rw [fil_len (Nat.le_refl _), List.take_length]; rfl
section
variable {C : CT} (hC : Closed Tryz.prog G1 md0 C)
include hC
theorem t96 (s : Sta) (a sd : Int) (hl : s.us.length < 2^40) : Ev C 96 [.agg (staF s), .int .i64 a, .int .i64 sd] (.ow 1 (ints (fil (isAt a sd) s.us s.us.length))) := by
  simp only [staF]
  refine rT hC Q96 ?_ (own_ints _)
  simp only [c96, uns_length, push_cast, ↓J1, ↓J2, N1, N2, N3, reduceCtorEq, N4, N5, N6, reduceIte, N7, I1, I2, I3]
  refine RL_count (fun i => ⟨tb 34 .any [(7, .ref 0 none 1 0 (fil (isAt a sd) s.us i).length), (1, .int .i64 a), (2, .int .i64 sd), (11, .sl (uns s.us)), (12, .int .i64 (s.us.length : Int)), (13, .int .i64 (i : Int))], [(0, .slice 1 (ints (fil (isAt a sd) s.us i)))], 1⟩) (fun _ => True) s.us.length 0 (hdO 7 0 1 []) (by omega) trivial fun i hi _ J hJ => ?_
  by_cases h1 : i < s.us.length
  · have e1 := uns_get h1
    have e2 := fil_succ (p := (isAt a sd)) h1
    have hfl := fil_le (p := (isAt a sd)) hi
    have tk : List.take (fil (isAt a sd) s.us i).length (ints (fil (isAt a sd) s.us i)) = ints (fil (isAt a sd) s.us i) := List.take_of_length_le (by rw [ints_length]; omega)
    generalize s.us[i] = u at *
    simp only [Int.toNat_natCast, e1, unA, push_cast, ↓J1, ↓J2, N1, N2, N3, reduceCtorEq, N4, N5, N6, reduceIte, N7, I1, I2, I3]
    refine ifB_intro (fun _ => ?_) (fun h => by simp at h; omega)
    repeat (refine ⟨by omega, ?_⟩)
    cases g1 : decide (u.at_ = a)
    · have hp : (isAt a sd) u = false := by simp only [isAt, g1, Bool.false_and, Bool.and_false]
      rw [hp, if_neg Bool.false_ne_true] at e2
      simp only [g1, push_cast, ↓J1, ↓J2, N1, N2, N3, reduceCtorEq, N4, N5, N6, reduceIte, N7, I1, I2, I3]
      exact hJ h1 trivial _ (by rw [e2]; exact (hdA [(0, 0)]))
    cases g2 : decide (u.sd = sd)
    · have hp : (isAt a sd) u = false := by simp only [isAt, g1, g2, Bool.false_and, Bool.and_false]
      rw [hp, if_neg Bool.false_ne_true] at e2
      simp only [g1, g2, push_cast, ↓J1, ↓J2, N1, N2, N3, reduceCtorEq, N4, N5, N6, reduceIte, N7, I1, I2, I3]
      exact hJ h1 trivial _ (by rw [e2]; exact (hdA [(0, 0)]))
    have hp : (isAt a sd) u = true := by simp only [isAt, g1, g2, Bool.and_self]
    rw [hp, if_pos rfl] at e2
    simp only [g1, g2, tk, ints_length, allScs, apYR_sc, push_cast, ↓J1, ↓J2, N1, N2, N3, reduceCtorEq, N4, N5, N6, reduceIte, N7, I1, I2, I3]
    repeat (refine ⟨by omega, ?_⟩)
    refine hJ h1 trivial _ ?_
    rw [e2]
    refine (hdA [(3, 0)] (hh := ?_))
    simp only [canR, canB, renO, renL, ren, lkp, hget, N7, N5, Nat.not_lt_zero, if_false, if_true, reduceIte, List.append_nil, List.nil_append, ints_sn]
    all_goals rfl
  · simp only [uns_length, push_cast, ↓J1, ↓J2, N1, N2, N3, reduceCtorEq, N4, N5, N6, reduceIte, N7, I1, I2, I3]
    refine ifB_intro (fun h => by simp at h; omega) (fun h => ?_)
    obtain rfl : i = s.us.length := by omega
    exact RetTo_ow rfl (by rw [ints_length])
theorem t71 (b : Brd) (s : Sta) (hb : BrdB (2^50) b) (hl : s.us.length < 2^40) : Ev C 71 [brdF b, .agg (staF s)] (.bool (staOk b s)) := by
  have c1 := t91 hC b hb
  have c2 := fun u g => t95 hC b u g hb
  have c3 := fun a sd => t96 hC s a sd hl
  simp only [brdF, rulF, mpF, List.cons_append, List.nil_append, staF] at *
  refine rT hC Q71 ?_
  simp only [c71, push_cast, ↓J1, ↓J2, N1, N2, N3, reduceCtorEq, N4, N5, N6, reduceIte, N7, I1, I2, I3]
  refine ⟨_, c1, ?_⟩
  cases g1 : brdOk b
  · simp only [staOk, g1, push_cast, ↓J1, ↓J2, N1, N2, N3, reduceCtorEq, N4, N5, N6, reduceIte, N7, I1, I2, I3]
  simp only [push_cast, ↓J1, ↓J2, N1, N2, N3, reduceCtorEq, N4, N5, N6, reduceIte, N7, I1, I2, I3]
  refine ⟨_, tIn hC _ _ _, ?_⟩
  cases g2 : inR 0 b.r.turns s.t
  · simp only [staOk, staOk0, g1, g2, push_cast, ↓J1, ↓J2, N1, N2, N3, reduceCtorEq, N4, N5, N6, reduceIte, N7, I1, I2, I3]
  simp only [push_cast, ↓J1, ↓J2, N1, N2, N3, reduceCtorEq, N4, N5, N6, reduceIte, N7, I1, I2, I3]
  refine ⟨_, tIn hC _ _ _, ?_⟩
  cases g3 : inR 0 2 s.w
  · simp only [staOk, staOk0, g1, g2, g3, push_cast, ↓J1, ↓J2, N1, N2, N3, reduceCtorEq, N4, N5, N6, reduceIte, N7, I1, I2, I3]
  have e12 : decide (12 < (s.us.length : Int)) = !decide ((s.us.length : Int) ≤ 12) := by rw [Bool.eq_iff_iff]; simp
  simp only [uns_length, e12, push_cast, ↓J1, ↓J2, N1, N2, N3, reduceCtorEq, N4, N5, N6, reduceIte, N7, I1, I2, I3]
  cases g4 : decide ((s.us.length : Int) ≤ 12)
  · simp only [staOk, staOk0, g1, g2, g3, g4, push_cast, ↓J1, ↓J2, N1, N2, N3, reduceCtorEq, N4, N5, N6, reduceIte, N7, I1, I2, I3]
  simp only [uns_length, push_cast, ↓J1, ↓J2, N1, N2, N3, reduceCtorEq, N4, N5, N6, reduceIte, N7, I1, I2, I3]
  rw [show staOk b s = (s.us.all (unOk b) && s.us.all (stackOk b s.us)) by simp only [staOk, staOk0, g1, g2, g3, g4, Bool.true_and]]
  refine RL_count (fun i => ⟨tb 80 .any [(2, .ptr 0 none 0 0 0), (3, .ptr 1 none 0 0 0), (34, .sl (uns s.us)), (35, .int .i64 (s.us.length : Int)), (36, .int .i64 (i : Int))], [(1, .var (staF s)), (0, .var (rulF b.r ++ mpF b.m))], 2⟩) (fun i => s.us.all (unOk b) = (s.us.drop i).all (unOk b)) s.us.length 0 (hdA [(1, 1), (0, 0)]) (by omega) rfl fun i hi ht J hJ => ?_
  simp only [brdF, rulF, mpF, List.cons_append, List.nil_append, staF]
  by_cases h1 : i < s.us.length
  · have e1 := uns_get h1
    rw [List.drop_eq_getElem_cons h1, List.all_cons] at ht
    generalize s.us[i] = u at *
    have c2' := c2 u g1
    simp only [Int.toNat_natCast, e1, unA, push_cast, ↓J1, ↓J2, N1, N2, N3, reduceCtorEq, N4, N5, N6, reduceIte, N7, I1, I2, I3] at c2' ⊢
    refine ifB_intro (fun _ => ?_) (fun h => by simp at h; omega)
    repeat (refine ⟨by omega, ?_⟩)
    refine ⟨_, c2', ?_⟩
    cases g5 : unOk b u
    · rw [ht, g5]
      simp only [Bool.false_and, push_cast, ↓J1, ↓J2, N1, N2, N3, reduceCtorEq, N4, N5, N6, reduceIte, N7, I1, I2, I3]
    simp only [push_cast, ↓J1, ↓J2, N1, N2, N3, reduceCtorEq, N4, N5, N6, reduceIte, N7, I1, I2, I3]
    exact hJ h1 (by rw [ht, g5, Bool.true_and]) _ (hdA [(1, 1), (0, 0)])
  · simp only [uns_length, push_cast, ↓J1, ↓J2, N1, N2, N3, reduceCtorEq, N4, N5, N6, reduceIte, N7, I1, I2, I3]
    refine ifB_intro (fun h => by simp at h; omega) (fun h => ?_)
    rw [List.drop_eq_nil_of_le (by omega)] at ht
    have hall : s.us.all (unOk b) = true := by rw [ht]; rfl
    rw [hall, Bool.true_and]
    clear hJ ht h1 hi
    refine RL_count (fun i => ⟨tb 80 .any [(2, .ptr 0 none 0 0 0), (3, .ptr 1 none 0 0 0), (46, .sl (uns s.us)), (47, .int .i64 (s.us.length : Int)), (48, .int .i64 (i : Int))], [(1, .var (staF s)), (0, .var (rulF b.r ++ mpF b.m))], 2⟩) (fun i => s.us.all (stackOk b s.us) = (s.us.drop i).all (stackOk b s.us)) s.us.length 0 (hdA [(1, 1), (0, 0)]) (by omega) rfl fun i hi ht J hJ => ?_
    simp only [brdF, rulF, mpF, List.cons_append, List.nil_append, staF]
    by_cases h1 : i < s.us.length
    · have e1 := uns_get h1
      have hsd := un_sd (List.all_eq_true.1 hall _ (List.getElem_mem h1))
      rw [List.drop_eq_getElem_cons h1, List.all_cons] at ht
      generalize s.us[i] = u at *
      have es : stackOk b s.us u = !(decide (0 ≤ u.at_) && (decide (0 < (cnt s.us u.at_ (1 - u.sd) : Int)) || decide (b.r.stack < (cnt s.us u.at_ u.sd : Int)))) := by simp [stackOk]
      simp only [Int.toNat_natCast, e1, unA, push_cast, ↓J1, ↓J2, N1, N2, N3, reduceCtorEq, N4, N5, N6, reduceIte, N7, I1, I2, I3]
      refine ifB_intro (fun _ => ?_) (fun h => by simp at h; omega)
      repeat (refine ⟨by omega, ?_⟩)
      cases g5 : decide (0 ≤ u.at_)
      · have : stackOk b s.us u = true := by rw [es, g5]; rfl
        simp only [push_cast, ↓J1, ↓J2, N1, N2, N3, reduceCtorEq, N4, N5, N6, reduceIte, N7, I1, I2, I3]
        exact hJ h1 (by rw [ht, this, Bool.true_and]) _ (hdA [(1, 1), (0, 0)])
      rw [g5, Bool.true_and] at es
      simp only [push_cast, ↓J1, ↓J2, N1, N2, N3, reduceCtorEq, N4, N5, N6, reduceIte, N7, I1, I2, I3]
      rw [wrap64 (n := 1 - u.sd) (by omega) (by omega)]
      refine ⟨_, c3 _ _, ?_⟩
      simp only [ints_length, fil_cnt, push_cast, ↓J1, ↓J2, N1, N2, N3, reduceCtorEq, N4, N5, N6, reduceIte, N7, I1, I2, I3]
      cases g6 : decide (0 < (cnt s.us u.at_ (1 - u.sd) : Int))
      · rw [g6, Bool.false_or] at es
        simp only [push_cast, ↓J1, ↓J2, N1, N2, N3, reduceCtorEq, N4, N5, N6, reduceIte, N7, I1, I2, I3]
        refine ⟨_, c3 _ _, ?_⟩
        simp only [ints_length, fil_cnt, push_cast, ↓J1, ↓J2, N1, N2, N3, reduceCtorEq, N4, N5, N6, reduceIte, N7, I1, I2, I3]
        cases g7 : decide (b.r.stack < (cnt s.us u.at_ u.sd : Int))
        · rw [g7] at es
          simp only [push_cast, ↓J1, ↓J2, N1, N2, N3, reduceCtorEq, N4, N5, N6, reduceIte, N7, I1, I2, I3]
          exact hJ h1 (by rw [ht, es]; rfl) _ (hdA [(1, 1), (0, 0)])
        · rw [g7] at es
          rw [ht, es]
          simp only [push_cast, ↓J1, ↓J2, N1, N2, N3, reduceCtorEq, N4, N5, N6, reduceIte, N7, I1, I2, I3]
      · rw [g6] at es
        rw [ht, es]
        simp only [push_cast, ↓J1, ↓J2, N1, N2, N3, reduceCtorEq, N4, N5, N6, reduceIte, N7, I1, I2, I3]
    · simp only [uns_length, push_cast, ↓J1, ↓J2, N1, N2, N3, reduceCtorEq, N4, N5, N6, reduceIte, N7, I1, I2, I3]
      refine ifB_intro (fun h => by simp at h; omega) (fun h => ?_)
      rw [ht, List.drop_eq_nil_of_le (by omega)]
      rfl
theorem t58 (b : Brd) (s : Sta) (g1 : brdOk b = true) (hb : BrdB (2^50) b) (hl : s.us.length < 2^40) : Ev C 58 [brdF b, .agg (staF s)] (.bool (staOk0 b s)) := by
  have c1 := t82 hC b
  have hwh := brd_wh g1
  have c2 := fun u => t83 hC b u g1 hb
  simp only [brdF, rulF, mpF, List.cons_append, List.nil_append, staF] at *
  refine rT hC Q58 ?_
  simp only [c58, push_cast, ↓J1, ↓J2, N1, N2, N3, reduceCtorEq, N4, N5, N6, reduceIte, N7, I1, I2, I3]
  refine ⟨_, tRange hC _ _ _, ?_⟩
  cases g2 : inR 0 b.r.turns s.t
  · simp only [staOk0, g2, push_cast, ↓J1, ↓J2, N1, N2, N3, reduceCtorEq, N4, N5, N6, reduceIte, N7, I1, I2, I3]
  simp only [push_cast, ↓J1, ↓J2, N1, N2, N3, reduceCtorEq, N4, N5, N6, reduceIte, N7, I1, I2, I3]
  refine ⟨_, tRange hC _ _ _, ?_⟩
  cases g3 : inR 0 2 s.w
  · simp only [staOk0, g2, g3, push_cast, ↓J1, ↓J2, N1, N2, N3, reduceCtorEq, N4, N5, N6, reduceIte, N7, I1, I2, I3]
  have e12 : decide (12 < (s.us.length : Int)) = !decide ((s.us.length : Int) ≤ 12) := by rw [Bool.eq_iff_iff]; simp
  simp only [uns_length, e12, push_cast, ↓J1, ↓J2, N1, N2, N3, reduceCtorEq, N4, N5, N6, reduceIte, N7, I1, I2, I3]
  cases g4 : decide ((s.us.length : Int) ≤ 12)
  · simp only [staOk0, g2, g3, g4, push_cast, ↓J1, ↓J2, N1, N2, N3, reduceCtorEq, N4, N5, N6, reduceIte, N7, I1, I2, I3]
  simp only [uns_length, push_cast, ↓J1, ↓J2, N1, N2, N3, reduceCtorEq, N4, N5, N6, reduceIte, N7, I1, I2, I3]
  rw [show staOk0 b s = (s.us.all (unOk b) && s.us.all (stackOk b s.us)) by simp only [staOk0, g2, g3, g4, Bool.true_and]]
  refine ⟨_, c1, ?_⟩
  simp only [Int.toNat_natCast, uns_length, push_cast, ↓J1, ↓J2, N1, N2, N3, reduceCtorEq, N4, N5, N6, reduceIte, N7, I1, I2, I3]
  repeat (refine ⟨by omega, ?_⟩)
  refine RL_count (fun i => ⟨tb 80 .any [(2, .ptr 0 none 0 0 0), (5, .ref 1 none 2 0 b.m.t.length), (31, .sl (uns s.us)), (32, .int .i64 (s.us.length : Int)), (33, .int .i64 (i : Int))], [(1, .slice 2 (tblR (s.us.take i) b.m.t.length)), (0, .var (rulF b.r ++ mpF b.m))], 2⟩) (fun i => ∀ j (h : j < s.us.length), j < i → unOk b s.us[j] = true ∧ stackOk b (s.us.take (j + 1)) s.us[j] = true) s.us.length 0 (hdA [(2, 1), (0, 0)] (hh := ?_)) (by omega) (by intro j h h'; omega) fun i hi ht J hJ => ?_
  · rw [List.take_zero, tblR_nil]; simp only [canR, canB, renO, renL, ren, lkp, hget, N7, N5, Nat.not_lt_zero, if_false, if_true, reduceIte, List.append_nil, List.nil_append]; rfl
  simp only [brdF, rulF, mpF, List.cons_append, List.nil_append, staF]
  by_cases h1 : i < s.us.length
  · have e1 := uns_get h1
    have bad : (unOk b s.us[i] = false ∨ stackOk b (s.us.take (i + 1)) s.us[i] = false) → (s.us.all (unOk b) && s.us.all (stackOk b s.us)) = false := by
      rintro (h | h)
      · rw [show s.us.all (unOk b) = false from List.all_eq_false.2 ⟨_, List.getElem_mem h1, by simp [h]⟩]; rfl
      · rw [show s.us.all (stackOk b s.us) = false from List.all_eq_false.2 ⟨_, List.getElem_mem h1, by
          intro hh
          rw [stack_mono (i + 1) hh] at h; cases h⟩, Bool.and_false]
    have good : unOk b s.us[i] = true → stackOk b (s.us.take (i + 1)) s.us[i] = true → ∀ j (h : j < s.us.length), j < i + 1 → unOk b s.us[j] = true ∧ stackOk b (s.us.take (j + 1)) s.us[j] = true := by
      intro k1 k2 j hj hji
      by_cases hij : j = i
      · subst hij; exact ⟨k1, k2⟩
      · exact ht j hj (by omega)
    have hJ' := fun k1 k2 => hJ h1 (good k1 k2)
    have taway := tblR_away (n := b.m.t.length) h1
    have tadd := fun a s' => tblR_add (n := b.m.t.length) (a := a) (s := s') h1
    clear hJ good ht
    generalize hu : s.us[i] = u at *
    have c2' := c2 u
    simp only [Int.toNat_natCast, e1, unA, push_cast, ↓J1, ↓J2, N1, N2, N3, reduceCtorEq, N4, N5, N6, reduceIte, N7, I1, I2, I3] at c2' ⊢
    refine ifB_intro (fun _ => ?_) (fun h => by simp at h; omega)
    repeat (refine ⟨by omega, ?_⟩)
    refine ⟨_, c2', ?_⟩
    cases g5 : unOk b u
    · simp only [bad (.inl g5), push_cast, ↓J1, ↓J2, N1, N2, N3, reduceCtorEq, N4, N5, N6, reduceIte, N7, I1, I2, I3]
    simp only [push_cast, ↓J1, ↓J2, N1, N2, N3, reduceCtorEq, N4, N5, N6, reduceIte, N7, I1, I2, I3]
    have hsd := un_sd g5
    have es : stackOk b (s.us.take (i + 1)) u = !(decide (0 ≤ u.at_) && (decide (0 < (cnt (s.us.take (i + 1)) u.at_ (1 - u.sd) : Int)) || decide (b.r.stack < (cnt (s.us.take (i + 1)) u.at_ u.sd : Int)))) := by simp [stackOk]
    by_cases g6 : u.at_ < 0
    · have g6' : decide (u.at_ < 0) = true := decide_eq_true g6
      simp only [g6', push_cast, ↓J1, ↓J2, N1, N2, N3, reduceCtorEq, N4, N5, N6, reduceIte, N7, I1, I2, I3]
      refine hJ' g5 (by rw [es, decide_eq_false (by omega)]; rfl) _ ?_
      rw [taway g6]
      exact (hdA [(1, 1), (0, 0)])
    have g6' : decide (u.at_ < 0) = false := decide_eq_false g6
    have hat := unOk_at g5 (by omega)
    obtain ⟨a, ha⟩ : ∃ a : Nat, u.at_ = a := ⟨u.at_.toNat, by omega⟩
    have han : a < b.m.t.length := by omega
    have ea := fun us => tblR_get (us := us) han
    rw [decide_eq_true (show (0 : Int) ≤ u.at_ by omega), Bool.true_and] at es
    have cl := cnt_le_len (s.us.take i) a 0
    have cl1 := cnt_le_len (s.us.take i) a 1
    have tl : (s.us.take i).length ≤ s.us.length := by rw [List.length_take]; omega
    have ga : decide ((a : Int) < 0) = false := decide_eq_false (by omega)
    rw [ha] at es
    rcases hsd with h0 | h0
    · have tadd' := tadd a 0 ha h0 (by omega) han
      rw [h0] at es
      have w1 : IntKind.i64.wrap (1 - 0) = 1 := by decide
      have w2 : IntKind.i64.wrap ((cnt (s.us.take i) (a : Int) 0 : Int) + 1) = (cnt (s.us.take i) (a : Int) 0 : Int) + 1 := wrap64 (by omega) (by omega)
      simp only [tblRow, List.set_cons_zero, List.set_cons_succ, Int.cast_ofNat_Int] at tadd'
      simp only [ha, ga, h0, w1, ea, tblR_length, tblRow, Int.toNat_natCast, push_cast, ↓J1, ↓J2, N1, N2, N3, reduceCtorEq, N4, N5, N6, reduceIte, N7, I1, I2, I3]
      repeat (refine ⟨by omega, ?_⟩)
      simp only [w2, ← tadd', ea, tblR_length, tblRow, Int.toNat_natCast, push_cast, ↓J1, ↓J2, N1, N2, N3, reduceCtorEq, N4, N5, N6, reduceIte, N7, I1, I2, I3]
      rw [show (1 : Int) - 0 = 1 by decide] at es
      cases g7 : decide (0 < (cnt (s.us.take (i + 1)) (a : Int) 1 : Int))
      · rw [g7, Bool.false_or] at es
        simp only [tblR_length, ea, tblRow, Int.toNat_natCast, push_cast, ↓J1, ↓J2, N1, N2, N3, reduceCtorEq, N4, N5, N6, reduceIte, N7, I1, I2, I3]
        repeat (refine ⟨by omega, ?_⟩)
        cases g8 : decide (b.r.stack < (cnt (s.us.take (i + 1)) (a : Int) 0 : Int))
        · rw [g8] at es
          simp only [push_cast, ↓J1, ↓J2, N1, N2, N3, reduceCtorEq, N4, N5, N6, reduceIte, N7, I1, I2, I3]
          exact hJ' g5 es _ (hdA [(1, 1), (0, 0)])
        · rw [g8] at es
          simp only [bad (.inr es), push_cast, ↓J1, ↓J2, N1, N2, N3, reduceCtorEq, N4, N5, N6, reduceIte, N7, I1, I2, I3]
      · rw [g7] at es
        simp only [bad (.inr es), push_cast, ↓J1, ↓J2, N1, N2, N3, reduceCtorEq, N4, N5, N6, reduceIte, N7, I1, I2, I3]
    · have tadd' := tadd a 1 ha h0 (by omega) han
      rw [h0] at es
      have w1 : IntKind.i64.wrap (1 - 1) = 0 := by decide
      have w2 : IntKind.i64.wrap ((cnt (s.us.take i) (a : Int) 1 : Int) + 1) = (cnt (s.us.take i) (a : Int) 1 : Int) + 1 := wrap64 (by omega) (by omega)
      simp only [tblRow, List.set_cons_zero, List.set_cons_succ, Int.cast_ofNat_Int] at tadd'
      simp only [ha, ga, h0, w1, ea, tblR_length, tblRow, Int.toNat_natCast, push_cast, ↓J1, ↓J2, N1, N2, N3, reduceCtorEq, N4, N5, N6, reduceIte, N7, I1, I2, I3]
      repeat (refine ⟨by omega, ?_⟩)
      simp only [w2, ← tadd', ea, tblR_length, tblRow, Int.toNat_natCast, push_cast, ↓J1, ↓J2, N1, N2, N3, reduceCtorEq, N4, N5, N6, reduceIte, N7, I1, I2, I3]
      rw [show (1 : Int) - 1 = 0 by decide] at es
      cases g7 : decide (0 < (cnt (s.us.take (i + 1)) (a : Int) 0 : Int))
      · rw [g7, Bool.false_or] at es
        simp only [tblR_length, ea, tblRow, Int.toNat_natCast, push_cast, ↓J1, ↓J2, N1, N2, N3, reduceCtorEq, N4, N5, N6, reduceIte, N7, I1, I2, I3]
        repeat (refine ⟨by omega, ?_⟩)
        cases g8 : decide (b.r.stack < (cnt (s.us.take (i + 1)) (a : Int) 1 : Int))
        · rw [g8] at es
          simp only [push_cast, ↓J1, ↓J2, N1, N2, N3, reduceCtorEq, N4, N5, N6, reduceIte, N7, I1, I2, I3]
          exact hJ' g5 es _ (hdA [(1, 1), (0, 0)])
        · rw [g8] at es
          simp only [bad (.inr es), push_cast, ↓J1, ↓J2, N1, N2, N3, reduceCtorEq, N4, N5, N6, reduceIte, N7, I1, I2, I3]
      · rw [g7] at es
        simp only [bad (.inr es), push_cast, ↓J1, ↓J2, N1, N2, N3, reduceCtorEq, N4, N5, N6, reduceIte, N7, I1, I2, I3]
  · simp only [uns_length, push_cast, ↓J1, ↓J2, N1, N2, N3, reduceCtorEq, N4, N5, N6, reduceIte, N7, I1, I2, I3]
    refine ifB_intro (fun h => by simp at h; omega) (fun h => ?_)
    have hall : s.us.all (unOk b) = true := by
      rw [List.all_eq_true]; intro u hm
      obtain ⟨j, hj, rfl⟩ := List.getElem_of_mem hm
      exact (ht j hj (by omega)).1
    rw [hall, stack_all (fun j hj => (ht j hj (by omega)).1) (fun j hj => (ht j hj (by omega)).2)]
    rfl
end
end Go.Proofs.YtdhkdkefhoafnaaGreatDoor.X
set_option maxHeartbeats 1000000
set_option maxRecDepth 8000
set_option linter.unusedSimpArgs false
set_option linter.unusedVariables false
open Nat renaming reduceBEq → N1, reduceAdd → N2, reduceSub → N3, reduceMul → N4, reduceEqDiff → N5, reduceLeDiff → N6, reduceLT → N7
open Int renaming reduceLE → I1, reduceLT → I2, reduceToNat → I3
namespace Go.Proofs.YtdhkdkefhoafnaaGreatDoor.X
open Go
def w64 (n : Int) : Int := IntKind.i64.wrap n
theorem w64_id {n : Int} (h1 : -9223372036854775808 ≤ n) (h2 : n ≤ 9223372036854775807) : w64 n = n := wrap64 h1 h2
def dmod (x m : Int) : Int := (w64 (x.tmod m + m)).tmod m
def mixA (a b x : Int) : Int := (w64 (w64 (w64 (16807 * a) + dmod x 2147483647) + b)).tmod 2147483647
def mixB (a' b x : Int) : Int := (w64 (w64 (w64 (39373 * b) + dmod x 2147483629) + a')).tmod 2147483629
def mixS (ab : Int × Int) (x : Int) : Int × Int := (mixA ab.1 ab.2 x, mixB (mixA ab.1 ab.2 x) ab.2 x)
def mixF (l : List Int) (n : Int) : Int × Int := l.foldl mixS (7, w64 (n + 1))
def mixL (l : List Int) : Int × Int := mixF (l ++ [1, 1, 1]) l.length
theorem mixF_succ {l : List Int} {n : Int} {i : Nat} (h : i < l.length) : mixF (l.take (i + 1)) n = mixS (mixF (l.take i) n) l[i] := by
  simp only [mixF, List.take_succ_eq_append_getElem h, List.foldl_append, List.foldl_cons, List.foldl_nil]
section
variable {C : CT} (hC : Closed Tryz.prog G1 md0 C)
include hC
theorem t123 (x m : Int) (hm : m ≠ 0) : Ev C 123 [.int .i64 x, .int .i64 m] (.int .i64 (dmod x m)) := by
  refine rT hC Q123 ?_
  simp only [c123, push_cast, ↓J1, ↓J2, N1, N2, N3, reduceCtorEq, N4, N5, N6, reduceIte, N7, I1, I2, I3]
  simp only [hm, not_false_eq_true, true_and]
  rfl
theorem t113 (x m : Int) (hm : m ≠ 0) : Ev C 113 [.int .i64 x, .int .i64 m] (.int .i64 (dmod x m)) := by
  refine rT hC Q113 ?_
  simp only [c113, push_cast, ↓J1, ↓J2, N1, N2, N3, reduceCtorEq, N4, N5, N6, reduceIte, N7, I1, I2, I3]
  simp only [hm, not_false_eq_true, true_and]
  rfl
theorem t48 (n : Int) : Ev C 48 [.int .i64 n] (.bool (inR 0 4611686016279904236 n)) := by
  refine rT hC Q48 ?_
  simp only [c48, push_cast, ↓J1, ↓J2, N1, N2, N3, reduceCtorEq, N4, N5, N6, reduceIte, N7, I1, I2, I3]
  refine ⟨_, t72 hC _ _ _, ?_⟩
  simp only [push_cast, ↓J1, ↓J2, N1, N2, N3, reduceCtorEq, N4, N5, N6, reduceIte, N7, I1, I2, I3]
  rfl
theorem t84 (n : Int) : Ev C 84 [.int .i64 n] (.bool (inR 0 4611686016279904236 n)) := by
  refine rT hC Q84 ?_
  simp only [c84, push_cast, ↓J1, ↓J2, N1, N2, N3, reduceCtorEq, N4, N5, N6, reduceIte, N7, I1, I2, I3]
  refine ⟨_, t81 hC _ _ _, ?_⟩
  simp only [push_cast, ↓J1, ↓J2, N1, N2, N3, reduceCtorEq, N4, N5, N6, reduceIte, N7, I1, I2, I3]
  rfl
theorem t97 (l : List Int) (hl : l.length < 2^50) : Ev C 97 [.sl (ints l)] (.tup [.int .i64 (mixL l).1, .int .i64 (mixL l).2]) := by
  refine rT hC Q97 ?_
  simp only [c97, ints, List.length_map, push_cast, ↓J1, ↓J2, N1, N2, N3, reduceCtorEq, N4, N5, N6, reduceIte, N7, I1, I2, I3]
  have eL : (l ++ [1, 1, 1]).length = l.length + 3 := by simp
  refine RL_count (fun i => ⟨tb 44 .any [(0, .sl (l.map fun n => [.int .i64 n])), (4, .int .i64 (mixF ((l ++ [1, 1, 1]).take i) l.length).1), (5, .int .i64 (mixF ((l ++ [1, 1, 1]).take i) l.length).2), (6, .int .i64 (i : Int))], [], 0⟩) (fun _ => True) (l.length + 3) 0 (head_tb [] rfl (by simp only [keptV_cons, keptV_nil, tb_get, lk_same, lk_ne, lk_nil, ren, renL, lkp, N7, N1, N5, reduceIte, and_true, true_and, Nat.not_lt_zero, if_false, if_true, Nat.add_zero, Nat.zero_add]; simp [mixF, w64]) rfl) (by omega) trivial fun i hi _ J hJ => ?_
  simp only [List.length_map, Int.toNat_natCast, List.getElem?_map, push_cast, ↓J1, ↓J2, N1, N2, N3, reduceCtorEq, N4, N5, N6, reduceIte, N7, I1, I2, I3]
  rw [wrap64 (n := (l.length : Int) + 3) (by omega) (by omega)]
  by_cases h1 : i < l.length + 3
  · have h2 : i < (l ++ [1, 1, 1]).length := by omega
    have e1 := mixF_succ (n := l.length) h2
    refine ifB_intro (fun _ => ?_) (fun h => by simp at h; omega)
    refine ifB_intro (fun h => ?_) (fun h => ?_)
    · have h3 : i < l.length := by simp at h; omega
      rw [List.getElem_append_left h3] at e1
      simp only [List.getElem?_eq_getElem h3, push_cast, ↓J1, ↓J2, N1, N2, N3, reduceCtorEq, N4, N5, N6, reduceIte, N7, I1, I2, I3]
      refine ⟨by omega, _, t123 hC _ _ (by omega), ?_⟩
      simp only [push_cast, ↓J1, ↓J2, N1, N2, N3, reduceCtorEq, N4, N5, N6, reduceIte, N7, I1, I2, I3]
      refine ⟨by omega, _, t123 hC _ _ (by omega), ?_⟩
      simp only [push_cast, ↓J1, ↓J2, N1, N2, N3, reduceCtorEq, N4, N5, N6, reduceIte, N7, I1, I2, I3]
      refine ⟨by omega, hJ h1 trivial _ (hdA [] (hV := ?_))⟩
      simp only [keptV_cons, keptV_nil, tb_get, lk_same, lk_ne, lk_nil, ren, renL, lkp, N7, N1, N5, reduceIte, and_true, true_and, Nat.not_lt_zero, if_false, if_true, Nat.add_zero, Nat.zero_add]
      rw [wrap64 (n := (i : Int) + 1) (by omega) (by omega), e1]
      and_intros <;> rfl
    · have h3 : ¬ i < l.length := by simp at h; omega
      have h4 : (l ++ [1, 1, 1])[i] = 1 := by
        rw [List.getElem_append_right (by omega)]
        have : i - l.length = 0 ∨ i - l.length = 1 ∨ i - l.length = 2 := by omega
        rcases this with h | h | h <;> simp [h]
      rw [h4] at e1
      refine ⟨_, t123 hC _ _ (by omega), ?_⟩
      simp only [push_cast, ↓J1, ↓J2, N1, N2, N3, reduceCtorEq, N4, N5, N6, reduceIte, N7, I1, I2, I3]
      refine ⟨by omega, _, t123 hC _ _ (by omega), ?_⟩
      simp only [push_cast, ↓J1, ↓J2, N1, N2, N3, reduceCtorEq, N4, N5, N6, reduceIte, N7, I1, I2, I3]
      refine ⟨by omega, hJ h1 trivial _ (hdA [] (hV := ?_))⟩
      simp only [keptV_cons, keptV_nil, tb_get, lk_same, lk_ne, lk_nil, ren, renL, lkp, N7, N1, N5, reduceIte, and_true, true_and, Nat.not_lt_zero, if_false, if_true, Nat.add_zero, Nat.zero_add]
      rw [wrap64 (n := (i : Int) + 1) (by omega) (by omega), e1]
      and_intros <;> rfl
  · refine ifB_intro (fun h => by simp at h; omega) (fun h => ?_)
    rw [List.take_of_length_le (by omega)]
    exact ⟨rfl, rfl⟩
theorem t112 (a b x : Int) : C 112 [.int .i64 x, .ptr 0 none 0 0 0, .ptr 1 none 0 0 0] [(0, .var [.int .i64 a]), (1, .var [.int .i64 b])] 2 (fun v h' n' => v = .tup [] ∧ n' = 2 ∧ h' = [(0, .var [.int .i64 (mixS (a, b) x).1]), (1, .var [.int .i64 (mixS (a, b) x).2])]) := by
  refine Closed.rT hC Q112 ?_
  simp only [c112, push_cast, ↓J1, ↓J2, N1, N2, N3, reduceCtorEq, N4, N5, N6, reduceIte, N7, I1, I2, I3]
  refine ⟨_, t113 hC _ _ (by omega), ?_⟩
  simp only [push_cast, ↓J1, ↓J2, N1, N2, N3, reduceCtorEq, N4, N5, N6, reduceIte, N7, I1, I2, I3]
  refine ⟨by omega, _, t113 hC _ _ (by omega), ?_⟩
  simp only [push_cast, ↓J1, ↓J2, N1, N2, N3, reduceCtorEq, N4, N5, N6, reduceIte, N7, I1, I2, I3]
  exact ⟨by omega, rfl⟩
theorem t85 (l : List Int) (hl : l.length < 2^50) : Ev C 85 [.sl (ints l)] (.tup [.int .i64 (mixL l).1, .int .i64 (mixL l).2]) := by
  refine rT hC Q85 ?_
  simp only [c85, ints, List.length_map, push_cast, ↓J1, ↓J2, N1, N2, N3, reduceCtorEq, N4, N5, N6, reduceIte, N7, I1, I2, I3]
  refine RL_count (fun i => ⟨tb 30 .any [(4, .ptr 0 none 0 0 0), (5, .ptr 1 none 0 0 0), (6, .fn 112 [.ptr 0 none 0 0 0, .ptr 1 none 0 0 0]), (13, .sl (l.map fun n => [.int .i64 n])), (14, .int .i64 (l.length : Int)), (15, .int .i64 (i : Int))], [(0, .var [.int .i64 (mixF (l.take i) l.length).1]), (1, .var [.int .i64 (mixF (l.take i) l.length).2])], 2⟩) (fun _ => True) l.length 0 (hdA [(0, 0), (1, 1)]) (by omega) trivial fun i hi _ J hJ => ?_
  by_cases h1 : i < l.length
  · have e1 := mixF_succ (n := l.length) h1
    simp only [List.length_map, Int.toNat_natCast, List.getElem?_map, List.getElem?_eq_getElem h1, push_cast, ↓J1, ↓J2, N1, N2, N3, reduceCtorEq, N4, N5, N6, reduceIte, N7, I1, I2, I3]
    refine ifB_intro (fun _ => ⟨by omega, _, t112 hC _ _ _, ?_⟩) (fun h => by simp at h; omega)
    rintro v h' n' ⟨rfl, rfl, rfl⟩ _
    simp only [push_cast, ↓J1, ↓J2, N1, N2, N3, reduceCtorEq, N4, N5, N6, reduceIte, N7, I1, I2, I3]
    refine hJ h1 trivial _ (hdA [(0, 0), (1, 1)] (hh := ?_))
    rw [e1]
    rfl
  · simp only [List.length_map, Int.toNat_natCast, List.getElem?_map, push_cast, ↓J1, ↓J2, N1, N2, N3, reduceCtorEq, N4, N5, N6, reduceIte, N7, I1, I2, I3]
    refine ifB_intro (fun h => by simp at h; omega) (fun h => ?_)
    rw [List.take_of_length_le (by omega)]
    refine RL_count (fun k => ⟨tb 30 .any [(4, .ptr 0 none 0 0 0), (5, .ptr 1 none 0 0 0), (6, .fn 112 [.ptr 0 none 0 0 0, .ptr 1 none 0 0 0]), (23, .int .i64 (k : Int))], [(0, .var [.int .i64 ((List.replicate k 1).foldl mixS (mixF l l.length)).1]), (1, .var [.int .i64 ((List.replicate k 1).foldl mixS (mixF l l.length)).2])], 2⟩) (fun _ => True) 3 0 (hdA [(0, 0), (1, 1)]) (by omega) trivial fun k hk _ J' hJ' => ?_
    by_cases h6 : k < 3
    · simp only [push_cast, ↓J1, ↓J2, N1, N2, N3, reduceCtorEq, N4, N5, N6, reduceIte, N7, I1, I2, I3]
      refine ifB_intro (fun _ => ⟨_, t112 hC _ _ _, ?_⟩) (fun h => by simp at h; omega)
      rintro v h' n' ⟨rfl, rfl, rfl⟩ _
      simp only [push_cast, ↓J1, ↓J2, N1, N2, N3, reduceCtorEq, N4, N5, N6, reduceIte, N7, I1, I2, I3]
      refine hJ' h6 trivial _ (hdA [(0, 0), (1, 1)] (hh := ?_))
      rw [List.replicate_succ', List.foldl_append]
      rfl
    · obtain rfl : k = 3 := by omega
      simp only [push_cast, ↓J1, ↓J2, N1, N2, N3, reduceCtorEq, N4, N5, N6, reduceIte, N7, I1, I2, I3]
      refine ifB_intro (fun h => by simp at h) (fun h => ?_)
      have e3 : ([1, 1, 1] : List Int).foldl mixS (mixF l l.length) = mixL l := by
        simp only [mixL, mixF, List.foldl_append]
      rw [e3]
      exact ⟨rfl, rfl⟩
end
end Go.Proofs.YtdhkdkefhoafnaaGreatDoor.X
set_option maxHeartbeats 4000000
set_option maxRecDepth 8000
set_option linter.unusedSimpArgs false
set_option linter.unusedVariables false
open Nat renaming reduceBEq → N1, reduceAdd → N2, reduceSub → N3, reduceMul → N4, reduceEqDiff → N5, reduceLeDiff → N6, reduceLT → N7
open Int renaming reduceLE → I1, reduceLT → I2, reduceToNat → I3
namespace Go.Proofs.YtdhkdkefhoafnaaGreatDoor.X
open Go
attribute [local irreducible] Ev
def onSide (sd : Int) (u : Un) : Bool := decide (u.sd = sd) && decide (0 ≤ u.at_)
def gaOk (x : Se) (s : Sta) : Bool := seOk x && staOk x.b s
theorem se_brd {x : Se} (h : seOk x = true) : brdOk x.b = true := by
  simp only [seOk, Bool.and_eq_true] at h; exact h.1.1.1.1.1
theorem ga_eq {x : Se} {s : Sta} (h : seOk x = true) : gaOk x s = staOk0 x.b s := by
  simp only [gaOk, staOk, h, se_brd h, Bool.true_and]
def overOk (x : Se) (s : Sta) : Bool := decide (s.t = x.b.r.turns) || decide ((((fil (onSide 0) s.us s.us.length).length : Nat) : Int) = 0) || decide ((((fil (onSide 1) s.us s.us.length).length : Nat) : Int) = 0)
def ovRes (x : Se) (s : Sta) : Bool := gaOk x s && overOk x s
def leftRes (x : Se) (s : Sta) : Int := if gaOk x s then if overOk x s then 0 else x.b.r.turns - s.t else 0
theorem ga_turn {x : Se} {s : Sta} (h : gaOk x s = true) : 0 ≤ s.t ∧ s.t ≤ x.b.r.turns ∧ x.b.r.turns ≤ 30 ∧ s.us.length ≤ 12 := by
  simp only [gaOk, Bool.and_eq_true] at h
  have h1 := h.2
  have h2 := brd_ru (se_brd h.1)
  simp only [staOk, staOk0, rulOk, tailOk, inR, Bool.and_eq_true, decide_eq_true_eq] at h1 h2
  omega
section
variable {C : CT} (hC : Closed Tryz.prog G1 md0 C)
include hC
theorem t32 (x : Se) (s : Sta) (hb : SeB (2^50) x) (hl : s.us.length < 2^40) : Ev C 32 [seF x, .agg (staF s)] (.bool (gaOk x s)) := by
  have c1 := t57 hC x hb
  have c2 := fun g => t58 hC x.b s g hb.b hl
  simp only [seF, brdF, rulF, mpF, ctF, clA, List.cons_append, List.nil_append, staF] at *
  refine rT hC Q32 ?_
  simp only [c32, push_cast, ↓J1, ↓J2, N1, N2, N3, reduceCtorEq, N4, N5, N6, reduceIte, N7, I1, I2, I3]
  refine ⟨_, c1, ?_⟩
  cases g1 : seOk x
  · simp only [gaOk, g1, Bool.false_and, push_cast, ↓J1, ↓J2, N1, N2, N3, reduceCtorEq, N4, N5, N6, reduceIte, N7, I1, I2, I3]
  simp only [push_cast, ↓J1, ↓J2, N1, N2, N3, reduceCtorEq, N4, N5, N6, reduceIte, N7, I1, I2, I3]
  refine ⟨_, c2 (se_brd g1), ?_⟩
  simp only [ga_eq g1, push_cast, ↓J1, ↓J2, N1, N2, N3, reduceCtorEq, N4, N5, N6, reduceIte, N7, I1, I2, I3]
theorem t47 (x : Se) (s : Sta) (sd : Int) (hb : SeB (2^50) x) (hl : s.us.length < 2^40) : Ev C 47 [seF x, .agg (staF s), .int .i64 sd] (.bool (gaOk x s && inR 0 4611686016279904236 sd)) := by
  have c1 := t70 hC x hb
  have c2 := t71 hC x.b s hb.b hl
  have c3 := t48 hC sd
  simp only [seF, brdF, rulF, mpF, ctF, clA, List.cons_append, List.nil_append, staF] at *
  refine rT hC Q47 ?_
  simp only [c47, push_cast, ↓J1, ↓J2, N1, N2, N3, reduceCtorEq, N4, N5, N6, reduceIte, N7, I1, I2, I3]
  refine ⟨_, c1, ?_⟩
  cases g1 : seOk x
  · simp only [gaOk, g1, Bool.false_and, push_cast, ↓J1, ↓J2, N1, N2, N3, reduceCtorEq, N4, N5, N6, reduceIte, N7, I1, I2, I3]
  simp only [push_cast, ↓J1, ↓J2, N1, N2, N3, reduceCtorEq, N4, N5, N6, reduceIte, N7, I1, I2, I3]
  refine ⟨_, c2, ?_⟩
  cases g2 : staOk x.b s
  · simp only [gaOk, g1, g2, Bool.false_and, Bool.and_false, push_cast, ↓J1, ↓J2, N1, N2, N3, reduceCtorEq, N4, N5, N6, reduceIte, N7, I1, I2, I3]
  simp only [push_cast, ↓J1, ↓J2, N1, N2, N3, reduceCtorEq, N4, N5, N6, reduceIte, N7, I1, I2, I3]
  refine ⟨_, c3, ?_⟩
  simp only [gaOk, g1, g2, Bool.true_and, Bool.and_self, push_cast, ↓J1, ↓J2, N1, N2, N3, reduceCtorEq, N4, N5, N6, reduceIte, N7, I1, I2, I3]
end
end Go.Proofs.YtdhkdkefhoafnaaGreatDoor.X
