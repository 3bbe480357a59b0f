/- A part of the proof: lemmas on the machine or on the functions that the law reaches. No condition of its own. -/
import Derived.Test.YtjaccjeejeiphaaGreatDoorXP4
set_option maxHeartbeats 4000000
set_option maxRecDepth 8000
set_option linter.unusedSimpArgs false
set_option linter.unusedVariables false
open Nat renaming reduceBEq → N1, reduceAdd → N2, reduceSub → N3, reduceMul → N4, reduceEqDiff → N5, reduceLeDiff → N6, reduceLT → N7
open Int renaming reduceLE → I1, reduceLT → I2, reduceToNat → I3
namespace Go.Proofs.YtjaccjeejeiphaaGreatDoor.X
open Go
attribute [local irreducible] Ev
section
variable {C : CT} (hC : Closed Tryz.prog G1 md0 C)
include hC
theorem t204 (b : Brd) (i : Int) (g : brdOk b = true) (hi : inR 0 (b.m.w * b.m.h - 1) i = true) (hb : BrdB (2^50) b) : C 204 [brdF b, .int .i64 i] [(0, .var (rulF b.r ++ mpF b.m))] 1 (fun v h' n' => v = .agg (terF (terAt b i)) ∧ h' = [(2, .var (terF (terAt b i))), (1, .var (rulF b.r ++ mpF b.m)), (0, .var (rulF b.r ++ mpF b.m))] ∧ n' = 3) := by
  have hwh := brd_wh g
  have b1 := hb.m.t
  have b2 := hb.r.ts
  simp only [inR, Bool.and_eq_true, decide_eq_true_eq] at hi
  obtain ⟨i, rfl⟩ : ∃ k : Nat, i = k := ⟨i.toNat, by omega⟩
  have h1 : i < b.m.t.length := by omega
  have ht := ter_in g h1
  have e1 := ints_get h1
  obtain ⟨j, hj⟩ : ∃ k : Nat, b.m.t.getD i 0 = k := ⟨(b.m.t.getD i 0).toNat, by omega⟩
  have h2 : j < b.r.ts.length := by omega
  have e2 : (tersF b.r.ts)[j]? = some (terF b.r.ts[j]) := by simp [tersF, h2]
  have e3 : terAt b i = b.r.ts[j] := by simp only [terAt, Int.toNat_natCast, hj]; simp [h2]
  rw [e3]
  rw [hj] at e1
  simp only [brdF, rulF, mpF, List.cons_append, List.nil_append, terF] at *
  refine Closed.rT hC Q204 ?_
  simp only [c204, push_cast, ↓J1, ↓J2, N1, N2, N3, reduceCtorEq, N4, N5, N6, reduceIte, N7, I1, I2, I3]
  simp only [Int.toNat_natCast, e1, push_cast, ↓J1, ↓J2, N1, N2, N3, reduceCtorEq, N4, N5, N6, reduceIte, N7, I1, I2, I3]
  repeat (refine ⟨by omega, ?_⟩)
  simp only [Int.toNat_natCast, e2, tersF_length, ints_length, push_cast, ↓J1, ↓J2, N1, N2, N3, reduceCtorEq, N4, N5, N6, reduceIte, N7, I1, I2, I3]
  repeat (refine ⟨by omega, ?_⟩)
theorem t208 (b : Brd) (i : Int) (g : brdOk b = true) (hi : inR 0 (b.m.w * b.m.h - 1) i = true) (hb : BrdB (2^50) b) : C 208 [brdF b, .int .i64 i] [(0, .var (rulF b.r ++ mpF b.m))] 1 (fun v h' n' => v = .agg (terF (terAt b i)) ∧ h' = [(2, .var (terF (terAt b i))), (1, .var (rulF b.r ++ mpF b.m)), (0, .var (rulF b.r ++ mpF b.m))] ∧ n' = 3) := by
  have hwh := brd_wh g
  have b1 := hb.m.t
  have b2 := hb.r.ts
  simp only [inR, Bool.and_eq_true, decide_eq_true_eq] at hi
  obtain ⟨i, rfl⟩ : ∃ k : Nat, i = k := ⟨i.toNat, by omega⟩
  have h1 : i < b.m.t.length := by omega
  have ht := ter_in g h1
  have e1 := ints_get h1
  obtain ⟨j, hj⟩ : ∃ k : Nat, b.m.t.getD i 0 = k := ⟨(b.m.t.getD i 0).toNat, by omega⟩
  have h2 : j < b.r.ts.length := by omega
  have e2 : (tersF b.r.ts)[j]? = some (terF b.r.ts[j]) := by simp [tersF, h2]
  have e3 : terAt b i = b.r.ts[j] := by simp only [terAt, Int.toNat_natCast, hj]; simp [h2]
  rw [e3]
  rw [hj] at e1
  simp only [brdF, rulF, mpF, List.cons_append, List.nil_append, terF] at *
  refine Closed.rT hC Q208 ?_
  simp only [c208, push_cast, ↓J1, ↓J2, N1, N2, N3, reduceCtorEq, N4, N5, N6, reduceIte, N7, I1, I2, I3]
  simp only [Int.toNat_natCast, e1, push_cast, ↓J1, ↓J2, N1, N2, N3, reduceCtorEq, N4, N5, N6, reduceIte, N7, I1, I2, I3]
  repeat (refine ⟨by omega, ?_⟩)
  simp only [Int.toNat_natCast, e2, tersF_length, ints_length, push_cast, ↓J1, ↓J2, N1, N2, N3, reduceCtorEq, N4, N5, N6, reduceIte, N7, I1, I2, I3]
  repeat (refine ⟨by omega, ?_⟩)
omit hC in
theorem cost_get {b : Brd} {k : Nat} {i : Int} (g : brdOk b = true) (hk : k < b.r.ks.length) (hi : inR 0 (b.m.w * b.m.h - 1) i = true) : (ints (terAt b i).c)[k]? = some [.int .i64 (costAt b k i)] ∧ 0 ≤ costAt b k i ∧ costAt b k i ≤ 9 ∧ (terAt b i).c.length = b.r.ks.length := by
  have hwh := brd_wh g
  simp only [inR, Bool.and_eq_true, decide_eq_true_eq] at hi
  have h1 : i.toNat < b.m.t.length := by omega
  have ht := ter_in g h1
  have h2 : (b.m.t.getD i.toNat 0).toNat < b.r.ts.length := by omega
  have e : terAt b i = b.r.ts[(b.m.t.getD i.toNat 0).toNat] := by
    simp only [terAt]
    rw [List.getD, List.getElem?_eq_getElem h2, Option.getD_some]
  have hl := terOk_len g h2
  rw [← e] at hl
  have h3 : k < (terAt b i).c.length := by omega
  have hm : costAt b k i ∈ (terAt b i).c := by
    simp only [costAt, Int.toNat_natCast, List.getD, List.getElem?_eq_getElem h3, Option.getD_some]
    exact List.getElem_mem h3
  refine ⟨?_, (hl.2 _ hm).1, (hl.2 _ hm).2, hl.1⟩
  have := ints_get h3
  simpa only [costAt, Int.toNat_natCast] using this
theorem t143 (b : Brd) (k i : Int) (g : brdOk b = true) (hk : inR 0 (b.r.ks.length - 1) k = true) (hi : inR 0 (b.m.w * b.m.h - 1) i = true) (hb : BrdB (2^50) b) : Ev C 143 [brdF b, .int .i64 k, .int .i64 i] (.int .i64 (costAt b k i)) := by
  have c1 := t204 hC b i g hi hb
  have hk' := hk
  simp only [inR, Bool.and_eq_true, decide_eq_true_eq] at hk'
  obtain ⟨k, rfl⟩ : ∃ m : Nat, k = m := ⟨k.toNat, by omega⟩
  have hc := cost_get (k := k) g (by omega) hi
  have b2 := hb.r.ks
  simp only [brdF, rulF, mpF, List.cons_append, List.nil_append, terF] at *
  refine rT hC Q143 ?_
  simp only [c143, push_cast, ↓J1, ↓J2, N1, N2, N3, reduceCtorEq, N4, N5, N6, reduceIte, N7, I1, I2, I3]
  refine ⟨_, c1, ?_⟩
  rintro v h' n' ⟨rfl, rfl, rfl⟩ _
  simp only [Int.toNat_natCast, hc.1, push_cast, ↓J1, ↓J2, N1, N2, N3, reduceCtorEq, N4, N5, N6, reduceIte, N7, I1, I2, I3]
  omega
theorem t151 (b : Brd) (k i : Int) (g : brdOk b = true) (hk : inR 0 (b.r.ks.length - 1) k = true) (hi : inR 0 (b.m.w * b.m.h - 1) i = true) (hb : BrdB (2^50) b) : Ev C 151 [brdF b, .int .i64 k, .int .i64 i] (.int .i64 (costAt b k i)) := by
  have c1 := t208 hC b i g hi hb
  have hk' := hk
  simp only [inR, Bool.and_eq_true, decide_eq_true_eq] at hk'
  obtain ⟨k, rfl⟩ : ∃ m : Nat, k = m := ⟨k.toNat, by omega⟩
  have hc := cost_get (k := k) g (by omega) hi
  have b2 := hb.r.ks
  simp only [brdF, rulF, mpF, List.cons_append, List.nil_append, terF] at *
  refine rT hC Q151 ?_
  simp only [c151, push_cast, ↓J1, ↓J2, N1, N2, N3, reduceCtorEq, N4, N5, N6, reduceIte, N7, I1, I2, I3]
  refine ⟨_, c1, ?_⟩
  rintro v h' n' ⟨rfl, rfl, rfl⟩ _
  simp only [Int.toNat_natCast, hc.1, push_cast, ↓J1, ↓J2, N1, N2, N3, reduceCtorEq, N4, N5, N6, reduceIte, N7, I1, I2, I3]
  omega
omit hC in
theorem un_kind {b : Brd} {u : Un} (g : brdOk b = true) (h : inR 0 (b.r.ks.length - 1) u.k = true) : kindAsk b u.k = true := by
  simp only [kindAsk, g, h, Bool.and_self]
theorem t185 (b : Brd) (u : Un) (g : brdOk b = true) (hb : BrdB (2^50) b) : Ev C 185 [brdF b, .agg (unA u)] (.bool (unOk b u)) := by
  have hwh := brd_wh g
  have hm := mp_wh (brd_mp g)
  have c2 := t130 hC b.m hm.1 hm.2
  have c3 := fun hk hi => t143 hC b u.k u.at_ g hk hi hb
  have b2 := hb.r.ks
  have e0 := fun (k : Nat) (h : k < b.r.ks.length) => kins_get h
  simp only [brdF, rulF, mpF, List.cons_append, List.nil_append, unA, unOk, placed] at *
  refine rT hC Q185 ?_
  simp only [c185, push_cast, ↓J1, ↓J2, N1, N2, N3, reduceCtorEq, N4, N5, N6, reduceIte, N7, I1, I2, I3]
  refine ⟨_, tIn hC _ _ _, ?_⟩
  cases inR 0 1 u.sd
  · simp only [push_cast, ↓J1, ↓J2, N1, N2, N3, reduceCtorEq, N4, N5, N6, reduceIte, N7, I1, I2, I3]
  simp only [kins_length, push_cast, ↓J1, ↓J2, N1, N2, N3, reduceCtorEq, N4, N5, N6, reduceIte, N7, I1, I2, I3]
  rw [wrap64 (n := (b.r.ks.length : Int) - 1) (by omega) (by omega)]
  refine ⟨_, tIn hC _ _ _, ?_⟩
  cases g2 : inR 0 ((b.r.ks.length : Int) - 1) u.k
  · simp only [push_cast, ↓J1, ↓J2, N1, N2, N3, reduceCtorEq, N4, N5, N6, reduceIte, N7, I1, I2, I3]
  have hk := g2
  simp only [inR, Bool.and_eq_true, decide_eq_true_eq] at hk
  obtain ⟨k, ek⟩ : ∃ m : Nat, u.k = m := ⟨u.k.toNat, by omega⟩
  have e1 := e0 k (by omega)
  rw [← ek] at e1
  have en : u.k.toNat = k := by omega
  simp only [en, e1, kinA, kins_length, push_cast, ↓J1, ↓J2, N1, N2, N3, reduceCtorEq, N4, N5, N6, reduceIte, N7, I1, I2, I3]
  repeat (refine ⟨by omega, ?_⟩)
  refine ⟨_, tIn hC _ _ _, ?_⟩
  cases inR 0 (kindOf b u.k).sp u.st
  · simp only [push_cast, ↓J1, ↓J2, N1, N2, N3, reduceCtorEq, N4, N5, N6, reduceIte, N7, I1, I2, I3]
  simp only [push_cast, ↓J1, ↓J2, N1, N2, N3, reduceCtorEq, N4, N5, N6, reduceIte, N7, I1, I2, I3]
  cases decide (u.at_ = -1)
  · simp only [push_cast, ↓J1, ↓J2, N1, N2, N3, reduceCtorEq, N4, N5, N6, reduceIte, N7, I1, I2, I3]
    cases decide (0 < u.st)
    · simp only [push_cast, ↓J1, ↓J2, N1, N2, N3, reduceCtorEq, N4, N5, N6, reduceIte, N7, I1, I2, I3]
    simp only [push_cast, ↓J1, ↓J2, N1, N2, N3, reduceCtorEq, N4, N5, N6, reduceIte, N7, I1, I2, I3]
    refine ⟨_, c2, ?_⟩
    simp only [push_cast, ↓J1, ↓J2, N1, N2, N3, reduceCtorEq, N4, N5, N6, reduceIte, N7, I1, I2, I3]
    rw [wrap64 (n := b.m.w * b.m.h - 1) (by omega) (by omega)]
    refine ⟨_, tIn hC _ _ _, ?_⟩
    cases g3 : inR 0 (b.m.w * b.m.h - 1) u.at_
    · simp only [push_cast, ↓J1, ↓J2, N1, N2, N3, reduceCtorEq, N4, N5, N6, reduceIte, N7, I1, I2, I3]
    simp only [push_cast, ↓J1, ↓J2, N1, N2, N3, reduceCtorEq, N4, N5, N6, reduceIte, N7, I1, I2, I3]
    refine ⟨_, c3 g2 g3, ?_⟩
    simp only [push_cast, ↓J1, ↓J2, N1, N2, N3, reduceCtorEq, N4, N5, N6, reduceIte, N7, I1, I2, I3]
  · simp only [push_cast, ↓J1, ↓J2, N1, N2, N3, reduceCtorEq, N4, N5, N6, reduceIte, N7, I1, I2, I3]
theorem t186 (b : Brd) (u : Un) (g : brdOk b = true) (hb : BrdB (2^50) b) : Ev C 186 [brdF b, .agg (unA u)] (.bool (unOk b u)) := by
  have hwh := brd_wh g
  have c2 := t134 hC b
  rw [hwh.1] at c2
  have c3 := fun hk hi => t151 hC b u.k u.at_ g hk hi hb
  have cz := fun hk hi => (cost_get (b := b) (k := u.k.toNat) (i := u.at_) g hk hi).2
  have b2 := hb.r.ks
  have e0 := fun (k : Nat) (h : k < b.r.ks.length) => kins_get h
  simp only [brdF, rulF, mpF, List.cons_append, List.nil_append, unA, unOk, placed] at *
  refine rT hC Q186 ?_
  simp only [c186, push_cast, ↓J1, ↓J2, N1, N2, N3, reduceCtorEq, N4, N5, N6, reduceIte, N7, I1, I2, I3]
  refine ⟨_, t117 hC _, ?_⟩
  cases inR 0 1 u.sd
  · simp only [push_cast, ↓J1, ↓J2, N1, N2, N3, reduceCtorEq, N4, N5, N6, reduceIte, N7, I1, I2, I3]
  simp only [kins_length, push_cast, ↓J1, ↓J2, N1, N2, N3, reduceCtorEq, N4, N5, N6, reduceIte, N7, I1, I2, I3]
  refine ⟨_, tIdx hC _ _ (by omega), ?_⟩
  cases g2 : inR 0 ((b.r.ks.length : Int) - 1) u.k
  · simp only [push_cast, ↓J1, ↓J2, N1, N2, N3, reduceCtorEq, N4, N5, N6, reduceIte, N7, I1, I2, I3]
  have hk := g2
  simp only [inR, Bool.and_eq_true, decide_eq_true_eq] at hk
  obtain ⟨k, ek⟩ : ∃ m : Nat, u.k = m := ⟨u.k.toNat, by omega⟩
  have e1 := e0 k (by omega)
  rw [← ek] at e1
  have en : u.k.toNat = k := by omega
  simp only [en, e1, kinA, kins_length, push_cast, ↓J1, ↓J2, N1, N2, N3, reduceCtorEq, N4, N5, N6, reduceIte, N7, I1, I2, I3]
  repeat (refine ⟨by omega, ?_⟩)
  refine ⟨_, tRange hC _ _ _, ?_⟩
  cases inR 0 (kindOf b u.k).sp u.st
  · simp only [push_cast, ↓J1, ↓J2, N1, N2, N3, reduceCtorEq, N4, N5, N6, reduceIte, N7, I1, I2, I3]
  simp only [push_cast, ↓J1, ↓J2, N1, N2, N3, reduceCtorEq, N4, N5, N6, reduceIte, N7, I1, I2, I3]
  cases decide (u.at_ = -1)
  · simp only [push_cast, ↓J1, ↓J2, N1, N2, N3, reduceCtorEq, N4, N5, N6, reduceIte, N7, I1, I2, I3]
    cases decide (0 < u.st)
    · simp only [push_cast, ↓J1, ↓J2, N1, N2, N3, reduceCtorEq, N4, N5, N6, reduceIte, N7, I1, I2, I3]
    simp only [push_cast, ↓J1, ↓J2, N1, N2, N3, reduceCtorEq, N4, N5, N6, reduceIte, N7, I1, I2, I3]
    refine ⟨_, c2, ?_⟩
    simp only [push_cast, ↓J1, ↓J2, N1, N2, N3, reduceCtorEq, N4, N5, N6, reduceIte, N7, I1, I2, I3]
    refine ⟨_, tIdx hC _ _ (by omega), ?_⟩
    cases g3 : inR 0 (b.m.w * b.m.h - 1) u.at_
    · simp only [push_cast, ↓J1, ↓J2, N1, N2, N3, reduceCtorEq, N4, N5, N6, reduceIte, N7, I1, I2, I3]
    simp only [push_cast, ↓J1, ↓J2, N1, N2, N3, reduceCtorEq, N4, N5, N6, reduceIte, N7, I1, I2, I3]
    refine ⟨_, c3 g2 g3, ?_⟩
    have hz := cz (by omega) g3
    rw [Int.toNat_of_nonneg (by omega)] at hz
    simp only [push_cast, ↓J1, ↓J2, N1, N2, N3, reduceCtorEq, N4, N5, N6, reduceIte, N7, I1, I2, I3]
    rw [Bool.eq_iff_iff]
    simp only [Bool.not_eq_true', decide_eq_false_iff_not, decide_eq_true_eq]
    omega
  · simp only [push_cast, ↓J1, ↓J2, N1, N2, N3, reduceCtorEq, N4, N5, N6, reduceIte, N7, I1, I2, I3]
end
end Go.Proofs.YtjaccjeejeiphaaGreatDoor.X
set_option maxHeartbeats 4000000
set_option maxRecDepth 8000
set_option linter.unusedSimpArgs false
set_option linter.unusedVariables false
open Nat renaming reduceBEq → N1, reduceAdd → N2, reduceSub → N3, reduceMul → N4, reduceEqDiff → N5, reduceLeDiff → N6, reduceLT → N7
open Int renaming reduceLE → I1, reduceLT → I2, reduceToNat → I3
namespace Go.Proofs.YtjaccjeejeiphaaGreatDoor.X
open Go
attribute [local irreducible] Ev
def hasU (b : Brd) (s : Sta) (u : Int) : Bool := staOk b s && inR 0 (s.us.length - 1) u
def un0 : Un := ⟨0, 0, 0, 0⟩
def unOf (s : Sta) (u : Int) : Un := s.us.getD u.toNat un0
def canRe (b : Brd) (u : Un) : Bool := decide (0 ≤ u.at_) && decide (u.st < (kindOf b u.k).sp)
def hurt (b : Brd) (s : Sta) (u : Int) : Bool := hasU b s u && canRe b (unOf s u)
theorem uns_un {s : Sta} {k : Nat} (h : k < s.us.length) : (uns s.us)[k]? = some (unA (unOf s k)) := by
  simp [uns, unOf, List.getD, h]
theorem sta_brd {b : Brd} {s : Sta} (h : staOk b s = true) : brdOk b = true := by
  simp only [staOk, Bool.and_eq_true] at h; exact h.1
theorem sta_un {b : Brd} {s : Sta} (h : staOk b s = true) {k : Nat} (hk : k < s.us.length) : unOk b (unOf s k) = true := by
  simp only [staOk, staOk0, Bool.and_eq_true, List.all_eq_true] at h
  have := h.2.1.2 _ (List.getElem_mem hk)
  simpa [unOf, List.getD, hk] using this
theorem sta_kind {b : Brd} {s : Sta} (h : staOk b s = true) {k : Nat} (hk : k < s.us.length) : kindAsk b (unOf s k).k = true := by
  have := sta_un h hk
  simp only [unOk, Bool.and_eq_true] at this
  exact un_kind (sta_brd h) this.1.1.2
theorem sta_len {b : Brd} {s : Sta} (h : staOk b s = true) : s.us.length ≤ 12 := by
  simp only [staOk, staOk0, Bool.and_eq_true, decide_eq_true_eq] at h; omega
theorem unOk_at {b : Brd} {u : Un} (h : unOk b u = true) (ha : ¬ u.at_ < 0) : 0 ≤ u.at_ ∧ u.at_ < b.m.w * b.m.h := by
  simp only [unOk, placed, inR, Bool.and_eq_true, Bool.or_eq_true, decide_eq_true_eq] at h
  omega
theorem ints_sn (l : List Int) (x : Int) : ints l ++ [[.int .i64 x]] = ints (l ++ [x]) := by simp [ints]
theorem fil_cnt {us : List Un} {a sd : Int} : (fil (isAt a sd) us us.length).length = cnt us a sd := by
  rw [fil_len (Nat.le_refl _), List.take_length]; rfl
section
variable {C : CT} (hC : Closed Tryz.prog G1 md0 C)
include hC
theorem t145 (s : Sta) (a sd : Int) (hl : s.us.length < 2^40) : Ev C 145 [.agg (staF s), .int .i64 a, .int .i64 sd] (.ow 1 (ints (fil (isAt a sd) s.us s.us.length))) := by
  simp only [staF]
  refine rT hC Q145 ?_ (own_ints _)
  simp only [c145, uns_length, push_cast, ↓J1, ↓J2, N1, N2, N3, reduceCtorEq, N4, N5, N6, reduceIte, N7, I1, I2, I3]
  refine RL_count (fun i => ⟨tb 34 .any [(7, .ref 0 none 1 0 (fil (isAt a sd) s.us i).length), (1, .int .i64 a), (2, .int .i64 sd), (11, .sl (uns s.us)), (12, .int .i64 (s.us.length : Int)), (13, .int .i64 (i : Int))], [(0, .slice 1 (ints (fil (isAt a sd) s.us i)))], 1⟩) (fun _ => True) s.us.length 0 (hdO 7 0 1 []) (by omega) trivial fun i hi _ J hJ => ?_
  by_cases h1 : i < s.us.length
  · have e1 := uns_get h1
    have e2 := fil_succ (p := (isAt a sd)) h1
    have hfl := fil_le (p := (isAt a sd)) hi
    have tk : List.take (fil (isAt a sd) s.us i).length (ints (fil (isAt a sd) s.us i)) = ints (fil (isAt a sd) s.us i) := List.take_of_length_le (by rw [ints_length]; omega)
    generalize s.us[i] = u at *
    simp only [Int.toNat_natCast, e1, unA, push_cast, ↓J1, ↓J2, N1, N2, N3, reduceCtorEq, N4, N5, N6, reduceIte, N7, I1, I2, I3]
    refine ifB_intro (fun _ => ?_) (fun h => by simp at h; omega)
    repeat (refine ⟨by omega, ?_⟩)
    cases g1 : decide (u.at_ = a)
    · have hp : (isAt a sd) u = false := by simp only [isAt, g1, Bool.false_and, Bool.and_false]
      rw [hp, if_neg Bool.false_ne_true] at e2
      simp only [g1, push_cast, ↓J1, ↓J2, N1, N2, N3, reduceCtorEq, N4, N5, N6, reduceIte, N7, I1, I2, I3]
      exact hJ h1 trivial _ (by rw [e2]; exact (hdA [(0, 0)]))
    cases g2 : decide (u.sd = sd)
    · have hp : (isAt a sd) u = false := by simp only [isAt, g1, g2, Bool.false_and, Bool.and_false]
      rw [hp, if_neg Bool.false_ne_true] at e2
      simp only [g1, g2, push_cast, ↓J1, ↓J2, N1, N2, N3, reduceCtorEq, N4, N5, N6, reduceIte, N7, I1, I2, I3]
      exact hJ h1 trivial _ (by rw [e2]; exact (hdA [(0, 0)]))
    have hp : (isAt a sd) u = true := by simp only [isAt, g1, g2, Bool.and_self]
    rw [hp, if_pos rfl] at e2
    simp only [g1, g2, tk, ints_length, allScs, apYR_sc, push_cast, ↓J1, ↓J2, N1, N2, N3, reduceCtorEq, N4, N5, N6, reduceIte, N7, I1, I2, I3]
    repeat (refine ⟨by omega, ?_⟩)
    refine hJ h1 trivial _ ?_
    rw [e2]
    refine (hdA [(3, 0)] (hh := ?_))
    simp only [canR, canB, renO, renL, ren, lkp, hget, N7, N5, Nat.not_lt_zero, if_false, if_true, reduceIte, List.append_nil, List.nil_append, ints_sn]
    all_goals rfl
  · simp only [uns_length, push_cast, ↓J1, ↓J2, N1, N2, N3, reduceCtorEq, N4, N5, N6, reduceIte, N7, I1, I2, I3]
    refine ifB_intro (fun h => by simp at h; omega) (fun h => ?_)
    obtain rfl : i = s.us.length := by omega
    exact RetTo_ow rfl (by rw [ints_length])
theorem t119 (b : Brd) (s : Sta) (hb : BrdB (2^50) b) (hl : s.us.length < 2^40) : Ev C 119 [brdF b, .agg (staF s)] (.bool (staOk b s)) := by
  have c1 := t184 hC b hb
  have c2 := fun u g => t185 hC b u g hb
  have c3 := fun a sd => t145 hC s a sd hl
  simp only [brdF, rulF, mpF, List.cons_append, List.nil_append, staF] at *
  refine rT hC Q119 ?_
  simp only [c119, push_cast, ↓J1, ↓J2, N1, N2, N3, reduceCtorEq, N4, N5, N6, reduceIte, N7, I1, I2, I3]
  refine ⟨_, c1, ?_⟩
  cases g1 : brdOk b
  · simp only [staOk, g1, push_cast, ↓J1, ↓J2, N1, N2, N3, reduceCtorEq, N4, N5, N6, reduceIte, N7, I1, I2, I3]
  simp only [push_cast, ↓J1, ↓J2, N1, N2, N3, reduceCtorEq, N4, N5, N6, reduceIte, N7, I1, I2, I3]
  refine ⟨_, tIn hC _ _ _, ?_⟩
  cases g2 : inR 0 b.r.turns s.t
  · simp only [staOk, staOk0, g1, g2, push_cast, ↓J1, ↓J2, N1, N2, N3, reduceCtorEq, N4, N5, N6, reduceIte, N7, I1, I2, I3]
  simp only [push_cast, ↓J1, ↓J2, N1, N2, N3, reduceCtorEq, N4, N5, N6, reduceIte, N7, I1, I2, I3]
  refine ⟨_, tIn hC _ _ _, ?_⟩
  cases g3 : inR 0 2 s.w
  · simp only [staOk, staOk0, g1, g2, g3, push_cast, ↓J1, ↓J2, N1, N2, N3, reduceCtorEq, N4, N5, N6, reduceIte, N7, I1, I2, I3]
  have e12 : decide (12 < (s.us.length : Int)) = !decide ((s.us.length : Int) ≤ 12) := by rw [Bool.eq_iff_iff]; simp
  simp only [uns_length, e12, push_cast, ↓J1, ↓J2, N1, N2, N3, reduceCtorEq, N4, N5, N6, reduceIte, N7, I1, I2, I3]
  cases g4 : decide ((s.us.length : Int) ≤ 12)
  · simp only [staOk, staOk0, g1, g2, g3, g4, push_cast, ↓J1, ↓J2, N1, N2, N3, reduceCtorEq, N4, N5, N6, reduceIte, N7, I1, I2, I3]
  simp only [uns_length, push_cast, ↓J1, ↓J2, N1, N2, N3, reduceCtorEq, N4, N5, N6, reduceIte, N7, I1, I2, I3]
  rw [show staOk b s = (s.us.all (unOk b) && s.us.all (stackOk b s.us)) by simp only [staOk, staOk0, g1, g2, g3, g4, Bool.true_and]]
  refine RL_count (fun i => ⟨tb 80 .any [(2, .ptr 0 none 0 0 0), (3, .ptr 1 none 0 0 0), (34, .sl (uns s.us)), (35, .int .i64 (s.us.length : Int)), (36, .int .i64 (i : Int))], [(1, .var (staF s)), (0, .var (rulF b.r ++ mpF b.m))], 2⟩) (fun i => s.us.all (unOk b) = (s.us.drop i).all (unOk b)) s.us.length 0 (hdA [(1, 1), (0, 0)]) (by omega) rfl fun i hi ht J hJ => ?_
  simp only [brdF, rulF, mpF, List.cons_append, List.nil_append, staF]
  by_cases h1 : i < s.us.length
  · have e1 := uns_get h1
    rw [List.drop_eq_getElem_cons h1, List.all_cons] at ht
    generalize s.us[i] = u at *
    have c2' := c2 u g1
    simp only [Int.toNat_natCast, e1, unA, push_cast, ↓J1, ↓J2, N1, N2, N3, reduceCtorEq, N4, N5, N6, reduceIte, N7, I1, I2, I3] at c2' ⊢
    refine ifB_intro (fun _ => ?_) (fun h => by simp at h; omega)
    repeat (refine ⟨by omega, ?_⟩)
    refine ⟨_, c2', ?_⟩
    cases g5 : unOk b u
    · rw [ht, g5]
      simp only [Bool.false_and, push_cast, ↓J1, ↓J2, N1, N2, N3, reduceCtorEq, N4, N5, N6, reduceIte, N7, I1, I2, I3]
    simp only [push_cast, ↓J1, ↓J2, N1, N2, N3, reduceCtorEq, N4, N5, N6, reduceIte, N7, I1, I2, I3]
    exact hJ h1 (by rw [ht, g5, Bool.true_and]) _ (hdA [(1, 1), (0, 0)])
  · simp only [uns_length, push_cast, ↓J1, ↓J2, N1, N2, N3, reduceCtorEq, N4, N5, N6, reduceIte, N7, I1, I2, I3]
    refine ifB_intro (fun h => by simp at h; omega) (fun h => ?_)
    rw [List.drop_eq_nil_of_le (by omega)] at ht
    have hall : s.us.all (unOk b) = true := by rw [ht]; rfl
    rw [hall, Bool.true_and]
    clear hJ ht h1 hi
    refine RL_count (fun i => ⟨tb 80 .any [(2, .ptr 0 none 0 0 0), (3, .ptr 1 none 0 0 0), (46, .sl (uns s.us)), (47, .int .i64 (s.us.length : Int)), (48, .int .i64 (i : Int))], [(1, .var (staF s)), (0, .var (rulF b.r ++ mpF b.m))], 2⟩) (fun i => s.us.all (stackOk b s.us) = (s.us.drop i).all (stackOk b s.us)) s.us.length 0 (hdA [(1, 1), (0, 0)]) (by omega) rfl fun i hi ht J hJ => ?_
    simp only [brdF, rulF, mpF, List.cons_append, List.nil_append, staF]
    by_cases h1 : i < s.us.length
    · have e1 := uns_get h1
      have hsd := un_sd (List.all_eq_true.1 hall _ (List.getElem_mem h1))
      rw [List.drop_eq_getElem_cons h1, List.all_cons] at ht
      generalize s.us[i] = u at *
      have es : stackOk b s.us u = !(decide (0 ≤ u.at_) && (decide (0 < (cnt s.us u.at_ (1 - u.sd) : Int)) || decide (b.r.stack < (cnt s.us u.at_ u.sd : Int)))) := by simp [stackOk]
      simp only [Int.toNat_natCast, e1, unA, push_cast, ↓J1, ↓J2, N1, N2, N3, reduceCtorEq, N4, N5, N6, reduceIte, N7, I1, I2, I3]
      refine ifB_intro (fun _ => ?_) (fun h => by simp at h; omega)
      repeat (refine ⟨by omega, ?_⟩)
      cases g5 : decide (0 ≤ u.at_)
      · have : stackOk b s.us u = true := by rw [es, g5]; rfl
        simp only [push_cast, ↓J1, ↓J2, N1, N2, N3, reduceCtorEq, N4, N5, N6, reduceIte, N7, I1, I2, I3]
        exact hJ h1 (by rw [ht, this, Bool.true_and]) _ (hdA [(1, 1), (0, 0)])
      rw [g5, Bool.true_and] at es
      simp only [push_cast, ↓J1, ↓J2, N1, N2, N3, reduceCtorEq, N4, N5, N6, reduceIte, N7, I1, I2, I3]
      rw [wrap64 (n := 1 - u.sd) (by omega) (by omega)]
      refine ⟨_, c3 _ _, ?_⟩
      simp only [ints_length, fil_cnt, push_cast, ↓J1, ↓J2, N1, N2, N3, reduceCtorEq, N4, N5, N6, reduceIte, N7, I1, I2, I3]
      cases g6 : decide (0 < (cnt s.us u.at_ (1 - u.sd) : Int))
      · rw [g6, Bool.false_or] at es
        simp only [push_cast, ↓J1, ↓J2, N1, N2, N3, reduceCtorEq, N4, N5, N6, reduceIte, N7, I1, I2, I3]
        refine ⟨_, c3 _ _, ?_⟩
        simp only [ints_length, fil_cnt, push_cast, ↓J1, ↓J2, N1, N2, N3, reduceCtorEq, N4, N5, N6, reduceIte, N7, I1, I2, I3]
        cases g7 : decide (b.r.stack < (cnt s.us u.at_ u.sd : Int))
        · rw [g7] at es
          simp only [push_cast, ↓J1, ↓J2, N1, N2, N3, reduceCtorEq, N4, N5, N6, reduceIte, N7, I1, I2, I3]
          exact hJ h1 (by rw [ht, es]; rfl) _ (hdA [(1, 1), (0, 0)])
        · rw [g7] at es
          rw [ht, es]
          simp only [push_cast, ↓J1, ↓J2, N1, N2, N3, reduceCtorEq, N4, N5, N6, reduceIte, N7, I1, I2, I3]
      · rw [g6] at es
        rw [ht, es]
        simp only [push_cast, ↓J1, ↓J2, N1, N2, N3, reduceCtorEq, N4, N5, N6, reduceIte, N7, I1, I2, I3]
    · simp only [uns_length, push_cast, ↓J1, ↓J2, N1, N2, N3, reduceCtorEq, N4, N5, N6, reduceIte, N7, I1, I2, I3]
      refine ifB_intro (fun h => by simp at h; omega) (fun h => ?_)
      rw [ht, List.drop_eq_nil_of_le (by omega)]
      rfl
theorem t121 (b : Brd) (s : Sta) (g1 : brdOk b = true) (hb : BrdB (2^50) b) (hl : s.us.length < 2^40) : Ev C 121 [brdF b, .agg (staF s)] (.bool (staOk0 b s)) := by
  have c1 := t134 hC b
  have hwh := brd_wh g1
  have c2 := fun u => t186 hC b u g1 hb
  simp only [brdF, rulF, mpF, List.cons_append, List.nil_append, staF] at *
  refine rT hC Q121 ?_
  simp only [c121, push_cast, ↓J1, ↓J2, N1, N2, N3, reduceCtorEq, N4, N5, N6, reduceIte, N7, I1, I2, I3]
  refine ⟨_, tRange hC _ _ _, ?_⟩
  cases g2 : inR 0 b.r.turns s.t
  · simp only [staOk0, g2, push_cast, ↓J1, ↓J2, N1, N2, N3, reduceCtorEq, N4, N5, N6, reduceIte, N7, I1, I2, I3]
  simp only [push_cast, ↓J1, ↓J2, N1, N2, N3, reduceCtorEq, N4, N5, N6, reduceIte, N7, I1, I2, I3]
  refine ⟨_, tRange hC _ _ _, ?_⟩
  cases g3 : inR 0 2 s.w
  · simp only [staOk0, g2, g3, push_cast, ↓J1, ↓J2, N1, N2, N3, reduceCtorEq, N4, N5, N6, reduceIte, N7, I1, I2, I3]
  have e12 : decide (12 < (s.us.length : Int)) = !decide ((s.us.length : Int) ≤ 12) := by rw [Bool.eq_iff_iff]; simp
  simp only [uns_length, e12, push_cast, ↓J1, ↓J2, N1, N2, N3, reduceCtorEq, N4, N5, N6, reduceIte, N7, I1, I2, I3]
  cases g4 : decide ((s.us.length : Int) ≤ 12)
  · simp only [staOk0, g2, g3, g4, push_cast, ↓J1, ↓J2, N1, N2, N3, reduceCtorEq, N4, N5, N6, reduceIte, N7, I1, I2, I3]
  simp only [uns_length, push_cast, ↓J1, ↓J2, N1, N2, N3, reduceCtorEq, N4, N5, N6, reduceIte, N7, I1, I2, I3]
  rw [show staOk0 b s = (s.us.all (unOk b) && s.us.all (stackOk b s.us)) by simp only [staOk0, g2, g3, g4, Bool.true_and]]
  refine ⟨_, c1, ?_⟩
  simp only [Int.toNat_natCast, uns_length, push_cast, ↓J1, ↓J2, N1, N2, N3, reduceCtorEq, N4, N5, N6, reduceIte, N7, I1, I2, I3]
  repeat (refine ⟨by omega, ?_⟩)
  refine RL_count (fun i => ⟨tb 80 .any [(2, .ptr 0 none 0 0 0), (5, .ref 1 none 2 0 b.m.t.length), (31, .sl (uns s.us)), (32, .int .i64 (s.us.length : Int)), (33, .int .i64 (i : Int))], [(1, .slice 2 (tblR (s.us.take i) b.m.t.length)), (0, .var (rulF b.r ++ mpF b.m))], 2⟩) (fun i => ∀ j (h : j < s.us.length), j < i → unOk b s.us[j] = true ∧ stackOk b (s.us.take (j + 1)) s.us[j] = true) s.us.length 0 (hdA [(2, 1), (0, 0)] (hh := ?_)) (by omega) (by intro j h h'; omega) fun i hi ht J hJ => ?_
  · rw [List.take_zero, tblR_nil]; simp only [canR, canB, renO, renL, ren, lkp, hget, N7, N5, Nat.not_lt_zero, if_false, if_true, reduceIte, List.append_nil, List.nil_append]; rfl
  simp only [brdF, rulF, mpF, List.cons_append, List.nil_append, staF]
  by_cases h1 : i < s.us.length
  · have e1 := uns_get h1
    have bad : (unOk b s.us[i] = false ∨ stackOk b (s.us.take (i + 1)) s.us[i] = false) → (s.us.all (unOk b) && s.us.all (stackOk b s.us)) = false := by
      rintro (h | h)
      · rw [show s.us.all (unOk b) = false from List.all_eq_false.2 ⟨_, List.getElem_mem h1, by simp [h]⟩]; rfl
      · rw [show s.us.all (stackOk b s.us) = false from List.all_eq_false.2 ⟨_, List.getElem_mem h1, by
          intro hh
          rw [stack_mono (i + 1) hh] at h; cases h⟩, Bool.and_false]
    have good : unOk b s.us[i] = true → stackOk b (s.us.take (i + 1)) s.us[i] = true → ∀ j (h : j < s.us.length), j < i + 1 → unOk b s.us[j] = true ∧ stackOk b (s.us.take (j + 1)) s.us[j] = true := by
      intro k1 k2 j hj hji
      by_cases hij : j = i
      · subst hij; exact ⟨k1, k2⟩
      · exact ht j hj (by omega)
    have hJ' := fun k1 k2 => hJ h1 (good k1 k2)
    have taway := tblR_away (n := b.m.t.length) h1
    have tadd := fun a s' => tblR_add (n := b.m.t.length) (a := a) (s := s') h1
    clear hJ good ht
    generalize hu : s.us[i] = u at *
    have c2' := c2 u
    simp only [Int.toNat_natCast, e1, unA, push_cast, ↓J1, ↓J2, N1, N2, N3, reduceCtorEq, N4, N5, N6, reduceIte, N7, I1, I2, I3] at c2' ⊢
    refine ifB_intro (fun _ => ?_) (fun h => by simp at h; omega)
    repeat (refine ⟨by omega, ?_⟩)
    refine ⟨_, c2', ?_⟩
    cases g5 : unOk b u
    · simp only [bad (.inl g5), push_cast, ↓J1, ↓J2, N1, N2, N3, reduceCtorEq, N4, N5, N6, reduceIte, N7, I1, I2, I3]
    simp only [push_cast, ↓J1, ↓J2, N1, N2, N3, reduceCtorEq, N4, N5, N6, reduceIte, N7, I1, I2, I3]
    have hsd := un_sd g5
    have es : stackOk b (s.us.take (i + 1)) u = !(decide (0 ≤ u.at_) && (decide (0 < (cnt (s.us.take (i + 1)) u.at_ (1 - u.sd) : Int)) || decide (b.r.stack < (cnt (s.us.take (i + 1)) u.at_ u.sd : Int)))) := by simp [stackOk]
    by_cases g6 : u.at_ < 0
    · have g6' : decide (u.at_ < 0) = true := decide_eq_true g6
      simp only [g6', push_cast, ↓J1, ↓J2, N1, N2, N3, reduceCtorEq, N4, N5, N6, reduceIte, N7, I1, I2, I3]
      refine hJ' g5 (by rw [es, decide_eq_false (by omega)]; rfl) _ ?_
      rw [taway g6]
      exact (hdA [(1, 1), (0, 0)])
    have g6' : decide (u.at_ < 0) = false := decide_eq_false g6
    have hat := unOk_at g5 (by omega)
    obtain ⟨a, ha⟩ : ∃ a : Nat, u.at_ = a := ⟨u.at_.toNat, by omega⟩
    have han : a < b.m.t.length := by omega
    have ea := fun us => tblR_get (us := us) han
    rw [decide_eq_true (show (0 : Int) ≤ u.at_ by omega), Bool.true_and] at es
    have cl := cnt_le_len (s.us.take i) a 0
    have cl1 := cnt_le_len (s.us.take i) a 1
    have tl : (s.us.take i).length ≤ s.us.length := by rw [List.length_take]; omega
    have ga : decide ((a : Int) < 0) = false := decide_eq_false (by omega)
    rw [ha] at es
    rcases hsd with h0 | h0
    · have tadd' := tadd a 0 ha h0 (by omega) han
      rw [h0] at es
      have w1 : IntKind.i64.wrap (1 - 0) = 1 := by decide
      have w2 : IntKind.i64.wrap ((cnt (s.us.take i) (a : Int) 0 : Int) + 1) = (cnt (s.us.take i) (a : Int) 0 : Int) + 1 := wrap64 (by omega) (by omega)
      simp only [tblRow, List.set_cons_zero, List.set_cons_succ, Int.cast_ofNat_Int] at tadd'
      simp only [ha, ga, h0, w1, ea, tblR_length, tblRow, Int.toNat_natCast, push_cast, ↓J1, ↓J2, N1, N2, N3, reduceCtorEq, N4, N5, N6, reduceIte, N7, I1, I2, I3]
      repeat (refine ⟨by omega, ?_⟩)
      simp only [w2, ← tadd', ea, tblR_length, tblRow, Int.toNat_natCast, push_cast, ↓J1, ↓J2, N1, N2, N3, reduceCtorEq, N4, N5, N6, reduceIte, N7, I1, I2, I3]
      rw [show (1 : Int) - 0 = 1 by decide] at es
      cases g7 : decide (0 < (cnt (s.us.take (i + 1)) (a : Int) 1 : Int))
      · rw [g7, Bool.false_or] at es
        simp only [tblR_length, ea, tblRow, Int.toNat_natCast, push_cast, ↓J1, ↓J2, N1, N2, N3, reduceCtorEq, N4, N5, N6, reduceIte, N7, I1, I2, I3]
        repeat (refine ⟨by omega, ?_⟩)
        cases g8 : decide (b.r.stack < (cnt (s.us.take (i + 1)) (a : Int) 0 : Int))
        · rw [g8] at es
          simp only [push_cast, ↓J1, ↓J2, N1, N2, N3, reduceCtorEq, N4, N5, N6, reduceIte, N7, I1, I2, I3]
          exact hJ' g5 es _ (hdA [(1, 1), (0, 0)])
        · rw [g8] at es
          simp only [bad (.inr es), push_cast, ↓J1, ↓J2, N1, N2, N3, reduceCtorEq, N4, N5, N6, reduceIte, N7, I1, I2, I3]
      · rw [g7] at es
        simp only [bad (.inr es), push_cast, ↓J1, ↓J2, N1, N2, N3, reduceCtorEq, N4, N5, N6, reduceIte, N7, I1, I2, I3]
    · have tadd' := tadd a 1 ha h0 (by omega) han
      rw [h0] at es
      have w1 : IntKind.i64.wrap (1 - 1) = 0 := by decide
      have w2 : IntKind.i64.wrap ((cnt (s.us.take i) (a : Int) 1 : Int) + 1) = (cnt (s.us.take i) (a : Int) 1 : Int) + 1 := wrap64 (by omega) (by omega)
      simp only [tblRow, List.set_cons_zero, List.set_cons_succ, Int.cast_ofNat_Int] at tadd'
      simp only [ha, ga, h0, w1, ea, tblR_length, tblRow, Int.toNat_natCast, push_cast, ↓J1, ↓J2, N1, N2, N3, reduceCtorEq, N4, N5, N6, reduceIte, N7, I1, I2, I3]
      repeat (refine ⟨by omega, ?_⟩)
      simp only [w2, ← tadd', ea, tblR_length, tblRow, Int.toNat_natCast, push_cast, ↓J1, ↓J2, N1, N2, N3, reduceCtorEq, N4, N5, N6, reduceIte, N7, I1, I2, I3]
      rw [show (1 : Int) - 1 = 0 by decide] at es
      cases g7 : decide (0 < (cnt (s.us.take (i + 1)) (a : Int) 0 : Int))
      · rw [g7, Bool.false_or] at es
        simp only [tblR_length, ea, tblRow, Int.toNat_natCast, push_cast, ↓J1, ↓J2, N1, N2, N3, reduceCtorEq, N4, N5, N6, reduceIte, N7, I1, I2, I3]
        repeat (refine ⟨by omega, ?_⟩)
        cases g8 : decide (b.r.stack < (cnt (s.us.take (i + 1)) (a : Int) 1 : Int))
        · rw [g8] at es
          simp only [push_cast, ↓J1, ↓J2, N1, N2, N3, reduceCtorEq, N4, N5, N6, reduceIte, N7, I1, I2, I3]
          exact hJ' g5 es _ (hdA [(1, 1), (0, 0)])
        · rw [g8] at es
          simp only [bad (.inr es), push_cast, ↓J1, ↓J2, N1, N2, N3, reduceCtorEq, N4, N5, N6, reduceIte, N7, I1, I2, I3]
      · rw [g7] at es
        simp only [bad (.inr es), push_cast, ↓J1, ↓J2, N1, N2, N3, reduceCtorEq, N4, N5, N6, reduceIte, N7, I1, I2, I3]
  · simp only [uns_length, push_cast, ↓J1, ↓J2, N1, N2, N3, reduceCtorEq, N4, N5, N6, reduceIte, N7, I1, I2, I3]
    refine ifB_intro (fun h => by simp at h; omega) (fun h => ?_)
    have hall : s.us.all (unOk b) = true := by
      rw [List.all_eq_true]; intro u hm
      obtain ⟨j, hj, rfl⟩ := List.getElem_of_mem hm
      exact (ht j hj (by omega)).1
    rw [hall, stack_all (fun j hj => (ht j hj (by omega)).1) (fun j hj => (ht j hj (by omega)).2)]
    rfl
end
end Go.Proofs.YtjaccjeejeiphaaGreatDoor.X
set_option maxHeartbeats 4000000
set_option maxRecDepth 8000
set_option linter.unusedSimpArgs false
set_option linter.unusedVariables false
open Nat renaming reduceBEq → N1, reduceAdd → N2, reduceSub → N3, reduceMul → N4, reduceEqDiff → N5, reduceLeDiff → N6, reduceLT → N7
open Int renaming reduceLE → I1, reduceLT → I2, reduceToNat → I3
namespace Go.Proofs.YtjaccjeejeiphaaGreatDoor.X
open Go
attribute [local irreducible] Ev
section
variable {C : CT} (hC : Closed Tryz.prog G1 md0 C)
include hC
theorem t162 (b : Brd) (s : Sta) (u : Int) (hb : BrdB (2^50) b) (hl : s.us.length < 2^40) : Ev C 162 [brdF b, .agg (staF s), .int .i64 u] (.bool (hasU b s u)) := by
  have c1 := t119 hC b s hb hl
  simp only [brdF, rulF, mpF, List.cons_append, List.nil_append, staF] at *
  refine rT hC Q162 ?_
  simp only [c162, push_cast, ↓J1, ↓J2, N1, N2, N3, reduceCtorEq, N4, N5, N6, reduceIte, N7, I1, I2, I3]
  refine ⟨_, c1, ?_⟩
  cases g1 : staOk b s
  · simp only [hasU, g1, Bool.false_and, push_cast, ↓J1, ↓J2, N1, N2, N3, reduceCtorEq, N4, N5, N6, reduceIte, N7, I1, I2, I3]
  simp only [uns_length, push_cast, ↓J1, ↓J2, N1, N2, N3, reduceCtorEq, N4, N5, N6, reduceIte, N7, I1, I2, I3]
  rw [wrap64 (n := (s.us.length : Int) - 1) (by omega) (by omega)]
  refine ⟨_, tIn hC _ _ _, ?_⟩
  simp only [hasU, g1, Bool.true_and, push_cast, ↓J1, ↓J2, N1, N2, N3, reduceCtorEq, N4, N5, N6, reduceIte, N7, I1, I2, I3]
theorem t149 (b : Brd) (s : Sta) (hb : BrdB (2^50) b) (hl : s.us.length < 2^40) : Ev C 149 [brdF b, .agg (staF s)] (.bool (staOk b s)) := by
  have c1 := t207 hC b hb
  have c2 := fun g => t121 hC b s g hb hl
  simp only [brdF, rulF, mpF, List.cons_append, List.nil_append, staF] at *
  refine rT hC Q149 ?_
  simp only [c149, push_cast, ↓J1, ↓J2, N1, N2, N3, reduceCtorEq, N4, N5, N6, reduceIte, N7, I1, I2, I3]
  refine ⟨_, c1, ?_⟩
  cases g1 : brdOk b
  · simp only [staOk, g1, Bool.false_and, push_cast, ↓J1, ↓J2, N1, N2, N3, reduceCtorEq, N4, N5, N6, reduceIte, N7, I1, I2, I3]
  simp only [push_cast, ↓J1, ↓J2, N1, N2, N3, reduceCtorEq, N4, N5, N6, reduceIte, N7, I1, I2, I3]
  refine ⟨_, c2 g1, ?_⟩
  simp only [staOk, g1, Bool.true_and, push_cast, ↓J1, ↓J2, N1, N2, N3, reduceCtorEq, N4, N5, N6, reduceIte, N7, I1, I2, I3]
theorem t166 (b : Brd) (s : Sta) (u : Int) (hb : BrdB (2^50) b) (hl : s.us.length < 2^40) : Ev C 166 [brdF b, .agg (staF s), .int .i64 u] (.bool (hasU b s u)) := by
  have c1 := t149 hC b s hb hl
  simp only [brdF, rulF, mpF, List.cons_append, List.nil_append, staF] at *
  refine rT hC Q166 ?_
  simp only [c166, push_cast, ↓J1, ↓J2, N1, N2, N3, reduceCtorEq, N4, N5, N6, reduceIte, N7, I1, I2, I3]
  refine ⟨_, c1, ?_⟩
  cases g1 : staOk b s
  · simp only [hasU, g1, Bool.false_and, push_cast, ↓J1, ↓J2, N1, N2, N3, reduceCtorEq, N4, N5, N6, reduceIte, N7, I1, I2, I3]
  simp only [uns_length, push_cast, ↓J1, ↓J2, N1, N2, N3, reduceCtorEq, N4, N5, N6, reduceIte, N7, I1, I2, I3]
  refine ⟨_, tIdx hC _ _ (by omega), ?_⟩
  simp only [hasU, g1, Bool.true_and, push_cast, ↓J1, ↓J2, N1, N2, N3, reduceCtorEq, N4, N5, N6, reduceIte, N7, I1, I2, I3]
theorem t167 (b : Brd) (u : Un) (hk : kindAsk b u.k = true) (hb : BrdB (2^50) b) : Ev C 167 [brdF b, .agg (unA u)] (.bool (canRe b u)) := by
  have hk' := kind_at hk
  obtain ⟨k, ek⟩ : ∃ m : Nat, u.k = m := ⟨u.k.toNat, by omega⟩
  have e1 := kins_get (b := b) (k := k) (by omega)
  have b2 := hb.r.ks
  simp only [brdF, rulF, mpF, List.cons_append, List.nil_append, unA, canRe] at *
  refine rT hC Q167 ?_
  simp only [c167, push_cast, ↓J1, ↓J2, N1, N2, N3, reduceCtorEq, N4, N5, N6, reduceIte, N7, I1, I2, I3]
  cases g1 : decide (0 ≤ u.at_)
  · simp only [push_cast, ↓J1, ↓J2, N1, N2, N3, reduceCtorEq, N4, N5, N6, reduceIte, N7, I1, I2, I3]
  simp only [ek, Int.toNat_natCast, e1, kinA, kins_length, push_cast, ↓J1, ↓J2, N1, N2, N3, reduceCtorEq, N4, N5, N6, reduceIte, N7, I1, I2, I3]
  all_goals omega
theorem t86 (b : Brd) (s : Sta) (u : Int) (hb : BrdB (2^50) b) (hl : s.us.length < 2^40) : Ev C 86 [brdF b, .agg (staF s), .int .i64 u] (.bool (hurt b s u)) := by
  have c1 := t162 hC b s u hb hl
  have b2 := hb.r.ks
  have kg := fun (k : Nat) (h : k < b.r.ks.length) => kins_get h
  have sk := fun (g : staOk b s = true) (k : Nat) (h : k < s.us.length) => kind_at (sta_kind g h)
  have su := fun (k : Nat) (h : k < s.us.length) => uns_un h
  simp only [brdF, rulF, mpF, List.cons_append, List.nil_append, staF] at *
  refine rT hC Q86 ?_
  simp only [c86, push_cast, ↓J1, ↓J2, N1, N2, N3, reduceCtorEq, N4, N5, N6, reduceIte, N7, I1, I2, I3]
  refine ⟨_, c1, ?_⟩
  cases g1 : hasU b s u
  · simp only [hurt, g1, Bool.false_and, push_cast, ↓J1, ↓J2, N1, N2, N3, reduceCtorEq, N4, N5, N6, reduceIte, N7, I1, I2, I3]
  have g2 := g1
  simp only [hasU, inR, Bool.and_eq_true, decide_eq_true_eq] at g2
  obtain ⟨k, rfl⟩ : ∃ m : Nat, u = m := ⟨u.toNat, by omega⟩
  have e1 := su k (by omega)
  have hk := sk g2.1 k (by omega)
  obtain ⟨j, ej⟩ : ∃ m : Nat, (unOf s k).k = m := ⟨(unOf s k).k.toNat, by omega⟩
  have e2 := kg j (by omega)
  simp only [hurt, canRe, g1, Bool.true_and]
  simp only [Int.toNat_natCast, e1, unA, uns_length, push_cast, ↓J1, ↓J2, N1, N2, N3, reduceCtorEq, N4, N5, N6, reduceIte, N7, I1, I2, I3]
  repeat (refine ⟨by omega, ?_⟩)
  cases g3 : decide (0 ≤ (unOf s k).at_)
  · simp only [push_cast, ↓J1, ↓J2, N1, N2, N3, reduceCtorEq, N4, N5, N6, reduceIte, N7, I1, I2, I3]
  simp only [Int.toNat_natCast, e1, ej, e2, kinA, kins_length, uns_length, unA, push_cast, ↓J1, ↓J2, N1, N2, N3, reduceCtorEq, N4, N5, N6, reduceIte, N7, I1, I2, I3]
  all_goals omega
theorem t92 (b : Brd) (s : Sta) (u : Int) (hb : BrdB (2^50) b) (hl : s.us.length < 2^40) : Ev C 92 [brdF b, .agg (staF s), .int .i64 u] (.tup [.int .i64 (if hurt b s u then (kindOf b (unOf s u).k).st else 0), .bool (hurt b s u)]) := by
  have c1 := t166 hC b s u hb hl
  have c2 := fun u h => t167 hC b u h hb
  have b2 := hb.r.ks
  have kg := fun (k : Nat) (h : k < b.r.ks.length) => kins_get h
  have sk := fun (g : staOk b s = true) (k : Nat) (h : k < s.us.length) => sta_kind g h
  have su := fun (k : Nat) (h : k < s.us.length) => uns_un h
  simp only [brdF, rulF, mpF, List.cons_append, List.nil_append, staF] at *
  refine rT hC Q92 ?_
  simp only [c92, push_cast, ↓J1, ↓J2, N1, N2, N3, reduceCtorEq, N4, N5, N6, reduceIte, N7, I1, I2, I3]
  refine ⟨_, c1, ?_⟩
  cases g1 : hasU b s u
  · simp only [hurt, g1, Bool.false_and, push_cast, ↓J1, ↓J2, N1, N2, N3, reduceCtorEq, N4, N5, N6, reduceIte, N7, I1, I2, I3]
  have g2 := g1
  simp only [hasU, inR, Bool.and_eq_true, decide_eq_true_eq] at g2
  obtain ⟨k, rfl⟩ : ∃ m : Nat, u = m := ⟨u.toNat, by omega⟩
  have e1 := su k (by omega)
  have hk := sk g2.1 k (by omega)
  have c3 := c2 _ hk
  have hk' := kind_at hk
  obtain ⟨j, ej⟩ : ∃ m : Nat, (unOf s k).k = m := ⟨(unOf s k).k.toNat, by omega⟩
  have e2 := kg j (by omega)
  simp only [unA] at c3 e1
  simp only [Int.toNat_natCast, e1, unA, uns_length, push_cast, ↓J1, ↓J2, N1, N2, N3, reduceCtorEq, N4, N5, N6, reduceIte, N7, I1, I2, I3]
  repeat (refine ⟨by omega, ?_⟩)
  refine ⟨_, c3, ?_⟩
  cases g3 : canRe b (unOf s k)
  · simp only [hurt, g1, g3, Bool.and_false, push_cast, ↓J1, ↓J2, N1, N2, N3, reduceCtorEq, N4, N5, N6, reduceIte, N7, I1, I2, I3]
  simp only [hurt, g1, g3, Bool.and_self, Int.toNat_natCast, e1, ej, e2, kinA, kins_length, uns_length, unA, push_cast, ↓J1, ↓J2, N1, N2, N3, reduceCtorEq, N4, N5, N6, reduceIte, N7, I1, I2, I3]
  all_goals omega
end
end Go.Proofs.YtjaccjeejeiphaaGreatDoor.X
set_option maxHeartbeats 4000000
set_option maxRecDepth 8000
set_option linter.unusedSimpArgs false
set_option linter.unusedVariables false
open Nat renaming reduceBEq → N1, reduceAdd → N2, reduceSub → N3, reduceMul → N4, reduceEqDiff → N5, reduceLeDiff → N6, reduceLT → N7
open Int renaming reduceLE → I1, reduceLT → I2, reduceToNat → I3
namespace Go.Proofs.YtjaccjeejeiphaaGreatDoor.X
open Go
attribute [local irreducible] Ev
def hasI (l : List Int) (n : Int) : Bool := l.any fun x => decide (x = n)
def edgeM (m : Mp) (i : Int) (d : Nat) : Int := if d < 3 then 3 * i + d else 3 * nextM m i d + d - 3
def freeE (m : Mp) (e : Int) : Bool := !hasI m.ri e || hasI m.ro e
def first6 (p : Nat → Bool) : Option Nat := (List.range 6).find? p
theorem first6_at {p : Nat → Bool} {i : Nat} (h : i < 6) (hp : p i = true) (hn : ∀ j, j < i → p j = false) : first6 p = some i := by
  simp only [first6, List.find?_range_eq_some]
  exact ⟨hp, by simp [h], fun j hj => by simp [hn j hj]⟩
theorem first6_no {p : Nat → Bool} (hn : ∀ j, j < 6 → p j = false) : first6 p = none := by
  simp only [first6, List.find?_range_eq_none]
  exact fun j hj => by simp [hn j hj]
def wayFree (b : Brd) (a i : Int) : Bool := match first6 (fun d => decide (nextM b.m a d = i)) with
  | some d => freeE b.m (edgeM b.m a d)
  | none => false
def zonOf (b : Brd) (u : Un) (i : Int) : Bool := decide (0 ≤ u.at_) && (kindOf b u.k).z && !decide (costAt b u.k i = 0) && wayFree b u.at_ i
def zonS (b : Brd) (sd i : Int) (u : Un) : Bool := decide (u.sd = sd) && zonOf b u i
def inZon (b : Brd) (s : Sta) (sd i : Int) : Bool := s.us.any (zonS b sd i)
theorem nextM_bnd {m : Mp} {i d : Int} (hw : 1 ≤ m.w ∧ m.w ≤ 10) (hh : 1 ≤ m.h ∧ m.h ≤ 10) : -1 ≤ nextM m i d ∧ nextM m i d < m.w * m.h := by
  have hwh := wh_le hw hh
  simp only [nextM]
  split
  · rename_i h
    simp only [inR, Bool.and_eq_true, decide_eq_true_eq] at h
    generalize i.tdiv m.w + dr d.toNat = r at *
    generalize i.tmod m.w + dq d.toNat = q at *
    have h1 : 0 ≤ r * m.w := Int.mul_nonneg (by omega) (by omega)
    have h2 : r * m.w ≤ (m.h - 1) * m.w := Int.mul_le_mul_of_nonneg_right (by omega) (by omega)
    have h3 : (m.h - 1) * m.w = m.w * m.h - m.w := by rw [Int.sub_mul, Int.one_mul, Int.mul_comm]
    omega
  · omega
theorem hasI_no {l : List Int} {n : Int} (h : ∀ j (h : j < l.length), decide (l[j] = n) = false) : hasI l n = false := by
  simp only [hasI, List.any_eq_false]
  intro x hx
  obtain ⟨j, hj, rfl⟩ := List.getElem_of_mem hx
  simpa using h j hj
theorem hasI_yes {l : List Int} {n : Int} {j : Nat} (hj : j < l.length) (h : decide (l[j] = n) = true) : hasI l n = true := by
  simp only [hasI, List.any_eq_true]
  exact ⟨_, List.getElem_mem hj, h⟩
def iidx (l : List Int) (n : Int) : Int := gidx (fun x => decide (n = x)) l
theorem iidx_has (l : List Int) (n : Int) : decide (0 ≤ iidx l n) = hasI l n := by
  have := fidx_any (fun x => decide (n = x)) l
  have e : iidx l n = fidx (fun x => decide (n = x)) l := rfl
  rw [e, this]
  simp only [hasI]
  congr 1; funext x; rw [Bool.eq_iff_iff]; simp; exact eq_comm
section
variable {C : CT} (hC : Closed Tryz.prog G1 md0 C)
include hC
theorem t131 (l : List Int) (n : Int) (hl : l.length < 2^50) : Ev C 131 [.sl (ints l), .int .i64 n] (.bool (hasI l n)) := by
  refine rT hC Q131 ?_
  simp only [c131, ints_length, push_cast, ↓J1, ↓J2, N1, N2, N3, reduceCtorEq, N4, N5, N6, reduceIte, N7, I1, I2, I3]
  refine RL_count (fun i => ⟨tb 17 .any [(1, .int .i64 n), (7, .sl (ints l)), (8, .int .i64 (l.length : Int)), (9, .int .i64 (i : Int))], [], 0⟩) (fun i => ∀ j (h : j < l.length), j < i → decide (l[j] = n) = false) l.length 0 (hdA []) (by omega) (by intro j h h'; omega) fun i hi' ht J hJ => ?_
  by_cases h1 : i < l.length
  · have e1 : (ints l)[i]? = some [.int .i64 l[i]] := by simp [ints, h1]
    simp only [Int.toNat_natCast, e1, push_cast, ↓J1, ↓J2, N1, N2, N3, reduceCtorEq, N4, N5, N6, reduceIte, N7, I1, I2, I3]
    refine ifB_intro (fun _ => ?_) (fun h => by simp at h; omega)
    repeat (refine ⟨by omega, ?_⟩)
    refine ifB_intro (fun h => ?_) (fun h => ?_)
    · rw [hasI_yes h1 h]; first | done | rfl
    · refine hJ h1 ?_ _ (hdA [])
      intro j hj hji
      by_cases hij : j = i
      · subst hij; exact h
      · exact ht j hj (by omega)
  · simp only [ints_length, push_cast, ↓J1, ↓J2, N1, N2, N3, reduceCtorEq, N4, N5, N6, reduceIte, N7, I1, I2, I3]
    refine ifB_intro (fun h => by simp at h; omega) (fun h => ?_)
    rw [hasI_no fun j hj => ht j hj (by omega)]; first | done | rfl
theorem t197 (l : List Int) (n : Int) (hl : l.length < 2^50) : Ev C 197 [.sl (ints l), .int .i64 n] (.int .i64 (iidx l n)) := by
  refine rT hC Q197 ?_
  simp only [c197, ints_length, push_cast, ↓J1, ↓J2, N1, N2, N3, reduceCtorEq, N4, N5, N6, reduceIte, N7, I1, I2, I3]
  refine RL_count (fun i => ⟨tb 19 .any [(0, .sl (ints l)), (1, .int .i64 n), (7, .int .i64 (l.length : Int)), (8, .int .i64 (i : Int))], [], 0⟩) (fun i => ∀ j (h : j < l.length), j < i → decide (n = l[j]) = false) l.length 0 (hdA []) (by omega) (by intro j h h'; omega) fun i hi' ht J hJ => ?_
  by_cases h1 : i < l.length
  · have e1 : (ints l)[i]? = some [.int .i64 l[i]] := by simp [ints, h1]
    simp only [Int.toNat_natCast, e1, push_cast, ↓J1, ↓J2, N1, N2, N3, reduceCtorEq, N4, N5, N6, reduceIte, N7, I1, I2, I3]
    refine ifB_intro (fun _ => ?_) (fun h => by simp at h; omega)
    repeat (refine ⟨by omega, ?_⟩)
    refine ifB_intro (fun h => ?_) (fun h => ?_)
    · exact (gidx_at (p := fun x => decide (n = x)) h1 h ht).symm
    · refine hJ h1 ?_ _ (hdA [])
      intro j hj hji
      by_cases hij : j = i
      · subst hij; exact h
      · exact ht j hj (by omega)
  · simp only [ints_length, push_cast, ↓J1, ↓J2, N1, N2, N3, reduceCtorEq, N4, N5, N6, reduceIte, N7, I1, I2, I3]
    refine ifB_intro (fun h => by simp at h; omega) (fun h => ?_)
    exact (gidx_no fun j hj => ht j hj (by omega)).symm
theorem t135 (l : List Int) (n : Int) (hl : l.length < 2^50) : Ev C 135 [.sl (ints l), .int .i64 n] (.bool (hasI l n)) := by
  refine rT hC Q135 ?_
  simp only [c135, push_cast, ↓J1, ↓J2, N1, N2, N3, reduceCtorEq, N4, N5, N6, reduceIte, N7, I1, I2, I3]
  refine ⟨_, t197 hC l n hl, ?_⟩
  simp only [iidx_has, push_cast, ↓J1, ↓J2, N1, N2, N3, reduceCtorEq, N4, N5, N6, reduceIte, N7, I1, I2, I3]
theorem t224 (m : Mp) (e : Int) (hb : MpB (2^50) m) : Ev C 224 [.agg (mpF m), .int .i64 e] (.bool (freeE m e)) := by
  have c1 := t135 hC m.ri e hb.ri
  have c2 := t135 hC m.ro e hb.ro
  simp only [mpF, freeE] at *
  refine rT hC Q224 ?_
  simp only [c224, push_cast, ↓J1, ↓J2, N1, N2, N3, reduceCtorEq, N4, N5, N6, reduceIte, N7, I1, I2, I3]
  refine ⟨_, c1, ?_⟩
  cases hasI m.ri e
  · simp only [push_cast, ↓J1, ↓J2, N1, N2, N3, reduceCtorEq, N4, N5, N6, reduceIte, N7, I1, I2, I3]
  simp only [push_cast, ↓J1, ↓J2, N1, N2, N3, reduceCtorEq, N4, N5, N6, reduceIte, N7, I1, I2, I3]
  refine ⟨_, c2, ?_⟩
  simp only [push_cast, ↓J1, ↓J2, N1, N2, N3, reduceCtorEq, N4, N5, N6, reduceIte, N7, I1, I2, I3]
theorem t225 (m : Mp) (i : Int) (d : Nat) (hw : 1 ≤ m.w ∧ m.w ≤ 10) (hh : 1 ≤ m.h ∧ m.h ≤ 10) (hi : 0 ≤ i ∧ i < 100) (hd : d < 6) (hn : 0 ≤ nextM m i d) : Ev C 225 [.agg (mpF m), .int .i64 i, .int .i64 (d : Int)] (.int .i64 (edgeM m i d)) := by
  have c1 := t223 hC m i d hw hh (by omega) (by omega)
  have hb := nextM_bnd (i := i) (d := d) hw hh
  have hwh := wh_le hw hh
  simp only [mpF] at *
  refine rT hC Q225 ?_
  simp only [c225, push_cast, ↓J1, ↓J2, N1, N2, N3, reduceCtorEq, N4, N5, N6, reduceIte, N7, I1, I2, I3]
  refine ⟨_, c1, ?_⟩
  have g1 : decide (nextM m i d < 0) = false := decide_eq_false (by omega)
  simp only [g1, push_cast, ↓J1, ↓J2, N1, N2, N3, reduceCtorEq, N4, N5, N6, reduceIte, N7, I1, I2, I3]
  by_cases g2 : d < 3
  · have g3 : decide ((d : Int) < 3) = true := decide_eq_true (by omega)
    simp only [g3, push_cast, ↓J1, ↓J2, N1, N2, N3, reduceCtorEq, N4, N5, N6, reduceIte, N7, I1, I2, I3]
    rw [wrap64 (n := 3 * i) (by omega) (by omega), wrap64 (by omega) (by omega)]
    simp only [edgeM, if_pos g2]
  · have g3 : decide ((d : Int) < 3) = false := decide_eq_false (by omega)
    simp only [g3, push_cast, ↓J1, ↓J2, N1, N2, N3, reduceCtorEq, N4, N5, N6, reduceIte, N7, I1, I2, I3]
    rw [wrap64 (n := 3 * nextM m i d) (by omega) (by omega), wrap64 (n := 3 * nextM m i d + d) (by omega) (by omega), wrap64 (by omega) (by omega)]
    simp only [edgeM, if_neg g2]
theorem t304 (m : Mp) (i : Int) (d : Nat) (hw : 1 ≤ m.w ∧ m.w ≤ 10) (hh : 1 ≤ m.h ∧ m.h ≤ 10) (hi : 0 ≤ i ∧ i < 100) (hd : d < 6) : Ev C 304 [.agg (mpF m), .int .i64 i, .int .i64 (d : Int)] (.int .i64 (edgeM m i d)) := by
  have c1 := t189 hC m i d hw hh (by omega) (by omega)
  have hb := nextM_bnd (i := i) (d := d) hw hh
  have hwh := wh_le hw hh
  simp only [mpF] at *
  refine rT hC Q304 ?_
  simp only [c304, push_cast, ↓J1, ↓J2, N1, N2, N3, reduceCtorEq, N4, N5, N6, reduceIte, N7, I1, I2, I3]
  by_cases g2 : d < 3
  · have g3 : decide ((d : Int) < 3) = true := decide_eq_true (by omega)
    simp only [g3, push_cast, ↓J1, ↓J2, N1, N2, N3, reduceCtorEq, N4, N5, N6, reduceIte, N7, I1, I2, I3]
    rw [wrap64 (n := 3 * i) (by omega) (by omega), wrap64 (by omega) (by omega)]
    simp only [edgeM, if_pos g2]
  · have g3 : decide ((d : Int) < 3) = false := decide_eq_false (by omega)
    simp only [g3, push_cast, ↓J1, ↓J2, N1, N2, N3, reduceCtorEq, N4, N5, N6, reduceIte, N7, I1, I2, I3]
    refine ⟨_, c1, ?_⟩
    simp only [push_cast, ↓J1, ↓J2, N1, N2, N3, reduceCtorEq, N4, N5, N6, reduceIte, N7, I1, I2, I3]
    rw [wrap64 (n := 3 * nextM m i d) (by omega) (by omega), wrap64 (n := 3 * nextM m i d + d) (by omega) (by omega), wrap64 (by omega) (by omega)]
    simp only [edgeM, if_neg g2]
theorem t271 (m : Mp) (i : Int) (d : Nat) (hw : 1 ≤ m.w ∧ m.w ≤ 10) (hh : 1 ≤ m.h ∧ m.h ≤ 10) (hi : 0 ≤ i ∧ i < 100) (hd : d < 6) (hb : MpB (2^50) m) : Ev C 271 [.agg (mpF m), .int .i64 i, .int .i64 (d : Int)] (.bool (hasI m.ri (edgeM m i d))) := by
  have c1 := t304 hC m i d hw hh hi hd
  have c2 := t131 hC m.ri (edgeM m i d) hb.ri
  simp only [mpF] at *
  refine rT hC Q271 ?_
  simp only [c271, push_cast, ↓J1, ↓J2, N1, N2, N3, reduceCtorEq, N4, N5, N6, reduceIte, N7, I1, I2, I3]
  refine ⟨_, c1, ?_⟩
  simp only [push_cast, ↓J1, ↓J2, N1, N2, N3, reduceCtorEq, N4, N5, N6, reduceIte, N7, I1, I2, I3]
  refine ⟨_, c2, ?_⟩
  simp only [push_cast, ↓J1, ↓J2, N1, N2, N3, reduceCtorEq, N4, N5, N6, reduceIte, N7, I1, I2, I3]
theorem t272 (m : Mp) (i : Int) (d : Nat) (hw : 1 ≤ m.w ∧ m.w ≤ 10) (hh : 1 ≤ m.h ∧ m.h ≤ 10) (hi : 0 ≤ i ∧ i < 100) (hd : d < 6) (hb : MpB (2^50) m) : Ev C 272 [.agg (mpF m), .int .i64 i, .int .i64 (d : Int)] (.bool (hasI m.ro (edgeM m i d))) := by
  have c1 := t304 hC m i d hw hh hi hd
  have c2 := t131 hC m.ro (edgeM m i d) hb.ro
  simp only [mpF] at *
  refine rT hC Q272 ?_
  simp only [c272, push_cast, ↓J1, ↓J2, N1, N2, N3, reduceCtorEq, N4, N5, N6, reduceIte, N7, I1, I2, I3]
  refine ⟨_, c1, ?_⟩
  simp only [push_cast, ↓J1, ↓J2, N1, N2, N3, reduceCtorEq, N4, N5, N6, reduceIte, N7, I1, I2, I3]
  refine ⟨_, c2, ?_⟩
  simp only [push_cast, ↓J1, ↓J2, N1, N2, N3, reduceCtorEq, N4, N5, N6, reduceIte, N7, I1, I2, I3]
end
end Go.Proofs.YtjaccjeejeiphaaGreatDoor.X
