/- A part of the proof: lemmas on the machine or on the functions that the law reaches. No condition of its own. -/
import Derived.Test.YtjaccjeejeiphaaGreatDoorXP4
import Derived.Test.YtjaccjeejeiphaaGreatDoorXP2
set_option maxHeartbeats 4000000
set_option maxRecDepth 8000
set_option linter.unusedSimpArgs false
set_option linter.unusedVariables false
open Nat renaming reduceBEq → N1, reduceAdd → N2, reduceSub → N3, reduceMul → N4, reduceEqDiff → N5, reduceLeDiff → N6, reduceLT → N7
open Int renaming reduceLE → I1, reduceLT → I2, reduceToNat → I3
namespace Go.Proofs.YtjaccjeejeiphaaGreatDoor.X
open Go
attribute [local irreducible] Ev
section
variable {C : CT} (hC : Closed Tryz.prog G1 md0 C)
include hC
theorem t204 (b : Brd) (i : Int) (g : brdOk b = true) (hi : inR 0 (b.m.w * b.m.h - 1) i = true) (hb : BrdB (2^50) b) : C 204 [brdF b, .int .i64 i] [(0, .var (rulF b.r ++ mpF b.m))] 1 (fun v h' n' => v = .agg (terF (terAt b i)) ∧ h' = [(2, .var (terF (terAt b i))), (1, .var (rulF b.r ++ mpF b.m)), (0, .var (rulF b.r ++ mpF b.m))] ∧ n' = 3) := by
  have hwh := brd_wh g
  have b1 := hb.m.t
  have b2 := hb.r.ts
  simp only [inR, Bool.and_eq_true, decide_eq_true_eq] at hi
  obtain ⟨i, rfl⟩ : ∃ k : Nat, i = k := ⟨i.toNat, by omega⟩
  have h1 : i < b.m.t.length := by omega
  have ht := ter_in g h1
  have e1 := ints_get h1
  obtain ⟨j, hj⟩ : ∃ k : Nat, b.m.t.getD i 0 = k := ⟨(b.m.t.getD i 0).toNat, by omega⟩
  have h2 : j < b.r.ts.length := by omega
  have e2 : (tersF b.r.ts)[j]? = some (terF b.r.ts[j]) := by simp [tersF, h2]
  have e3 : terAt b i = b.r.ts[j] := by simp only [terAt, Int.toNat_natCast, hj]; simp [h2]
  rw [e3]
  rw [hj] at e1
  simp only [brdF, rulF, mpF, List.cons_append, List.nil_append, terF] at *
  refine Closed.rT hC Q204 ?_
  simp only [c204, push_cast, ↓J1, ↓J2, N1, N2, N3, reduceCtorEq, N4, N5, N6, reduceIte, N7, I1, I2, I3]
  simp only [Int.toNat_natCast, e1, push_cast, ↓J1, ↓J2, N1, N2, N3, reduceCtorEq, N4, N5, N6, reduceIte, N7, I1, I2, I3]
  repeat (refine ⟨by omega, ?_⟩)
  simp only [Int.toNat_natCast, e2, tersF_length, ints_length, push_cast, ↓J1, ↓J2, N1, N2, N3, reduceCtorEq, N4, N5, N6, reduceIte, N7, I1, I2, I3]
  repeat (refine ⟨by omega, ?_⟩)
theorem t208 (b : Brd) (i : Int) (g : brdOk b = true) (hi : inR 0 (b.m.w * b.m.h - 1) i = true) (hb : BrdB (2^50) b) : C 208 [brdF b, .int .i64 i] [(0, .var (rulF b.r ++ mpF b.m))] 1 (fun v h' n' => v = .agg (terF (terAt b i)) ∧ h' = [(2, .var (terF (terAt b i))), (1, .var (rulF b.r ++ mpF b.m)), (0, .var (rulF b.r ++ mpF b.m))] ∧ n' = 3) := by
  have hwh := brd_wh g
  have b1 := hb.m.t
  have b2 := hb.r.ts
  simp only [inR, Bool.and_eq_true, decide_eq_true_eq] at hi
  obtain ⟨i, rfl⟩ : ∃ k : Nat, i = k := ⟨i.toNat, by omega⟩
  have h1 : i < b.m.t.length := by omega
  have ht := ter_in g h1
  have e1 := ints_get h1
  obtain ⟨j, hj⟩ : ∃ k : Nat, b.m.t.getD i 0 = k := ⟨(b.m.t.getD i 0).toNat, by omega⟩
  have h2 : j < b.r.ts.length := by omega
  have e2 : (tersF b.r.ts)[j]? = some (terF b.r.ts[j]) := by simp [tersF, h2]
  have e3 : terAt b i = b.r.ts[j] := by simp only [terAt, Int.toNat_natCast, hj]; simp [h2]
  rw [e3]
  rw [hj] at e1
  simp only [brdF, rulF, mpF, List.cons_append, List.nil_append, terF] at *
  refine Closed.rT hC Q208 ?_
  simp only [c208, push_cast, ↓J1, ↓J2, N1, N2, N3, reduceCtorEq, N4, N5, N6, reduceIte, N7, I1, I2, I3]
  simp only [Int.toNat_natCast, e1, push_cast, ↓J1, ↓J2, N1, N2, N3, reduceCtorEq, N4, N5, N6, reduceIte, N7, I1, I2, I3]
  repeat (refine ⟨by omega, ?_⟩)
  simp only [Int.toNat_natCast, e2, tersF_length, ints_length, push_cast, ↓J1, ↓J2, N1, N2, N3, reduceCtorEq, N4, N5, N6, reduceIte, N7, I1, I2, I3]
  repeat (refine ⟨by omega, ?_⟩)
omit hC in
theorem cost_get {b : Brd} {k : Nat} {i : Int} (g : brdOk b = true) (hk : k < b.r.ks.length) (hi : inR 0 (b.m.w * b.m.h - 1) i = true) : (ints (terAt b i).c)[k]? = some [.int .i64 (costAt b k i)] ∧ 0 ≤ costAt b k i ∧ costAt b k i ≤ 9 ∧ (terAt b i).c.length = b.r.ks.length := by
  have hwh := brd_wh g
  simp only [inR, Bool.and_eq_true, decide_eq_true_eq] at hi
  have h1 : i.toNat < b.m.t.length := by omega
  have ht := ter_in g h1
  have h2 : (b.m.t.getD i.toNat 0).toNat < b.r.ts.length := by omega
  have e : terAt b i = b.r.ts[(b.m.t.getD i.toNat 0).toNat] := by
    simp only [terAt]
    rw [List.getD, List.getElem?_eq_getElem h2, Option.getD_some]
  have hl := terOk_len g h2
  rw [← e] at hl
  have h3 : k < (terAt b i).c.length := by omega
  have hm : costAt b k i ∈ (terAt b i).c := by
    simp only [costAt, Int.toNat_natCast, List.getD, List.getElem?_eq_getElem h3, Option.getD_some]
    exact List.getElem_mem h3
  refine ⟨?_, (hl.2 _ hm).1, (hl.2 _ hm).2, hl.1⟩
  have := ints_get h3
  simpa only [costAt, Int.toNat_natCast] using this
theorem t143 (b : Brd) (k i : Int) (g : brdOk b = true) (hk : inR 0 (b.r.ks.length - 1) k = true) (hi : inR 0 (b.m.w * b.m.h - 1) i = true) (hb : BrdB (2^50) b) : Ev C 143 [brdF b, .int .i64 k, .int .i64 i] (.int .i64 (costAt b k i)) := by
  have c1 := t204 hC b i g hi hb
  have hk' := hk
  simp only [inR, Bool.and_eq_true, decide_eq_true_eq] at hk'
  obtain ⟨k, rfl⟩ : ∃ m : Nat, k = m := ⟨k.toNat, by omega⟩
  have hc := cost_get (k := k) g (by omega) hi
  have b2 := hb.r.ks
  simp only [brdF, rulF, mpF, List.cons_append, List.nil_append, terF] at *
  refine rT hC Q143 ?_
  simp only [c143, push_cast, ↓J1, ↓J2, N1, N2, N3, reduceCtorEq, N4, N5, N6, reduceIte, N7, I1, I2, I3]
  refine ⟨_, c1, ?_⟩
  rintro v h' n' ⟨rfl, rfl, rfl⟩ _
  simp only [Int.toNat_natCast, hc.1, push_cast, ↓J1, ↓J2, N1, N2, N3, reduceCtorEq, N4, N5, N6, reduceIte, N7, I1, I2, I3]
  omega
theorem t151 (b : Brd) (k i : Int) (g : brdOk b = true) (hk : inR 0 (b.r.ks.length - 1) k = true) (hi : inR 0 (b.m.w * b.m.h - 1) i = true) (hb : BrdB (2^50) b) : Ev C 151 [brdF b, .int .i64 k, .int .i64 i] (.int .i64 (costAt b k i)) := by
  have c1 := t208 hC b i g hi hb
  have hk' := hk
  simp only [inR, Bool.and_eq_true, decide_eq_true_eq] at hk'
  obtain ⟨k, rfl⟩ : ∃ m : Nat, k = m := ⟨k.toNat, by omega⟩
  have hc := cost_get (k := k) g (by omega) hi
  have b2 := hb.r.ks
  simp only [brdF, rulF, mpF, List.cons_append, List.nil_append, terF] at *
  refine rT hC Q151 ?_
  simp only [c151, push_cast, ↓J1, ↓J2, N1, N2, N3, reduceCtorEq, N4, N5, N6, reduceIte, N7, I1, I2, I3]
  refine ⟨_, c1, ?_⟩
  rintro v h' n' ⟨rfl, rfl, rfl⟩ _
  simp only [Int.toNat_natCast, hc.1, push_cast, ↓J1, ↓J2, N1, N2, N3, reduceCtorEq, N4, N5, N6, reduceIte, N7, I1, I2, I3]
  omega
omit hC in
theorem un_kind {b : Brd} {u : Un} (g : brdOk b = true) (h : inR 0 (b.r.ks.length - 1) u.k = true) : kindAsk b u.k = true := by
  simp only [kindAsk, g, h, Bool.and_self]
theorem t185 (b : Brd) (u : Un) (g : brdOk b = true) (hb : BrdB (2^50) b) : Ev C 185 [brdF b, .agg (unA u)] (.bool (unOk b u)) := by
  have hwh := brd_wh g
  have hm := mp_wh (brd_mp g)
  have c2 := t130 hC b.m hm.1 hm.2
  have c3 := fun hk hi => t143 hC b u.k u.at_ g hk hi hb
  have b2 := hb.r.ks
  have e0 := fun (k : Nat) (h : k < b.r.ks.length) => kins_get h
  simp only [brdF, rulF, mpF, List.cons_append, List.nil_append, unA, unOk, placed] at *
  refine rT hC Q185 ?_
  simp only [c185, push_cast, ↓J1, ↓J2, N1, N2, N3, reduceCtorEq, N4, N5, N6, reduceIte, N7, I1, I2, I3]
  refine ⟨_, tIn hC _ _ _, ?_⟩
  cases inR 0 1 u.sd
  · simp only [push_cast, ↓J1, ↓J2, N1, N2, N3, reduceCtorEq, N4, N5, N6, reduceIte, N7, I1, I2, I3]
  simp only [kins_length, push_cast, ↓J1, ↓J2, N1, N2, N3, reduceCtorEq, N4, N5, N6, reduceIte, N7, I1, I2, I3]
  rw [wrap64 (n := (b.r.ks.length : Int) - 1) (by omega) (by omega)]
  refine ⟨_, tIn hC _ _ _, ?_⟩
  cases g2 : inR 0 ((b.r.ks.length : Int) - 1) u.k
  · simp only [push_cast, ↓J1, ↓J2, N1, N2, N3, reduceCtorEq, N4, N5, N6, reduceIte, N7, I1, I2, I3]
  have hk := g2
  simp only [inR, Bool.and_eq_true, decide_eq_true_eq] at hk
  obtain ⟨k, ek⟩ : ∃ m : Nat, u.k = m := ⟨u.k.toNat, by omega⟩
  have e1 := e0 k (by omega)
  rw [← ek] at e1
  have en : u.k.toNat = k := by omega
  simp only [en, e1, kinA, kins_length, push_cast, ↓J1, ↓J2, N1, N2, N3, reduceCtorEq, N4, N5, N6, reduceIte, N7, I1, I2, I3]
  repeat (refine ⟨by omega, ?_⟩)
  refine ⟨_, tIn hC _ _ _, ?_⟩
  cases inR 0 (kindOf b u.k).sp u.st
  · simp only [push_cast, ↓J1, ↓J2, N1, N2, N3, reduceCtorEq, N4, N5, N6, reduceIte, N7, I1, I2, I3]
  simp only [push_cast, ↓J1, ↓J2, N1, N2, N3, reduceCtorEq, N4, N5, N6, reduceIte, N7, I1, I2, I3]
  cases decide (u.at_ = -1)
  · simp only [push_cast, ↓J1, ↓J2, N1, N2, N3, reduceCtorEq, N4, N5, N6, reduceIte, N7, I1, I2, I3]
    cases decide (0 < u.st)
    · simp only [push_cast, ↓J1, ↓J2, N1, N2, N3, reduceCtorEq, N4, N5, N6, reduceIte, N7, I1, I2, I3]
    simp only [push_cast, ↓J1, ↓J2, N1, N2, N3, reduceCtorEq, N4, N5, N6, reduceIte, N7, I1, I2, I3]
    refine ⟨_, c2, ?_⟩
    simp only [push_cast, ↓J1, ↓J2, N1, N2, N3, reduceCtorEq, N4, N5, N6, reduceIte, N7, I1, I2, I3]
    rw [wrap64 (n := b.m.w * b.m.h - 1) (by omega) (by omega)]
    refine ⟨_, tIn hC _ _ _, ?_⟩
    cases g3 : inR 0 (b.m.w * b.m.h - 1) u.at_
    · simp only [push_cast, ↓J1, ↓J2, N1, N2, N3, reduceCtorEq, N4, N5, N6, reduceIte, N7, I1, I2, I3]
    simp only [push_cast, ↓J1, ↓J2, N1, N2, N3, reduceCtorEq, N4, N5, N6, reduceIte, N7, I1, I2, I3]
    refine ⟨_, c3 g2 g3, ?_⟩
    simp only [push_cast, ↓J1, ↓J2, N1, N2, N3, reduceCtorEq, N4, N5, N6, reduceIte, N7, I1, I2, I3]
  · simp only [push_cast, ↓J1, ↓J2, N1, N2, N3, reduceCtorEq, N4, N5, N6, reduceIte, N7, I1, I2, I3]
theorem t186 (b : Brd) (u : Un) (g : brdOk b = true) (hb : BrdB (2^50) b) : Ev C 186 [brdF b, .agg (unA u)] (.bool (unOk b u)) := by
  have hwh := brd_wh g
  have c2 := t134 hC b
  rw [hwh.1] at c2
  have c3 := fun hk hi => t151 hC b u.k u.at_ g hk hi hb
  have cz := fun hk hi => (cost_get (b := b) (k := u.k.toNat) (i := u.at_) g hk hi).2
  have b2 := hb.r.ks
  have e0 := fun (k : Nat) (h : k < b.r.ks.length) => kins_get h
  simp only [brdF, rulF, mpF, List.cons_append, List.nil_append, unA, unOk, placed] at *
  refine rT hC Q186 ?_
  simp only [c186, push_cast, ↓J1, ↓J2, N1, N2, N3, reduceCtorEq, N4, N5, N6, reduceIte, N7, I1, I2, I3]
  refine ⟨_, t117 hC _, ?_⟩
  cases inR 0 1 u.sd
  · simp only [push_cast, ↓J1, ↓J2, N1, N2, N3, reduceCtorEq, N4, N5, N6, reduceIte, N7, I1, I2, I3]
  simp only [kins_length, push_cast, ↓J1, ↓J2, N1, N2, N3, reduceCtorEq, N4, N5, N6, reduceIte, N7, I1, I2, I3]
  refine ⟨_, tIdx hC _ _ (by omega), ?_⟩
  cases g2 : inR 0 ((b.r.ks.length : Int) - 1) u.k
  · simp only [push_cast, ↓J1, ↓J2, N1, N2, N3, reduceCtorEq, N4, N5, N6, reduceIte, N7, I1, I2, I3]
  have hk := g2
  simp only [inR, Bool.and_eq_true, decide_eq_true_eq] at hk
  obtain ⟨k, ek⟩ : ∃ m : Nat, u.k = m := ⟨u.k.toNat, by omega⟩
  have e1 := e0 k (by omega)
  rw [← ek] at e1
  have en : u.k.toNat = k := by omega
  simp only [en, e1, kinA, kins_length, push_cast, ↓J1, ↓J2, N1, N2, N3, reduceCtorEq, N4, N5, N6, reduceIte, N7, I1, I2, I3]
  repeat (refine ⟨by omega, ?_⟩)
  refine ⟨_, tRange hC _ _ _, ?_⟩
  cases inR 0 (kindOf b u.k).sp u.st
  · simp only [push_cast, ↓J1, ↓J2, N1, N2, N3, reduceCtorEq, N4, N5, N6, reduceIte, N7, I1, I2, I3]
  simp only [push_cast, ↓J1, ↓J2, N1, N2, N3, reduceCtorEq, N4, N5, N6, reduceIte, N7, I1, I2, I3]
  cases decide (u.at_ = -1)
  · simp only [push_cast, ↓J1, ↓J2, N1, N2, N3, reduceCtorEq, N4, N5, N6, reduceIte, N7, I1, I2, I3]
    cases decide (0 < u.st)
    · simp only [push_cast, ↓J1, ↓J2, N1, N2, N3, reduceCtorEq, N4, N5, N6, reduceIte, N7, I1, I2, I3]
    simp only [push_cast, ↓J1, ↓J2, N1, N2, N3, reduceCtorEq, N4, N5, N6, reduceIte, N7, I1, I2, I3]
    refine ⟨_, c2, ?_⟩
    simp only [push_cast, ↓J1, ↓J2, N1, N2, N3, reduceCtorEq, N4, N5, N6, reduceIte, N7, I1, I2, I3]
    refine ⟨_, tIdx hC _ _ (by omega), ?_⟩
    cases g3 : inR 0 (b.m.w * b.m.h - 1) u.at_
    · simp only [push_cast, ↓J1, ↓J2, N1, N2, N3, reduceCtorEq, N4, N5, N6, reduceIte, N7, I1, I2, I3]
    simp only [push_cast, ↓J1, ↓J2, N1, N2, N3, reduceCtorEq, N4, N5, N6, reduceIte, N7, I1, I2, I3]
    refine ⟨_, c3 g2 g3, ?_⟩
    have hz := cz (by omega) g3
    rw [Int.toNat_of_nonneg (by omega)] at hz
    simp only [push_cast, ↓J1, ↓J2, N1, N2, N3, reduceCtorEq, N4, N5, N6, reduceIte, N7, I1, I2, I3]
    rw [Bool.eq_iff_iff]
    simp only [Bool.not_eq_true', decide_eq_false_iff_not, decide_eq_true_eq]
    omega
  · simp only [push_cast, ↓J1, ↓J2, N1, N2, N3, reduceCtorEq, N4, N5, N6, reduceIte, N7, I1, I2, I3]
end
end Go.Proofs.YtjaccjeejeiphaaGreatDoor.X
set_option maxHeartbeats 4000000
set_option maxRecDepth 8000
set_option linter.unusedSimpArgs false
set_option linter.unusedVariables false
open Nat renaming reduceBEq → N1, reduceAdd → N2, reduceSub → N3, reduceMul → N4, reduceEqDiff → N5, reduceLeDiff → N6, reduceLT → N7
open Int renaming reduceLE → I1, reduceLT → I2, reduceToNat → I3
namespace Go.Proofs.YtjaccjeejeiphaaGreatDoor.X
open Go
attribute [local irreducible] Ev
def hasU (b : Brd) (s : Sta) (u : Int) : Bool := staOk b s && inR 0 (s.us.length - 1) u
def un0 : Un := ⟨0, 0, 0, 0⟩
def unOf (s : Sta) (u : Int) : Un := s.us.getD u.toNat un0
def canRe (b : Brd) (u : Un) : Bool := decide (0 ≤ u.at_) && decide (u.st < (kindOf b u.k).sp)
def hurt (b : Brd) (s : Sta) (u : Int) : Bool := hasU b s u && canRe b (unOf s u)
theorem uns_un {s : Sta} {k : Nat} (h : k < s.us.length) : (uns s.us)[k]? = some (unA (unOf s k)) := by
  simp [uns, unOf, List.getD, h]
theorem sta_brd {b : Brd} {s : Sta} (h : staOk b s = true) : brdOk b = true := by
  simp only [staOk, Bool.and_eq_true] at h; exact h.1
theorem sta_un {b : Brd} {s : Sta} (h : staOk b s = true) {k : Nat} (hk : k < s.us.length) : unOk b (unOf s k) = true := by
  simp only [staOk, staOk0, Bool.and_eq_true, List.all_eq_true] at h
  have := h.2.1.2 _ (List.getElem_mem hk)
  simpa [unOf, List.getD, hk] using this
theorem sta_kind {b : Brd} {s : Sta} (h : staOk b s = true) {k : Nat} (hk : k < s.us.length) : kindAsk b (unOf s k).k = true := by
  have := sta_un h hk
  simp only [unOk, Bool.and_eq_true] at this
  exact un_kind (sta_brd h) this.1.1.2
theorem sta_len {b : Brd} {s : Sta} (h : staOk b s = true) : s.us.length ≤ 12 := by
  simp only [staOk, staOk0, Bool.and_eq_true, decide_eq_true_eq] at h; omega
theorem unOk_at {b : Brd} {u : Un} (h : unOk b u = true) (ha : ¬ u.at_ < 0) : 0 ≤ u.at_ ∧ u.at_ < b.m.w * b.m.h := by
  simp only [unOk, placed, inR, Bool.and_eq_true, Bool.or_eq_true, decide_eq_true_eq] at h
  omega
theorem ints_sn (l : List Int) (x : Int) : ints l ++ [[.int .i64 x]] = ints (l ++ [x]) := by simp [ints]
theorem fil_cnt {us : List Un} {a sd : Int} : (fil (isAt a sd) us us.length).length = cnt us a sd := by
  rw [fil_len (Nat.le_refl _), List.take_length]; rfl
section
variable {C : CT} (hC : Closed Tryz.prog G1 md0 C)
include hC
theorem t145 (s : Sta) (a sd : Int) (hl : s.us.length < 2^40) : Ev C 145 [.agg (staF s), .int .i64 a, .int .i64 sd] (.ow 1 (ints (fil (isAt a sd) s.us s.us.length))) := by
  simp only [staF]
  refine rT hC Q145 ?_ (own_ints _)
  simp only [c145, uns_length, push_cast, ↓J1, ↓J2, N1, N2, N3, reduceCtorEq, N4, N5, N6, reduceIte, N7, I1, I2, I3]
  refine RL_count (fun i => ⟨tb 34 .any [(7, .ref 0 none 1 0 (fil (isAt a sd) s.us i).length), (1, .int .i64 a), (2, .int .i64 sd), (11, .sl (uns s.us)), (12, .int .i64 (s.us.length : Int)), (13, .int .i64 (i : Int))], [(0, .slice 1 (ints (fil (isAt a sd) s.us i)))], 1⟩) (fun _ => True) s.us.length 0 (hdO 7 0 1 []) (by omega) trivial fun i hi _ J hJ => ?_
  by_cases h1 : i < s.us.length
  · have e1 := uns_get h1
    have e2 := fil_succ (p := (isAt a sd)) h1
    have hfl := fil_le (p := (isAt a sd)) hi
    have tk : List.take (fil (isAt a sd) s.us i).length (ints (fil (isAt a sd) s.us i)) = ints (fil (isAt a sd) s.us i) := List.take_of_length_le (by rw [ints_length]; omega)
    generalize s.us[i] = u at *
    simp only [Int.toNat_natCast, e1, unA, push_cast, ↓J1, ↓J2, N1, N2, N3, reduceCtorEq, N4, N5, N6, reduceIte, N7, I1, I2, I3]
    refine ifB_intro (fun _ => ?_) (fun h => by simp at h; omega)
    repeat (refine ⟨by omega, ?_⟩)
    cases g1 : decide (u.at_ = a)
    · have hp : (isAt a sd) u = false := by simp only [isAt, g1, Bool.false_and, Bool.and_false]
      rw [hp, if_neg Bool.false_ne_true] at e2
      simp only [g1, push_cast, ↓J1, ↓J2, N1, N2, N3, reduceCtorEq, N4, N5, N6, reduceIte, N7, I1, I2, I3]
      exact hJ h1 trivial _ (by rw [e2]; exact (hdA [(0, 0)]))
    cases g2 : decide (u.sd = sd)
    · have hp : (isAt a sd) u = false := by simp only [isAt, g1, g2, Bool.false_and, Bool.and_false]
      rw [hp, if_neg Bool.false_ne_true] at e2
      simp only [g1, g2, push_cast, ↓J1, ↓J2, N1, N2, N3, reduceCtorEq, N4, N5, N6, reduceIte, N7, I1, I2, I3]
      exact hJ h1 trivial _ (by rw [e2]; exact (hdA [(0, 0)]))
    have hp : (isAt a sd) u = true := by simp only [isAt, g1, g2, Bool.and_self]
    rw [hp, if_pos rfl] at e2
    simp only [g1, g2, tk, ints_length, allScs, apYR_sc, push_cast, ↓J1, ↓J2, N1, N2, N3, reduceCtorEq, N4, N5, N6, reduceIte, N7, I1, I2, I3]
    repeat (refine ⟨by omega, ?_⟩)
    refine hJ h1 trivial _ ?_
    rw [e2]
    refine (hdA [(3, 0)] (hh := ?_))
    simp only [canR, canB, renO, renL, ren, lkp, hget, N7, N5, Nat.not_lt_zero, if_false, if_true, reduceIte, List.append_nil, List.nil_append, ints_sn]
    all_goals rfl
  · simp only [uns_length, push_cast, ↓J1, ↓J2, N1, N2, N3, reduceCtorEq, N4, N5, N6, reduceIte, N7, I1, I2, I3]
    refine ifB_intro (fun h => by simp at h; omega) (fun h => ?_)
    obtain rfl : i = s.us.length := by omega
    exact RetTo_ow rfl (by rw [ints_length])
theorem t119 (b : Brd) (s : Sta) (hb : BrdB (2^50) b) (hl : s.us.length < 2^40) : Ev C 119 [brdF b, .agg (staF s)] (.bool (staOk b s)) := by
  have c1 := t184 hC b hb
  have c2 := fun u g => t185 hC b u g hb
  have c3 := fun a sd => t145 hC s a sd hl
  simp only [brdF, rulF, mpF, List.cons_append, List.nil_append, staF] at *
  refine rT hC Q119 ?_
  simp only [c119, push_cast, ↓J1, ↓J2, N1, N2, N3, reduceCtorEq, N4, N5, N6, reduceIte, N7, I1, I2, I3]
  refine ⟨_, c1, ?_⟩
  cases g1 : brdOk b
  · simp only [staOk, g1, push_cast, ↓J1, ↓J2, N1, N2, N3, reduceCtorEq, N4, N5, N6, reduceIte, N7, I1, I2, I3]
  simp only [push_cast, ↓J1, ↓J2, N1, N2, N3, reduceCtorEq, N4, N5, N6, reduceIte, N7, I1, I2, I3]
  refine ⟨_, tIn hC _ _ _, ?_⟩
  cases g2 : inR 0 b.r.turns s.t
  · simp only [staOk, staOk0, g1, g2, push_cast, ↓J1, ↓J2, N1, N2, N3, reduceCtorEq, N4, N5, N6, reduceIte, N7, I1, I2, I3]
  simp only [push_cast, ↓J1, ↓J2, N1, N2, N3, reduceCtorEq, N4, N5, N6, reduceIte, N7, I1, I2, I3]
  refine ⟨_, tIn hC _ _ _, ?_⟩
  cases g3 : inR 0 2 s.w
  · simp only [staOk, staOk0, g1, g2, g3, push_cast, ↓J1, ↓J2, N1, N2, N3, reduceCtorEq, N4, N5, N6, reduceIte, N7, I1, I2, I3]
  have e12 : decide (12 < (s.us.length : Int)) = !decide ((s.us.length : Int) ≤ 12) := by rw [Bool.eq_iff_iff]; simp
  simp only [uns_length, e12, push_cast, ↓J1, ↓J2, N1, N2, N3, reduceCtorEq, N4, N5, N6, reduceIte, N7, I1, I2, I3]
  cases g4 : decide ((s.us.length : Int) ≤ 12)
  · simp only [staOk, staOk0, g1, g2, g3, g4, push_cast, ↓J1, ↓J2, N1, N2, N3, reduceCtorEq, N4, N5, N6, reduceIte, N7, I1, I2, I3]
  simp only [uns_length, push_cast, ↓J1, ↓J2, N1, N2, N3, reduceCtorEq, N4, N5, N6, reduceIte, N7, I1, I2, I3]
  rw [show staOk b s = (s.us.all (unOk b) && s.us.all (stackOk b s.us)) by simp only [staOk, staOk0, g1, g2, g3, g4, Bool.true_and]]
  refine RL_count (fun i => ⟨tb 80 .any [(2, .ptr 0 none 0 0 0), (3, .ptr 1 none 0 0 0), (34, .sl (uns s.us)), (35, .int .i64 (s.us.length : Int)), (36, .int .i64 (i : Int))], [(1, .var (staF s)), (0, .var (rulF b.r ++ mpF b.m))], 2⟩) (fun i => s.us.all (unOk b) = (s.us.drop i).all (unOk b)) s.us.length 0 (hdA [(1, 1), (0, 0)]) (by omega) rfl fun i hi ht J hJ => ?_
  simp only [brdF, rulF, mpF, List.cons_append, List.nil_append, staF]
  by_cases h1 : i < s.us.length
  · have e1 := uns_get h1
    rw [List.drop_eq_getElem_cons h1, List.all_cons] at ht
    generalize s.us[i] = u at *
    have c2' := c2 u g1
    simp only [Int.toNat_natCast, e1, unA, push_cast, ↓J1, ↓J2, N1, N2, N3, reduceCtorEq, N4, N5, N6, reduceIte, N7, I1, I2, I3] at c2' ⊢
    refine ifB_intro (fun _ => ?_) (fun h => by simp at h; omega)
    repeat (refine ⟨by omega, ?_⟩)
    refine ⟨_, c2', ?_⟩
    cases g5 : unOk b u
    · rw [ht, g5]
      simp only [Bool.false_and, push_cast, ↓J1, ↓J2, N1, N2, N3, reduceCtorEq, N4, N5, N6, reduceIte, N7, I1, I2, I3]
    simp only [push_cast, ↓J1, ↓J2, N1, N2, N3, reduceCtorEq, N4, N5, N6, reduceIte, N7, I1, I2, I3]
    exact hJ h1 (by rw [ht, g5, Bool.true_and]) _ (hdA [(1, 1), (0, 0)])
  · simp only [uns_length, push_cast, ↓J1, ↓J2, N1, N2, N3, reduceCtorEq, N4, N5, N6, reduceIte, N7, I1, I2, I3]
    refine ifB_intro (fun h => by simp at h; omega) (fun h => ?_)
    rw [List.drop_eq_nil_of_le (by omega)] at ht
    have hall : s.us.all (unOk b) = true := by rw [ht]; rfl
    rw [hall, Bool.true_and]
    clear hJ ht h1 hi
    refine RL_count (fun i => ⟨tb 80 .any [(2, .ptr 0 none 0 0 0), (3, .ptr 1 none 0 0 0), (46, .sl (uns s.us)), (47, .int .i64 (s.us.length : Int)), (48, .int .i64 (i : Int))], [(1, .var (staF s)), (0, .var (rulF b.r ++ mpF b.m))], 2⟩) (fun i => s.us.all (stackOk b s.us) = (s.us.drop i).all (stackOk b s.us)) s.us.length 0 (hdA [(1, 1), (0, 0)]) (by omega) rfl fun i hi ht J hJ => ?_
    simp only [brdF, rulF, mpF, List.cons_append, List.nil_append, staF]
    by_cases h1 : i < s.us.length
    · have e1 := uns_get h1
      have hsd := un_sd (List.all_eq_true.1 hall _ (List.getElem_mem h1))
      rw [List.drop_eq_getElem_cons h1, List.all_cons] at ht
      generalize s.us[i] = u at *
      have es : stackOk b s.us u = !(decide (0 ≤ u.at_) && (decide (0 < (cnt s.us u.at_ (1 - u.sd) : Int)) || decide (b.r.stack < (cnt s.us u.at_ u.sd : Int)))) := by simp [stackOk]
      simp only [Int.toNat_natCast, e1, unA, push_cast, ↓J1, ↓J2, N1, N2, N3, reduceCtorEq, N4, N5, N6, reduceIte, N7, I1, I2, I3]
      refine ifB_intro (fun _ => ?_) (fun h => by simp at h; omega)
      repeat (refine ⟨by omega, ?_⟩)
      cases g5 : decide (0 ≤ u.at_)
      · have : stackOk b s.us u = true := by rw [es, g5]; rfl
        simp only [push_cast, ↓J1, ↓J2, N1, N2, N3, reduceCtorEq, N4, N5, N6, reduceIte, N7, I1, I2, I3]
        exact hJ h1 (by rw [ht, this, Bool.true_and]) _ (hdA [(1, 1), (0, 0)])
      rw [g5, Bool.true_and] at es
      simp only [push_cast, ↓J1, ↓J2, N1, N2, N3, reduceCtorEq, N4, N5, N6, reduceIte, N7, I1, I2, I3]
      rw [wrap64 (n := 1 - u.sd) (by omega) (by omega)]
      refine ⟨_, c3 _ _, ?_⟩
      simp only [ints_length, fil_cnt, push_cast, ↓J1, ↓J2, N1, N2, N3, reduceCtorEq, N4, N5, N6, reduceIte, N7, I1, I2, I3]
      cases g6 : decide (0 < (cnt s.us u.at_ (1 - u.sd) : Int))
      · rw [g6, Bool.false_or] at es
        simp only [push_cast, ↓J1, ↓J2, N1, N2, N3, reduceCtorEq, N4, N5, N6, reduceIte, N7, I1, I2, I3]
        refine ⟨_, c3 _ _, ?_⟩
        simp only [ints_length, fil_cnt, push_cast, ↓J1, ↓J2, N1, N2, N3, reduceCtorEq, N4, N5, N6, reduceIte, N7, I1, I2, I3]
        cases g7 : decide (b.r.stack < (cnt s.us u.at_ u.sd : Int))
        · rw [g7] at es
          simp only [push_cast, ↓J1, ↓J2, N1, N2, N3, reduceCtorEq, N4, N5, N6, reduceIte, N7, I1, I2, I3]
          exact hJ h1 (by rw [ht, es]; rfl) _ (hdA [(1, 1), (0, 0)])
        · rw [g7] at es
          rw [ht, es]
          simp only [push_cast, ↓J1, ↓J2, N1, N2, N3, reduceCtorEq, N4, N5, N6, reduceIte, N7, I1, I2, I3]
      · rw [g6] at es
        rw [ht, es]
        simp only [push_cast, ↓J1, ↓J2, N1, N2, N3, reduceCtorEq, N4, N5, N6, reduceIte, N7, I1, I2, I3]
    · simp only [uns_length, push_cast, ↓J1, ↓J2, N1, N2, N3, reduceCtorEq, N4, N5, N6, reduceIte, N7, I1, I2, I3]
      refine ifB_intro (fun h => by simp at h; omega) (fun h => ?_)
      rw [ht, List.drop_eq_nil_of_le (by omega)]
      rfl
theorem t121 (b : Brd) (s : Sta) (g1 : brdOk b = true) (hb : BrdB (2^50) b) (hl : s.us.length < 2^40) : Ev C 121 [brdF b, .agg (staF s)] (.bool (staOk0 b s)) := by
  have c1 := t134 hC b
  have hwh := brd_wh g1
  have c2 := fun u => t186 hC b u g1 hb
  simp only [brdF, rulF, mpF, List.cons_append, List.nil_append, staF] at *
  refine rT hC Q121 ?_
  simp only [c121, push_cast, ↓J1, ↓J2, N1, N2, N3, reduceCtorEq, N4, N5, N6, reduceIte, N7, I1, I2, I3]
  refine ⟨_, tRange hC _ _ _, ?_⟩
  cases g2 : inR 0 b.r.turns s.t
  · simp only [staOk0, g2, push_cast, ↓J1, ↓J2, N1, N2, N3, reduceCtorEq, N4, N5, N6, reduceIte, N7, I1, I2, I3]
  simp only [push_cast, ↓J1, ↓J2, N1, N2, N3, reduceCtorEq, N4, N5, N6, reduceIte, N7, I1, I2, I3]
  refine ⟨_, tRange hC _ _ _, ?_⟩
  cases g3 : inR 0 2 s.w
  · simp only [staOk0, g2, g3, push_cast, ↓J1, ↓J2, N1, N2, N3, reduceCtorEq, N4, N5, N6, reduceIte, N7, I1, I2, I3]
  have e12 : decide (12 < (s.us.length : Int)) = !decide ((s.us.length : Int) ≤ 12) := by rw [Bool.eq_iff_iff]; simp
  simp only [uns_length, e12, push_cast, ↓J1, ↓J2, N1, N2, N3, reduceCtorEq, N4, N5, N6, reduceIte, N7, I1, I2, I3]
  cases g4 : decide ((s.us.length : Int) ≤ 12)
  · simp only [staOk0, g2, g3, g4, push_cast, ↓J1, ↓J2, N1, N2, N3, reduceCtorEq, N4, N5, N6, reduceIte, N7, I1, I2, I3]
  simp only [uns_length, push_cast, ↓J1, ↓J2, N1, N2, N3, reduceCtorEq, N4, N5, N6, reduceIte, N7, I1, I2, I3]
  rw [show staOk0 b s = (s.us.all (unOk b) && s.us.all (stackOk b s.us)) by simp only [staOk0, g2, g3, g4, Bool.true_and]]
  refine ⟨_, c1, ?_⟩
  simp only [Int.toNat_natCast, uns_length, push_cast, ↓J1, ↓J2, N1, N2, N3, reduceCtorEq, N4, N5, N6, reduceIte, N7, I1, I2, I3]
  repeat (refine ⟨by omega, ?_⟩)
  refine RL_count (fun i => ⟨tb 80 .any [(2, .ptr 0 none 0 0 0), (5, .ref 1 none 2 0 b.m.t.length), (31, .sl (uns s.us)), (32, .int .i64 (s.us.length : Int)), (33, .int .i64 (i : Int))], [(1, .slice 2 (tblR (s.us.take i) b.m.t.length)), (0, .var (rulF b.r ++ mpF b.m))], 2⟩) (fun i => ∀ j (h : j < s.us.length), j < i → unOk b s.us[j] = true ∧ stackOk b (s.us.take (j + 1)) s.us[j] = true) s.us.length 0 (hdA [(2, 1), (0, 0)] (hh := ?_)) (by omega) (by intro j h h'; omega) fun i hi ht J hJ => ?_
  · rw [List.take_zero, tblR_nil]; simp only [canR, canB, renO, renL, ren, lkp, hget, N7, N5, Nat.not_lt_zero, if_false, if_true, reduceIte, List.append_nil, List.nil_append]; rfl
  simp only [brdF, rulF, mpF, List.cons_append, List.nil_append, staF]
  by_cases h1 : i < s.us.length
  · have e1 := uns_get h1
    have bad : (unOk b s.us[i] = false ∨ stackOk b (s.us.take (i + 1)) s.us[i] = false) → (s.us.all (unOk b) && s.us.all (stackOk b s.us)) = false := by
      rintro (h | h)
      · rw [show s.us.all (unOk b) = false from List.all_eq_false.2 ⟨_, List.getElem_mem h1, by simp [h]⟩]; rfl
      · rw [show s.us.all (stackOk b s.us) = false from List.all_eq_false.2 ⟨_, List.getElem_mem h1, by
          intro hh
          rw [stack_mono (i + 1) hh] at h; cases h⟩, Bool.and_false]
    have good : unOk b s.us[i] = true → stackOk b (s.us.take (i + 1)) s.us[i] = true → ∀ j (h : j < s.us.length), j < i + 1 → unOk b s.us[j] = true ∧ stackOk b (s.us.take (j + 1)) s.us[j] = true := by
      intro k1 k2 j hj hji
      by_cases hij : j = i
      · subst hij; exact ⟨k1, k2⟩
      · exact ht j hj (by omega)
    have hJ' := fun k1 k2 => hJ h1 (good k1 k2)
    have taway := tblR_away (n := b.m.t.length) h1
    have tadd := fun a s' => tblR_add (n := b.m.t.length) (a := a) (s := s') h1
    clear hJ good ht
    generalize hu : s.us[i] = u at *
    have c2' := c2 u
    simp only [Int.toNat_natCast, e1, unA, push_cast, ↓J1, ↓J2, N1, N2, N3, reduceCtorEq, N4, N5, N6, reduceIte, N7, I1, I2, I3] at c2' ⊢
    refine ifB_intro (fun _ => ?_) (fun h => by simp at h; omega)
    repeat (refine ⟨by omega, ?_⟩)
    refine ⟨_, c2', ?_⟩
    cases g5 : unOk b u
    · simp only [bad (.inl g5), push_cast, ↓J1, ↓J2, N1, N2, N3, reduceCtorEq, N4, N5, N6, reduceIte, N7, I1, I2, I3]
    simp only [push_cast, ↓J1, ↓J2, N1, N2, N3, reduceCtorEq, N4, N5, N6, reduceIte, N7, I1, I2, I3]
    have hsd := un_sd g5
    have es : stackOk b (s.us.take (i + 1)) u = !(decide (0 ≤ u.at_) && (decide (0 < (cnt (s.us.take (i + 1)) u.at_ (1 - u.sd) : Int)) || decide (b.r.stack < (cnt (s.us.take (i + 1)) u.at_ u.sd : Int)))) := by simp [stackOk]
    by_cases g6 : u.at_ < 0
    · have g6' : decide (u.at_ < 0) = true := decide_eq_true g6
      simp only [g6', push_cast, ↓J1, ↓J2, N1, N2, N3, reduceCtorEq, N4, N5, N6, reduceIte, N7, I1, I2, I3]
      refine hJ' g5 (by rw [es, decide_eq_false (by omega)]; rfl) _ ?_
      rw [taway g6]
      exact (hdA [(1, 1), (0, 0)])
    have g6' : decide (u.at_ < 0) = false := decide_eq_false g6
    have hat := unOk_at g5 (by omega)
    obtain ⟨a, ha⟩ : ∃ a : Nat, u.at_ = a := ⟨u.at_.toNat, by omega⟩
    have han : a < b.m.t.length := by omega
    have ea := fun us => tblR_get (us := us) han
    rw [decide_eq_true (show (0 : Int) ≤ u.at_ by omega), Bool.true_and] at es
    have cl := cnt_le_len (s.us.take i) a 0
    have cl1 := cnt_le_len (s.us.take i) a 1
    have tl : (s.us.take i).length ≤ s.us.length := by rw [List.length_take]; omega
    have ga : decide ((a : Int) < 0) = false := decide_eq_false (by omega)
    rw [ha] at es
    rcases hsd with h0 | h0
    · have tadd' := tadd a 0 ha h0 (by omega) han
      rw [h0] at es
      have w1 : IntKind.i64.wrap (1 - 0) = 1 := by decide
      have w2 : IntKind.i64.wrap ((cnt (s.us.take i) (a : Int) 0 : Int) + 1) = (cnt (s.us.take i) (a : Int) 0 : Int) + 1 := wrap64 (by omega) (by omega)
      simp only [tblRow, List.set_cons_zero, List.set_cons_succ, Int.cast_ofNat_Int] at tadd'
      simp only [ha, ga, h0, w1, ea, tblR_length, tblRow, Int.toNat_natCast, push_cast, ↓J1, ↓J2, N1, N2, N3, reduceCtorEq, N4, N5, N6, reduceIte, N7, I1, I2, I3]
      repeat (refine ⟨by omega, ?_⟩)
      simp only [w2, ← tadd', ea, tblR_length, tblRow, Int.toNat_natCast, push_cast, ↓J1, ↓J2, N1, N2, N3, reduceCtorEq, N4, N5, N6, reduceIte, N7, I1, I2, I3]
      rw [show (1 : Int) - 0 = 1 by decide] at es
      cases g7 : decide (0 < (cnt (s.us.take (i + 1)) (a : Int) 1 : Int))
      · rw [g7, Bool.false_or] at es
        simp only [tblR_length, ea, tblRow, Int.toNat_natCast, push_cast, ↓J1, ↓J2, N1, N2, N3, reduceCtorEq, N4, N5, N6, reduceIte, N7, I1, I2, I3]
        repeat (refine ⟨by omega, ?_⟩)
        cases g8 : decide (b.r.stack < (cnt (s.us.take (i + 1)) (a : Int) 0 : Int))
        · rw [g8] at es
          simp only [push_cast, ↓J1, ↓J2, N1, N2, N3, reduceCtorEq, N4, N5, N6, reduceIte, N7, I1, I2, I3]
          exact hJ' g5 es _ (hdA [(1, 1), (0, 0)])
        · rw [g8] at es
          simp only [bad (.inr es), push_cast, ↓J1, ↓J2, N1, N2, N3, reduceCtorEq, N4, N5, N6, reduceIte, N7, I1, I2, I3]
      · rw [g7] at es
        simp only [bad (.inr es), push_cast, ↓J1, ↓J2, N1, N2, N3, reduceCtorEq, N4, N5, N6, reduceIte, N7, I1, I2, I3]
    · have tadd' := tadd a 1 ha h0 (by omega) han
      rw [h0] at es
      have w1 : IntKind.i64.wrap (1 - 1) = 0 := by decide
      have w2 : IntKind.i64.wrap ((cnt (s.us.take i) (a : Int) 1 : Int) + 1) = (cnt (s.us.take i) (a : Int) 1 : Int) + 1 := wrap64 (by omega) (by omega)
      simp only [tblRow, List.set_cons_zero, List.set_cons_succ, Int.cast_ofNat_Int] at tadd'
      simp only [ha, ga, h0, w1, ea, tblR_length, tblRow, Int.toNat_natCast, push_cast, ↓J1, ↓J2, N1, N2, N3, reduceCtorEq, N4, N5, N6, reduceIte, N7, I1, I2, I3]
      repeat (refine ⟨by omega, ?_⟩)
      simp only [w2, ← tadd', ea, tblR_length, tblRow, Int.toNat_natCast, push_cast, ↓J1, ↓J2, N1, N2, N3, reduceCtorEq, N4, N5, N6, reduceIte, N7, I1, I2, I3]
      rw [show (1 : Int) - 1 = 0 by decide] at es
      cases g7 : decide (0 < (cnt (s.us.take (i + 1)) (a : Int) 0 : Int))
      · rw [g7, Bool.false_or] at es
        simp only [tblR_length, ea, tblRow, Int.toNat_natCast, push_cast, ↓J1, ↓J2, N1, N2, N3, reduceCtorEq, N4, N5, N6, reduceIte, N7, I1, I2, I3]
        repeat (refine ⟨by omega, ?_⟩)
        cases g8 : decide (b.r.stack < (cnt (s.us.take (i + 1)) (a : Int) 1 : Int))
        · rw [g8] at es
          simp only [push_cast, ↓J1, ↓J2, N1, N2, N3, reduceCtorEq, N4, N5, N6, reduceIte, N7, I1, I2, I3]
          exact hJ' g5 es _ (hdA [(1, 1), (0, 0)])
        · rw [g8] at es
          simp only [bad (.inr es), push_cast, ↓J1, ↓J2, N1, N2, N3, reduceCtorEq, N4, N5, N6, reduceIte, N7, I1, I2, I3]
      · rw [g7] at es
        simp only [bad (.inr es), push_cast, ↓J1, ↓J2, N1, N2, N3, reduceCtorEq, N4, N5, N6, reduceIte, N7, I1, I2, I3]
  · simp only [uns_length, push_cast, ↓J1, ↓J2, N1, N2, N3, reduceCtorEq, N4, N5, N6, reduceIte, N7, I1, I2, I3]
    refine ifB_intro (fun h => by simp at h; omega) (fun h => ?_)
    have hall : s.us.all (unOk b) = true := by
      rw [List.all_eq_true]; intro u hm
      obtain ⟨j, hj, rfl⟩ := List.getElem_of_mem hm
      exact (ht j hj (by omega)).1
    rw [hall, stack_all (fun j hj => (ht j hj (by omega)).1) (fun j hj => (ht j hj (by omega)).2)]
    rfl
end
end Go.Proofs.YtjaccjeejeiphaaGreatDoor.X
set_option maxHeartbeats 1000000
set_option maxRecDepth 8000
set_option linter.unusedSimpArgs false
set_option linter.unusedSectionVars false
set_option linter.unusedVariables false
open Nat renaming reduceBEq → N1, reduceAdd → N2, reduceSub → N3, reduceMul → N4, reduceEqDiff → N5, reduceLeDiff → N6, reduceLT → N7
open Int renaming reduceLE → I1, reduceLT → I2, reduceToNat → I3
namespace Go.Proofs.YtjaccjeejeiphaaGreatDoor.X
open Go
def intss (W : List (List Int)) : List (List AV) := W.map fun r => [.sl (ints r)]
def owss (W : List (List Int)) : List (List AV) := W.map fun r => [.ow 1 (ints r)]
theorem intss_length (W : List (List Int)) : (intss W).length = W.length := by simp [intss]
theorem owss_length (W : List (List Int)) : (owss W).length = W.length := by simp [owss]
theorem frzLL_owss (W : List (List Int)) : frzLL (owss W) = intss W := by
  unfold owss intss
  induction W with
  | nil => rfl
  | cons x l ih => simp only [List.map_cons, frzLL, frzL, frzT, frzLL_ints, ih]
theorem own_intss (W : List (List Int)) : ownR (.ow 1 (owss W)) = true := by
  simp only [ownR]
  unfold owss
  induction W with
  | nil => rfl
  | cons x l ih =>
    have e2 := own_ints x
    simp only [ownR] at e2
    simp only [List.map_cons, ownRLL, ownRL, ownR, e2, Bool.and_true, Bool.true_and]; exact ih
def lens (W : List (List Int)) : Nat := (W.map List.length).sum
def szRows : List (List Int) → Int → Int
  | [], v => v
  | r :: W, v => if v < r.length then -1 else szRows W (v - r.length)
def szSS (W : List (List Int)) (v : Int) : Int := if v < W.length then -1 else szRows W (v - W.length)
theorem szRows_le {B : Int} : ∀ (W : List (List Int)) (v : Int), 0 ≤ v → v ≤ B → 0 ≤ szRows W v → ∀ r ∈ W, (r.length : Int) ≤ B
  | [], v, _, _, _, r, hr => by simp at hr
  | s :: W, v, h0, hB, h, r, hr => by
    simp only [szRows] at h
    split at h
    · omega
    · rename_i hs
      rcases List.mem_cons.1 hr with rfl | hr
      · omega
      · exact szRows_le W (v - s.length) (by omega) (by omega) h r hr
theorem szSS_le {W : List (List Int)} {v : Int} (h0 : 0 ≤ v) (h : 0 ≤ szSS W v) : (W.length : Int) ≤ v ∧ ∀ r ∈ W, (r.length : Int) ≤ v := by
  simp only [szSS] at h
  split at h
  · omega
  · rename_i hs
    exact ⟨by omega, szRows_le W _ (by omega) (by omega) h⟩
theorem lens_succ {W : List (List Int)} {i : Nat} (h : i < W.length) : lens (W.take (i + 1)) = lens (W.take i) + W[i].length := by
  rw [lens, List.take_succ_eq_append_getElem h, List.map_append, List.sum_append]; simp only [lens, List.map_cons, List.map_nil, List.sum_cons, List.sum_nil, Nat.add_zero]
def sumW (r : List Int) : Int := r.foldl (fun a x => IntKind.i64.wrap (a + x)) 0
theorem sumW_succ {r : List Int} {i : Nat} (h : i < r.length) : sumW (r.take (i + 1)) = IntKind.i64.wrap (sumW (r.take i) + r[i]) := by
  rw [sumW, List.take_succ_eq_append_getElem h, List.foldl_append]; rfl
def rowOk (r : List Int) : Bool := decide (r.length = 3) && r.all (inR 0 36) && decide (sumW r = 36)
def goodW (W : List (List Int)) : Bool := decide (W.length = 3) && W.all rowOk
def clA (W : List (List Int)) : AV := .agg [.sl (intss W)]
def clO (W : List (List Int)) : AV := .agg [.ow 1 (owss W)]
theorem own_cl (W : List (List Int)) : ownR (clO W) = true := by
  have e1 := own_intss W
  simp only [ownR] at e1
  simp only [clO, ownR, ownRL, e1, Bool.and_true]
section
variable {C : CT} (hC : Closed Tryz.prog G1 md0 C)
include hC
theorem t75 (W : List (List Int)) (v : Int) (hv : 0 ≤ v ∧ v < 2^50) (hW : W.length < 2^50) (hr : ∀ r ∈ W, r.length < 2^50) : Ev C 75 [.sl (intss W), .int .i64 v] (.int .i64 (szSS W v)) := by
  refine rT hC Q75 ?_
  simp only [c75, intss, List.length_map, push_cast, ↓J1, ↓J2, N1, N2, N3, reduceCtorEq, N4, N5, N6, reduceIte, N7, I1, I2, I3]
  rw [wrap64 (by omega) (by omega)]
  refine ifB_intro (fun h => ?_) (fun h => ?_)
  · simp only [szSS]; simp at h; rw [if_pos (by omega)]
  · simp only [decide_eq_false_iff_not, Int.not_lt] at h
    refine RL_count (fun i => ⟨tb 27 .any [(0, .sl (W.map fun r => [.sl (ints r)])), (1, .int .i64 (v - W.length - lens (W.take i))), (5, .int .i64 (i : Int))], [], 0⟩) (fun i => 0 ≤ v - W.length - lens (W.take i) ∧ szSS W v = szRows (W.drop i) (v - W.length - lens (W.take i))) W.length 0 (head_tb [] rfl (by simp only [keptV_cons, keptV_nil, tb_get, lk_same, lk_ne, lk_nil, ren, renL, lkp, N7, N1, N5, reduceIte, and_true, true_and, Nat.not_lt_zero, if_false, if_true, Nat.add_zero, Nat.zero_add]; simp [lens]) rfl) (by omega) (by simp [lens, szSS]; omega) fun i hi ⟨ht0, ht⟩ J hJ => ?_
    by_cases h1 : i < W.length
    · have hri := hr _ (List.getElem_mem h1)
      simp only [List.length_map, Int.toNat_natCast, List.getElem?_map, List.getElem?_eq_getElem h1, push_cast, ↓J1, ↓J2, N1, N2, N3, reduceCtorEq, N4, N5, N6, reduceIte, N7, I1, I2, I3]
      refine ifB_intro (fun _ => ⟨by omega, _, t60 hC _ _ (by omega) (by rw [ints_length]; exact hri), ?_⟩) (fun h => by simp at h; omega)
      rw [List.drop_eq_getElem_cons h1, szRows] at ht
      simp only [ints_length, push_cast, ↓J1, ↓J2, N1, N2, N3, reduceCtorEq, N4, N5, N6, reduceIte, N7, I1, I2, I3]
      refine ifB_intro (fun h => ?_) (fun h => ?_)
      · rw [ht]
        simp only [decide_eq_true_eq] at h
        split at h <;> rename_i hh
        · rw [if_pos hh]
        · omega
      · simp only [decide_eq_false_iff_not] at h
        have hh : ¬ (v - W.length - lens (W.take i) < W[i].length) := fun hh => h (by rw [if_pos hh]; omega)
        rw [if_neg hh] at ht
        have el : v - (W.length : Int) - lens (W.take (i + 1)) = v - W.length - lens (W.take i) - W[i].length := by
          rw [lens_succ h1]; omega
        refine hJ h1 ⟨by omega, by rw [el]; exact ht⟩ _ (hdA [] (hV := ?_))
        simp only [keptV_cons, keptV_nil, tb_get, lk_same, lk_ne, lk_nil, ren, renL, lkp, N7, N1, N5, reduceIte, and_true, true_and, Nat.not_lt_zero, if_false, if_true, Nat.add_zero, Nat.zero_add]
        rw [wrap64 (by omega) (by omega), if_neg hh, el]
        exact ⟨rfl, rfl⟩
    · simp only [List.length_map, Int.toNat_natCast, List.getElem?_map, push_cast, ↓J1, ↓J2, N1, N2, N3, reduceCtorEq, N4, N5, N6, reduceIte, N7, I1, I2, I3]
      refine ifB_intro (fun h => by simp at h; omega) (fun h => ?_)
      rw [ht, List.drop_eq_nil_of_le (by omega)]
      rfl
theorem t80 (W : List (List Int)) (hW : W.length < 2^30) (hr : ∀ r ∈ W, r.length < 2^30) : Ev C 80 [.sl (intss W)] (.ow 1 (owss W)) := by
  refine rT hC Q80 ?_ (own_intss W)
  simp only [c80, intss, List.length_map, push_cast, ↓J1, ↓J2, N1, N2, N3, reduceCtorEq, N4, N5, N6, reduceIte, N7, I1, I2, I3]
  refine ⟨by omega, by omega, by omega, by omega, ?_⟩
  refine RL_count (fun i => ⟨tb 23 .any [(0, .sl (W.map fun r => [.sl (ints r)])), (3, .ref 0 none 1 0 W.length), (4, .int .i64 (i : Int))], [(0, .slice 1 ((W.take i).map (fun r => [.ow 1 (ints r)]) ++ List.replicate (W.length - i) [.nil]))], 1⟩) (fun _ => True) W.length 0 (hdA [(0, 0)]) (by omega) trivial fun i hi _ J hJ => ?_
  by_cases h1 : i < W.length
  · rw [show W.length - i = (W.length - (i + 1)) + 1 by omega, List.replicate_succ]
    simp only [List.length_map, Int.toNat_natCast, List.getElem?_map, List.getElem?_eq_getElem h1, push_cast, ↓J1, ↓J2, N1, N2, N3, reduceCtorEq, N4, N5, N6, reduceIte, N7, I1, I2, I3]
    refine ifB_intro (fun _ => ⟨by omega, _, t66 hC _ (hr _ (List.getElem_mem h1)), ?_⟩) (fun h => by simp at h; omega)
    simp only [Int.toNat_natCast, mid_get (show ((W.take i).map fun r => [AV.ow 1 (ints r)]).length = i by simp; omega), mid_set (show ((W.take i).map fun r => [AV.ow 1 (ints r)]).length = i by simp; omega), push_cast, ↓J1, ↓J2, N1, N2, N3, reduceCtorEq, N4, N5, N6, reduceIte, N7, I1, I2, I3]
    refine ⟨by omega, by omega, ?_⟩
    refine hJ h1 trivial _ (hdA [(0, 0)] (hh := ?_))
    rw [List.take_succ_eq_append_getElem h1, List.map_append, List.append_assoc]
    simp only [hdel, canR, canB, renO, renL, ren, lkp, hget, N7, N5, Nat.not_lt_zero, if_false, if_true, reduceIte, List.append_nil, List.nil_append]
    rfl
  · simp only [List.length_map, Int.toNat_natCast, List.getElem?_map, push_cast, ↓J1, ↓J2, N1, N2, N3, reduceCtorEq, N4, N5, N6, reduceIte, N7, I1, I2, I3]
    refine ifB_intro (fun h => by simp at h; omega) (fun h => ?_)
    rw [List.take_of_length_le (by omega), show W.length - i = 0 by omega]
    exact RetTo_ow (by simp [hget, owss]) (by simp [owss])
theorem t85 (W V : List (List Int)) (hW : W.length < 2^50) (hV : V.length < 2^50) (hr : ∀ r ∈ W, r.length < 2^50) (hs : ∀ r ∈ V, r.length < 2^50) : Ev C 85 [.sl (intss W), .sl (intss V)] (.bool (decide (W = V))) := by
  refine rT hC Q85 ?_
  simp only [c85, intss, List.length_map, push_cast, ↓J1, ↓J2, N1, N2, N3, reduceCtorEq, N4, N5, N6, reduceIte, N7, I1, I2, I3]
  refine ifB_intro (fun h => ?_) (fun h => ?_)
  · have hlm : W.length = V.length := by simp at h; omega
    refine RL_count (fun i => ⟨tb 27 .any [(0, .sl (W.map fun r => [.sl (ints r)])), (1, .sl (V.map fun r => [.sl (ints r)])), (5, .int .i64 (i : Int))], [], 0⟩) (fun i => W.take i = V.take i) W.length 0 (hdA []) (by omega) rfl fun i hi ht J hJ => ?_
    by_cases h1 : i < W.length
    · have h2 : i < V.length := by omega
      simp only [List.length_map, Int.toNat_natCast, List.getElem?_map, List.getElem?_eq_getElem h1, List.getElem?_eq_getElem h2, push_cast, ↓J1, ↓J2, N1, N2, N3, reduceCtorEq, N4, N5, N6, reduceIte, N7, I1, I2, I3]
      refine ifB_intro (fun _ => ⟨by omega, by omega, _, t72 hC _ _ (hr _ (List.getElem_mem h1)) (hs _ (List.getElem_mem h2)), ?_⟩) (fun h => by simp at h; omega)
      simp only [push_cast, ↓J1, ↓J2, N1, N2, N3, reduceCtorEq, N4, N5, N6, reduceIte, N7, I1, I2, I3]
      refine ifB_intro (fun h => ?_) (fun h => ?_)
      · refine hJ h1 ?_ _ (hdA [])
        rw [List.take_succ_eq_append_getElem h1, List.take_succ_eq_append_getElem h2, ht]
        have h' : W[i] = V[i] := by simpa using h
        rw [h']
      · have : ¬ W = V := by rintro rfl; simp at h
        simp [this]
    · simp only [List.length_map, Int.toNat_natCast, List.getElem?_map, push_cast, ↓J1, ↓J2, N1, N2, N3, reduceCtorEq, N4, N5, N6, reduceIte, N7, I1, I2, I3]
      refine ifB_intro (fun h => by simp at h; omega) (fun h => ?_)
      rw [List.take_of_length_le (by omega), List.take_of_length_le (by omega)] at ht
      simp [ht]
  · have : ¬ W = V := by rintro rfl; simp at h
    simp [this]
theorem t74 (W : List (List Int)) (v : Int) (hv : 0 ≤ v ∧ v < 2^50) (hW : W.length < 2^50) (hr : ∀ r ∈ W, r.length < 2^50) : Ev C 74 [clA W, .int .i64 v] (.int .i64 (if szSS W v < 0 then -1 else szSS W v)) := by
  simp only [clA]
  refine rT hC Q74 ?_
  simp only [c74, push_cast, ↓J1, ↓J2, N1, N2, N3, reduceCtorEq, N4, N5, N6, reduceIte, N7, I1, I2, I3]
  repeat' (first
    | simp only [push_cast, ↓J1, ↓J2, N1, N2, N3, reduceCtorEq, N4, N5, N6, reduceIte, N7, I1, I2, I3]
    | refine ⟨_, t75 hC W v hv hW hr, ?_⟩
    | refine ifB_intro (fun h => ?_) (fun h => ?_))
  all_goals simp_all
  all_goals omega
theorem t79 (W : List (List Int)) (hW : W.length < 2^30) (hr : ∀ r ∈ W, r.length < 2^30) : Ev C 79 [clA W] (clO W) := by
  simp only [clA]
  refine rT hC Q79 ?_ (own_cl W)
  simp only [c79, push_cast, ↓J1, ↓J2, N1, N2, N3, reduceCtorEq, N4, N5, N6, reduceIte, N7, I1, I2, I3]
  refine ⟨_, t80 hC _ hW hr, ?_⟩
  simp only [push_cast, ↓J1, ↓J2, N1, N2, N3, reduceCtorEq, N4, N5, N6, reduceIte, N7, I1, I2, I3]
  simp only [clO]
  exact rtA
theorem t84 (W V : List (List Int)) (hW : W.length < 2^50) (hV : V.length < 2^50) (hr : ∀ r ∈ W, r.length < 2^50) (hs : ∀ r ∈ V, r.length < 2^50) : Ev C 84 [clA W, clA V] (.bool (decide (W = V))) := by
  simp only [clA]
  refine rT hC Q84 ?_
  simp only [c84, push_cast, ↓J1, ↓J2, N1, N2, N3, reduceCtorEq, N4, N5, N6, reduceIte, N7, I1, I2, I3]
  repeat' (first
    | simp only [push_cast, ↓J1, ↓J2, N1, N2, N3, reduceCtorEq, N4, N5, N6, reduceIte, N7, I1, I2, I3]
    | refine ⟨_, t85 hC W V hW hV hr hs, ?_⟩
    | refine ifB_intro (fun h => ?_) (fun h => ?_))
  all_goals simp_all
end
end Go.Proofs.YtjaccjeejeiphaaGreatDoor.X
set_option maxHeartbeats 1000000
set_option maxRecDepth 8000
set_option linter.unusedSimpArgs false
set_option linter.unusedVariables false
open Nat renaming reduceBEq → N1, reduceAdd → N2, reduceSub → N3, reduceMul → N4, reduceEqDiff → N5, reduceLeDiff → N6, reduceLT → N7
open Int renaming reduceLE → I1, reduceLT → I2, reduceToNat → I3
namespace Go.Proofs.YtjaccjeejeiphaaGreatDoor.X
open Go
theorem sum3 {a b c : Int} (ha : inR 0 36 a = true) (hb : inR 0 36 b = true) (hc : inR 0 36 c = true) : sumW [a, b, c] = a + b + c := by
  simp only [inR, Bool.and_eq_true, decide_eq_true_eq] at ha hb hc
  simp only [sumW, List.foldl]
  rw [Int.zero_add, wrap64 (n := a) (by omega) (by omega), wrap64 (n := a + b) (by omega) (by omega), wrap64 (by omega) (by omega)]
section
variable {C : CT} (hC : Closed Tryz.prog G1 md0 C)
include hC
theorem t268 (r : List Int) (hr : r.length < 2^50) : Ev C 268 [.sl (ints r)] (.int .i64 (sumW r)) := by
  refine rT hC Q268 ?_
  simp only [c268, ints, List.length_map, push_cast, ↓J1, ↓J2, N1, N2, N3, reduceCtorEq, N4, N5, N6, reduceIte, N7, I1, I2, I3]
  refine RL_count (fun i => ⟨tb 17 .any [(3, .int .i64 (sumW (r.take i))), (6, .sl (r.map fun n => [.int .i64 n])), (7, .int .i64 (r.length : Int)), (8, .int .i64 (i : Int))], [], 0⟩) (fun _ => True) r.length 0 (head_tb [] rfl (by simp only [keptV_cons, keptV_nil, tb_get, lk_same, lk_ne, lk_nil, ren, renL, lkp, N7, N1, N5, reduceIte, and_true, true_and, Nat.not_lt_zero, if_false, if_true, Nat.add_zero, Nat.zero_add]; simp [sumW]) rfl) (by omega) trivial fun i hi _ J hJ => ?_
  by_cases h1 : i < r.length
  · simp only [List.length_map, Int.toNat_natCast, List.getElem?_map, List.getElem?_eq_getElem h1, push_cast, ↓J1, ↓J2, N1, N2, N3, reduceCtorEq, N4, N5, N6, reduceIte, N7, I1, I2, I3]
    refine ifB_intro (fun _ => ⟨by omega, ?_⟩) (fun h => by simp at h; omega)
    refine hJ h1 trivial _ (hdA [] (hV := ?_))
    simp only [keptV_cons, keptV_nil, tb_get, lk_same, lk_ne, lk_nil, ren, renL, lkp, N7, N1, N5, reduceIte, and_true, true_and, Nat.not_lt_zero, if_false, if_true, Nat.add_zero, Nat.zero_add]
    rw [wrap64 (n := (i : Int) + 1) (by omega) (by omega), sumW_succ h1]
    simp
  · simp only [List.length_map, Int.toNat_natCast, List.getElem?_map, push_cast, ↓J1, ↓J2, N1, N2, N3, reduceCtorEq, N4, N5, N6, reduceIte, N7, I1, I2, I3]
    refine ifB_intro (fun h => by simp at h; omega) (fun h => ?_)
    rw [List.take_of_length_le (by omega)]
theorem t213 (W : List (List Int)) (hW : W.length < 2^50) (hr : ∀ r ∈ W, r.length < 2^50) : Ev C 213 [clA W] (.bool (goodW W)) := by
  simp only [clA, goodW]
  refine rT hC Q213 ?_
  simp only [c213, intss, List.length_map, push_cast, ↓J1, ↓J2, N1, N2, N3, reduceCtorEq, N4, N5, N6, reduceIte, N7, I1, I2, I3]
  refine ifB_intro (fun h => ?_) (fun h => ?_)
  · have h3 : W.length = 3 := by simp at h; omega
    rw [show (decide (W.length = 3) && W.all rowOk) = W.all rowOk by simp [h3]]
    refine RL_count (fun i => ⟨tb 39 .any [(10, .sl (W.map fun r => [.sl (ints r)])), (11, .int .i64 (W.length : Int)), (12, .int .i64 (i : Int))], [], 0⟩) (fun i => W.all rowOk = (W.drop i).all rowOk) W.length 0 (hdA []) (by omega) rfl fun i hi ht J hJ => ?_
    by_cases h1 : i < W.length
    · have hri := hr _ (List.getElem_mem h1)
      rw [List.drop_eq_getElem_cons h1, List.all_cons] at ht
      simp only [List.length_map, Int.toNat_natCast, List.getElem?_map, List.getElem?_eq_getElem h1, push_cast, ↓J1, ↓J2, N1, N2, N3, reduceCtorEq, N4, N5, N6, reduceIte, N7, I1, I2, I3]
      generalize W[i] = r at *
      refine ifB_intro (fun _ => ⟨by omega, ?_⟩) (fun h => by simp at h; omega)
      rw [ints_length]
      refine ifB_intro (fun h => ?_) (fun h => ?_)
      · refine ⟨_, t203 hC r _ _ hri, ?_⟩
        simp only [push_cast, ↓J1, ↓J2, N1, N2, N3, reduceCtorEq, N4, N5, N6, reduceIte, N7, I1, I2, I3]
        have h5 : r.length = 3 := by simp at h; omega
        refine ifB_intro (fun h => ?_) (fun h => ?_)
        · obtain ⟨a, b, c, rfl⟩ : ∃ a b c, r = [a, b, c] := by
            match r, h5 with
            | [a, b, c], _ => exact ⟨a, b, c, rfl⟩
          simp only [ints, push_cast, ↓J1, ↓J2, N1, N2, N3, reduceCtorEq, N4, N5, N6, reduceIte, N7, I1, I2, I3]
          simp only [List.all_cons, List.all_nil, Bool.and_true, Bool.and_eq_true] at h
          have e3 := sum3 h.1 h.2.1 h.2.2
          have e4 : rowOk [a, b, c] = decide (a + b + c = 36) := by
            simp [rowOk, e3, h.1, h.2.1, h.2.2]
          have b1 := h.1; have b2 := h.2.1; have b3 := h.2.2
          simp only [inR, Bool.and_eq_true, decide_eq_true_eq] at b1 b2 b3
          rw [wrap64 (n := a + b) (by omega) (by omega), wrap64 (n := a + b + c) (by omega) (by omega)]
          refine ifB_intro (fun hh => ?_) (fun hh => ?_)
          · refine hJ h1 ?_ _ (hdA [])
            rw [ht, e4, hh]; rfl
          · rw [ht, e4, hh]; rfl
        · rw [ht]; simp only [rowOk, h, Bool.and_false, Bool.false_and]
      · have h5 : ¬ r.length = 3 := by simp at h; omega
        rw [ht]; simp [rowOk, h5]
    · simp only [List.length_map, Int.toNat_natCast, List.getElem?_map, push_cast, ↓J1, ↓J2, N1, N2, N3, reduceCtorEq, N4, N5, N6, reduceIte, N7, I1, I2, I3]
      refine ifB_intro (fun h => by simp at h; omega) (fun h => ?_)
      rw [ht, List.drop_eq_nil_of_le (by omega)]
      rfl
  · have h3 : ¬ W.length = 3 := by simp at h; omega
    simp [h3]
theorem t217 (W : List (List Int)) (hW : W.length < 2^50) (hr : ∀ r ∈ W, r.length < 2^50) : Ev C 217 [clA W] (.bool (goodW W)) := by
  simp only [clA, goodW]
  refine rT hC Q217 ?_
  simp only [c217, intss, List.length_map, push_cast, ↓J1, ↓J2, N1, N2, N3, reduceCtorEq, N4, N5, N6, reduceIte, N7, I1, I2, I3]
  refine ifB_intro (fun h => ?_) (fun h => ?_)
  · have h3 : W.length = 3 := by simp at h; omega
    rw [show (decide (W.length = 3) && W.all rowOk) = W.all rowOk by simp [h3]]
    refine RL_count (fun i => ⟨tb 37 .any [(12, .sl (W.map fun r => [.sl (ints r)])), (13, .int .i64 (W.length : Int)), (14, .int .i64 (i : Int))], [], 0⟩) (fun i => W.all rowOk = (W.drop i).all rowOk) W.length 0 (hdA []) (by omega) rfl fun i hi ht J hJ => ?_
    by_cases h1 : i < W.length
    · have hri := hr _ (List.getElem_mem h1)
      rw [List.drop_eq_getElem_cons h1, List.all_cons] at ht
      simp only [List.length_map, Int.toNat_natCast, List.getElem?_map, List.getElem?_eq_getElem h1, push_cast, ↓J1, ↓J2, N1, N2, N3, reduceCtorEq, N4, N5, N6, reduceIte, N7, I1, I2, I3]
      generalize W[i] = r at *
      refine ifB_intro (fun _ => ⟨by omega, ?_⟩) (fun h => by simp at h; omega)
      rw [ints_length]
      refine ifB_intro (fun h => ?_) (fun h => ?_)
      · refine ⟨_, t268 hC r hri, ?_⟩
        simp only [push_cast, ↓J1, ↓J2, N1, N2, N3, reduceCtorEq, N4, N5, N6, reduceIte, N7, I1, I2, I3]
        have h5 : r.length = 3 := by simp at h; omega
        refine ifB_intro (fun h => ?_) (fun h => ?_)
        · have e4 : rowOk r = r.all (inR 0 36) := by
            simp only [rowOk, h5, h, decide_true, Bool.true_and, Bool.and_true]
          refine RL_count (fun k => ⟨tb 37 .any [(12, .sl (W.map fun r => [.sl (ints r)])), (13, .int .i64 (W.length : Int)), (14, .int .i64 (i : Int)), (26, .sl (r.map fun n => [.int .i64 n])), (27, .int .i64 (r.length : Int)), (28, .int .i64 (k : Int))], [], 0⟩) (fun k => r.all (inR 0 36) = (r.drop k).all (inR 0 36)) r.length 0 (head_tb [] rfl (by simp only [ints, List.length_map, keptV_cons, keptV_nil, tb_get, lk_same, lk_ne, lk_nil, ren, renL, lkp, N7, N1, N5, reduceIte, and_true, true_and, Nat.not_lt_zero, if_false, if_true, Nat.add_zero, Nat.zero_add]; simp) rfl) (by omega) rfl fun k hk hkt J' hJ' => ?_
          by_cases h6 : k < r.length
          · rw [List.drop_eq_getElem_cons h6, List.all_cons] at hkt
            simp only [List.length_map, Int.toNat_natCast, List.getElem?_map, List.getElem?_eq_getElem h6, push_cast, ↓J1, ↓J2, N1, N2, N3, reduceCtorEq, N4, N5, N6, reduceIte, N7, I1, I2, I3]
            refine ifB_intro (fun _ => ⟨by omega, _, t109 hC _ _ _, ?_⟩) (fun h => by simp at h; omega)
            simp only [push_cast, ↓J1, ↓J2, N1, N2, N3, reduceCtorEq, N4, N5, N6, reduceIte, N7, I1, I2, I3]
            refine ifB_intro (fun hh => ?_) (fun hh => ?_)
            · refine hJ' h6 ?_ _ (hdA [])
              rw [hkt]; simp only [inR] at hh ⊢; rw [hh]; rfl
            · rw [ht, e4, hkt]; simp only [inR] at hh ⊢; rw [hh]; rfl
          · simp only [List.length_map, Int.toNat_natCast, List.getElem?_map, push_cast, ↓J1, ↓J2, N1, N2, N3, reduceCtorEq, N4, N5, N6, reduceIte, N7, I1, I2, I3]
            refine ifB_intro (fun h => by simp at h; omega) (fun h => ?_)
            rw [List.drop_eq_nil_of_le (by omega)] at hkt
            refine hJ h1 ?_ _ (hdA [])
            rw [ht, e4, hkt]; rfl
        · rw [ht]; simp only [rowOk, h, Bool.and_false, Bool.false_and]
      · have h5 : ¬ r.length = 3 := by simp at h; omega
        rw [ht]; simp [rowOk, h5]
    · simp only [List.length_map, Int.toNat_natCast, List.getElem?_map, push_cast, ↓J1, ↓J2, N1, N2, N3, reduceCtorEq, N4, N5, N6, reduceIte, N7, I1, I2, I3]
      refine ifB_intro (fun h => by simp at h; omega) (fun h => ?_)
      rw [ht, List.drop_eq_nil_of_le (by omega)]
      rfl
  · have h3 : ¬ W.length = 3 := by simp at h; omega
    simp [h3]
theorem t322 (n : Int) : Ev C 322 [.int .i64 n] (.bool (inR 0 2 n)) := by
  refine rT hC Q322 ?_
  simp only [c322, push_cast, ↓J1, ↓J2, N1, N2, N3, reduceCtorEq, N4, N5, N6, reduceIte, N7, I1, I2, I3]
  refine ⟨_, t109 hC _ _ _, ?_⟩
  simp only [push_cast, ↓J1, ↓J2, N1, N2, N3, reduceCtorEq, N4, N5, N6, reduceIte, N7, I1, I2, I3]
  rfl
end
end Go.Proofs.YtjaccjeejeiphaaGreatDoor.X
