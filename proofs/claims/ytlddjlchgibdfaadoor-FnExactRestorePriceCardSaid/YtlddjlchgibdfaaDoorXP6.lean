/- A part of the proof: lemmas on the machine or on the functions that the law reaches. No condition of its own. -/
import Derived.Test.YtlddjlchgibdfaaDoorXP5
import Derived.Test.YtlddjlchgibdfaaDoorXP4
set_option maxHeartbeats 4000000
set_option maxRecDepth 8000
set_option linter.unusedSimpArgs false
set_option linter.unusedVariables false
open Nat renaming reduceBEq → N1, reduceAdd → N2, reduceSub → N3, reduceMul → N4, reduceEqDiff → N5, reduceLeDiff → N6, reduceLT → N7
open Int renaming reduceLE → I1, reduceLT → I2, reduceToNat → I3
namespace Go.Proofs.YtlddjlchgibdfaaDoor.X
open Go
attribute [local irreducible] Ev
def hasU (b : Brd) (s : Sta) (u : Int) : Bool := staOk b s && inR 0 (s.us.length - 1) u
def un0 : Un := ⟨0, 0, 0, 0⟩
def unOf (s : Sta) (u : Int) : Un := s.us.getD u.toNat un0
def canRe (b : Brd) (u : Un) : Bool := decide (0 ≤ u.at_) && decide (u.st < (kindOf b u.k).sp)
def hurt (b : Brd) (s : Sta) (u : Int) : Bool := hasU b s u && canRe b (unOf s u)
theorem uns_un {s : Sta} {k : Nat} (h : k < s.us.length) : (uns s.us)[k]? = some (unA (unOf s k)) := by
  simp [uns, unOf, List.getD, h]
theorem sta_brd {b : Brd} {s : Sta} (h : staOk b s = true) : brdOk b = true := by
  simp only [staOk, Bool.and_eq_true] at h; exact h.1
theorem sta_un {b : Brd} {s : Sta} (h : staOk b s = true) {k : Nat} (hk : k < s.us.length) : unOk b (unOf s k) = true := by
  simp only [staOk, staOk0, Bool.and_eq_true, List.all_eq_true] at h
  have := h.2.1.2 _ (List.getElem_mem hk)
  simpa [unOf, List.getD, hk] using this
theorem sta_kind {b : Brd} {s : Sta} (h : staOk b s = true) {k : Nat} (hk : k < s.us.length) : kindAsk b (unOf s k).k = true := by
  have := sta_un h hk
  simp only [unOk, Bool.and_eq_true] at this
  exact un_kind (sta_brd h) this.1.1.2
theorem sta_len {b : Brd} {s : Sta} (h : staOk b s = true) : s.us.length ≤ 12 := by
  simp only [staOk, staOk0, Bool.and_eq_true, decide_eq_true_eq] at h; omega
theorem unOk_at {b : Brd} {u : Un} (h : unOk b u = true) (ha : ¬ u.at_ < 0) : 0 ≤ u.at_ ∧ u.at_ < b.m.w * b.m.h := by
  simp only [unOk, placed, inR, Bool.and_eq_true, Bool.or_eq_true, decide_eq_true_eq] at h
  omega
theorem ints_sn (l : List Int) (x : Int) : ints l ++ [[.int .i64 x]] = ints (l ++ [x]) := by simp [ints]
theorem fil_cnt {us : List Un} {a sd : Int} : (fil (isAt a sd) us us.length).length = cnt us a sd := by
  rw [fil_len (Nat.le_refl _), List.take_length]; rfl
section
variable {C : CT} (hC : Closed Tryd.prog G1 md0 C)
include hC
theorem t179 (s : Sta) (a sd : Int) (hl : s.us.length < 2^40) : Ev C 179 [.agg (staF s), .int .i64 a, .int .i64 sd] (.ow 1 (ints (fil (isAt a sd) s.us s.us.length))) := by
  simp only [staF]
  refine rT hC Q179 ?_ (own_ints _)
  simp only [c179, uns_length, push_cast, ↓J1, ↓J2, N1, N2, N3, reduceCtorEq, N4, N5, N6, reduceIte, N7, I1, I2, I3]
  refine RL_count (fun i => ⟨tb 34 .any [(7, .ref 0 none 1 0 (fil (isAt a sd) s.us i).length), (1, .int .i64 a), (2, .int .i64 sd), (11, .sl (uns s.us)), (12, .int .i64 (s.us.length : Int)), (13, .int .i64 (i : Int))], [(0, .slice 1 (ints (fil (isAt a sd) s.us i)))], 1⟩) (fun _ => True) s.us.length 0 (hdO 7 0 1 []) (by omega) trivial fun i hi _ J hJ => ?_
  by_cases h1 : i < s.us.length
  · have e1 := uns_get h1
    have e2 := fil_succ (p := (isAt a sd)) h1
    have hfl := fil_le (p := (isAt a sd)) hi
    have tk : List.take (fil (isAt a sd) s.us i).length (ints (fil (isAt a sd) s.us i)) = ints (fil (isAt a sd) s.us i) := List.take_of_length_le (by rw [ints_length]; omega)
    generalize s.us[i] = u at *
    simp only [Int.toNat_natCast, e1, unA, push_cast, ↓J1, ↓J2, N1, N2, N3, reduceCtorEq, N4, N5, N6, reduceIte, N7, I1, I2, I3]
    refine ifB_intro (fun _ => ?_) (fun h => by simp at h; omega)
    repeat (refine ⟨by omega, ?_⟩)
    cases g1 : decide (u.at_ = a)
    · have hp : (isAt a sd) u = false := by simp only [isAt, g1, Bool.false_and, Bool.and_false]
      rw [hp, if_neg Bool.false_ne_true] at e2
      simp only [g1, push_cast, ↓J1, ↓J2, N1, N2, N3, reduceCtorEq, N4, N5, N6, reduceIte, N7, I1, I2, I3]
      exact hJ h1 trivial _ (by rw [e2]; exact (hdA [(0, 0)]))
    cases g2 : decide (u.sd = sd)
    · have hp : (isAt a sd) u = false := by simp only [isAt, g1, g2, Bool.false_and, Bool.and_false]
      rw [hp, if_neg Bool.false_ne_true] at e2
      simp only [g1, g2, push_cast, ↓J1, ↓J2, N1, N2, N3, reduceCtorEq, N4, N5, N6, reduceIte, N7, I1, I2, I3]
      exact hJ h1 trivial _ (by rw [e2]; exact (hdA [(0, 0)]))
    have hp : (isAt a sd) u = true := by simp only [isAt, g1, g2, Bool.and_self]
    rw [hp, if_pos rfl] at e2
    simp only [g1, g2, tk, ints_length, allScs, apYR_sc, push_cast, ↓J1, ↓J2, N1, N2, N3, reduceCtorEq, N4, N5, N6, reduceIte, N7, I1, I2, I3]
    repeat (refine ⟨by omega, ?_⟩)
    refine hJ h1 trivial _ ?_
    rw [e2]
    refine (hdA [(3, 0)] (hh := ?_))
    simp only [canR, canB, renO, renL, ren, lkp, hget, N7, N5, Nat.not_lt_zero, if_false, if_true, reduceIte, List.append_nil, List.nil_append, ints_sn]
  · simp only [uns_length, push_cast, ↓J1, ↓J2, N1, N2, N3, reduceCtorEq, N4, N5, N6, reduceIte, N7, I1, I2, I3]
    refine ifB_intro (fun h => by simp at h; omega) (fun h => ?_)
    obtain rfl : i = s.us.length := by omega
    exact RetTo_ow rfl (by rw [ints_length])
theorem t158 (b : Brd) (s : Sta) (hb : BrdB (2^50) b) (hl : s.us.length < 2^40) : Ev C 158 [brdF b, .agg (staF s)] (.bool (staOk b s)) := by
  have c1 := t66 hC b hb
  have c2 := fun u g => t178 hC b u g hb
  have c3 := fun a sd => t179 hC s a sd hl
  simp only [brdF, rulF, mpF, List.cons_append, List.nil_append, staF] at *
  refine rT hC Q158 ?_
  simp only [c158, push_cast, ↓J1, ↓J2, N1, N2, N3, reduceCtorEq, N4, N5, N6, reduceIte, N7, I1, I2, I3]
  refine ⟨_, c1, ?_⟩
  cases g1 : brdOk b
  · simp only [staOk, g1, push_cast, ↓J1, ↓J2, N1, N2, N3, reduceCtorEq, N4, N5, N6, reduceIte, N7, I1, I2, I3]
  simp only [push_cast, ↓J1, ↓J2, N1, N2, N3, reduceCtorEq, N4, N5, N6, reduceIte, N7, I1, I2, I3]
  refine ⟨_, tIn hC _ _ _, ?_⟩
  cases g2 : inR 0 b.r.turns s.t
  · simp only [staOk, staOk0, g1, g2, push_cast, ↓J1, ↓J2, N1, N2, N3, reduceCtorEq, N4, N5, N6, reduceIte, N7, I1, I2, I3]
  simp only [push_cast, ↓J1, ↓J2, N1, N2, N3, reduceCtorEq, N4, N5, N6, reduceIte, N7, I1, I2, I3]
  refine ⟨_, tIn hC _ _ _, ?_⟩
  cases g3 : inR 0 2 s.w
  · simp only [staOk, staOk0, g1, g2, g3, push_cast, ↓J1, ↓J2, N1, N2, N3, reduceCtorEq, N4, N5, N6, reduceIte, N7, I1, I2, I3]
  have e12 : decide (12 < (s.us.length : Int)) = !decide ((s.us.length : Int) ≤ 12) := by rw [Bool.eq_iff_iff]; simp
  simp only [uns_length, e12, push_cast, ↓J1, ↓J2, N1, N2, N3, reduceCtorEq, N4, N5, N6, reduceIte, N7, I1, I2, I3]
  cases g4 : decide ((s.us.length : Int) ≤ 12)
  · simp only [staOk, staOk0, g1, g2, g3, g4, push_cast, ↓J1, ↓J2, N1, N2, N3, reduceCtorEq, N4, N5, N6, reduceIte, N7, I1, I2, I3]
  simp only [uns_length, push_cast, ↓J1, ↓J2, N1, N2, N3, reduceCtorEq, N4, N5, N6, reduceIte, N7, I1, I2, I3]
  rw [show staOk b s = (s.us.all (unOk b) && s.us.all (stackOk b s.us)) by simp only [staOk, staOk0, g1, g2, g3, g4, Bool.true_and]]
  refine RL_count (fun i => ⟨tb 80 .any [(2, .ptr 0 none 0 0 0), (3, .ptr 1 none 0 0 0), (34, .sl (uns s.us)), (35, .int .i64 (s.us.length : Int)), (36, .int .i64 (i : Int))], [(1, .var (staF s)), (0, .var (rulF b.r ++ mpF b.m))], 2⟩) (fun i => s.us.all (unOk b) = (s.us.drop i).all (unOk b)) s.us.length 0 (hdA [(1, 1), (0, 0)]) (by omega) rfl fun i hi ht J hJ => ?_
  simp only [brdF, rulF, mpF, List.cons_append, List.nil_append, staF]
  by_cases h1 : i < s.us.length
  · have e1 := uns_get h1
    rw [List.drop_eq_getElem_cons h1, List.all_cons] at ht
    generalize s.us[i] = u at *
    have c2' := c2 u g1
    simp only [Int.toNat_natCast, e1, unA, push_cast, ↓J1, ↓J2, N1, N2, N3, reduceCtorEq, N4, N5, N6, reduceIte, N7, I1, I2, I3] at c2' ⊢
    refine ifB_intro (fun _ => ?_) (fun h => by simp at h; omega)
    repeat (refine ⟨by omega, ?_⟩)
    refine ⟨_, c2', ?_⟩
    cases g5 : unOk b u
    · rw [ht, g5]
      simp only [Bool.false_and, push_cast, ↓J1, ↓J2, N1, N2, N3, reduceCtorEq, N4, N5, N6, reduceIte, N7, I1, I2, I3]
    simp only [push_cast, ↓J1, ↓J2, N1, N2, N3, reduceCtorEq, N4, N5, N6, reduceIte, N7, I1, I2, I3]
    exact hJ h1 (by rw [ht, g5, Bool.true_and]) _ (hdA [(1, 1), (0, 0)])
  · simp only [uns_length, push_cast, ↓J1, ↓J2, N1, N2, N3, reduceCtorEq, N4, N5, N6, reduceIte, N7, I1, I2, I3]
    refine ifB_intro (fun h => by simp at h; omega) (fun h => ?_)
    rw [List.drop_eq_nil_of_le (by omega)] at ht
    have hall : s.us.all (unOk b) = true := by rw [ht]; rfl
    rw [hall, Bool.true_and]
    clear hJ ht h1 hi
    refine RL_count (fun i => ⟨tb 80 .any [(2, .ptr 0 none 0 0 0), (3, .ptr 1 none 0 0 0), (46, .sl (uns s.us)), (47, .int .i64 (s.us.length : Int)), (48, .int .i64 (i : Int))], [(1, .var (staF s)), (0, .var (rulF b.r ++ mpF b.m))], 2⟩) (fun i => s.us.all (stackOk b s.us) = (s.us.drop i).all (stackOk b s.us)) s.us.length 0 (hdA [(1, 1), (0, 0)]) (by omega) rfl fun i hi ht J hJ => ?_
    simp only [brdF, rulF, mpF, List.cons_append, List.nil_append, staF]
    by_cases h1 : i < s.us.length
    · have e1 := uns_get h1
      have hsd := un_sd (List.all_eq_true.1 hall _ (List.getElem_mem h1))
      rw [List.drop_eq_getElem_cons h1, List.all_cons] at ht
      generalize s.us[i] = u at *
      have es : stackOk b s.us u = !(decide (0 ≤ u.at_) && (decide (0 < (cnt s.us u.at_ (1 - u.sd) : Int)) || decide (b.r.stack < (cnt s.us u.at_ u.sd : Int)))) := by simp [stackOk]
      simp only [Int.toNat_natCast, e1, unA, push_cast, ↓J1, ↓J2, N1, N2, N3, reduceCtorEq, N4, N5, N6, reduceIte, N7, I1, I2, I3]
      refine ifB_intro (fun _ => ?_) (fun h => by simp at h; omega)
      repeat (refine ⟨by omega, ?_⟩)
      cases g5 : decide (0 ≤ u.at_)
      · have : stackOk b s.us u = true := by rw [es, g5]; rfl
        simp only [push_cast, ↓J1, ↓J2, N1, N2, N3, reduceCtorEq, N4, N5, N6, reduceIte, N7, I1, I2, I3]
        exact hJ h1 (by rw [ht, this, Bool.true_and]) _ (hdA [(1, 1), (0, 0)])
      rw [g5, Bool.true_and] at es
      simp only [push_cast, ↓J1, ↓J2, N1, N2, N3, reduceCtorEq, N4, N5, N6, reduceIte, N7, I1, I2, I3]
      rw [wrap64 (n := 1 - u.sd) (by omega) (by omega)]
      refine ⟨_, c3 _ _, ?_⟩
      simp only [ints_length, fil_cnt, push_cast, ↓J1, ↓J2, N1, N2, N3, reduceCtorEq, N4, N5, N6, reduceIte, N7, I1, I2, I3]
      cases g6 : decide (0 < (cnt s.us u.at_ (1 - u.sd) : Int))
      · rw [g6, Bool.false_or] at es
        simp only [push_cast, ↓J1, ↓J2, N1, N2, N3, reduceCtorEq, N4, N5, N6, reduceIte, N7, I1, I2, I3]
        refine ⟨_, c3 _ _, ?_⟩
        simp only [ints_length, fil_cnt, push_cast, ↓J1, ↓J2, N1, N2, N3, reduceCtorEq, N4, N5, N6, reduceIte, N7, I1, I2, I3]
        cases g7 : decide (b.r.stack < (cnt s.us u.at_ u.sd : Int))
        · rw [g7] at es
          simp only [push_cast, ↓J1, ↓J2, N1, N2, N3, reduceCtorEq, N4, N5, N6, reduceIte, N7, I1, I2, I3]
          exact hJ h1 (by rw [ht, es]; rfl) _ (hdA [(1, 1), (0, 0)])
        · rw [g7] at es
          rw [ht, es]
          simp only [push_cast, ↓J1, ↓J2, N1, N2, N3, reduceCtorEq, N4, N5, N6, reduceIte, N7, I1, I2, I3]
      · rw [g6] at es
        rw [ht, es]
        simp only [push_cast, ↓J1, ↓J2, N1, N2, N3, reduceCtorEq, N4, N5, N6, reduceIte, N7, I1, I2, I3]
    · simp only [uns_length, push_cast, ↓J1, ↓J2, N1, N2, N3, reduceCtorEq, N4, N5, N6, reduceIte, N7, I1, I2, I3]
      refine ifB_intro (fun h => by simp at h; omega) (fun h => ?_)
      rw [ht, List.drop_eq_nil_of_le (by omega)]
      rfl
theorem t159 (b : Brd) (s : Sta) (g1 : brdOk b = true) (hb : BrdB (2^50) b) (hl : s.us.length < 2^40) : Ev C 159 [brdF b, .agg (staF s)] (.bool (staOk0 b s)) := by
  have c1 := t119 hC b
  have hwh := brd_wh g1
  have c2 := fun u => t180 hC b u g1 hb
  simp only [brdF, rulF, mpF, List.cons_append, List.nil_append, staF] at *
  refine rT hC Q159 ?_
  simp only [c159, push_cast, ↓J1, ↓J2, N1, N2, N3, reduceCtorEq, N4, N5, N6, reduceIte, N7, I1, I2, I3]
  refine ⟨_, tRange hC _ _ _, ?_⟩
  cases g2 : inR 0 b.r.turns s.t
  · simp only [staOk0, g2, push_cast, ↓J1, ↓J2, N1, N2, N3, reduceCtorEq, N4, N5, N6, reduceIte, N7, I1, I2, I3]
  simp only [push_cast, ↓J1, ↓J2, N1, N2, N3, reduceCtorEq, N4, N5, N6, reduceIte, N7, I1, I2, I3]
  refine ⟨_, tRange hC _ _ _, ?_⟩
  cases g3 : inR 0 2 s.w
  · simp only [staOk0, g2, g3, push_cast, ↓J1, ↓J2, N1, N2, N3, reduceCtorEq, N4, N5, N6, reduceIte, N7, I1, I2, I3]
  have e12 : decide (12 < (s.us.length : Int)) = !decide ((s.us.length : Int) ≤ 12) := by rw [Bool.eq_iff_iff]; simp
  simp only [uns_length, e12, push_cast, ↓J1, ↓J2, N1, N2, N3, reduceCtorEq, N4, N5, N6, reduceIte, N7, I1, I2, I3]
  cases g4 : decide ((s.us.length : Int) ≤ 12)
  · simp only [staOk0, g2, g3, g4, push_cast, ↓J1, ↓J2, N1, N2, N3, reduceCtorEq, N4, N5, N6, reduceIte, N7, I1, I2, I3]
  simp only [uns_length, push_cast, ↓J1, ↓J2, N1, N2, N3, reduceCtorEq, N4, N5, N6, reduceIte, N7, I1, I2, I3]
  rw [show staOk0 b s = (s.us.all (unOk b) && s.us.all (stackOk b s.us)) by simp only [staOk0, g2, g3, g4, Bool.true_and]]
  refine ⟨_, c1, ?_⟩
  simp only [Int.toNat_natCast, uns_length, push_cast, ↓J1, ↓J2, N1, N2, N3, reduceCtorEq, N4, N5, N6, reduceIte, N7, I1, I2, I3]
  repeat (refine ⟨by omega, ?_⟩)
  refine RL_count (fun i => ⟨tb 80 .any [(2, .ptr 0 none 0 0 0), (5, .ref 1 none 2 0 b.m.t.length), (31, .sl (uns s.us)), (32, .int .i64 (s.us.length : Int)), (33, .int .i64 (i : Int))], [(1, .slice 2 (tblR (s.us.take i) b.m.t.length)), (0, .var (rulF b.r ++ mpF b.m))], 2⟩) (fun i => ∀ j (h : j < s.us.length), j < i → unOk b s.us[j] = true ∧ stackOk b (s.us.take (j + 1)) s.us[j] = true) s.us.length 0 (hdA [(2, 1), (0, 0)] (hh := ?_)) (by omega) (by intro j h h'; omega) fun i hi ht J hJ => ?_
  · rw [List.take_zero, tblR_nil]; simp only [canR, canB, renO, renL, ren, lkp, hget, N7, N5, Nat.not_lt_zero, if_false, if_true, reduceIte, List.append_nil, List.nil_append]; rfl
  simp only [brdF, rulF, mpF, List.cons_append, List.nil_append, staF]
  by_cases h1 : i < s.us.length
  · have e1 := uns_get h1
    have bad : (unOk b s.us[i] = false ∨ stackOk b (s.us.take (i + 1)) s.us[i] = false) → (s.us.all (unOk b) && s.us.all (stackOk b s.us)) = false := by
      rintro (h | h)
      · rw [show s.us.all (unOk b) = false from List.all_eq_false.2 ⟨_, List.getElem_mem h1, by simp [h]⟩]; rfl
      · rw [show s.us.all (stackOk b s.us) = false from List.all_eq_false.2 ⟨_, List.getElem_mem h1, by
          intro hh
          rw [stack_mono (i + 1) hh] at h; cases h⟩, Bool.and_false]
    have good : unOk b s.us[i] = true → stackOk b (s.us.take (i + 1)) s.us[i] = true → ∀ j (h : j < s.us.length), j < i + 1 → unOk b s.us[j] = true ∧ stackOk b (s.us.take (j + 1)) s.us[j] = true := by
      intro k1 k2 j hj hji
      by_cases hij : j = i
      · subst hij; exact ⟨k1, k2⟩
      · exact ht j hj (by omega)
    have hJ' := fun k1 k2 => hJ h1 (good k1 k2)
    have taway := tblR_away (n := b.m.t.length) h1
    have tadd := fun a s' => tblR_add (n := b.m.t.length) (a := a) (s := s') h1
    clear hJ good ht
    generalize hu : s.us[i] = u at *
    have c2' := c2 u
    simp only [Int.toNat_natCast, e1, unA, push_cast, ↓J1, ↓J2, N1, N2, N3, reduceCtorEq, N4, N5, N6, reduceIte, N7, I1, I2, I3] at c2' ⊢
    refine ifB_intro (fun _ => ?_) (fun h => by simp at h; omega)
    repeat (refine ⟨by omega, ?_⟩)
    refine ⟨_, c2', ?_⟩
    cases g5 : unOk b u
    · simp only [bad (.inl g5), push_cast, ↓J1, ↓J2, N1, N2, N3, reduceCtorEq, N4, N5, N6, reduceIte, N7, I1, I2, I3]
    simp only [push_cast, ↓J1, ↓J2, N1, N2, N3, reduceCtorEq, N4, N5, N6, reduceIte, N7, I1, I2, I3]
    have hsd := un_sd g5
    have es : stackOk b (s.us.take (i + 1)) u = !(decide (0 ≤ u.at_) && (decide (0 < (cnt (s.us.take (i + 1)) u.at_ (1 - u.sd) : Int)) || decide (b.r.stack < (cnt (s.us.take (i + 1)) u.at_ u.sd : Int)))) := by simp [stackOk]
    by_cases g6 : u.at_ < 0
    · have g6' : decide (u.at_ < 0) = true := decide_eq_true g6
      simp only [g6', push_cast, ↓J1, ↓J2, N1, N2, N3, reduceCtorEq, N4, N5, N6, reduceIte, N7, I1, I2, I3]
      refine hJ' g5 (by rw [es, decide_eq_false (by omega)]; rfl) _ ?_
      rw [taway g6]
      exact (hdA [(1, 1), (0, 0)])
    have g6' : decide (u.at_ < 0) = false := decide_eq_false g6
    have hat := unOk_at g5 (by omega)
    obtain ⟨a, ha⟩ : ∃ a : Nat, u.at_ = a := ⟨u.at_.toNat, by omega⟩
    have han : a < b.m.t.length := by omega
    have ea := fun us => tblR_get (us := us) han
    rw [decide_eq_true (show (0 : Int) ≤ u.at_ by omega), Bool.true_and] at es
    have cl := cnt_le_len (s.us.take i) a 0
    have cl1 := cnt_le_len (s.us.take i) a 1
    have tl : (s.us.take i).length ≤ s.us.length := by rw [List.length_take]; omega
    have ga : decide ((a : Int) < 0) = false := decide_eq_false (by omega)
    rw [ha] at es
    rcases hsd with h0 | h0
    · have tadd' := tadd a 0 ha h0 (by omega) han
      rw [h0] at es
      have w1 : IntKind.i64.wrap (1 - 0) = 1 := by decide
      have w2 : IntKind.i64.wrap ((cnt (s.us.take i) (a : Int) 0 : Int) + 1) = (cnt (s.us.take i) (a : Int) 0 : Int) + 1 := wrap64 (by omega) (by omega)
      simp only [tblRow, List.set_cons_zero, List.set_cons_succ, Int.cast_ofNat_Int] at tadd'
      simp only [ha, ga, h0, w1, ea, tblR_length, tblRow, Int.toNat_natCast, push_cast, ↓J1, ↓J2, N1, N2, N3, reduceCtorEq, N4, N5, N6, reduceIte, N7, I1, I2, I3]
      repeat (refine ⟨by omega, ?_⟩)
      simp only [w2, ← tadd', ea, tblR_length, tblRow, Int.toNat_natCast, push_cast, ↓J1, ↓J2, N1, N2, N3, reduceCtorEq, N4, N5, N6, reduceIte, N7, I1, I2, I3]
      rw [show (1 : Int) - 0 = 1 by decide] at es
      cases g7 : decide (0 < (cnt (s.us.take (i + 1)) (a : Int) 1 : Int))
      · rw [g7, Bool.false_or] at es
        simp only [tblR_length, ea, tblRow, Int.toNat_natCast, push_cast, ↓J1, ↓J2, N1, N2, N3, reduceCtorEq, N4, N5, N6, reduceIte, N7, I1, I2, I3]
        repeat (refine ⟨by omega, ?_⟩)
        cases g8 : decide (b.r.stack < (cnt (s.us.take (i + 1)) (a : Int) 0 : Int))
        · rw [g8] at es
          simp only [push_cast, ↓J1, ↓J2, N1, N2, N3, reduceCtorEq, N4, N5, N6, reduceIte, N7, I1, I2, I3]
          exact hJ' g5 es _ (hdA [(1, 1), (0, 0)])
        · rw [g8] at es
          simp only [bad (.inr es), push_cast, ↓J1, ↓J2, N1, N2, N3, reduceCtorEq, N4, N5, N6, reduceIte, N7, I1, I2, I3]
      · rw [g7] at es
        simp only [bad (.inr es), push_cast, ↓J1, ↓J2, N1, N2, N3, reduceCtorEq, N4, N5, N6, reduceIte, N7, I1, I2, I3]
    · have tadd' := tadd a 1 ha h0 (by omega) han
      rw [h0] at es
      have w1 : IntKind.i64.wrap (1 - 1) = 0 := by decide
      have w2 : IntKind.i64.wrap ((cnt (s.us.take i) (a : Int) 1 : Int) + 1) = (cnt (s.us.take i) (a : Int) 1 : Int) + 1 := wrap64 (by omega) (by omega)
      simp only [tblRow, List.set_cons_zero, List.set_cons_succ, Int.cast_ofNat_Int] at tadd'
      simp only [ha, ga, h0, w1, ea, tblR_length, tblRow, Int.toNat_natCast, push_cast, ↓J1, ↓J2, N1, N2, N3, reduceCtorEq, N4, N5, N6, reduceIte, N7, I1, I2, I3]
      repeat (refine ⟨by omega, ?_⟩)
      simp only [w2, ← tadd', ea, tblR_length, tblRow, Int.toNat_natCast, push_cast, ↓J1, ↓J2, N1, N2, N3, reduceCtorEq, N4, N5, N6, reduceIte, N7, I1, I2, I3]
      rw [show (1 : Int) - 1 = 0 by decide] at es
      cases g7 : decide (0 < (cnt (s.us.take (i + 1)) (a : Int) 0 : Int))
      · rw [g7, Bool.false_or] at es
        simp only [tblR_length, ea, tblRow, Int.toNat_natCast, push_cast, ↓J1, ↓J2, N1, N2, N3, reduceCtorEq, N4, N5, N6, reduceIte, N7, I1, I2, I3]
        repeat (refine ⟨by omega, ?_⟩)
        cases g8 : decide (b.r.stack < (cnt (s.us.take (i + 1)) (a : Int) 1 : Int))
        · rw [g8] at es
          simp only [push_cast, ↓J1, ↓J2, N1, N2, N3, reduceCtorEq, N4, N5, N6, reduceIte, N7, I1, I2, I3]
          exact hJ' g5 es _ (hdA [(1, 1), (0, 0)])
        · rw [g8] at es
          simp only [bad (.inr es), push_cast, ↓J1, ↓J2, N1, N2, N3, reduceCtorEq, N4, N5, N6, reduceIte, N7, I1, I2, I3]
      · rw [g7] at es
        simp only [bad (.inr es), push_cast, ↓J1, ↓J2, N1, N2, N3, reduceCtorEq, N4, N5, N6, reduceIte, N7, I1, I2, I3]
  · simp only [uns_length, push_cast, ↓J1, ↓J2, N1, N2, N3, reduceCtorEq, N4, N5, N6, reduceIte, N7, I1, I2, I3]
    refine ifB_intro (fun h => by simp at h; omega) (fun h => ?_)
    have hall : s.us.all (unOk b) = true := by
      rw [List.all_eq_true]; intro u hm
      obtain ⟨j, hj, rfl⟩ := List.getElem_of_mem hm
      exact (ht j hj (by omega)).1
    rw [hall, stack_all (fun j hj => (ht j hj (by omega)).1) (fun j hj => (ht j hj (by omega)).2)]
    rfl
end
end Go.Proofs.YtlddjlchgibdfaaDoor.X
set_option maxHeartbeats 4000000
set_option maxRecDepth 8000
set_option linter.unusedSimpArgs false
set_option linter.unusedVariables false
open Nat renaming reduceBEq → N1, reduceAdd → N2, reduceSub → N3, reduceMul → N4, reduceEqDiff → N5, reduceLeDiff → N6, reduceLT → N7
open Int renaming reduceLE → I1, reduceLT → I2, reduceToNat → I3
namespace Go.Proofs.YtlddjlchgibdfaaDoor.X
open Go
attribute [local irreducible] Ev
section
variable {C : CT} (hC : Closed Tryd.prog G1 md0 C)
include hC
theorem t121 (b : Brd) (s : Sta) (u : Int) (hb : BrdB (2^50) b) (hl : s.us.length < 2^40) : Ev C 121 [brdF b, .agg (staF s), .int .i64 u] (.bool (hasU b s u)) := by
  have c1 := t158 hC b s hb hl
  simp only [brdF, rulF, mpF, List.cons_append, List.nil_append, staF] at *
  refine rT hC Q121 ?_
  simp only [c121, push_cast, ↓J1, ↓J2, N1, N2, N3, reduceCtorEq, N4, N5, N6, reduceIte, N7, I1, I2, I3]
  refine ⟨_, c1, ?_⟩
  cases g1 : staOk b s
  · simp only [hasU, g1, Bool.false_and, push_cast, ↓J1, ↓J2, N1, N2, N3, reduceCtorEq, N4, N5, N6, reduceIte, N7, I1, I2, I3]
  simp only [uns_length, push_cast, ↓J1, ↓J2, N1, N2, N3, reduceCtorEq, N4, N5, N6, reduceIte, N7, I1, I2, I3]
  rw [wrap64 (n := (s.us.length : Int) - 1) (by omega) (by omega)]
  refine ⟨_, tIn hC _ _ _, ?_⟩
  simp only [hasU, g1, Bool.true_and, push_cast, ↓J1, ↓J2, N1, N2, N3, reduceCtorEq, N4, N5, N6, reduceIte, N7, I1, I2, I3]
theorem t123 (b : Brd) (s : Sta) (hb : BrdB (2^50) b) (hl : s.us.length < 2^40) : Ev C 123 [brdF b, .agg (staF s)] (.bool (staOk b s)) := by
  have c1 := t69 hC b hb
  have c2 := fun g => t159 hC b s g hb hl
  simp only [brdF, rulF, mpF, List.cons_append, List.nil_append, staF] at *
  refine rT hC Q123 ?_
  simp only [c123, push_cast, ↓J1, ↓J2, N1, N2, N3, reduceCtorEq, N4, N5, N6, reduceIte, N7, I1, I2, I3]
  refine ⟨_, c1, ?_⟩
  cases g1 : brdOk b
  · simp only [staOk, g1, Bool.false_and, push_cast, ↓J1, ↓J2, N1, N2, N3, reduceCtorEq, N4, N5, N6, reduceIte, N7, I1, I2, I3]
  simp only [push_cast, ↓J1, ↓J2, N1, N2, N3, reduceCtorEq, N4, N5, N6, reduceIte, N7, I1, I2, I3]
  refine ⟨_, c2 g1, ?_⟩
  simp only [staOk, g1, Bool.true_and, push_cast, ↓J1, ↓J2, N1, N2, N3, reduceCtorEq, N4, N5, N6, reduceIte, N7, I1, I2, I3]
theorem t81 (b : Brd) (s : Sta) (u : Int) (hb : BrdB (2^50) b) (hl : s.us.length < 2^40) : Ev C 81 [brdF b, .agg (staF s), .int .i64 u] (.bool (hasU b s u)) := by
  have c1 := t123 hC b s hb hl
  simp only [brdF, rulF, mpF, List.cons_append, List.nil_append, staF] at *
  refine rT hC Q81 ?_
  simp only [c81, push_cast, ↓J1, ↓J2, N1, N2, N3, reduceCtorEq, N4, N5, N6, reduceIte, N7, I1, I2, I3]
  refine ⟨_, c1, ?_⟩
  cases g1 : staOk b s
  · simp only [hasU, g1, Bool.false_and, push_cast, ↓J1, ↓J2, N1, N2, N3, reduceCtorEq, N4, N5, N6, reduceIte, N7, I1, I2, I3]
  simp only [uns_length, push_cast, ↓J1, ↓J2, N1, N2, N3, reduceCtorEq, N4, N5, N6, reduceIte, N7, I1, I2, I3]
  refine ⟨_, tIdx hC _ _ (by omega), ?_⟩
  simp only [hasU, g1, Bool.true_and, push_cast, ↓J1, ↓J2, N1, N2, N3, reduceCtorEq, N4, N5, N6, reduceIte, N7, I1, I2, I3]
theorem t82 (b : Brd) (u : Un) (hk : kindAsk b u.k = true) (hb : BrdB (2^50) b) : Ev C 82 [brdF b, .agg (unA u)] (.bool (canRe b u)) := by
  have hk' := kind_at hk
  obtain ⟨k, ek⟩ : ∃ m : Nat, u.k = m := ⟨u.k.toNat, by omega⟩
  have e1 := kins_get (b := b) (k := k) (by omega)
  have b2 := hb.r.ks
  simp only [brdF, rulF, mpF, List.cons_append, List.nil_append, unA, canRe] at *
  refine rT hC Q82 ?_
  simp only [c82, push_cast, ↓J1, ↓J2, N1, N2, N3, reduceCtorEq, N4, N5, N6, reduceIte, N7, I1, I2, I3]
  cases g1 : decide (0 ≤ u.at_)
  · simp only [push_cast, ↓J1, ↓J2, N1, N2, N3, reduceCtorEq, N4, N5, N6, reduceIte, N7, I1, I2, I3]
  simp only [ek, Int.toNat_natCast, e1, kinA, kins_length, push_cast, ↓J1, ↓J2, N1, N2, N3, reduceCtorEq, N4, N5, N6, reduceIte, N7, I1, I2, I3]
  all_goals omega
theorem t79 (b : Brd) (s : Sta) (u : Int) (hb : BrdB (2^50) b) (hl : s.us.length < 2^40) : Ev C 79 [brdF b, .agg (staF s), .int .i64 u] (.bool (hurt b s u)) := by
  have c1 := t121 hC b s u hb hl
  have b2 := hb.r.ks
  have kg := fun (k : Nat) (h : k < b.r.ks.length) => kins_get h
  have sk := fun (g : staOk b s = true) (k : Nat) (h : k < s.us.length) => kind_at (sta_kind g h)
  have su := fun (k : Nat) (h : k < s.us.length) => uns_un h
  simp only [brdF, rulF, mpF, List.cons_append, List.nil_append, staF] at *
  refine rT hC Q79 ?_
  simp only [c79, push_cast, ↓J1, ↓J2, N1, N2, N3, reduceCtorEq, N4, N5, N6, reduceIte, N7, I1, I2, I3]
  refine ⟨_, c1, ?_⟩
  cases g1 : hasU b s u
  · simp only [hurt, g1, Bool.false_and, push_cast, ↓J1, ↓J2, N1, N2, N3, reduceCtorEq, N4, N5, N6, reduceIte, N7, I1, I2, I3]
  have g2 := g1
  simp only [hasU, inR, Bool.and_eq_true, decide_eq_true_eq] at g2
  obtain ⟨k, rfl⟩ : ∃ m : Nat, u = m := ⟨u.toNat, by omega⟩
  have e1 := su k (by omega)
  have hk := sk g2.1 k (by omega)
  obtain ⟨j, ej⟩ : ∃ m : Nat, (unOf s k).k = m := ⟨(unOf s k).k.toNat, by omega⟩
  have e2 := kg j (by omega)
  simp only [hurt, canRe, g1, Bool.true_and]
  simp only [Int.toNat_natCast, e1, unA, uns_length, push_cast, ↓J1, ↓J2, N1, N2, N3, reduceCtorEq, N4, N5, N6, reduceIte, N7, I1, I2, I3]
  repeat (refine ⟨by omega, ?_⟩)
  cases g3 : decide (0 ≤ (unOf s k).at_)
  · simp only [push_cast, ↓J1, ↓J2, N1, N2, N3, reduceCtorEq, N4, N5, N6, reduceIte, N7, I1, I2, I3]
  simp only [Int.toNat_natCast, e1, ej, e2, kinA, kins_length, uns_length, unA, push_cast, ↓J1, ↓J2, N1, N2, N3, reduceCtorEq, N4, N5, N6, reduceIte, N7, I1, I2, I3]
  all_goals omega
theorem t32 (b : Brd) (s : Sta) (u : Int) (hb : BrdB (2^50) b) (hl : s.us.length < 2^40) : Ev C 32 [brdF b, .agg (staF s), .int .i64 u] (.tup [.int .i64 (if hurt b s u then (kindOf b (unOf s u).k).st else 0), .bool (hurt b s u)]) := by
  have c1 := t79 hC b s u hb hl
  have b2 := hb.r.ks
  have kg := fun (k : Nat) (h : k < b.r.ks.length) => kins_get h
  have sk := fun (g : staOk b s = true) (k : Nat) (h : k < s.us.length) => kind_at (sta_kind g h)
  have su := fun (k : Nat) (h : k < s.us.length) => uns_un h
  simp only [brdF, rulF, mpF, List.cons_append, List.nil_append, staF] at *
  refine rT hC Q32 ?_
  simp only [c32, push_cast, ↓J1, ↓J2, N1, N2, N3, reduceCtorEq, N4, N5, N6, reduceIte, N7, I1, I2, I3]
  refine ⟨_, c1, ?_⟩
  cases g1 : hurt b s u
  · simp only [push_cast, ↓J1, ↓J2, N1, N2, N3, reduceCtorEq, N4, N5, N6, reduceIte, N7, I1, I2, I3]
  have g2 := g1
  simp only [hurt, hasU, inR, Bool.and_eq_true, decide_eq_true_eq] at g2
  obtain ⟨k, rfl⟩ : ∃ m : Nat, u = m := ⟨u.toNat, by omega⟩
  have e1 := su k (by omega)
  have hk := sk g2.1.1 k (by omega)
  obtain ⟨j, ej⟩ : ∃ m : Nat, (unOf s k).k = m := ⟨(unOf s k).k.toNat, by omega⟩
  have e2 := kg j (by omega)
  simp only [Int.toNat_natCast, e1, ej, e2, kinA, kins_length, uns_length, unA, push_cast, ↓J1, ↓J2, N1, N2, N3, reduceCtorEq, N4, N5, N6, reduceIte, N7, I1, I2, I3]
  all_goals omega
theorem t34 (b : Brd) (s : Sta) (u : Int) (hb : BrdB (2^50) b) (hl : s.us.length < 2^40) : Ev C 34 [brdF b, .agg (staF s), .int .i64 u] (.tup [.int .i64 (if hurt b s u then (kindOf b (unOf s u).k).st else 0), .bool (hurt b s u)]) := by
  have c1 := t81 hC b s u hb hl
  have c2 := fun u h => t82 hC b u h hb
  have b2 := hb.r.ks
  have kg := fun (k : Nat) (h : k < b.r.ks.length) => kins_get h
  have sk := fun (g : staOk b s = true) (k : Nat) (h : k < s.us.length) => sta_kind g h
  have su := fun (k : Nat) (h : k < s.us.length) => uns_un h
  simp only [brdF, rulF, mpF, List.cons_append, List.nil_append, staF] at *
  refine rT hC Q34 ?_
  simp only [c34, push_cast, ↓J1, ↓J2, N1, N2, N3, reduceCtorEq, N4, N5, N6, reduceIte, N7, I1, I2, I3]
  refine ⟨_, c1, ?_⟩
  cases g1 : hasU b s u
  · simp only [hurt, g1, Bool.false_and, push_cast, ↓J1, ↓J2, N1, N2, N3, reduceCtorEq, N4, N5, N6, reduceIte, N7, I1, I2, I3]
  have g2 := g1
  simp only [hasU, inR, Bool.and_eq_true, decide_eq_true_eq] at g2
  obtain ⟨k, rfl⟩ : ∃ m : Nat, u = m := ⟨u.toNat, by omega⟩
  have e1 := su k (by omega)
  have hk := sk g2.1 k (by omega)
  have c3 := c2 _ hk
  have hk' := kind_at hk
  obtain ⟨j, ej⟩ : ∃ m : Nat, (unOf s k).k = m := ⟨(unOf s k).k.toNat, by omega⟩
  have e2 := kg j (by omega)
  simp only [unA] at c3 e1
  simp only [Int.toNat_natCast, e1, unA, uns_length, push_cast, ↓J1, ↓J2, N1, N2, N3, reduceCtorEq, N4, N5, N6, reduceIte, N7, I1, I2, I3]
  repeat (refine ⟨by omega, ?_⟩)
  refine ⟨_, c3, ?_⟩
  cases g3 : canRe b (unOf s k)
  · simp only [hurt, g1, g3, Bool.and_false, push_cast, ↓J1, ↓J2, N1, N2, N3, reduceCtorEq, N4, N5, N6, reduceIte, N7, I1, I2, I3]
  simp only [hurt, g1, g3, Bool.and_self, Int.toNat_natCast, e1, ej, e2, kinA, kins_length, uns_length, unA, push_cast, ↓J1, ↓J2, N1, N2, N3, reduceCtorEq, N4, N5, N6, reduceIte, N7, I1, I2, I3]
  all_goals omega
end
end Go.Proofs.YtlddjlchgibdfaaDoor.X
set_option maxHeartbeats 4000000
set_option maxRecDepth 8000
set_option linter.unusedSimpArgs false
set_option linter.unusedVariables false
open Nat renaming reduceBEq → N1, reduceAdd → N2, reduceSub → N3, reduceMul → N4, reduceEqDiff → N5, reduceLeDiff → N6, reduceLT → N7
open Int renaming reduceLE → I1, reduceLT → I2, reduceToNat → I3
namespace Go.Proofs.YtlddjlchgibdfaaDoor.X
open Go
attribute [local irreducible] Ev
section
variable {C : CT} (hC : Closed Tryd.prog G1 md0 C)
include hC
theorem t8 (b : Brd) (s : Sta) (u : Int) (hb : BrdB (2^50) b) (hs : s.us.length < 2^50) : Ev C 8 [brdF b, .agg (staF s), .int .i64 u] (.bool true) := by
  have z0 := fun p => t17 hC b 1048576 p hb
  have z1 := fun p => t31 hC s (szBrd b 1048576) p hs
  have d0 := fun Hb => t19 hC b Hb
  have e0 := t21 hC b b hb hb
  have d1 := fun Hs => t33 hC s Hs
  have e1 := t35 hC s s hs hs
  have f1 := fun (Hb : BrdB (2^30) b) (Hs : s.us.length < 2^30) => t32 hC b s u hb (by omega)
  have f2 := fun (Hb : BrdB (2^30) b) (Hs : s.us.length < 2^30) => t34 hC b s u hb (by omega)
  simp only [brdO, rulO, mpO, brdF, rulF, mpF, szSta, staF, staO, List.cons_append, List.nil_append, List.append_assoc, decide_true] at *
  refine rT hC Q8 ?_
  simp only [c8, push_cast, ↓J1, ↓J2, N1, N2, N3, reduceCtorEq, N4, N5, N6, reduceIte, N7, I1, I2, I3]
  refine ⟨_, z0 (by omega), ?_⟩
  simp only [push_cast, ↓J1, ↓J2, N1, N2, N3, reduceCtorEq, N4, N5, N6, reduceIte, N7, I1, I2, I3]
  refine ifB_intro (fun h => trivial) (fun h => ?_)
  have n0 := of_decide_eq_false h
  clear h
  have l0 := szBrd_le (b := b) (v := 1048576) (by omega) (by omega)
  have Hb : BrdB (2^30) b := (szBrd_pos (by omega)).mono (by omega)
  refine ⟨_, z1 (by omega), ?_⟩
  simp only [push_cast, ↓J1, ↓J2, N1, N2, N3, reduceCtorEq, N4, N5, N6, reduceIte, N7, I1, I2, I3]
  refine ifB_intro (fun h => trivial) (fun h => ?_)
  have n1 := of_decide_eq_false h
  clear h
  have l1 := sub1_le (v := (szBrd b 1048576)) (n := s.us.length) (by omega)
  have Hs : s.us.length < 2^30 := by have := sub1_pos (v := (szBrd b 1048576)) (n := s.us.length) (by omega); omega
  repeat' (first
    | simp only [frzLL_ints, frzLL_ters, frzLL_kins, frzLL_uns, push_cast, ↓J1, ↓J2, N1, N2, N3, reduceCtorEq, N4, N5, N6, reduceIte, N7, I1, I2, I3]
    | refine ⟨_, d0 Hb, ?_⟩
    | refine ⟨_, e0, ?_⟩
    | refine ⟨_, d1 Hs, ?_⟩
    | refine ⟨_, e1, ?_⟩
    | refine ⟨_, f1 Hb Hs, ?_⟩
    | refine ⟨_, f2 Hb Hs, ?_⟩
    | refine ifB_intro (fun h => ?_) (fun h => ?_))
end
end Go.Proofs.YtlddjlchgibdfaaDoor.X
set_option maxHeartbeats 4000000
set_option maxRecDepth 8000
set_option linter.unusedSimpArgs false
set_option linter.unusedVariables false
open Nat renaming reduceBEq → N1, reduceAdd → N2, reduceSub → N3, reduceMul → N4, reduceEqDiff → N5, reduceLeDiff → N6, reduceLT → N7
open Int renaming reduceLE → I1, reduceLT → I2, reduceToNat → I3
namespace Go.Proofs.YtlddjlchgibdfaaDoor.X
open Go
theorem has_ints {k : Nat} {xs : List AV} (h : Has Tryd.prog (k + 2) 36 xs) : ∃ l, xs = [.sl (ints l)] ∧ l.length < 2 ^ 50 := by
  obtain ⟨es, rfl, _, hb, he⟩ := has_slice tk_36 h
  rw [bo_3] at hb
  obtain ⟨l, rfl⟩ := all_map (f := fun n : Int => [AV.int .i64 n]) (es := es) fun e hx => by
    obtain ⟨n, hn, _⟩ := has_int tk_3 (he e hx).2
    exact ⟨n, hn⟩
  simp only [reachBytes, List.length_map] at hb
  exact ⟨l, rfl, by omega⟩
theorem all_map2 {α : Type} {f : α → List AV} {p : α → Prop} {es : List (List AV)} (h : ∀ e ∈ es, ∃ x, e = f x ∧ p x) : ∃ l : List α, es = l.map f ∧ ∀ x ∈ l, p x := by
  induction es with
  | nil => exact ⟨[], rfl, by simp⟩
  | cons e es ih =>
    obtain ⟨l, hl, hp⟩ := ih fun x hx => h x (by simp [hx])
    obtain ⟨x, hx, px⟩ := h e (by simp)
    exact ⟨x :: l, by rw [hl, hx]; rfl, by simp only [List.mem_cons, forall_eq_or_imp]; exact ⟨px, hp⟩⟩
theorem has_ter {k : Nat} {xs : List AV} (h : Has Tryd.prog (k + 9) 173 xs) : ∃ t : Ter, xs = terF t ∧ t.n.size < 2 ^ 50 ∧ t.c.length < 2 ^ 50 := by
  have h := has_struct sty_173 h
  obtain ⟨x0, r, rfl, _, h0, h⟩ := hasE_cons h
  obtain ⟨x1, r, rfl, _, h1, h⟩ := hasE_cons h
  obtain ⟨x2, r, rfl, _, h2, h⟩ := hasE_cons h
  obtain ⟨x3, r, rfl, _, h3, h⟩ := hasE_cons h
  obtain ⟨x4, r, rfl, _, h4, h⟩ := hasE_cons h
  obtain rfl := hasE_nil h
  obtain ⟨n, rfl, hn⟩ := has_str tk_9 h0
  obtain ⟨c, rfl, hc⟩ := has_ints h1
  obtain ⟨s, rfl, _⟩ := has_int tk_3 h2
  obtain ⟨e, rfl, _⟩ := has_int tk_3 h3
  obtain ⟨b, rfl⟩ := has_bool tk_4 h4
  simp only [reachBytes] at hn
  exact ⟨⟨n, c, s, e, b⟩, rfl, by show n.size < _; omega, hc⟩
theorem has_kin {k : Nat} {xs : List AV} (h : Has Tryd.prog (k + 9) 175 xs) : ∃ t : Kin, xs = kinA t ∧ t.n.size < 2 ^ 50 := by
  have h := has_struct sty_175 h
  obtain ⟨x0, r, rfl, _, h0, h⟩ := hasE_cons h
  obtain ⟨x1, r, rfl, _, h1, h⟩ := hasE_cons h
  obtain ⟨x2, r, rfl, _, h2, h⟩ := hasE_cons h
  obtain ⟨x3, r, rfl, _, h3, h⟩ := hasE_cons h
  obtain ⟨x4, r, rfl, _, h4, h⟩ := hasE_cons h
  obtain ⟨x5, r, rfl, _, h5, h⟩ := hasE_cons h
  obtain rfl := hasE_nil h
  obtain ⟨n, rfl, hn⟩ := has_str tk_9 h0
  obtain ⟨s, rfl, _⟩ := has_int tk_3 h1
  obtain ⟨m, rfl, _⟩ := has_int tk_3 h2
  obtain ⟨p, rfl, _⟩ := has_int tk_3 h3
  obtain ⟨z, rfl⟩ := has_bool tk_4 h4
  obtain ⟨v, rfl, _⟩ := has_int tk_3 h5
  simp only [reachBytes] at hn
  exact ⟨⟨n, s, m, p, z, v⟩, rfl, by show n.size < _; omega⟩
theorem has_rul {k : Nat} {xs : List AV} (h : Has Tryd.prog (k + 16) 35 xs) : ∃ r : Rul, xs = rulF r ∧ RulB (2 ^ 50) r := by
  have h := has_struct sty_35 h
  obtain ⟨x0, r, rfl, _, h0, h⟩ := hasE_cons h
  obtain ⟨x1, r, rfl, _, h1, h⟩ := hasE_cons h
  obtain ⟨x2, r, rfl, _, h2, h⟩ := hasE_cons h
  obtain ⟨x3, r, rfl, _, h3, h⟩ := hasE_cons h
  obtain ⟨x4, r, rfl, _, h4, h⟩ := hasE_cons h
  obtain ⟨x5, r, rfl, _, h5, h⟩ := hasE_cons h
  obtain ⟨x6, r, rfl, _, h6, h⟩ := hasE_cons h
  obtain rfl := hasE_nil h
  obtain ⟨es, rfl, _, hb, he⟩ := has_slice tk_32 h0
  obtain ⟨ts, rfl, ht⟩ := all_map2 (f := terF) (es := es) fun e hx => has_ter (he e hx).2
  obtain ⟨fs, rfl, _, hc, hf⟩ := has_slice tk_33 h1
  obtain ⟨ks, rfl, hk⟩ := all_map2 (f := kinA) (es := fs) fun e hx => has_kin (hf e hx).2
  obtain ⟨a, rfl, _⟩ := has_int tk_3 h2
  obtain ⟨b, rfl, _⟩ := has_int tk_3 h3
  obtain ⟨c, rfl, _⟩ := has_int tk_3 h4
  obtain ⟨d, rfl, _⟩ := has_int tk_3 h5
  obtain ⟨e, rfl, _⟩ := has_int tk_3 h6
  rw [bo_173] at hb
  rw [bo_175] at hc
  simp only [reachBytes, List.length_map] at hb hc
  exact ⟨⟨ts, ks, a, b, c, d, e⟩, rfl, ⟨by show ts.length < _; omega, by show ks.length < _; omega, ht, hk⟩⟩
theorem has_mp {k : Nat} {xs : List AV} (h : Has Tryd.prog (k + 16) 38 xs) : ∃ m : Mp, xs = mpF m ∧ MpB (2 ^ 50) m := by
  have h := has_struct sty_38 h
  obtain ⟨x0, r, rfl, _, h0, h⟩ := hasE_cons h
  obtain ⟨x1, r, rfl, _, h1, h⟩ := hasE_cons h
  obtain ⟨x2, r, rfl, _, h2, h⟩ := hasE_cons h
  obtain ⟨x3, r, rfl, _, h3, h⟩ := hasE_cons h
  obtain ⟨x4, r, rfl, _, h4, h⟩ := hasE_cons h
  obtain rfl := hasE_nil h
  obtain ⟨w, rfl, _⟩ := has_int tk_3 h0
  obtain ⟨e, rfl, _⟩ := has_int tk_3 h1
  obtain ⟨t, rfl, ht⟩ := has_ints h2
  obtain ⟨ri, rfl, hri⟩ := has_ints h3
  obtain ⟨ro, rfl, hro⟩ := has_ints h4
  exact ⟨⟨w, e, t, ri, ro⟩, rfl, ⟨ht, hri, hro⟩⟩
theorem has_brd {k : Nat} {xs : List AV} (h : Has Tryd.prog (k + 20) 40 xs) : ∃ b : Brd, xs = rulF b.r ++ mpF b.m ∧ BrdB (2 ^ 50) b := by
  have h := has_struct sty_40 h
  obtain ⟨x0, r, rfl, _, h0, h⟩ := hasE_cons h
  obtain ⟨x1, r, rfl, _, h1, h⟩ := hasE_cons h
  obtain rfl := hasE_nil h
  obtain ⟨r, rfl, hr⟩ := has_rul h0
  obtain ⟨m, rfl, hm⟩ := has_mp h1
  exact ⟨⟨r, m⟩, by simp only [List.append_nil], ⟨hr, hm⟩⟩
theorem hasV_brd {k : Nat} {x : AV} (hv : HasV Tryd.prog (k + 20) 40 x) : ∃ b : Brd, x = brdF b ∧ BrdB (2 ^ 50) b := by
  obtain ⟨ys, rfl, h⟩ := hasV_struct sty_40 hv
  obtain ⟨x0, r, rfl, _, h0, h⟩ := hasE_cons h
  obtain ⟨x1, r, rfl, _, h1, h⟩ := hasE_cons h
  obtain rfl := hasE_nil h
  obtain ⟨r, rfl, hr⟩ := has_rul h0
  obtain ⟨m, rfl, hm⟩ := has_mp h1
  exact ⟨⟨r, m⟩, by simp only [brdF, List.append_nil], ⟨hr, hm⟩⟩
end Go.Proofs.YtlddjlchgibdfaaDoor.X
set_option maxHeartbeats 1000000
set_option maxRecDepth 8000
set_option linter.unusedSimpArgs false
set_option linter.unusedVariables false
open Nat renaming reduceBEq → N1, reduceAdd → N2, reduceSub → N3, reduceMul → N4, reduceEqDiff → N5, reduceLeDiff → N6, reduceLT → N7
open Int renaming reduceLE → I1, reduceLT → I2, reduceToNat → I3
namespace Go.Proofs.YtlddjlchgibdfaaDoor.X
open Go
theorem hasV_sta {k : Nat} {x : AV} (hv : HasV Tryd.prog (k + 20) 68 x) : ∃ s : Sta, x = .agg (staF s) ∧ s.us.length < 2 ^ 50 := by
  obtain ⟨ys, rfl, h⟩ := hasV_struct sty_68 hv
  obtain ⟨x0, r, rfl, _, h0, h⟩ := hasE_cons h
  obtain ⟨x1, r, rfl, _, h1, h⟩ := hasE_cons h
  obtain ⟨x2, r, rfl, _, h2, h⟩ := hasE_cons h
  obtain rfl := hasE_nil h
  obtain ⟨a, rfl, _⟩ := has_int tk_3 h0
  obtain ⟨b, rfl, _⟩ := has_int tk_3 h1
  obtain ⟨es, rfl, _, hb, he⟩ := has_slice tk_66 h2
  obtain ⟨us, rfl⟩ := all_map (f := unA) (es := es) fun e hx => by
    have h := has_struct sty_156 (he e hx).2
    obtain ⟨x0, r, rfl, _, h0, h⟩ := hasE_cons h
    obtain ⟨x1, r, rfl, _, h1, h⟩ := hasE_cons h
    obtain ⟨x2, r, rfl, _, h2, h⟩ := hasE_cons h
    obtain ⟨x3, r, rfl, _, h3, h⟩ := hasE_cons h
    obtain rfl := hasE_nil h
    obtain ⟨a, rfl, _⟩ := has_int tk_3 h0
    obtain ⟨b, rfl, _⟩ := has_int tk_3 h1
    obtain ⟨c, rfl, _⟩ := has_int tk_3 h2
    obtain ⟨d, rfl, _⟩ := has_int tk_3 h3
    exact ⟨⟨a, b, c, d⟩, rfl⟩
  rw [bo_156] at hb
  simp only [reachBytes, List.length_map] at hb
  exact ⟨⟨a, b, us⟩, rfl, by show us.length < _; omega⟩
end Go.Proofs.YtlddjlchgibdfaaDoor.X
set_option maxHeartbeats 1000000
set_option maxRecDepth 8000
set_option linter.unusedSimpArgs false
set_option linter.unusedVariables false
open Nat renaming reduceBEq → N1, reduceAdd → N2, reduceSub → N3, reduceMul → N4, reduceEqDiff → N5, reduceLeDiff → N6, reduceLT → N7
open Int renaming reduceLE → I1, reduceLT → I2, reduceToNat → I3
namespace Go.Proofs.YtlddjlchgibdfaaDoor.X
open Go
theorem lawRestorePrice_C {C : CT} (hC : Closed Tryd.prog G1 md0 C) : ∀ xs, HasVs Tryd.prog 30 [40, 68, 3] xs → Ev C 8 xs (.bool true) := by
  rintro xs ⟨x0, r0, rfl, h0, x1, r1, rfl, h1, x2, r2, rfl, h2, rfl⟩
  obtain ⟨b, rfl, hb⟩ := hasV_brd h0
  obtain ⟨s, rfl, hs⟩ := hasV_sta h1
  obtain ⟨u, rfl, _⟩ := hasV_int tk_3 h2
  exact t8 hC b s u hb hs
theorem lawRestorePrice : ∀ xs, HasVs Tryd.prog 30 [40, 68, 3] xs → Ev (CS Tryd.prog G1) 8 xs (.bool true) := lawRestorePrice_C (CS_closed (by kernel_rfl))
end Go.Proofs.YtlddjlchgibdfaaDoor.X
