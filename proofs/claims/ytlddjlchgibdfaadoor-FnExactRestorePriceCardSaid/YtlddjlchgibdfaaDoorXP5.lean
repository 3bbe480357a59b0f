/- A part of the proof: lemmas on the machine or on the functions that the law reaches. No condition of its own. -/
import Derived.Test.YtlddjlchgibdfaaDoorXP4
set_option maxHeartbeats 4000000
set_option maxRecDepth 8000
set_option linter.unusedSimpArgs false
set_option linter.unusedVariables false
open Nat renaming reduceBEq → N1, reduceAdd → N2, reduceSub → N3, reduceMul → N4, reduceEqDiff → N5, reduceLeDiff → N6, reduceLT → N7
open Int renaming reduceLE → I1, reduceLT → I2, reduceToNat → I3
namespace Go.Proofs.YtlddjlchgibdfaaDoor.X
open Go
attribute [local irreducible] Ev
def sumP (b : Brd) (l : List Int) : Int := l.foldl (fun s k => IntKind.i64.wrap (s + priceOf b k)) 0
theorem sumP_succ {b : Brd} {l : List Int} {i : Nat} (h : i < l.length) : sumP b (l.take (i + 1)) = IntKind.i64.wrap (sumP b (l.take i) + priceOf b l[i]) := by
  rw [sumP, List.take_succ_eq_append_getElem h, List.foldl_append]; rfl
theorem wk_brd {b : Brd} {w : Wk} (h : wkOk b w = true) : brdOk b = true := by
  simp only [wkOk, Bool.and_eq_true] at h; exact h.1
theorem wk_q {b : Brd} {w : Wk} (h : wkOk b w = true) : w.q.all (inR 0 (b.r.ks.length - 1)) = true := by
  simp only [wkOk, wkR, Bool.and_eq_true] at h; exact h.2.2
theorem wk_len {b : Brd} {w : Wk} (h : wkOk b w = true) : w.q.length ≤ 8 := by
  simp only [wkOk, wkR, Bool.and_eq_true, decide_eq_true_eq] at h; omega
def leftP (b : Brd) (w : Wk) (i : Int) : Int := IntKind.i64.wrap (sumP b (w.q.take (i + 1).toNat) - w.pt)
def tuAsk (b : Brd) (w : Wk) (i g : Int) : Bool := wkOk b w && inR 0 (w.q.length - 1) i && inR 0 50 g
def tuRes (b : Brd) (w : Wk) (i g : Int) : Int × Bool :=
  if tuAsk b w i g then if leftP b w i ≤ 0 then (0, true) else if g = 0 then (0, false) else (IntKind.i64.wrap ((IntKind.i64.wrap (IntKind.i64.wrap (leftP b w i + g) - 1)).tdiv g), true) else (0, false)
section
variable {C : CT} (hC : Closed Tryd.prog G1 md0 C)
include hC
theorem t72 (b : Brd) (l : List Int) (g : brdOk b = true) (hl : l.all (inR 0 (b.r.ks.length - 1)) = true) (hb : BrdB (2^50) b) (hn : l.length < 2^50) : Ev C 72 [brdF b, .sl (ints l)] (.int .i64 (sumP b l)) := by
  have c1 := fun k h => t58 hC b k h hb
  simp only [brdF, rulF, mpF, List.cons_append, List.nil_append] at *
  refine rT hC Q72 ?_
  simp only [c72, ints_length, push_cast, ↓J1, ↓J2, N1, N2, N3, reduceCtorEq, N4, N5, N6, reduceIte, N7, I1, I2, I3]
  refine RL_count (fun i => ⟨tb 21 .any [(2, .ptr 0 none 0 0 0), (5, .int .i64 (sumP b (l.take i))), (8, .sl (ints l)), (9, .int .i64 (l.length : Int)), (10, .int .i64 (i : Int))], [(0, .var (rulF b.r ++ mpF b.m))], 1⟩) (fun _ => True) l.length 0 (hdA [(0, 0)]) (by omega) trivial fun i hi' _ J hJ => ?_
  simp only [brdF, rulF, mpF, List.cons_append, List.nil_append]
  by_cases h1 : i < l.length
  · have e1 : (ints l)[i]? = some [.int .i64 l[i]] := by simp [ints, h1]
    have hk : kindAsk b l[i] = true := by
      simp only [kindAsk, g, Bool.true_and]
      exact List.all_eq_true.1 hl _ (List.getElem_mem h1)
    simp only [Int.toNat_natCast, e1, push_cast, ↓J1, ↓J2, N1, N2, N3, reduceCtorEq, N4, N5, N6, reduceIte, N7, I1, I2, I3]
    refine ifB_intro (fun _ => ?_) (fun h => by simp at h; omega)
    repeat (refine ⟨by omega, ?_⟩)
    refine ⟨_, c1 _ hk, ?_⟩
    simp only [push_cast, ↓J1, ↓J2, N1, N2, N3, reduceCtorEq, N4, N5, N6, reduceIte, N7, I1, I2, I3]
    have e2 := sumP_succ (b := b) h1
    refine hJ h1 trivial _ (hdA [(0, 0)] (hV := ?_))
    simp only [keptV_cons, keptV_nil, tb_get, lk_same, lk_ne, lk_nil, ren, renL, lkp, N7, N1, N5, reduceIte, and_true, true_and, Nat.not_lt_zero, if_false, if_true, Nat.add_zero, Nat.zero_add, e2]
    rw [wrap64 (n := (i : Int) + 1) (by omega) (by omega)]
    and_intros <;> rfl
  · simp only [ints_length, push_cast, ↓J1, ↓J2, N1, N2, N3, reduceCtorEq, N4, N5, N6, reduceIte, N7, I1, I2, I3]
    refine ifB_intro (fun h => by simp at h; omega) (fun h => ?_)
    rw [List.take_of_length_le (by omega)]
theorem t74 (b : Brd) (l : List Int) (g : brdOk b = true) (hl : l.all (inR 0 (b.r.ks.length - 1)) = true) (hb : BrdB (2^50) b) (hn : l.length < 2^50) : Ev C 74 [brdF b, .sl (ints l)] (.int .i64 (sumP b l)) := by
  have c1 := fun k h => t62 hC b k h hb
  simp only [brdF, rulF, mpF, List.cons_append, List.nil_append] at *
  refine rT hC Q74 ?_
  simp only [c74, ints_length, push_cast, ↓J1, ↓J2, N1, N2, N3, reduceCtorEq, N4, N5, N6, reduceIte, N7, I1, I2, I3]
  refine RL_count (fun i => ⟨tb 21 .any [(2, .ptr 0 none 0 0 0), (5, .int .i64 (sumP b (l.take i))), (8, .sl (ints l)), (9, .int .i64 (l.length : Int)), (10, .int .i64 (i : Int))], [(0, .var (rulF b.r ++ mpF b.m))], 1⟩) (fun _ => True) l.length 0 (hdA [(0, 0)]) (by omega) trivial fun i hi' _ J hJ => ?_
  simp only [brdF, rulF, mpF, List.cons_append, List.nil_append]
  by_cases h1 : i < l.length
  · have e1 : (ints l)[i]? = some [.int .i64 l[i]] := by simp [ints, h1]
    have hk : kindAsk b l[i] = true := by
      simp only [kindAsk, g, Bool.true_and]
      exact List.all_eq_true.1 hl _ (List.getElem_mem h1)
    simp only [Int.toNat_natCast, e1, push_cast, ↓J1, ↓J2, N1, N2, N3, reduceCtorEq, N4, N5, N6, reduceIte, N7, I1, I2, I3]
    refine ifB_intro (fun _ => ?_) (fun h => by simp at h; omega)
    repeat (refine ⟨by omega, ?_⟩)
    refine ⟨_, c1 _ hk, ?_⟩
    simp only [push_cast, ↓J1, ↓J2, N1, N2, N3, reduceCtorEq, N4, N5, N6, reduceIte, N7, I1, I2, I3]
    have e2 := sumP_succ (b := b) h1
    refine hJ h1 trivial _ (hdA [(0, 0)] (hV := ?_))
    simp only [keptV_cons, keptV_nil, tb_get, lk_same, lk_ne, lk_nil, ren, renL, lkp, N7, N1, N5, reduceIte, and_true, true_and, Nat.not_lt_zero, if_false, if_true, Nat.add_zero, Nat.zero_add, e2]
    rw [wrap64 (n := (i : Int) + 1) (by omega) (by omega)]
    and_intros <;> rfl
  · simp only [ints_length, push_cast, ↓J1, ↓J2, N1, N2, N3, reduceCtorEq, N4, N5, N6, reduceIte, N7, I1, I2, I3]
    refine ifB_intro (fun h => by simp at h; omega) (fun h => ?_)
    rw [List.take_of_length_le (by omega)]
theorem t27 (b : Brd) (w : Wk) (hb : BrdB (2^50) b) (hq : w.q.length < 2^50) : Ev C 27 [brdF b, .agg (wkF w)] (.tup [.int .i64 (if wkOk b w then sumP b w.q else 0), .bool (wkOk b w)]) := by
  have c1 := t67 hC b w hb hq
  have c2 := fun g h => t72 hC b w.q g h hb hq
  simp only [brdF, rulF, mpF, List.cons_append, List.nil_append, wkF] at *
  refine rT hC Q27 ?_
  simp only [c27, push_cast, ↓J1, ↓J2, N1, N2, N3, reduceCtorEq, N4, N5, N6, reduceIte, N7, I1, I2, I3]
  refine ⟨_, c1, ?_⟩
  cases g1 : wkOk b w
  · simp only [push_cast, ↓J1, ↓J2, N1, N2, N3, reduceCtorEq, N4, N5, N6, reduceIte, N7, I1, I2, I3]
  simp only [push_cast, ↓J1, ↓J2, N1, N2, N3, reduceCtorEq, N4, N5, N6, reduceIte, N7, I1, I2, I3]
  refine ⟨_, c2 (wk_brd g1) (wk_q g1), ?_⟩
  simp only [push_cast, ↓J1, ↓J2, N1, N2, N3, reduceCtorEq, N4, N5, N6, reduceIte, N7, I1, I2, I3]
theorem t28 (b : Brd) (w : Wk) (hb : BrdB (2^50) b) (hq : w.q.length < 2^50) : Ev C 28 [brdF b, .agg (wkF w)] (.tup [.int .i64 (if wkOk b w then sumP b w.q else 0), .bool (wkOk b w)]) := by
  have c1 := t73 hC b w hb hq
  have c2 := fun g h => t74 hC b w.q g h hb hq
  simp only [brdF, rulF, mpF, List.cons_append, List.nil_append, wkF] at *
  refine rT hC Q28 ?_
  simp only [c28, push_cast, ↓J1, ↓J2, N1, N2, N3, reduceCtorEq, N4, N5, N6, reduceIte, N7, I1, I2, I3]
  refine ⟨_, c1, ?_⟩
  cases g1 : wkOk b w
  · simp only [push_cast, ↓J1, ↓J2, N1, N2, N3, reduceCtorEq, N4, N5, N6, reduceIte, N7, I1, I2, I3]
  simp only [push_cast, ↓J1, ↓J2, N1, N2, N3, reduceCtorEq, N4, N5, N6, reduceIte, N7, I1, I2, I3]
  refine ⟨_, c2 (wk_brd g1) (wk_q g1), ?_⟩
  simp only [push_cast, ↓J1, ↓J2, N1, N2, N3, reduceCtorEq, N4, N5, N6, reduceIte, N7, I1, I2, I3]
theorem t6 (b : Brd) (w : Wk) (hb : BrdB (2^50) b) (hq : w.q.length < 2^50) : Ev C 6 [brdF b, .agg (wkF w)] (.bool true) := by
  have q1 := t17 hC b 1048576 (by omega) hb
  have q1' := fun h => t22 hC w (szBrd b 1048576) h hq
  have q2 := fun h => t19 hC b h
  have q2' := fun h => t24 hC w h
  have q3 := t27 hC b w hb hq
  have q4 := t28 hC b w hb hq
  have q5 := t21 hC b b hb hb
  have q5' := t26 hC w w hq hq
  have hu := szBrd_le (b := b) (v := 1048576) (by omega) (by omega)
  simp only [brdO, rulO, mpO, brdF, rulF, mpF, List.cons_append, List.nil_append, wkF, wkO] at *
  refine rT hC Q6 ?_
  simp only [c6, push_cast, ↓J1, ↓J2, N1, N2, N3, reduceCtorEq, N4, N5, N6, reduceIte, N7, I1, I2, I3]
  refine ⟨_, q1, ?_⟩
  simp only [push_cast, ↓J1, ↓J2, N1, N2, N3, reduceCtorEq, N4, N5, N6, reduceIte, N7, I1, I2, I3]
  refine ifB_intro (fun h => trivial) (fun h => ?_)
  have hs := of_decide_eq_false h
  have hB : BrdB (2^30) b := (szBrd_pos (by omega)).mono (by omega)
  refine ⟨_, q1' ⟨by omega, by omega⟩, ?_⟩
  simp only [push_cast, ↓J1, ↓J2, N1, N2, N3, reduceCtorEq, N4, N5, N6, reduceIte, N7, I1, I2, I3]
  refine ifB_intro (fun h => trivial) (fun h => ?_)
  have hs' := of_decide_eq_false h
  have hQ : w.q.length < 2^30 := by have := sub1_pos (v := szBrd b 1048576) (n := w.q.length) (by simp only [szWk] at hs'; omega); omega
  refine ⟨_, q2 hB, ?_⟩
  simp only [frzLL_ints, frzLL_ters, frzLL_kins, push_cast, ↓J1, ↓J2, N1, N2, N3, reduceCtorEq, N4, N5, N6, reduceIte, N7, I1, I2, I3]
  refine ⟨_, q2' hQ, ?_⟩
  simp only [frzLL_ints, frzLL_ters, frzLL_kins, push_cast, ↓J1, ↓J2, N1, N2, N3, reduceCtorEq, N4, N5, N6, reduceIte, N7, I1, I2, I3]
  refine ⟨_, q3, ?_⟩
  simp only [push_cast, ↓J1, ↓J2, N1, N2, N3, reduceCtorEq, N4, N5, N6, reduceIte, N7, I1, I2, I3]
  refine ⟨_, q2 hB, ?_⟩
  simp only [frzLL_ints, frzLL_ters, frzLL_kins, push_cast, ↓J1, ↓J2, N1, N2, N3, reduceCtorEq, N4, N5, N6, reduceIte, N7, I1, I2, I3]
  refine ⟨_, q2' hQ, ?_⟩
  simp only [frzLL_ints, frzLL_ters, frzLL_kins, push_cast, ↓J1, ↓J2, N1, N2, N3, reduceCtorEq, N4, N5, N6, reduceIte, N7, I1, I2, I3]
  refine ⟨_, q4, ?_⟩
  simp only [push_cast, ↓J1, ↓J2, N1, N2, N3, reduceCtorEq, N4, N5, N6, reduceIte, N7, I1, I2, I3]
  refine ⟨_, q2 hB, ?_⟩
  simp only [frzLL_ints, frzLL_ters, frzLL_kins, push_cast, ↓J1, ↓J2, N1, N2, N3, reduceCtorEq, N4, N5, N6, reduceIte, N7, I1, I2, I3]
  refine ⟨_, q5, ?_⟩
  simp only [push_cast, ↓J1, ↓J2, N1, N2, N3, reduceCtorEq, N4, N5, N6, reduceIte, N7, I1, I2, I3]
  refine ⟨_, q2' hQ, ?_⟩
  simp only [frzLL_ints, frzLL_ters, frzLL_kins, push_cast, ↓J1, ↓J2, N1, N2, N3, reduceCtorEq, N4, N5, N6, reduceIte, N7, I1, I2, I3]
  refine ⟨_, q5', ?_⟩
  simp only [push_cast, ↓J1, ↓J2, N1, N2, N3, reduceCtorEq, N4, N5, N6, reduceIte, N7, I1, I2, I3]
theorem t77 (x : Int) : Ev C 77 [.int .i64 x] (.bool (inR 0 50 x)) := by
  refine rT hC Q77 ?_
  simp only [c77, push_cast, ↓J1, ↓J2, N1, N2, N3, reduceCtorEq, N4, N5, N6, reduceIte, N7, I1, I2, I3]
  refine ⟨_, tRange hC _ _ _, ?_⟩
  simp only [push_cast, ↓J1, ↓J2, N1, N2, N3, reduceCtorEq, N4, N5, N6, reduceIte, N7, I1, I2, I3]
theorem t29 (b : Brd) (w : Wk) (i g : Int) (hb : BrdB (2^50) b) (hq : w.q.length < 2^50) : Ev C 29 [brdF b, .agg (wkF w), .int .i64 i, .int .i64 g] (.tup [.int .i64 (tuRes b w i g).1, .bool (tuRes b w i g).2]) := by
  have c1 := t67 hC b w hb hq
  have c2 := fun l g h hn => t72 hC b l g h hb hn
  simp only [brdF, rulF, mpF, List.cons_append, List.nil_append, wkF] at *
  refine rT hC Q29 ?_
  simp only [c29, push_cast, ↓J1, ↓J2, N1, N2, N3, reduceCtorEq, N4, N5, N6, reduceIte, N7, I1, I2, I3]
  refine ⟨_, c1, ?_⟩
  cases g1 : wkOk b w
  · simp only [tuRes, tuAsk, g1, push_cast, ↓J1, ↓J2, N1, N2, N3, reduceCtorEq, N4, N5, N6, reduceIte, N7, I1, I2, I3]
  simp only [ints_length, push_cast, ↓J1, ↓J2, N1, N2, N3, reduceCtorEq, N4, N5, N6, reduceIte, N7, I1, I2, I3]
  rw [wrap64 (n := (w.q.length : Int) - 1) (by omega) (by omega)]
  refine ⟨_, tIn hC _ _ _, ?_⟩
  cases g2 : inR 0 ((w.q.length : Int) - 1) i
  · simp only [tuRes, tuAsk, g1, g2, push_cast, ↓J1, ↓J2, N1, N2, N3, reduceCtorEq, N4, N5, N6, reduceIte, N7, I1, I2, I3]
  simp only [push_cast, ↓J1, ↓J2, N1, N2, N3, reduceCtorEq, N4, N5, N6, reduceIte, N7, I1, I2, I3]
  refine ⟨_, tIn hC _ _ _, ?_⟩
  cases g3 : inR 0 50 g
  · simp only [tuRes, tuAsk, g1, g2, g3, push_cast, ↓J1, ↓J2, N1, N2, N3, reduceCtorEq, N4, N5, N6, reduceIte, N7, I1, I2, I3]
  have hi := g2
  have hg := g3
  simp only [inR, Bool.and_eq_true, decide_eq_true_eq] at hi hg
  have hL : (w.q.take (i + 1).toNat).all (inR 0 (b.r.ks.length - 1)) = true := by
    rw [List.all_eq_true]
    exact fun x hx => List.all_eq_true.1 (wk_q g1) x (List.mem_of_mem_take hx)
  have c3 := c2 (w.q.take (i + 1).toNat) (wk_brd g1) hL (by rw [List.length_take]; omega)
  have eT : List.take (i + 1).toNat (ints w.q) = ints (w.q.take (i + 1).toNat) := by simp only [ints, List.map_take]
  simp only [ints_length, wrap64 (n := i + 1) (by omega) (by omega), push_cast, ↓J1, ↓J2, N1, N2, N3, reduceCtorEq, N4, N5, N6, reduceIte, N7, I1, I2, I3]
  have hel : ∀ el ∈ ints w.q, el.length = 1 := by simp [ints]
  have eR : tuRes b w i g = if leftP b w i ≤ 0 then (0, true) else if g = 0 then (0, false) else (IntKind.i64.wrap ((IntKind.i64.wrap (IntKind.i64.wrap (leftP b w i + g) - 1)).tdiv g), true) := by
    simp only [tuRes, tuAsk, g1, g2, g3, Bool.and_self, if_true]
  rw [eR]
  simp only [Int.sub_zero, eT]
  have eD : IntKind.i64.wrap (sumP b (w.q.take (i + 1).toNat) - w.pt) = leftP b w i := rfl
  generalize leftP b w i = d at *
  generalize w.q.take (i + 1).toNat = q' at *
  and_intros
  all_goals first
    | exact hel
    | omega
    | skip
  all_goals
    refine ⟨_, c3, ?_⟩
    simp only [eD, push_cast, ↓J1, ↓J2, N1, N2, N3, reduceCtorEq, N4, N5, N6, reduceIte, N7, I1, I2, I3]
  all_goals
    refine ifB_intro (fun h => ?_) (fun h => ?_)
    · simp only [if_pos (of_decide_eq_true h), push_cast, ↓J1, ↓J2, N1, N2, N3, reduceCtorEq, N4, N5, N6, reduceIte, N7, I1, I2, I3]
    have hd := of_decide_eq_false h
    simp only [if_neg hd]
    refine ifB_intro (fun h => ?_) (fun h => ?_)
    · simp only [if_pos (of_decide_eq_true h), push_cast, ↓J1, ↓J2, N1, N2, N3, reduceCtorEq, N4, N5, N6, reduceIte, N7, I1, I2, I3]
    have hg0 := of_decide_eq_false h
    simp only [if_neg hg0, push_cast, ↓J1, ↓J2, N1, N2, N3, reduceCtorEq, N4, N5, N6, reduceIte, N7, I1, I2, I3]
    and_intros <;> first | trivial | omega | rfl | (exact wrap64 (by omega) (by omega))
theorem t30 (b : Brd) (w : Wk) (i g : Int) (hb : BrdB (2^50) b) (hq : w.q.length < 2^50) : Ev C 30 [brdF b, .agg (wkF w), .int .i64 i, .int .i64 g] (.tup [.int .i64 (tuRes b w i g).1, .bool (tuRes b w i g).2]) := by
  have c1 := t73 hC b w hb hq
  have c2 := fun l g h hn => t74 hC b l g h hb hn
  simp only [brdF, rulF, mpF, List.cons_append, List.nil_append, wkF] at *
  refine rT hC Q30 ?_
  simp only [c30, push_cast, ↓J1, ↓J2, N1, N2, N3, reduceCtorEq, N4, N5, N6, reduceIte, N7, I1, I2, I3]
  refine ⟨_, c1, ?_⟩
  cases g1 : wkOk b w
  · simp only [tuRes, tuAsk, g1, push_cast, ↓J1, ↓J2, N1, N2, N3, reduceCtorEq, N4, N5, N6, reduceIte, N7, I1, I2, I3]
  simp only [ints_length, push_cast, ↓J1, ↓J2, N1, N2, N3, reduceCtorEq, N4, N5, N6, reduceIte, N7, I1, I2, I3]
  
  refine ⟨_, tIdx hC _ _ (by omega), ?_⟩
  cases g2 : inR 0 ((w.q.length : Int) - 1) i
  · simp only [tuRes, tuAsk, g1, g2, push_cast, ↓J1, ↓J2, N1, N2, N3, reduceCtorEq, N4, N5, N6, reduceIte, N7, I1, I2, I3]
  simp only [push_cast, ↓J1, ↓J2, N1, N2, N3, reduceCtorEq, N4, N5, N6, reduceIte, N7, I1, I2, I3]
  refine ⟨_, t77 hC _, ?_⟩
  cases g3 : inR 0 50 g
  · simp only [tuRes, tuAsk, g1, g2, g3, push_cast, ↓J1, ↓J2, N1, N2, N3, reduceCtorEq, N4, N5, N6, reduceIte, N7, I1, I2, I3]
  have hi := g2
  have hg := g3
  simp only [inR, Bool.and_eq_true, decide_eq_true_eq] at hi hg
  have hL : (w.q.take (i + 1).toNat).all (inR 0 (b.r.ks.length - 1)) = true := by
    rw [List.all_eq_true]
    exact fun x hx => List.all_eq_true.1 (wk_q g1) x (List.mem_of_mem_take hx)
  have c3 := c2 (w.q.take (i + 1).toNat) (wk_brd g1) hL (by rw [List.length_take]; omega)
  have eT : List.take (i + 1).toNat (ints w.q) = ints (w.q.take (i + 1).toNat) := by simp only [ints, List.map_take]
  simp only [ints_length, wrap64 (n := i + 1) (by omega) (by omega), push_cast, ↓J1, ↓J2, N1, N2, N3, reduceCtorEq, N4, N5, N6, reduceIte, N7, I1, I2, I3]
  have hel : ∀ el ∈ ints w.q, el.length = 1 := by simp [ints]
  have eR : tuRes b w i g = if leftP b w i ≤ 0 then (0, true) else if g = 0 then (0, false) else (IntKind.i64.wrap ((IntKind.i64.wrap (IntKind.i64.wrap (leftP b w i + g) - 1)).tdiv g), true) := by
    simp only [tuRes, tuAsk, g1, g2, g3, Bool.and_self, if_true]
  rw [eR]
  simp only [Int.sub_zero, eT]
  have eD : IntKind.i64.wrap (sumP b (w.q.take (i + 1).toNat) - w.pt) = leftP b w i := rfl
  generalize leftP b w i = d at *
  generalize w.q.take (i + 1).toNat = q' at *
  and_intros
  all_goals first
    | exact hel
    | omega
    | skip
  all_goals
    refine ⟨_, c3, ?_⟩
    simp only [eD, push_cast, ↓J1, ↓J2, N1, N2, N3, reduceCtorEq, N4, N5, N6, reduceIte, N7, I1, I2, I3]
  all_goals
    by_cases hd : d ≤ 0
    · have e0 : (if 0 < d then d else 0) = 0 := if_neg (by omega)
      simp only [e0, if_pos hd, push_cast, ↓J1, ↓J2, N1, N2, N3, reduceCtorEq, N4, N5, N6, reduceIte, N7, I1, I2, I3]
    have e0 : (if 0 < d then d else 0) = d := if_pos (by omega)
    have e1 : decide (d = 0) = false := decide_eq_false (by omega)
    simp only [e0, e1, if_neg hd, push_cast, ↓J1, ↓J2, N1, N2, N3, reduceCtorEq, N4, N5, N6, reduceIte, N7, I1, I2, I3]
    refine ifB_intro (fun h => ?_) (fun h => ?_)
    · simp only [if_pos (of_decide_eq_true h), push_cast, ↓J1, ↓J2, N1, N2, N3, reduceCtorEq, N4, N5, N6, reduceIte, N7, I1, I2, I3]
    have hg0 := of_decide_eq_false h
    simp only [if_neg hg0, push_cast, ↓J1, ↓J2, N1, N2, N3, reduceCtorEq, N4, N5, N6, reduceIte, N7, I1, I2, I3]
    and_intros <;> first | trivial | omega | rfl
theorem t7 (b : Brd) (w : Wk) (i g : Int) (hb : BrdB (2^50) b) (hq : w.q.length < 2^50) : Ev C 7 [brdF b, .agg (wkF w), .int .i64 i, .int .i64 g] (.bool true) := by
  have q1 := t17 hC b 1048576 (by omega) hb
  have q1' := fun h => t22 hC w (szBrd b 1048576) h hq
  have q2 := fun h => t19 hC b h
  have q2' := fun h => t24 hC w h
  have q3 := t29 hC b w i g hb hq
  have q4 := t30 hC b w i g hb hq
  have q5 := t21 hC b b hb hb
  have q5' := t26 hC w w hq hq
  have hu := szBrd_le (b := b) (v := 1048576) (by omega) (by omega)
  simp only [brdO, rulO, mpO, brdF, rulF, mpF, List.cons_append, List.nil_append, wkF, wkO] at *
  refine rT hC Q7 ?_
  simp only [c7, push_cast, ↓J1, ↓J2, N1, N2, N3, reduceCtorEq, N4, N5, N6, reduceIte, N7, I1, I2, I3]
  refine ⟨_, q1, ?_⟩
  simp only [push_cast, ↓J1, ↓J2, N1, N2, N3, reduceCtorEq, N4, N5, N6, reduceIte, N7, I1, I2, I3]
  refine ifB_intro (fun h => trivial) (fun h => ?_)
  have hs := of_decide_eq_false h
  have hB : BrdB (2^30) b := (szBrd_pos (by omega)).mono (by omega)
  refine ⟨_, q1' ⟨by omega, by omega⟩, ?_⟩
  simp only [push_cast, ↓J1, ↓J2, N1, N2, N3, reduceCtorEq, N4, N5, N6, reduceIte, N7, I1, I2, I3]
  refine ifB_intro (fun h => trivial) (fun h => ?_)
  have hs' := of_decide_eq_false h
  have hQ : w.q.length < 2^30 := by have := sub1_pos (v := szBrd b 1048576) (n := w.q.length) (by simp only [szWk] at hs'; omega); omega
  refine ⟨_, q2 hB, ?_⟩
  simp only [frzLL_ints, frzLL_ters, frzLL_kins, push_cast, ↓J1, ↓J2, N1, N2, N3, reduceCtorEq, N4, N5, N6, reduceIte, N7, I1, I2, I3]
  refine ⟨_, q2' hQ, ?_⟩
  simp only [frzLL_ints, frzLL_ters, frzLL_kins, push_cast, ↓J1, ↓J2, N1, N2, N3, reduceCtorEq, N4, N5, N6, reduceIte, N7, I1, I2, I3]
  refine ⟨_, q3, ?_⟩
  simp only [push_cast, ↓J1, ↓J2, N1, N2, N3, reduceCtorEq, N4, N5, N6, reduceIte, N7, I1, I2, I3]
  refine ⟨_, q2 hB, ?_⟩
  simp only [frzLL_ints, frzLL_ters, frzLL_kins, push_cast, ↓J1, ↓J2, N1, N2, N3, reduceCtorEq, N4, N5, N6, reduceIte, N7, I1, I2, I3]
  refine ⟨_, q2' hQ, ?_⟩
  simp only [frzLL_ints, frzLL_ters, frzLL_kins, push_cast, ↓J1, ↓J2, N1, N2, N3, reduceCtorEq, N4, N5, N6, reduceIte, N7, I1, I2, I3]
  refine ⟨_, q4, ?_⟩
  simp only [push_cast, ↓J1, ↓J2, N1, N2, N3, reduceCtorEq, N4, N5, N6, reduceIte, N7, I1, I2, I3]
  refine ⟨_, q2 hB, ?_⟩
  simp only [frzLL_ints, frzLL_ters, frzLL_kins, push_cast, ↓J1, ↓J2, N1, N2, N3, reduceCtorEq, N4, N5, N6, reduceIte, N7, I1, I2, I3]
  refine ⟨_, q5, ?_⟩
  simp only [push_cast, ↓J1, ↓J2, N1, N2, N3, reduceCtorEq, N4, N5, N6, reduceIte, N7, I1, I2, I3]
  refine ⟨_, q2' hQ, ?_⟩
  simp only [frzLL_ints, frzLL_ters, frzLL_kins, push_cast, ↓J1, ↓J2, N1, N2, N3, reduceCtorEq, N4, N5, N6, reduceIte, N7, I1, I2, I3]
  refine ⟨_, q5', ?_⟩
  simp only [push_cast, ↓J1, ↓J2, N1, N2, N3, reduceCtorEq, N4, N5, N6, reduceIte, N7, I1, I2, I3]
end
end Go.Proofs.YtlddjlchgibdfaaDoor.X
set_option maxHeartbeats 2000000
set_option maxRecDepth 8000
set_option linter.unusedSimpArgs false
set_option linter.unusedVariables false
open Nat renaming reduceBEq → N1, reduceAdd → N2, reduceSub → N3, reduceMul → N4, reduceEqDiff → N5, reduceLeDiff → N6, reduceLT → N7
open Int renaming reduceLE → I1, reduceLT → I2, reduceToNat → I3
namespace Go.Proofs.YtlddjlchgibdfaaDoor.X
open Go
structure Un where
  sd : Int
  k : Int
  at_ : Int
  st : Int
  deriving DecidableEq
def unA (u : Un) : List AV := [.int .i64 u.sd, .int .i64 u.k, .int .i64 u.at_, .int .i64 u.st]
def uns (l : List Un) : List (List AV) := l.map unA
theorem uns_length (l : List Un) : (uns l).length = l.length := by simp [uns]
theorem uns_get {l : List Un} {i : Nat} (h : i < l.length) : (uns l)[i]? = some (unA l[i]) := by simp [uns, h]
theorem frzLL_uns (l : List Un) : frzLL (uns l) = uns l := by
  unfold uns
  induction l with
  | nil => rfl
  | cons x l ih => simp only [List.map_cons, frzLL, unA, frzL, frzT, ih]
theorem own_uns (l : List Un) : ownRLL (uns l) = true := by
  unfold uns
  induction l with
  | nil => rfl
  | cons x l ih => simp only [List.map_cons, ownRLL, unA, ownRL, ownR, Bool.and_true, Bool.true_and]; exact ih
structure Sta where
  t : Int
  w : Int
  us : List Un
  deriving DecidableEq
def staF (s : Sta) : List AV := [.int .i64 s.t, .int .i64 s.w, .sl (uns s.us)]
def staO (s : Sta) : List AV := [.int .i64 s.t, .int .i64 s.w, .ow 4 (uns s.us)]
def szSta (s : Sta) (v : Int) : Int := sub1 v s.us.length
def ter0 : Ter := ⟨ByteArray.empty, [], 0, 0, false⟩
def terAt (b : Brd) (i : Int) : Ter := b.r.ts.getD (b.m.t.getD i.toNat 0).toNat ter0
def costAt (b : Brd) (k i : Int) : Int := (terAt b i).c.getD k.toNat 0
def placed (b : Brd) (u : Un) : Bool := decide (0 < u.st) && inR 0 (b.m.w * b.m.h - 1) u.at_ && decide (0 < costAt b u.k u.at_)
def unOk (b : Brd) (u : Un) : Bool := inR 0 1 u.sd && inR 0 (b.r.ks.length - 1) u.k && inR 0 (kindOf b u.k).sp u.st && (decide (u.at_ = -1) || placed b u)
def isAt (a sd : Int) (u : Un) : Bool := decide (u.at_ = a) && decide (u.sd = sd)
def cnt (us : List Un) (a sd : Int) : Nat := us.countP (isAt a sd)
def stackOk (b : Brd) (us : List Un) (u : Un) : Bool := !(decide (0 ≤ u.at_) && (decide (0 < cnt us u.at_ (1 - u.sd)) || decide (b.r.stack < (cnt us u.at_ u.sd : Int))))
def staOk0 (b : Brd) (s : Sta) : Bool := inR 0 b.r.turns s.t && inR 0 2 s.w && decide ((s.us.length : Int) ≤ 12) && s.us.all (unOk b) && s.us.all (stackOk b s.us)
def staOk (b : Brd) (s : Sta) : Bool := brdOk b && staOk0 b s
theorem cnt_take_le (us : List Un) (n : Nat) (a sd : Int) : cnt (us.take n) a sd ≤ cnt us a sd := (List.take_sublist n us).countP_le
theorem cnt_succ {us : List Un} {i : Nat} (h : i < us.length) (a sd : Int) : cnt (us.take (i + 1)) a sd = cnt (us.take i) a sd + if isAt a sd us[i] then 1 else 0 := by
  rw [cnt, List.take_succ_eq_append_getElem h, List.countP_append]
  simp only [List.countP_cons, List.countP_nil, Nat.zero_add, cnt]
theorem cnt_le_len (us : List Un) (a sd : Int) : cnt us a sd ≤ us.length := List.countP_le_length
theorem cnt_last {a sd : Int} : ∀ {us : List Un}, 0 < cnt us a sd → ∃ m, ∃ h : m < us.length, isAt a sd us[m] = true ∧ cnt (us.take (m + 1)) a sd = cnt us a sd := by
  intro us
  have key : ∀ n, n ≤ us.length → 0 < cnt (us.take n) a sd → ∃ m, ∃ h : m < us.length, isAt a sd us[m] = true ∧ cnt (us.take (m + 1)) a sd = cnt (us.take n) a sd := by
    intro n
    induction n with
    | zero => intro _ h; simp [cnt] at h
    | succ n ih =>
      intro hn h
      have hs := cnt_succ (us := us) (i := n) (by omega) a sd
      by_cases hi : isAt a sd us[n] = true
      · exact ⟨n, by omega, hi, rfl⟩
      · rw [if_neg hi, Nat.add_zero] at hs
        obtain ⟨m, hm, h1, h2⟩ := ih (by omega) (by omega)
        exact ⟨m, hm, h1, by omega⟩
  intro h
  obtain ⟨m, hm, h1, h2⟩ := key us.length (Nat.le_refl _) (by rw [List.take_length]; exact h)
  exact ⟨m, hm, h1, by rw [h2, List.take_length]⟩
theorem stack_mono {b : Brd} {us : List Un} {u : Un} (n : Nat) (h : stackOk b us u = true) : stackOk b (us.take n) u = true := by
  simp only [stackOk, Bool.not_eq_true', Bool.and_eq_false_iff, Bool.or_eq_false_iff, decide_eq_false_iff_not] at h ⊢
  have h1 := cnt_take_le us n u.at_ (1 - u.sd)
  have h2 := cnt_take_le us n u.at_ u.sd
  rcases h with h | ⟨h, h'⟩
  · exact .inl h
  · exact .inr ⟨by omega, by omega⟩
theorem un_sd {b : Brd} {u : Un} (h : unOk b u = true) : u.sd = 0 ∨ u.sd = 1 := by
  simp only [unOk, inR, Bool.and_eq_true, decide_eq_true_eq] at h
  omega
theorem stack_all {b : Brd} {us : List Un} (hu : ∀ i (h : i < us.length), unOk b us[i] = true) (hs : ∀ i (h : i < us.length), stackOk b (us.take (i + 1)) us[i] = true) : us.all (stackOk b us) = true := by
  rw [List.all_eq_true]
  intro u hm
  obtain ⟨i, hi, rfl⟩ := List.getElem_of_mem hm
  simp only [stackOk, Bool.not_eq_true', Bool.and_eq_false_iff, Bool.or_eq_false_iff, decide_eq_false_iff_not]
  by_cases ha : 0 ≤ us[i].at_
  · right
    constructor
    · intro hc
      obtain ⟨j, hj, h1, h2⟩ := cnt_last hc
      simp only [isAt, Bool.and_eq_true, decide_eq_true_eq] at h1
      rcases Nat.lt_trichotomy i j with hij | hij | hij
      · have := hs j hj
        simp only [stackOk, Bool.not_eq_true', Bool.and_eq_false_iff, Bool.or_eq_false_iff, decide_eq_false_iff_not] at this
        rcases this with this | ⟨this, _⟩
        · omega
        · apply this
          refine List.countP_pos_iff.2 ⟨us[i], ?_, ?_⟩
          · exact List.mem_take_iff_getElem.2 ⟨i, by omega, rfl⟩
          · simp only [isAt, Bool.and_eq_true, decide_eq_true_eq]; omega
      · subst hij; rcases un_sd (hu i hi) with e | e <;> omega
      · have := hs i hi
        simp only [stackOk, Bool.not_eq_true', Bool.and_eq_false_iff, Bool.or_eq_false_iff, decide_eq_false_iff_not] at this
        rcases this with this | ⟨this, _⟩
        · omega
        · apply this
          refine List.countP_pos_iff.2 ⟨us[j], ?_, ?_⟩
          · exact List.mem_take_iff_getElem.2 ⟨j, by omega, rfl⟩
          · simp only [isAt, Bool.and_eq_true, decide_eq_true_eq]; omega
    · intro hc
      have hp : 0 < cnt us us[i].at_ us[i].sd := List.countP_pos_iff.2 ⟨us[i], List.getElem_mem hi, by simp [isAt]⟩
      obtain ⟨j, hj, h1, h2⟩ := cnt_last hp
      simp only [isAt, Bool.and_eq_true, decide_eq_true_eq] at h1
      have := hs j hj
      simp only [stackOk, Bool.not_eq_true', Bool.and_eq_false_iff, Bool.or_eq_false_iff, decide_eq_false_iff_not, h1.1, h1.2] at this
      rcases this with this | ⟨_, this⟩
      · omega
      · omega
  · exact .inl ha
def tblRow (us : List Un) (h : Nat) : List AV := [.int .i64 (cnt us h 0 : Int), .int .i64 (cnt us h 1 : Int)]
def tblR (us : List Un) (n : Nat) : List (List AV) := (List.range n).map (tblRow us)
theorem tblR_length (us : List Un) (n : Nat) : (tblR us n).length = n := by simp [tblR]
theorem tblR_get {us : List Un} {n h : Nat} (hh : h < n) : (tblR us n)[h]? = some (tblRow us h) := by simp [tblR, hh]
theorem tblR_nil (n : Nat) : tblR [] n = List.replicate n [.int .i64 0, .int .i64 0] := by
  apply List.ext_getElem (by simp [tblR])
  intro i h1 h2
  simp [tblR, tblRow, cnt]
theorem tblR_away {us : List Un} {i n : Nat} (h : i < us.length) (ha : us[i].at_ < 0) : tblR (us.take (i + 1)) n = tblR (us.take i) n := by
  unfold tblR
  apply List.map_congr_left
  intro x _
  simp only [tblRow, cnt_succ h]
  have e : ∀ sd, isAt (x : Int) sd us[i] = false := fun sd => by simp only [isAt, Bool.and_eq_false_iff, decide_eq_false_iff_not]; omega
  simp [e]
theorem tblR_add {us : List Un} {i n a s : Nat} (h : i < us.length) (ha : us[i].at_ = a) (hs : us[i].sd = s) (hs2 : s < 2) (han : a < n) : tblR (us.take (i + 1)) n = (tblR (us.take i) n).set a ((tblRow (us.take i) a).set s (.int .i64 ((cnt (us.take i) a s : Int) + 1))) := by
  apply List.ext_getElem (by simp [tblR])
  intro x h1 h2
  rw [List.getElem_set]
  simp only [tblR, List.getElem_map, List.getElem_range]
  by_cases hx : a = x
  · subst hx
    rw [if_pos rfl]
    have e : ∀ sd : Int, isAt (a : Int) sd us[i] = decide ((s : Int) = sd) := fun sd => by simp [isAt, ha, hs]
    have : s = 0 ∨ s = 1 := by omega
    rcases this with rfl | rfl <;> simp [tblRow, cnt_succ h, e]
  · rw [if_neg hx]
    have e : ∀ sd, isAt (x : Int) sd us[i] = false := fun sd => by simp only [isAt, Bool.and_eq_false_iff, decide_eq_false_iff_not]; omega
    simp [tblRow, cnt_succ h, e]
def fil {α : Type} (p : α → Bool) (l : List α) (n : Nat) : List Int := ((List.range n).filter fun i => match l[i]? with | some u => p u | none => false).map fun (i : Nat) => (i : Int)
theorem fil_succ {α : Type} {p : α → Bool} {l : List α} {n : Nat} (h : n < l.length) : fil p l (n + 1) = if p l[n] then fil p l n ++ [(n : Int)] else fil p l n := by
  simp only [fil, List.range_succ, List.filter_append, List.map_append, List.filter_cons, List.filter_nil, List.getElem?_eq_getElem h]
  split <;> simp
theorem fil_len {α : Type} {p : α → Bool} {l : List α} : ∀ {n : Nat}, n ≤ l.length → (fil p l n).length = (l.take n).countP p := by
  intro n
  induction n with
  | zero => intro _; simp [fil]
  | succ n ih =>
    intro h
    rw [fil_succ (by omega), List.take_succ_eq_append_getElem h, List.countP_append]
    have := ih (by omega)
    split <;> rename_i hp <;> simp [this, hp]
theorem fil_le {α : Type} {p : α → Bool} {l : List α} {n : Nat} (h : n ≤ l.length) : (fil p l n).length ≤ l.length := by
  rw [fil_len h]
  have := List.countP_le_length (p := p) (l := l.take n)
  simp at this; omega
theorem fil_mem {α : Type} {p : α → Bool} {l : List α} {n : Nat} {x : Int} (h : x ∈ fil p l n) : ∃ k : Nat, ∃ hk : k < l.length, x = k ∧ k < n ∧ p l[k] = true := by
  simp only [fil, List.mem_map, List.mem_filter, List.mem_range] at h
  obtain ⟨k, ⟨h1, h2⟩, rfl⟩ := h
  split at h2
  · rename_i u hu
    have hk := (List.getElem?_eq_some_iff.1 hu)
    exact ⟨k, hk.1, rfl, h1, by rw [hk.2]; exact h2⟩
  · cases h2
theorem terOk_len {b : Brd} (g : brdOk b = true) {i : Nat} (h : i < b.r.ts.length) : b.r.ts[i].c.length = b.r.ks.length ∧ ∀ x ∈ b.r.ts[i].c, 0 ≤ x ∧ x ≤ 9 := by
  have hr := brd_ru g
  simp only [rulOk, Bool.and_eq_true] at hr
  have := allI_get hr.1.1.2 i h
  simp only [terOk, Bool.and_eq_true, decide_eq_true_eq, List.all_eq_true] at this
  refine ⟨by have := this.1.1.1.2; omega, fun x hx => ?_⟩
  have := this.1.1.2 x hx
  simp only [inR, Bool.and_eq_true, decide_eq_true_eq] at this
  exact this
theorem ter_in {b : Brd} (g : brdOk b = true) {i : Nat} (h : i < b.m.t.length) : 0 ≤ b.m.t.getD i 0 ∧ b.m.t.getD i 0 < b.r.ts.length := by
  have : b.m.t.all (inR 0 (b.r.ts.length - 1)) = true := by simp only [brdOk, Bool.and_eq_true] at g; exact g.2
  rw [List.all_eq_true] at this
  have := this (b.m.t[i]) (List.getElem_mem h)
  simp only [inR, Bool.and_eq_true, decide_eq_true_eq] at this
  simp only [List.getD, List.getElem?_eq_getElem h, Option.getD_some]
  omega
end Go.Proofs.YtlddjlchgibdfaaDoor.X
set_option maxHeartbeats 4000000
set_option maxRecDepth 8000
set_option linter.unusedSimpArgs false
set_option linter.unusedVariables false
open Nat renaming reduceBEq → N1, reduceAdd → N2, reduceSub → N3, reduceMul → N4, reduceEqDiff → N5, reduceLeDiff → N6, reduceLT → N7
open Int renaming reduceLE → I1, reduceLT → I2, reduceToNat → I3
namespace Go.Proofs.YtlddjlchgibdfaaDoor.X
open Go
attribute [local irreducible] Ev
section
variable {C : CT} (hC : Closed Tryd.prog G1 md0 C)
include hC
theorem t78 (l : List Un) (v : Int) (hv : 0 ≤ v ∧ v < 2^50) (hl : l.length < 2^50) : Ev C 78 [.sl (uns l), .int .i64 v] (.int .i64 (sub1 v l.length)) := by
  refine rT hC Q78 ?_
  simp only [c78, uns_length, push_cast, ↓J1, ↓J2, N1, N2, N3, reduceCtorEq, N4, N5, N6, reduceIte, N7, I1, I2, I3]
  rw [wrap64 (by omega) (by omega)]
  refine ifB_intro (fun h => ?_) (fun h => ?_)
  · have h' : v < l.length := by simp at h; omega
    simp only [sub1, if_pos h']
  · have h' : ¬ v < l.length := by simp at h; omega
    simp only [sub1, if_neg h']
theorem t31 (s : Sta) (v : Int) (hv : 0 ≤ v ∧ v < 2^50) (hl : s.us.length < 2^50) : Ev C 31 [.agg (staF s), .int .i64 v] (.int .i64 (szSta s v)) := by
  simp only [staF]
  refine rT hC Q31 ?_
  simp only [c31, push_cast, ↓J1, ↓J2, N1, N2, N3, reduceCtorEq, N4, N5, N6, reduceIte, N7, I1, I2, I3]
  refine ⟨_, t78 hC _ _ hv hl, ?_⟩
  simp only [push_cast, ↓J1, ↓J2, N1, N2, N3, reduceCtorEq, N4, N5, N6, reduceIte, N7, I1, I2, I3]
  have h1 := sub1_le (n := s.us.length) hv.1
  refine ifB_intro (fun h => ?_) (fun h => ?_)
  · have := of_decide_eq_true h; simp only [szSta]; omega
  · rfl
theorem t122 (o : Un) : Ev C 122 [.agg (unA o)] (.agg (unA o)) := by
  simp only [unA]
  refine rT hC Q122 ?_
  simp only [c122, push_cast, ↓J1, ↓J2, N1, N2, N3, reduceCtorEq, N4, N5, N6, reduceIte, N7, I1, I2, I3]
  exact rtA
theorem t80 (l : List Un) (hl : l.length < 2^30) : Ev C 80 [.sl (uns l)] (.ow 4 (uns l)) := by
  refine rT hC Q80 ?_ (by simp only [ownR, own_uns])
  simp only [c80, uns_length, push_cast, ↓J1, ↓J2, N1, N2, N3, reduceCtorEq, N4, N5, N6, reduceIte, N7, I1, I2, I3]
  repeat (refine ⟨by omega, ?_⟩)
  refine RL_count (fun i => ⟨tb 23 .any [(0, .sl (uns l)), (3, .ref 0 none 4 0 l.length), (4, .int .i64 (i : Int))], [(0, .slice 4 ((l.take i).map unA ++ List.replicate (l.length - i) [.int .i64 0, .int .i64 0, .int .i64 0, .int .i64 0]))], 1⟩) (fun _ => True) l.length 0 (hdA [(0, 0)]) (by omega) trivial fun i hi _ J hJ => ?_
  by_cases h1 : i < l.length
  · have e1 : (uns l)[i]? = some (unA l[i]) := by simp [uns, h1]
    rw [show l.length - i = (l.length - (i + 1)) + 1 by omega, List.replicate_succ]
    simp only [uns_length, Int.toNat_natCast, e1, unA, push_cast, ↓J1, ↓J2, N1, N2, N3, reduceCtorEq, N4, N5, N6, reduceIte, N7, I1, I2, I3]
    refine ifB_intro (fun _ => ?_) (fun h => by simp at h; omega)
    repeat (refine ⟨by omega, ?_⟩)
    refine ⟨_, t122 hC l[i], ?_⟩
    simp only [Int.toNat_natCast, unA, unA, List.take_length, mid_get (show ((l.take i).map unA).length = i by simp; omega), mid_set (show ((l.take i).map unA).length = i by simp; omega), push_cast, ↓J1, ↓J2, N1, N2, N3, reduceCtorEq, N4, N5, N6, reduceIte, N7, I1, I2, I3]
    repeat (refine ⟨by omega, ?_⟩)
    refine hJ h1 trivial _ (hdA [(0, 0)] (hh := ?_))
    rw [List.take_succ_eq_append_getElem h1, List.map_append, List.append_assoc]
    simp only [hdel, canR, canB, renO, renL, ren, lkp, hget, N7, N5, Nat.not_lt_zero, if_false, if_true, reduceIte, List.append_nil, List.nil_append]
    rfl
  · simp only [uns_length, Int.toNat_natCast, push_cast, ↓J1, ↓J2, N1, N2, N3, reduceCtorEq, N4, N5, N6, reduceIte, N7, I1, I2, I3]
    refine ifB_intro (fun h => by simp at h; omega) (fun h => ?_)
    rw [List.take_of_length_le (by omega), show l.length - i = 0 by omega]
    exact RetTo_ow (by simp [hget, uns]) (by simp [uns])
theorem t33 (s : Sta) (hl : s.us.length < 2^30) : Ev C 33 [.agg (staF s)] (.agg (staO s)) := by
  simp only [staF, staO]
  refine rT hC Q33 ?_ (by simp only [ownR, ownRL, own_uns, Bool.and_true])
  simp only [c33, push_cast, ↓J1, ↓J2, N1, N2, N3, reduceCtorEq, N4, N5, N6, reduceIte, N7, I1, I2, I3]
  refine ⟨_, t80 hC _ hl, ?_⟩
  simp only [push_cast, ↓J1, ↓J2, N1, N2, N3, reduceCtorEq, N4, N5, N6, reduceIte, N7, I1, I2, I3]
  exact rtA
theorem t124 (t u : Un) : Ev C 124 [.agg (unA t), .agg (unA u)] (.bool (decide (t = u))) := by
  obtain ⟨a1, a2, a3, a4⟩ := t
  obtain ⟨b1, b2, b3, b4⟩ := u
  simp only [unA]
  refine rT hC Q124 ?_
  simp only [c124, push_cast, ↓J1, ↓J2, N1, N2, N3, reduceCtorEq, N4, N5, N6, reduceIte, N7, I1, I2, I3]
  repeat' (first
    | simp only [push_cast, ↓J1, ↓J2, N1, N2, N3, reduceCtorEq, N4, N5, N6, reduceIte, N7, I1, I2, I3]
    | refine ifB_intro (fun h => ?_) (fun h => ?_))
  all_goals simp_all
theorem t83 (l m : List Un) (hl : l.length < 2^50) (hm : m.length < 2^50) : Ev C 83 [.sl (uns l), .sl (uns m)] (.bool (decide (l = m))) := by
  refine rT hC Q83 ?_
  simp only [c83, uns_length, push_cast, ↓J1, ↓J2, N1, N2, N3, reduceCtorEq, N4, N5, N6, reduceIte, N7, I1, I2, I3]
  refine ifB_intro (fun h => ?_) (fun h => ?_)
  · have hlm : l.length = m.length := by simp at h; omega
    refine RL_count (fun i => ⟨tb 27 .any [(0, .sl (uns l)), (1, .sl (uns m)), (5, .int .i64 (i : Int))], [], 0⟩) (fun i => l.take i = m.take i) l.length 0 (hdA []) (by omega) rfl fun i hi ht J hJ => ?_
    by_cases h1 : i < l.length
    · have h2 : i < m.length := by omega
      have e1 : (uns l)[i]? = some (unA l[i]) := by simp [uns, h1]
      have e2 : (uns m)[i]? = some (unA m[i]) := by simp [uns, h2]
      simp only [uns_length, Int.toNat_natCast, e1, e2, unA, push_cast, ↓J1, ↓J2, N1, N2, N3, reduceCtorEq, N4, N5, N6, reduceIte, N7, I1, I2, I3]
      refine ifB_intro (fun _ => ?_) (fun h => by simp at h; omega)
      repeat (refine ⟨by omega, ?_⟩)
      refine ⟨_, t124 hC l[i] m[i], ?_⟩
      simp only [push_cast, ↓J1, ↓J2, N1, N2, N3, reduceCtorEq, N4, N5, N6, reduceIte, N7, I1, I2, I3]
      refine ifB_intro (fun h => ?_) (fun h => ?_)
      · refine hJ h1 ?_ _ (hdA [])
        rw [List.take_succ_eq_append_getElem h1, List.take_succ_eq_append_getElem h2, ht, of_decide_eq_true h]
      · have : ¬ l = m := by rintro rfl; simp at h
        simp [this]
    · simp only [uns_length, Int.toNat_natCast, push_cast, ↓J1, ↓J2, N1, N2, N3, reduceCtorEq, N4, N5, N6, reduceIte, N7, I1, I2, I3]
      refine ifB_intro (fun h => by simp at h; omega) (fun h => ?_)
      rw [List.take_of_length_le (by omega), List.take_of_length_le (by omega)] at ht
      simp [ht]
  · have : ¬ l = m := by rintro rfl; simp at h
    simp [this]
theorem t35 (s u : Sta) (h1 : s.us.length < 2^50) (h2 : u.us.length < 2^50) : Ev C 35 [.agg (staF s), .agg (staF u)] (.bool (decide (s = u))) := by
  have c1 := t83 hC s.us u.us h1 h2
  clear h1 h2
  obtain ⟨a1, a2, a3⟩ := s
  obtain ⟨b1, b2, b3⟩ := u
  simp only [staF] at *
  refine rT hC Q35 ?_
  simp only [c35, push_cast, ↓J1, ↓J2, N1, N2, N3, reduceCtorEq, N4, N5, N6, reduceIte, N7, I1, I2, I3]
  repeat' (first
    | simp only [push_cast, ↓J1, ↓J2, N1, N2, N3, reduceCtorEq, N4, N5, N6, reduceIte, N7, I1, I2, I3]
    | refine ⟨_, c1, ?_⟩
    | refine ifB_intro (fun h => ?_) (fun h => ?_))
  all_goals (clear c1; simp_all)
end
end Go.Proofs.YtlddjlchgibdfaaDoor.X
set_option maxHeartbeats 4000000
set_option maxRecDepth 8000
set_option linter.unusedSimpArgs false
set_option linter.unusedVariables false
open Nat renaming reduceBEq → N1, reduceAdd → N2, reduceSub → N3, reduceMul → N4, reduceEqDiff → N5, reduceLeDiff → N6, reduceLT → N7
open Int renaming reduceLE → I1, reduceLT → I2, reduceToNat → I3
namespace Go.Proofs.YtlddjlchgibdfaaDoor.X
open Go
attribute [local irreducible] Ev
section
variable {C : CT} (hC : Closed Tryd.prog G1 md0 C)
include hC
theorem t198 (b : Brd) (i : Int) (g : brdOk b = true) (hi : inR 0 (b.m.w * b.m.h - 1) i = true) (hb : BrdB (2^50) b) : C 198 [brdF b, .int .i64 i] [(0, .var (rulF b.r ++ mpF b.m))] 1 (fun v h' n' => v = .agg (terF (terAt b i)) ∧ h' = [(2, .var (terF (terAt b i))), (1, .var (rulF b.r ++ mpF b.m)), (0, .var (rulF b.r ++ mpF b.m))] ∧ n' = 3) := by
  have hwh := brd_wh g
  have b1 := hb.m.t
  have b2 := hb.r.ts
  simp only [inR, Bool.and_eq_true, decide_eq_true_eq] at hi
  obtain ⟨i, rfl⟩ : ∃ k : Nat, i = k := ⟨i.toNat, by omega⟩
  have h1 : i < b.m.t.length := by omega
  have ht := ter_in g h1
  have e1 := ints_get h1
  obtain ⟨j, hj⟩ : ∃ k : Nat, b.m.t.getD i 0 = k := ⟨(b.m.t.getD i 0).toNat, by omega⟩
  have h2 : j < b.r.ts.length := by omega
  have e2 : (tersF b.r.ts)[j]? = some (terF b.r.ts[j]) := by simp [tersF, h2]
  have e3 : terAt b i = b.r.ts[j] := by simp only [terAt, Int.toNat_natCast, hj]; simp [h2]
  rw [e3]
  rw [hj] at e1
  simp only [brdF, rulF, mpF, List.cons_append, List.nil_append, terF] at *
  refine Closed.rT hC Q198 ?_
  simp only [c198, push_cast, ↓J1, ↓J2, N1, N2, N3, reduceCtorEq, N4, N5, N6, reduceIte, N7, I1, I2, I3]
  simp only [Int.toNat_natCast, e1, push_cast, ↓J1, ↓J2, N1, N2, N3, reduceCtorEq, N4, N5, N6, reduceIte, N7, I1, I2, I3]
  repeat (refine ⟨by omega, ?_⟩)
  simp only [Int.toNat_natCast, e2, tersF_length, ints_length, push_cast, ↓J1, ↓J2, N1, N2, N3, reduceCtorEq, N4, N5, N6, reduceIte, N7, I1, I2, I3]
  repeat (refine ⟨by omega, ?_⟩)
theorem t199 (b : Brd) (i : Int) (g : brdOk b = true) (hi : inR 0 (b.m.w * b.m.h - 1) i = true) (hb : BrdB (2^50) b) : C 199 [brdF b, .int .i64 i] [(0, .var (rulF b.r ++ mpF b.m))] 1 (fun v h' n' => v = .agg (terF (terAt b i)) ∧ h' = [(2, .var (terF (terAt b i))), (1, .var (rulF b.r ++ mpF b.m)), (0, .var (rulF b.r ++ mpF b.m))] ∧ n' = 3) := by
  have hwh := brd_wh g
  have b1 := hb.m.t
  have b2 := hb.r.ts
  simp only [inR, Bool.and_eq_true, decide_eq_true_eq] at hi
  obtain ⟨i, rfl⟩ : ∃ k : Nat, i = k := ⟨i.toNat, by omega⟩
  have h1 : i < b.m.t.length := by omega
  have ht := ter_in g h1
  have e1 := ints_get h1
  obtain ⟨j, hj⟩ : ∃ k : Nat, b.m.t.getD i 0 = k := ⟨(b.m.t.getD i 0).toNat, by omega⟩
  have h2 : j < b.r.ts.length := by omega
  have e2 : (tersF b.r.ts)[j]? = some (terF b.r.ts[j]) := by simp [tersF, h2]
  have e3 : terAt b i = b.r.ts[j] := by simp only [terAt, Int.toNat_natCast, hj]; simp [h2]
  rw [e3]
  rw [hj] at e1
  simp only [brdF, rulF, mpF, List.cons_append, List.nil_append, terF] at *
  refine Closed.rT hC Q199 ?_
  simp only [c199, push_cast, ↓J1, ↓J2, N1, N2, N3, reduceCtorEq, N4, N5, N6, reduceIte, N7, I1, I2, I3]
  simp only [Int.toNat_natCast, e1, push_cast, ↓J1, ↓J2, N1, N2, N3, reduceCtorEq, N4, N5, N6, reduceIte, N7, I1, I2, I3]
  repeat (refine ⟨by omega, ?_⟩)
  simp only [Int.toNat_natCast, e2, tersF_length, ints_length, push_cast, ↓J1, ↓J2, N1, N2, N3, reduceCtorEq, N4, N5, N6, reduceIte, N7, I1, I2, I3]
  repeat (refine ⟨by omega, ?_⟩)
omit hC in
theorem cost_get {b : Brd} {k : Nat} {i : Int} (g : brdOk b = true) (hk : k < b.r.ks.length) (hi : inR 0 (b.m.w * b.m.h - 1) i = true) : (ints (terAt b i).c)[k]? = some [.int .i64 (costAt b k i)] ∧ 0 ≤ costAt b k i ∧ costAt b k i ≤ 9 ∧ (terAt b i).c.length = b.r.ks.length := by
  have hwh := brd_wh g
  simp only [inR, Bool.and_eq_true, decide_eq_true_eq] at hi
  have h1 : i.toNat < b.m.t.length := by omega
  have ht := ter_in g h1
  have h2 : (b.m.t.getD i.toNat 0).toNat < b.r.ts.length := by omega
  have e : terAt b i = b.r.ts[(b.m.t.getD i.toNat 0).toNat] := by
    simp only [terAt]
    rw [List.getD, List.getElem?_eq_getElem h2, Option.getD_some]
  have hl := terOk_len g h2
  rw [← e] at hl
  have h3 : k < (terAt b i).c.length := by omega
  have hm : costAt b k i ∈ (terAt b i).c := by
    simp only [costAt, Int.toNat_natCast, List.getD, List.getElem?_eq_getElem h3, Option.getD_some]
    exact List.getElem_mem h3
  refine ⟨?_, (hl.2 _ hm).1, (hl.2 _ hm).2, hl.1⟩
  have := ints_get h3
  simpa only [costAt, Int.toNat_natCast] using this
theorem t190 (b : Brd) (k i : Int) (g : brdOk b = true) (hk : inR 0 (b.r.ks.length - 1) k = true) (hi : inR 0 (b.m.w * b.m.h - 1) i = true) (hb : BrdB (2^50) b) : Ev C 190 [brdF b, .int .i64 k, .int .i64 i] (.int .i64 (costAt b k i)) := by
  have c1 := t198 hC b i g hi hb
  have hk' := hk
  simp only [inR, Bool.and_eq_true, decide_eq_true_eq] at hk'
  obtain ⟨k, rfl⟩ : ∃ m : Nat, k = m := ⟨k.toNat, by omega⟩
  have hc := cost_get (k := k) g (by omega) hi
  have b2 := hb.r.ks
  simp only [brdF, rulF, mpF, List.cons_append, List.nil_append, terF] at *
  refine rT hC Q190 ?_
  simp only [c190, push_cast, ↓J1, ↓J2, N1, N2, N3, reduceCtorEq, N4, N5, N6, reduceIte, N7, I1, I2, I3]
  refine ⟨_, c1, ?_⟩
  rintro v h' n' ⟨rfl, rfl, rfl⟩ _
  simp only [Int.toNat_natCast, hc.1, push_cast, ↓J1, ↓J2, N1, N2, N3, reduceCtorEq, N4, N5, N6, reduceIte, N7, I1, I2, I3]
  omega
theorem t191 (b : Brd) (k i : Int) (g : brdOk b = true) (hk : inR 0 (b.r.ks.length - 1) k = true) (hi : inR 0 (b.m.w * b.m.h - 1) i = true) (hb : BrdB (2^50) b) : Ev C 191 [brdF b, .int .i64 k, .int .i64 i] (.int .i64 (costAt b k i)) := by
  have c1 := t199 hC b i g hi hb
  have hk' := hk
  simp only [inR, Bool.and_eq_true, decide_eq_true_eq] at hk'
  obtain ⟨k, rfl⟩ : ∃ m : Nat, k = m := ⟨k.toNat, by omega⟩
  have hc := cost_get (k := k) g (by omega) hi
  have b2 := hb.r.ks
  simp only [brdF, rulF, mpF, List.cons_append, List.nil_append, terF] at *
  refine rT hC Q191 ?_
  simp only [c191, push_cast, ↓J1, ↓J2, N1, N2, N3, reduceCtorEq, N4, N5, N6, reduceIte, N7, I1, I2, I3]
  refine ⟨_, c1, ?_⟩
  rintro v h' n' ⟨rfl, rfl, rfl⟩ _
  simp only [Int.toNat_natCast, hc.1, push_cast, ↓J1, ↓J2, N1, N2, N3, reduceCtorEq, N4, N5, N6, reduceIte, N7, I1, I2, I3]
  omega
omit hC in
theorem un_kind {b : Brd} {u : Un} (g : brdOk b = true) (h : inR 0 (b.r.ks.length - 1) u.k = true) : kindAsk b u.k = true := by
  simp only [kindAsk, g, h, Bool.and_self]
theorem t178 (b : Brd) (u : Un) (g : brdOk b = true) (hb : BrdB (2^50) b) : Ev C 178 [brdF b, .agg (unA u)] (.bool (unOk b u)) := by
  have hwh := brd_wh g
  have hm := mp_wh (brd_mp g)
  have c2 := t107 hC b.m hm.1 hm.2
  have c3 := fun hk hi => t190 hC b u.k u.at_ g hk hi hb
  have b2 := hb.r.ks
  have e0 := fun (k : Nat) (h : k < b.r.ks.length) => kins_get h
  simp only [brdF, rulF, mpF, List.cons_append, List.nil_append, unA, unOk, placed] at *
  refine rT hC Q178 ?_
  simp only [c178, push_cast, ↓J1, ↓J2, N1, N2, N3, reduceCtorEq, N4, N5, N6, reduceIte, N7, I1, I2, I3]
  refine ⟨_, tIn hC _ _ _, ?_⟩
  cases inR 0 1 u.sd
  · simp only [push_cast, ↓J1, ↓J2, N1, N2, N3, reduceCtorEq, N4, N5, N6, reduceIte, N7, I1, I2, I3]
  simp only [kins_length, push_cast, ↓J1, ↓J2, N1, N2, N3, reduceCtorEq, N4, N5, N6, reduceIte, N7, I1, I2, I3]
  rw [wrap64 (n := (b.r.ks.length : Int) - 1) (by omega) (by omega)]
  refine ⟨_, tIn hC _ _ _, ?_⟩
  cases g2 : inR 0 ((b.r.ks.length : Int) - 1) u.k
  · simp only [push_cast, ↓J1, ↓J2, N1, N2, N3, reduceCtorEq, N4, N5, N6, reduceIte, N7, I1, I2, I3]
  have hk := g2
  simp only [inR, Bool.and_eq_true, decide_eq_true_eq] at hk
  obtain ⟨k, ek⟩ : ∃ m : Nat, u.k = m := ⟨u.k.toNat, by omega⟩
  have e1 := e0 k (by omega)
  rw [← ek] at e1
  have en : u.k.toNat = k := by omega
  simp only [en, e1, kinA, kins_length, push_cast, ↓J1, ↓J2, N1, N2, N3, reduceCtorEq, N4, N5, N6, reduceIte, N7, I1, I2, I3]
  repeat (refine ⟨by omega, ?_⟩)
  refine ⟨_, tIn hC _ _ _, ?_⟩
  cases inR 0 (kindOf b u.k).sp u.st
  · simp only [push_cast, ↓J1, ↓J2, N1, N2, N3, reduceCtorEq, N4, N5, N6, reduceIte, N7, I1, I2, I3]
  simp only [push_cast, ↓J1, ↓J2, N1, N2, N3, reduceCtorEq, N4, N5, N6, reduceIte, N7, I1, I2, I3]
  cases decide (u.at_ = -1)
  · simp only [push_cast, ↓J1, ↓J2, N1, N2, N3, reduceCtorEq, N4, N5, N6, reduceIte, N7, I1, I2, I3]
    cases decide (0 < u.st)
    · simp only [push_cast, ↓J1, ↓J2, N1, N2, N3, reduceCtorEq, N4, N5, N6, reduceIte, N7, I1, I2, I3]
    simp only [push_cast, ↓J1, ↓J2, N1, N2, N3, reduceCtorEq, N4, N5, N6, reduceIte, N7, I1, I2, I3]
    refine ⟨_, c2, ?_⟩
    simp only [push_cast, ↓J1, ↓J2, N1, N2, N3, reduceCtorEq, N4, N5, N6, reduceIte, N7, I1, I2, I3]
    rw [wrap64 (n := b.m.w * b.m.h - 1) (by omega) (by omega)]
    refine ⟨_, tIn hC _ _ _, ?_⟩
    cases g3 : inR 0 (b.m.w * b.m.h - 1) u.at_
    · simp only [push_cast, ↓J1, ↓J2, N1, N2, N3, reduceCtorEq, N4, N5, N6, reduceIte, N7, I1, I2, I3]
    simp only [push_cast, ↓J1, ↓J2, N1, N2, N3, reduceCtorEq, N4, N5, N6, reduceIte, N7, I1, I2, I3]
    refine ⟨_, c3 g2 g3, ?_⟩
    simp only [push_cast, ↓J1, ↓J2, N1, N2, N3, reduceCtorEq, N4, N5, N6, reduceIte, N7, I1, I2, I3]
  · simp only [push_cast, ↓J1, ↓J2, N1, N2, N3, reduceCtorEq, N4, N5, N6, reduceIte, N7, I1, I2, I3]
theorem t180 (b : Brd) (u : Un) (g : brdOk b = true) (hb : BrdB (2^50) b) : Ev C 180 [brdF b, .agg (unA u)] (.bool (unOk b u)) := by
  have hwh := brd_wh g
  have c2 := t119 hC b
  rw [hwh.1] at c2
  have c3 := fun hk hi => t191 hC b u.k u.at_ g hk hi hb
  have cz := fun hk hi => (cost_get (b := b) (k := u.k.toNat) (i := u.at_) g hk hi).2
  have b2 := hb.r.ks
  have e0 := fun (k : Nat) (h : k < b.r.ks.length) => kins_get h
  simp only [brdF, rulF, mpF, List.cons_append, List.nil_append, unA, unOk, placed] at *
  refine rT hC Q180 ?_
  simp only [c180, push_cast, ↓J1, ↓J2, N1, N2, N3, reduceCtorEq, N4, N5, N6, reduceIte, N7, I1, I2, I3]
  refine ⟨_, t118 hC _, ?_⟩
  cases inR 0 1 u.sd
  · simp only [push_cast, ↓J1, ↓J2, N1, N2, N3, reduceCtorEq, N4, N5, N6, reduceIte, N7, I1, I2, I3]
  simp only [kins_length, push_cast, ↓J1, ↓J2, N1, N2, N3, reduceCtorEq, N4, N5, N6, reduceIte, N7, I1, I2, I3]
  refine ⟨_, tIdx hC _ _ (by omega), ?_⟩
  cases g2 : inR 0 ((b.r.ks.length : Int) - 1) u.k
  · simp only [push_cast, ↓J1, ↓J2, N1, N2, N3, reduceCtorEq, N4, N5, N6, reduceIte, N7, I1, I2, I3]
  have hk := g2
  simp only [inR, Bool.and_eq_true, decide_eq_true_eq] at hk
  obtain ⟨k, ek⟩ : ∃ m : Nat, u.k = m := ⟨u.k.toNat, by omega⟩
  have e1 := e0 k (by omega)
  rw [← ek] at e1
  have en : u.k.toNat = k := by omega
  simp only [en, e1, kinA, kins_length, push_cast, ↓J1, ↓J2, N1, N2, N3, reduceCtorEq, N4, N5, N6, reduceIte, N7, I1, I2, I3]
  repeat (refine ⟨by omega, ?_⟩)
  refine ⟨_, tRange hC _ _ _, ?_⟩
  cases inR 0 (kindOf b u.k).sp u.st
  · simp only [push_cast, ↓J1, ↓J2, N1, N2, N3, reduceCtorEq, N4, N5, N6, reduceIte, N7, I1, I2, I3]
  simp only [push_cast, ↓J1, ↓J2, N1, N2, N3, reduceCtorEq, N4, N5, N6, reduceIte, N7, I1, I2, I3]
  cases decide (u.at_ = -1)
  · simp only [push_cast, ↓J1, ↓J2, N1, N2, N3, reduceCtorEq, N4, N5, N6, reduceIte, N7, I1, I2, I3]
    cases decide (0 < u.st)
    · simp only [push_cast, ↓J1, ↓J2, N1, N2, N3, reduceCtorEq, N4, N5, N6, reduceIte, N7, I1, I2, I3]
    simp only [push_cast, ↓J1, ↓J2, N1, N2, N3, reduceCtorEq, N4, N5, N6, reduceIte, N7, I1, I2, I3]
    refine ⟨_, c2, ?_⟩
    simp only [push_cast, ↓J1, ↓J2, N1, N2, N3, reduceCtorEq, N4, N5, N6, reduceIte, N7, I1, I2, I3]
    refine ⟨_, tIdx hC _ _ (by omega), ?_⟩
    cases g3 : inR 0 (b.m.w * b.m.h - 1) u.at_
    · simp only [push_cast, ↓J1, ↓J2, N1, N2, N3, reduceCtorEq, N4, N5, N6, reduceIte, N7, I1, I2, I3]
    simp only [push_cast, ↓J1, ↓J2, N1, N2, N3, reduceCtorEq, N4, N5, N6, reduceIte, N7, I1, I2, I3]
    refine ⟨_, c3 g2 g3, ?_⟩
    have hz := cz (by omega) g3
    rw [Int.toNat_of_nonneg (by omega)] at hz
    simp only [push_cast, ↓J1, ↓J2, N1, N2, N3, reduceCtorEq, N4, N5, N6, reduceIte, N7, I1, I2, I3]
    rw [Bool.eq_iff_iff]
    simp only [Bool.not_eq_true', decide_eq_false_iff_not, decide_eq_true_eq]
    omega
  · simp only [push_cast, ↓J1, ↓J2, N1, N2, N3, reduceCtorEq, N4, N5, N6, reduceIte, N7, I1, I2, I3]
end
end Go.Proofs.YtlddjlchgibdfaaDoor.X
