/- A part of the proof: lemmas on the machine or on the functions that the law reaches. No condition of its own. -/
import Derived.Test.YtlddjlchgibdfaaDoorXP4
set_option maxHeartbeats 4000000
set_option maxRecDepth 8000
set_option linter.unusedSimpArgs false
set_option linter.unusedVariables false
open Nat renaming reduceBEq → N1, reduceAdd → N2, reduceSub → N3, reduceMul → N4, reduceEqDiff → N5, reduceLeDiff → N6, reduceLT → N7
open Int renaming reduceLE → I1, reduceLT → I2, reduceToNat → I3
namespace Go.Proofs.YtlddjlchgibdfaaDoor.X
open Go
attribute [local irreducible] Ev
def sumP (b : Brd) (l : List Int) : Int := l.foldl (fun s k => IntKind.i64.wrap (s + priceOf b k)) 0
theorem sumP_succ {b : Brd} {l : List Int} {i : Nat} (h : i < l.length) : sumP b (l.take (i + 1)) = IntKind.i64.wrap (sumP b (l.take i) + priceOf b l[i]) := by
  rw [sumP, List.take_succ_eq_append_getElem h, List.foldl_append]; rfl
theorem wk_brd {b : Brd} {w : Wk} (h : wkOk b w = true) : brdOk b = true := by
  simp only [wkOk, Bool.and_eq_true] at h; exact h.1
theorem wk_q {b : Brd} {w : Wk} (h : wkOk b w = true) : w.q.all (inR 0 (b.r.ks.length - 1)) = true := by
  simp only [wkOk, wkR, Bool.and_eq_true] at h; exact h.2.2
theorem wk_len {b : Brd} {w : Wk} (h : wkOk b w = true) : w.q.length ≤ 8 := by
  simp only [wkOk, wkR, Bool.and_eq_true, decide_eq_true_eq] at h; omega
def leftP (b : Brd) (w : Wk) (i : Int) : Int := IntKind.i64.wrap (sumP b (w.q.take (i + 1).toNat) - w.pt)
def tuAsk (b : Brd) (w : Wk) (i g : Int) : Bool := wkOk b w && inR 0 (w.q.length - 1) i && inR 0 50 g
def tuRes (b : Brd) (w : Wk) (i g : Int) : Int × Bool :=
  if tuAsk b w i g then if leftP b w i ≤ 0 then (0, true) else if g = 0 then (0, false) else (IntKind.i64.wrap ((IntKind.i64.wrap (IntKind.i64.wrap (leftP b w i + g) - 1)).tdiv g), true) else (0, false)
section
variable {C : CT} (hC : Closed Tryd.prog G1 md0 C)
include hC
theorem t72 (b : Brd) (l : List Int) (g : brdOk b = true) (hl : l.all (inR 0 (b.r.ks.length - 1)) = true) (hb : BrdB (2^50) b) (hn : l.length < 2^50) : Ev C 72 [brdF b, .sl (ints l)] (.int .i64 (sumP b l)) := by
  have c1 := fun k h => t58 hC b k h hb
  simp only [brdF, rulF, mpF, List.cons_append, List.nil_append] at *
  refine rT hC Q72 ?_
  simp only [c72, ints_length, push_cast, ↓J1, ↓J2, N1, N2, N3, reduceCtorEq, N4, N5, N6, reduceIte, N7, I1, I2, I3]
  refine RL_count (fun i => ⟨tb 21 .any [(2, .ptr 0 none 0 0 0), (5, .int .i64 (sumP b (l.take i))), (8, .sl (ints l)), (9, .int .i64 (l.length : Int)), (10, .int .i64 (i : Int))], [(0, .var (rulF b.r ++ mpF b.m))], 1⟩) (fun _ => True) l.length 0 (hdA [(0, 0)]) (by omega) trivial fun i hi' _ J hJ => ?_
  simp only [brdF, rulF, mpF, List.cons_append, List.nil_append]
  by_cases h1 : i < l.length
  · have e1 : (ints l)[i]? = some [.int .i64 l[i]] := by simp [ints, h1]
    have hk : kindAsk b l[i] = true := by
      simp only [kindAsk, g, Bool.true_and]
      exact List.all_eq_true.1 hl _ (List.getElem_mem h1)
    simp only [Int.toNat_natCast, e1, push_cast, ↓J1, ↓J2, N1, N2, N3, reduceCtorEq, N4, N5, N6, reduceIte, N7, I1, I2, I3]
    refine ifB_intro (fun _ => ?_) (fun h => by simp at h; omega)
    repeat (refine ⟨by omega, ?_⟩)
    refine ⟨_, c1 _ hk, ?_⟩
    simp only [push_cast, ↓J1, ↓J2, N1, N2, N3, reduceCtorEq, N4, N5, N6, reduceIte, N7, I1, I2, I3]
    have e2 := sumP_succ (b := b) h1
    refine hJ h1 trivial _ (hdA [(0, 0)] (hV := ?_))
    simp only [keptV_cons, keptV_nil, tb_get, lk_same, lk_ne, lk_nil, ren, renL, lkp, N7, N1, N5, reduceIte, and_true, true_and, Nat.not_lt_zero, if_false, if_true, Nat.add_zero, Nat.zero_add, e2]
    rw [wrap64 (n := (i : Int) + 1) (by omega) (by omega)]
    and_intros <;> rfl
  · simp only [ints_length, push_cast, ↓J1, ↓J2, N1, N2, N3, reduceCtorEq, N4, N5, N6, reduceIte, N7, I1, I2, I3]
    refine ifB_intro (fun h => by simp at h; omega) (fun h => ?_)
    rw [List.take_of_length_le (by omega)]
theorem t74 (b : Brd) (l : List Int) (g : brdOk b = true) (hl : l.all (inR 0 (b.r.ks.length - 1)) = true) (hb : BrdB (2^50) b) (hn : l.length < 2^50) : Ev C 74 [brdF b, .sl (ints l)] (.int .i64 (sumP b l)) := by
  have c1 := fun k h => t62 hC b k h hb
  simp only [brdF, rulF, mpF, List.cons_append, List.nil_append] at *
  refine rT hC Q74 ?_
  simp only [c74, ints_length, push_cast, ↓J1, ↓J2, N1, N2, N3, reduceCtorEq, N4, N5, N6, reduceIte, N7, I1, I2, I3]
  refine RL_count (fun i => ⟨tb 21 .any [(2, .ptr 0 none 0 0 0), (5, .int .i64 (sumP b (l.take i))), (8, .sl (ints l)), (9, .int .i64 (l.length : Int)), (10, .int .i64 (i : Int))], [(0, .var (rulF b.r ++ mpF b.m))], 1⟩) (fun _ => True) l.length 0 (hdA [(0, 0)]) (by omega) trivial fun i hi' _ J hJ => ?_
  simp only [brdF, rulF, mpF, List.cons_append, List.nil_append]
  by_cases h1 : i < l.length
  · have e1 : (ints l)[i]? = some [.int .i64 l[i]] := by simp [ints, h1]
    have hk : kindAsk b l[i] = true := by
      simp only [kindAsk, g, Bool.true_and]
      exact List.all_eq_true.1 hl _ (List.getElem_mem h1)
    simp only [Int.toNat_natCast, e1, push_cast, ↓J1, ↓J2, N1, N2, N3, reduceCtorEq, N4, N5, N6, reduceIte, N7, I1, I2, I3]
    refine ifB_intro (fun _ => ?_) (fun h => by simp at h; omega)
    repeat (refine ⟨by omega, ?_⟩)
    refine ⟨_, c1 _ hk, ?_⟩
    simp only [push_cast, ↓J1, ↓J2, N1, N2, N3, reduceCtorEq, N4, N5, N6, reduceIte, N7, I1, I2, I3]
    have e2 := sumP_succ (b := b) h1
    refine hJ h1 trivial _ (hdA [(0, 0)] (hV := ?_))
    simp only [keptV_cons, keptV_nil, tb_get, lk_same, lk_ne, lk_nil, ren, renL, lkp, N7, N1, N5, reduceIte, and_true, true_and, Nat.not_lt_zero, if_false, if_true, Nat.add_zero, Nat.zero_add, e2]
    rw [wrap64 (n := (i : Int) + 1) (by omega) (by omega)]
    and_intros <;> rfl
  · simp only [ints_length, push_cast, ↓J1, ↓J2, N1, N2, N3, reduceCtorEq, N4, N5, N6, reduceIte, N7, I1, I2, I3]
    refine ifB_intro (fun h => by simp at h; omega) (fun h => ?_)
    rw [List.take_of_length_le (by omega)]
theorem t27 (b : Brd) (w : Wk) (hb : BrdB (2^50) b) (hq : w.q.length < 2^50) : Ev C 27 [brdF b, .agg (wkF w)] (.tup [.int .i64 (if wkOk b w then sumP b w.q else 0), .bool (wkOk b w)]) := by
  have c1 := t67 hC b w hb hq
  have c2 := fun g h => t72 hC b w.q g h hb hq
  simp only [brdF, rulF, mpF, List.cons_append, List.nil_append, wkF] at *
  refine rT hC Q27 ?_
  simp only [c27, push_cast, ↓J1, ↓J2, N1, N2, N3, reduceCtorEq, N4, N5, N6, reduceIte, N7, I1, I2, I3]
  refine ⟨_, c1, ?_⟩
  cases g1 : wkOk b w
  · simp only [push_cast, ↓J1, ↓J2, N1, N2, N3, reduceCtorEq, N4, N5, N6, reduceIte, N7, I1, I2, I3]
  simp only [push_cast, ↓J1, ↓J2, N1, N2, N3, reduceCtorEq, N4, N5, N6, reduceIte, N7, I1, I2, I3]
  refine ⟨_, c2 (wk_brd g1) (wk_q g1), ?_⟩
  simp only [push_cast, ↓J1, ↓J2, N1, N2, N3, reduceCtorEq, N4, N5, N6, reduceIte, N7, I1, I2, I3]
theorem t28 (b : Brd) (w : Wk) (hb : BrdB (2^50) b) (hq : w.q.length < 2^50) : Ev C 28 [brdF b, .agg (wkF w)] (.tup [.int .i64 (if wkOk b w then sumP b w.q else 0), .bool (wkOk b w)]) := by
  have c1 := t73 hC b w hb hq
  have c2 := fun g h => t74 hC b w.q g h hb hq
  simp only [brdF, rulF, mpF, List.cons_append, List.nil_append, wkF] at *
  refine rT hC Q28 ?_
  simp only [c28, push_cast, ↓J1, ↓J2, N1, N2, N3, reduceCtorEq, N4, N5, N6, reduceIte, N7, I1, I2, I3]
  refine ⟨_, c1, ?_⟩
  cases g1 : wkOk b w
  · simp only [push_cast, ↓J1, ↓J2, N1, N2, N3, reduceCtorEq, N4, N5, N6, reduceIte, N7, I1, I2, I3]
  simp only [push_cast, ↓J1, ↓J2, N1, N2, N3, reduceCtorEq, N4, N5, N6, reduceIte, N7, I1, I2, I3]
  refine ⟨_, c2 (wk_brd g1) (wk_q g1), ?_⟩
  simp only [push_cast, ↓J1, ↓J2, N1, N2, N3, reduceCtorEq, N4, N5, N6, reduceIte, N7, I1, I2, I3]
theorem t6 (b : Brd) (w : Wk) (hb : BrdB (2^50) b) (hq : w.q.length < 2^50) : Ev C 6 [brdF b, .agg (wkF w)] (.bool true) := by
  have q1 := t17 hC b 1048576 (by omega) hb
  have q1' := fun h => t22 hC w (szBrd b 1048576) h hq
  have q2 := fun h => t19 hC b h
  have q2' := fun h => t24 hC w h
  have q3 := t27 hC b w hb hq
  have q4 := t28 hC b w hb hq
  have q5 := t21 hC b b hb hb
  have q5' := t26 hC w w hq hq
  have hu := szBrd_le (b := b) (v := 1048576) (by omega) (by omega)
  simp only [brdO, rulO, mpO, brdF, rulF, mpF, List.cons_append, List.nil_append, wkF, wkO] at *
  refine rT hC Q6 ?_
  simp only [c6, push_cast, ↓J1, ↓J2, N1, N2, N3, reduceCtorEq, N4, N5, N6, reduceIte, N7, I1, I2, I3]
  refine ⟨_, q1, ?_⟩
  simp only [push_cast, ↓J1, ↓J2, N1, N2, N3, reduceCtorEq, N4, N5, N6, reduceIte, N7, I1, I2, I3]
  refine ifB_intro (fun h => trivial) (fun h => ?_)
  have hs := of_decide_eq_false h
  have hB : BrdB (2^30) b := (szBrd_pos (by omega)).mono (by omega)
  refine ⟨_, q1' ⟨by omega, by omega⟩, ?_⟩
  simp only [push_cast, ↓J1, ↓J2, N1, N2, N3, reduceCtorEq, N4, N5, N6, reduceIte, N7, I1, I2, I3]
  refine ifB_intro (fun h => trivial) (fun h => ?_)
  have hs' := of_decide_eq_false h
  have hQ : w.q.length < 2^30 := by have := sub1_pos (v := szBrd b 1048576) (n := w.q.length) (by simp only [szWk] at hs'; omega); omega
  refine ⟨_, q2 hB, ?_⟩
  simp only [frzLL_ints, frzLL_ters, frzLL_kins, push_cast, ↓J1, ↓J2, N1, N2, N3, reduceCtorEq, N4, N5, N6, reduceIte, N7, I1, I2, I3]
  refine ⟨_, q2' hQ, ?_⟩
  simp only [frzLL_ints, frzLL_ters, frzLL_kins, push_cast, ↓J1, ↓J2, N1, N2, N3, reduceCtorEq, N4, N5, N6, reduceIte, N7, I1, I2, I3]
  refine ⟨_, q3, ?_⟩
  simp only [push_cast, ↓J1, ↓J2, N1, N2, N3, reduceCtorEq, N4, N5, N6, reduceIte, N7, I1, I2, I3]
  refine ⟨_, q2 hB, ?_⟩
  simp only [frzLL_ints, frzLL_ters, frzLL_kins, push_cast, ↓J1, ↓J2, N1, N2, N3, reduceCtorEq, N4, N5, N6, reduceIte, N7, I1, I2, I3]
  refine ⟨_, q2' hQ, ?_⟩
  simp only [frzLL_ints, frzLL_ters, frzLL_kins, push_cast, ↓J1, ↓J2, N1, N2, N3, reduceCtorEq, N4, N5, N6, reduceIte, N7, I1, I2, I3]
  refine ⟨_, q4, ?_⟩
  simp only [push_cast, ↓J1, ↓J2, N1, N2, N3, reduceCtorEq, N4, N5, N6, reduceIte, N7, I1, I2, I3]
  refine ⟨_, q2 hB, ?_⟩
  simp only [frzLL_ints, frzLL_ters, frzLL_kins, push_cast, ↓J1, ↓J2, N1, N2, N3, reduceCtorEq, N4, N5, N6, reduceIte, N7, I1, I2, I3]
  refine ⟨_, q5, ?_⟩
  simp only [push_cast, ↓J1, ↓J2, N1, N2, N3, reduceCtorEq, N4, N5, N6, reduceIte, N7, I1, I2, I3]
  refine ⟨_, q2' hQ, ?_⟩
  simp only [frzLL_ints, frzLL_ters, frzLL_kins, push_cast, ↓J1, ↓J2, N1, N2, N3, reduceCtorEq, N4, N5, N6, reduceIte, N7, I1, I2, I3]
  refine ⟨_, q5', ?_⟩
  simp only [push_cast, ↓J1, ↓J2, N1, N2, N3, reduceCtorEq, N4, N5, N6, reduceIte, N7, I1, I2, I3]
theorem t77 (x : Int) : Ev C 77 [.int .i64 x] (.bool (inR 0 50 x)) := by
  refine rT hC Q77 ?_
  simp only [c77, push_cast, ↓J1, ↓J2, N1, N2, N3, reduceCtorEq, N4, N5, N6, reduceIte, N7, I1, I2, I3]
  refine ⟨_, tRange hC _ _ _, ?_⟩
  simp only [push_cast, ↓J1, ↓J2, N1, N2, N3, reduceCtorEq, N4, N5, N6, reduceIte, N7, I1, I2, I3]
theorem t29 (b : Brd) (w : Wk) (i g : Int) (hb : BrdB (2^50) b) (hq : w.q.length < 2^50) : Ev C 29 [brdF b, .agg (wkF w), .int .i64 i, .int .i64 g] (.tup [.int .i64 (tuRes b w i g).1, .bool (tuRes b w i g).2]) := by
  have c1 := t67 hC b w hb hq
  have c2 := fun l g h hn => t72 hC b l g h hb hn
  simp only [brdF, rulF, mpF, List.cons_append, List.nil_append, wkF] at *
  refine rT hC Q29 ?_
  simp only [c29, push_cast, ↓J1, ↓J2, N1, N2, N3, reduceCtorEq, N4, N5, N6, reduceIte, N7, I1, I2, I3]
  refine ⟨_, c1, ?_⟩
  cases g1 : wkOk b w
  · simp only [tuRes, tuAsk, g1, push_cast, ↓J1, ↓J2, N1, N2, N3, reduceCtorEq, N4, N5, N6, reduceIte, N7, I1, I2, I3]
  simp only [ints_length, push_cast, ↓J1, ↓J2, N1, N2, N3, reduceCtorEq, N4, N5, N6, reduceIte, N7, I1, I2, I3]
  rw [wrap64 (n := (w.q.length : Int) - 1) (by omega) (by omega)]
  refine ⟨_, tIn hC _ _ _, ?_⟩
  cases g2 : inR 0 ((w.q.length : Int) - 1) i
  · simp only [tuRes, tuAsk, g1, g2, push_cast, ↓J1, ↓J2, N1, N2, N3, reduceCtorEq, N4, N5, N6, reduceIte, N7, I1, I2, I3]
  simp only [push_cast, ↓J1, ↓J2, N1, N2, N3, reduceCtorEq, N4, N5, N6, reduceIte, N7, I1, I2, I3]
  refine ⟨_, tIn hC _ _ _, ?_⟩
  cases g3 : inR 0 50 g
  · simp only [tuRes, tuAsk, g1, g2, g3, push_cast, ↓J1, ↓J2, N1, N2, N3, reduceCtorEq, N4, N5, N6, reduceIte, N7, I1, I2, I3]
  have hi := g2
  have hg := g3
  simp only [inR, Bool.and_eq_true, decide_eq_true_eq] at hi hg
  have hL : (w.q.take (i + 1).toNat).all (inR 0 (b.r.ks.length - 1)) = true := by
    rw [List.all_eq_true]
    exact fun x hx => List.all_eq_true.1 (wk_q g1) x (List.mem_of_mem_take hx)
  have c3 := c2 (w.q.take (i + 1).toNat) (wk_brd g1) hL (by rw [List.length_take]; omega)
  have eT : List.take (i + 1).toNat (ints w.q) = ints (w.q.take (i + 1).toNat) := by simp only [ints, List.map_take]
  simp only [ints_length, wrap64 (n := i + 1) (by omega) (by omega), push_cast, ↓J1, ↓J2, N1, N2, N3, reduceCtorEq, N4, N5, N6, reduceIte, N7, I1, I2, I3]
  have hel : ∀ el ∈ ints w.q, el.length = 1 := by simp [ints]
  have eR : tuRes b w i g = if leftP b w i ≤ 0 then (0, true) else if g = 0 then (0, false) else (IntKind.i64.wrap ((IntKind.i64.wrap (IntKind.i64.wrap (leftP b w i + g) - 1)).tdiv g), true) := by
    simp only [tuRes, tuAsk, g1, g2, g3, Bool.and_self, if_true]
  rw [eR]
  simp only [Int.sub_zero, eT]
  have eD : IntKind.i64.wrap (sumP b (w.q.take (i + 1).toNat) - w.pt) = leftP b w i := rfl
  generalize leftP b w i = d at *
  generalize w.q.take (i + 1).toNat = q' at *
  and_intros
  all_goals first
    | exact hel
    | omega
    | skip
  all_goals
    refine ⟨_, c3, ?_⟩
    simp only [eD, push_cast, ↓J1, ↓J2, N1, N2, N3, reduceCtorEq, N4, N5, N6, reduceIte, N7, I1, I2, I3]
  all_goals
    refine ifB_intro (fun h => ?_) (fun h => ?_)
    · simp only [if_pos (of_decide_eq_true h), push_cast, ↓J1, ↓J2, N1, N2, N3, reduceCtorEq, N4, N5, N6, reduceIte, N7, I1, I2, I3]
    have hd := of_decide_eq_false h
    simp only [if_neg hd]
    refine ifB_intro (fun h => ?_) (fun h => ?_)
    · simp only [if_pos (of_decide_eq_true h), push_cast, ↓J1, ↓J2, N1, N2, N3, reduceCtorEq, N4, N5, N6, reduceIte, N7, I1, I2, I3]
    have hg0 := of_decide_eq_false h
    simp only [if_neg hg0, push_cast, ↓J1, ↓J2, N1, N2, N3, reduceCtorEq, N4, N5, N6, reduceIte, N7, I1, I2, I3]
    and_intros <;> first | trivial | omega | rfl | (exact wrap64 (by omega) (by omega))
theorem t30 (b : Brd) (w : Wk) (i g : Int) (hb : BrdB (2^50) b) (hq : w.q.length < 2^50) : Ev C 30 [brdF b, .agg (wkF w), .int .i64 i, .int .i64 g] (.tup [.int .i64 (tuRes b w i g).1, .bool (tuRes b w i g).2]) := by
  have c1 := t73 hC b w hb hq
  have c2 := fun l g h hn => t74 hC b l g h hb hn
  simp only [brdF, rulF, mpF, List.cons_append, List.nil_append, wkF] at *
  refine rT hC Q30 ?_
  simp only [c30, push_cast, ↓J1, ↓J2, N1, N2, N3, reduceCtorEq, N4, N5, N6, reduceIte, N7, I1, I2, I3]
  refine ⟨_, c1, ?_⟩
  cases g1 : wkOk b w
  · simp only [tuRes, tuAsk, g1, push_cast, ↓J1, ↓J2, N1, N2, N3, reduceCtorEq, N4, N5, N6, reduceIte, N7, I1, I2, I3]
  simp only [ints_length, push_cast, ↓J1, ↓J2, N1, N2, N3, reduceCtorEq, N4, N5, N6, reduceIte, N7, I1, I2, I3]
  
  refine ⟨_, tIdx hC _ _ (by omega), ?_⟩
  cases g2 : inR 0 ((w.q.length : Int) - 1) i
  · simp only [tuRes, tuAsk, g1, g2, push_cast, ↓J1, ↓J2, N1, N2, N3, reduceCtorEq, N4, N5, N6, reduceIte, N7, I1, I2, I3]
  simp only [push_cast, ↓J1, ↓J2, N1, N2, N3, reduceCtorEq, N4, N5, N6, reduceIte, N7, I1, I2, I3]
  refine ⟨_, t77 hC _, ?_⟩
  cases g3 : inR 0 50 g
  · simp only [tuRes, tuAsk, g1, g2, g3, push_cast, ↓J1, ↓J2, N1, N2, N3, reduceCtorEq, N4, N5, N6, reduceIte, N7, I1, I2, I3]
  have hi := g2
  have hg := g3
  simp only [inR, Bool.and_eq_true, decide_eq_true_eq] at hi hg
  have hL : (w.q.take (i + 1).toNat).all (inR 0 (b.r.ks.length - 1)) = true := by
    rw [List.all_eq_true]
    exact fun x hx => List.all_eq_true.1 (wk_q g1) x (List.mem_of_mem_take hx)
  have c3 := c2 (w.q.take (i + 1).toNat) (wk_brd g1) hL (by rw [List.length_take]; omega)
  have eT : List.take (i + 1).toNat (ints w.q) = ints (w.q.take (i + 1).toNat) := by simp only [ints, List.map_take]
  simp only [ints_length, wrap64 (n := i + 1) (by omega) (by omega), push_cast, ↓J1, ↓J2, N1, N2, N3, reduceCtorEq, N4, N5, N6, reduceIte, N7, I1, I2, I3]
  have hel : ∀ el ∈ ints w.q, el.length = 1 := by simp [ints]
  have eR : tuRes b w i g = if leftP b w i ≤ 0 then (0, true) else if g = 0 then (0, false) else (IntKind.i64.wrap ((IntKind.i64.wrap (IntKind.i64.wrap (leftP b w i + g) - 1)).tdiv g), true) := by
    simp only [tuRes, tuAsk, g1, g2, g3, Bool.and_self, if_true]
  rw [eR]
  simp only [Int.sub_zero, eT]
  have eD : IntKind.i64.wrap (sumP b (w.q.take (i + 1).toNat) - w.pt) = leftP b w i := rfl
  generalize leftP b w i = d at *
  generalize w.q.take (i + 1).toNat = q' at *
  and_intros
  all_goals first
    | exact hel
    | omega
    | skip
  all_goals
    refine ⟨_, c3, ?_⟩
    simp only [eD, push_cast, ↓J1, ↓J2, N1, N2, N3, reduceCtorEq, N4, N5, N6, reduceIte, N7, I1, I2, I3]
  all_goals
    by_cases hd : d ≤ 0
    · have e0 : (if 0 < d then d else 0) = 0 := if_neg (by omega)
      simp only [e0, if_pos hd, push_cast, ↓J1, ↓J2, N1, N2, N3, reduceCtorEq, N4, N5, N6, reduceIte, N7, I1, I2, I3]
    have e0 : (if 0 < d then d else 0) = d := if_pos (by omega)
    have e1 : decide (d = 0) = false := decide_eq_false (by omega)
    simp only [e0, e1, if_neg hd, push_cast, ↓J1, ↓J2, N1, N2, N3, reduceCtorEq, N4, N5, N6, reduceIte, N7, I1, I2, I3]
    refine ifB_intro (fun h => ?_) (fun h => ?_)
    · simp only [if_pos (of_decide_eq_true h), push_cast, ↓J1, ↓J2, N1, N2, N3, reduceCtorEq, N4, N5, N6, reduceIte, N7, I1, I2, I3]
    have hg0 := of_decide_eq_false h
    simp only [if_neg hg0, push_cast, ↓J1, ↓J2, N1, N2, N3, reduceCtorEq, N4, N5, N6, reduceIte, N7, I1, I2, I3]
    and_intros <;> first | trivial | omega | rfl
theorem t7 (b : Brd) (w : Wk) (i g : Int) (hb : BrdB (2^50) b) (hq : w.q.length < 2^50) : Ev C 7 [brdF b, .agg (wkF w), .int .i64 i, .int .i64 g] (.bool true) := by
  have q1 := t17 hC b 1048576 (by omega) hb
  have q1' := fun h => t22 hC w (szBrd b 1048576) h hq
  have q2 := fun h => t19 hC b h
  have q2' := fun h => t24 hC w h
  have q3 := t29 hC b w i g hb hq
  have q4 := t30 hC b w i g hb hq
  have q5 := t21 hC b b hb hb
  have q5' := t26 hC w w hq hq
  have hu := szBrd_le (b := b) (v := 1048576) (by omega) (by omega)
  simp only [brdO, rulO, mpO, brdF, rulF, mpF, List.cons_append, List.nil_append, wkF, wkO] at *
  refine rT hC Q7 ?_
  simp only [c7, push_cast, ↓J1, ↓J2, N1, N2, N3, reduceCtorEq, N4, N5, N6, reduceIte, N7, I1, I2, I3]
  refine ⟨_, q1, ?_⟩
  simp only [push_cast, ↓J1, ↓J2, N1, N2, N3, reduceCtorEq, N4, N5, N6, reduceIte, N7, I1, I2, I3]
  refine ifB_intro (fun h => trivial) (fun h => ?_)
  have hs := of_decide_eq_false h
  have hB : BrdB (2^30) b := (szBrd_pos (by omega)).mono (by omega)
  refine ⟨_, q1' ⟨by omega, by omega⟩, ?_⟩
  simp only [push_cast, ↓J1, ↓J2, N1, N2, N3, reduceCtorEq, N4, N5, N6, reduceIte, N7, I1, I2, I3]
  refine ifB_intro (fun h => trivial) (fun h => ?_)
  have hs' := of_decide_eq_false h
  have hQ : w.q.length < 2^30 := by have := sub1_pos (v := szBrd b 1048576) (n := w.q.length) (by simp only [szWk] at hs'; omega); omega
  refine ⟨_, q2 hB, ?_⟩
  simp only [frzLL_ints, frzLL_ters, frzLL_kins, push_cast, ↓J1, ↓J2, N1, N2, N3, reduceCtorEq, N4, N5, N6, reduceIte, N7, I1, I2, I3]
  refine ⟨_, q2' hQ, ?_⟩
  simp only [frzLL_ints, frzLL_ters, frzLL_kins, push_cast, ↓J1, ↓J2, N1, N2, N3, reduceCtorEq, N4, N5, N6, reduceIte, N7, I1, I2, I3]
  refine ⟨_, q3, ?_⟩
  simp only [push_cast, ↓J1, ↓J2, N1, N2, N3, reduceCtorEq, N4, N5, N6, reduceIte, N7, I1, I2, I3]
  refine ⟨_, q2 hB, ?_⟩
  simp only [frzLL_ints, frzLL_ters, frzLL_kins, push_cast, ↓J1, ↓J2, N1, N2, N3, reduceCtorEq, N4, N5, N6, reduceIte, N7, I1, I2, I3]
  refine ⟨_, q2' hQ, ?_⟩
  simp only [frzLL_ints, frzLL_ters, frzLL_kins, push_cast, ↓J1, ↓J2, N1, N2, N3, reduceCtorEq, N4, N5, N6, reduceIte, N7, I1, I2, I3]
  refine ⟨_, q4, ?_⟩
  simp only [push_cast, ↓J1, ↓J2, N1, N2, N3, reduceCtorEq, N4, N5, N6, reduceIte, N7, I1, I2, I3]
  refine ⟨_, q2 hB, ?_⟩
  simp only [frzLL_ints, frzLL_ters, frzLL_kins, push_cast, ↓J1, ↓J2, N1, N2, N3, reduceCtorEq, N4, N5, N6, reduceIte, N7, I1, I2, I3]
  refine ⟨_, q5, ?_⟩
  simp only [push_cast, ↓J1, ↓J2, N1, N2, N3, reduceCtorEq, N4, N5, N6, reduceIte, N7, I1, I2, I3]
  refine ⟨_, q2' hQ, ?_⟩
  simp only [frzLL_ints, frzLL_ters, frzLL_kins, push_cast, ↓J1, ↓J2, N1, N2, N3, reduceCtorEq, N4, N5, N6, reduceIte, N7, I1, I2, I3]
  refine ⟨_, q5', ?_⟩
  simp only [push_cast, ↓J1, ↓J2, N1, N2, N3, reduceCtorEq, N4, N5, N6, reduceIte, N7, I1, I2, I3]
end
end Go.Proofs.YtlddjlchgibdfaaDoor.X
set_option maxHeartbeats 1000000
set_option maxRecDepth 8000
set_option linter.unusedSimpArgs false
set_option linter.unusedVariables false
open Nat renaming reduceBEq → N1, reduceAdd → N2, reduceSub → N3, reduceMul → N4, reduceEqDiff → N5, reduceLeDiff → N6, reduceLT → N7
open Int renaming reduceLE → I1, reduceLT → I2, reduceToNat → I3
namespace Go.Proofs.YtlddjlchgibdfaaDoor.X
open Go
theorem hasV_wk {k : Nat} {x : AV} (hv : HasV Tryd.prog (k + 20) 55 x) : ∃ w : Wk, x = .agg (wkF w) ∧ w.q.length < 2 ^ 50 := by
  obtain ⟨ys, rfl, h⟩ := hasV_struct sty_55 hv
  obtain ⟨x0, r, rfl, _, h0, h⟩ := hasE_cons h
  obtain ⟨x1, r, rfl, _, h1, h⟩ := hasE_cons h
  obtain ⟨x2, r, rfl, _, h2, h⟩ := hasE_cons h
  obtain ⟨x3, r, rfl, _, h3, h⟩ := hasE_cons h
  obtain rfl := hasE_nil h
  obtain ⟨a, rfl, _⟩ := has_int tk_3 h0
  obtain ⟨b, rfl, _⟩ := has_int tk_3 h1
  obtain ⟨c, rfl, _⟩ := has_int tk_3 h2
  obtain ⟨q, rfl, hq⟩ := has_ints h3
  exact ⟨⟨a, b, c, q⟩, rfl, hq⟩
theorem lawAreWorks_C {C : CT} (hC : Closed Tryd.prog G1 md0 C) : ∀ xs, HasVs Tryd.prog 24 [40, 55] xs → Ev C 5 xs (.bool true) := by
  rintro xs ⟨x0, r0, rfl, h0, x1, r1, rfl, h1, rfl⟩
  obtain ⟨b, rfl, hb⟩ := hasV_brd h0
  obtain ⟨w, rfl, hw⟩ := hasV_wk h1
  exact t5 hC b w hb hw
theorem lawAreWorks : ∀ xs, HasVs Tryd.prog 24 [40, 55] xs → Ev (CS Tryd.prog G1) 5 xs (.bool true) := lawAreWorks_C (CS_closed (by kernel_rfl))
theorem lawQueuePrice_C {C : CT} (hC : Closed Tryd.prog G1 md0 C) : ∀ xs, HasVs Tryd.prog 24 [40, 55] xs → Ev C 6 xs (.bool true) := by
  rintro xs ⟨x0, r0, rfl, h0, x1, r1, rfl, h1, rfl⟩
  obtain ⟨b, rfl, hb⟩ := hasV_brd h0
  obtain ⟨w, rfl, hw⟩ := hasV_wk h1
  exact t6 hC b w hb hw
theorem lawQueuePrice : ∀ xs, HasVs Tryd.prog 24 [40, 55] xs → Ev (CS Tryd.prog G1) 6 xs (.bool true) := lawQueuePrice_C (CS_closed (by kernel_rfl))
theorem lawTurnsUntil_C {C : CT} (hC : Closed Tryd.prog G1 md0 C) : ∀ xs, HasVs Tryd.prog 24 [40, 55, 3, 3] xs → Ev C 7 xs (.bool true) := by
  rintro xs ⟨x0, r0, rfl, h0, x1, r1, rfl, h1, x2, r2, rfl, h2, x3, r3, rfl, h3, rfl⟩
  obtain ⟨b, rfl, hb⟩ := hasV_brd h0
  obtain ⟨w, rfl, hw⟩ := hasV_wk h1
  obtain ⟨y0, rfl, _⟩ := hasV_int tk_3 h2
  obtain ⟨y1, rfl, _⟩ := hasV_int tk_3 h3
  exact t7 hC b w y0 y1 hb hw
theorem lawTurnsUntil : ∀ xs, HasVs Tryd.prog 24 [40, 55, 3, 3] xs → Ev (CS Tryd.prog G1) 7 xs (.bool true) := lawTurnsUntil_C (CS_closed (by kernel_rfl))
end Go.Proofs.YtlddjlchgibdfaaDoor.X
