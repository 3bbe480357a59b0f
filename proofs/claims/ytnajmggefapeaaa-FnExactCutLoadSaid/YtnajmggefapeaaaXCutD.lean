import Derived.Test.YtnajmggefapeaaaXCutC
set_option maxHeartbeats 4000000
set_option linter.unusedSimpArgs false
set_option linter.unusedVariables false
namespace Go.Proofs.Ytnajmggefapeaaa.X
open Go
attribute [local irreducible] Ev
def inCut (cut : List Int) (a : Arc) : Bool := hasB cut a.f && !hasB cut a.t
def cutStep (cut : List Int) (s : Int) (a : Arc) : Int := if inCut cut a then IntKind.i64.wrap (s + a.m) else s
def cutSum (cut : List Int) (l : List Arc) : Int := l.foldl (cutStep cut) 0
def pSum (cut : List Int) (l : List Arc) : Int := (l.map fun a => if inCut cut a then a.m else 0).sum
theorem pSum_append (cut : List Int) (l m : List Arc) : pSum cut (l ++ m) = pSum cut l + pSum cut m := by simp [pSum]
theorem cut_fold (cut : List Int) : ∀ (l : List Arc) (s : Int), (∀ a ∈ l, 0 ≤ a.m ∧ a.m ≤ 1000) → 0 ≤ s → s + 1000 * l.length ≤ 2 ^ 40 → l.foldl (cutStep cut) s = s + pSum cut l
  | [], s, _, _, _ => by simp [pSum]
  | a :: l, s, hm, h0, hb => by
    have ha := hm a (by simp)
    have hr := fun x hx => hm x (List.mem_cons_of_mem a hx)
    simp only [List.length_cons] at hb
    simp only [List.foldl_cons, pSum, List.map_cons, List.sum_cons]
    by_cases hc : inCut cut a = true
    · rw [show cutStep cut s a = s + a.m by simp only [cutStep, hc, if_true]; exact wrap64 (by omega) (by omega)]
      rw [cut_fold cut l (s + a.m) hr (by omega) (by omega)]
      simp only [hc, if_true, pSum]; omega
    · rw [show cutStep cut s a = s by simp [cutStep, hc], cut_fold cut l s hr h0 (by omega)]
      simp [hc, pSum]
theorem lane_m {L : Lanes} (h : LOk L) (d k : Nat) : ∀ a ∈ laneArcs L d k, 0 ≤ a.m ∧ a.m ≤ 1000 := by
  intro a ha
  simp only [laneArcs, List.mem_map] at ha
  obtain ⟨l, hl, rfl⟩ := ha
  have := h.ls l (List.mem_of_mem_take hl)
  simp only [laneArc]; omega
theorem store_m {L : Lanes} (h : LOk L) (d : Nat) : ∀ a ∈ storeArcs L d L.st.length, 0 ≤ a.m ∧ a.m ≤ 1000 := by
  intro a ha
  simp only [storeArcs, List.mem_map, List.mem_range] at ha
  obtain ⟨k, hk, rfl⟩ := ha
  exact h.st k hk
theorem arcsS_m {L : Lanes} (h : LOk L) : ∀ d, ∀ a ∈ arcsS L d, 0 ≤ a.m ∧ a.m ≤ 1000
  | 0, a, ha => by simp [arcsS] at ha
  | d + 1, a, ha => by
    simp only [arcsS, List.mem_append] at ha
    rcases ha with (ha | ha) | ha
    · exact arcsS_m h d a ha
    · exact lane_m h d _ a ha
    · exact store_m h d a ha
theorem arcsL_m {L : Lanes} (h : LOk L) : ∀ d, ∀ a ∈ arcsL L d, 0 ≤ a.m ∧ a.m ≤ 1000
  | 0, a, ha => by simp [arcsL] at ha
  | d + 1, a, ha => by
    simp only [arcsL, List.mem_append] at ha
    rcases ha with ha | ha
    · exact arcsL_m h d a ha
    · exact lane_m h d _ a ha
theorem arcsT_m {L : Lanes} (h : LOk L) : ∀ d, ∀ a ∈ arcsT L d, 0 ≤ a.m ∧ a.m ≤ 1000
  | 0, a, ha => by simp [arcsT] at ha
  | d + 1, a, ha => by
    simp only [arcsT, List.mem_append] at ha
    rcases ha with ha | ha
    · exact arcsT_m h d a ha
    · exact store_m h d a ha
theorem pSum_eq (cut : List Int) (L : Lanes) : ∀ d, pSum cut (arcsS L d) = pSum cut (arcsL L d) + pSum cut (arcsT L d)
  | 0 => by simp [arcsS, arcsL, arcsT, pSum]
  | d + 1 => by
    simp only [arcsS, arcsL, arcsT, pSum_append, pSum_eq cut L d]; omega
theorem arcsLT_len {L : Lanes} (h : LOk L) {D : Nat} (hD : D ≤ 6) : (arcsL L D ++ arcsT L D).length ≤ 1000 := by
  have h1 := arcsL_len h D
  have h2 := arcsT_len L D
  have := h.n; have := h.s; have := h.d
  have h6 : L.st.length * D ≤ 6 * 6 := Nat.mul_le_mul (by omega) (by omega)
  simp only [List.length_append]; omega
theorem cutSum_eq (cut : List Int) {L : Lanes} (h : LOk L) {D : Nat} (hD : D ≤ 6) : cutSum cut (arcsL L D ++ arcsT L D) = cutSum cut (arcsS L D) := by
  have h1 := arcsLT_len h hD
  have h2 := arcsS_len h D
  rw [cutSum, cut_fold cut _ 0 (fun a ha => ?_) (by omega) (by omega), cutSum, cut_fold cut _ 0 (arcsS_m h D) (by omega) (by omega), pSum_append, pSum_eq]
  rcases List.mem_append.1 ha with ha | ha
  · exact arcsL_m h D a ha
  · exact arcsT_m h D a ha
def risB (cut : List Int) (hi : Int) : Bool := upto cut.length (risP cut 0 hi)
theorem upto_iff {n : Nat} {p : Nat → Bool} : upto n p = true ↔ ∀ j, j < n → p j = true := by
  simp [upto, List.all_eq_true]
theorem ris_eq (cut : List Int) (hi : Int) : (upto (cut.length - 1) (incP cut) && !cut.any fun x => !inR 0 hi x) = risB cut hi := by
  rw [Bool.eq_iff_iff, Bool.and_eq_true, risB, upto_iff, upto_iff]
  have e : (!cut.any fun x => !inR 0 hi x) = cut.all (inR 0 hi) := by simp [List.all_eq_not_any_not]
  rw [e, List.all_eq_true]
  constructor
  · rintro ⟨h1, h2⟩ j hj
    have hm : cut.getD j 0 ∈ cut := by simp only [List.getD, List.getElem?_eq_getElem hj]; exact List.getElem_mem hj
    simp only [risP, h2 _ hm, Bool.true_and, Bool.or_eq_true, decide_eq_true_eq]
    by_cases h0 : j = 0
    · exact .inl h0
    · right
      have := h1 (j - 1) (by omega)
      simp only [incP, decide_eq_true_eq] at this
      rwa [show j - 1 + 1 = j by omega] at this
  · intro h
    refine ⟨fun j hj => ?_, fun x hx => ?_⟩
    · have := h (j + 1) (by omega)
      simp only [risP, Bool.and_eq_true, Bool.or_eq_true, decide_eq_true_eq] at this
      simp only [incP, decide_eq_true_eq]
      have := this.2
      simp only [Nat.add_sub_cancel] at this
      omega
    · obtain ⟨j, hj, rfl⟩ := List.getElem_of_mem hx
      have := h j hj
      simp only [risP, Bool.and_eq_true] at this
      simpa [List.getD, hj] using this.1
def askCut (L : Lanes) (D : Int) (cut : List Int) : Bool := lanesOk L && inR 0 6 D && risB cut ((D + 1) * L.d - 1)
def resCut (L : Lanes) (D : Int) (cut : List Int) : Int := if askCut L D cut then cutSum cut (arcsS L D.toNat) else 0
theorem cut_succ {cut : List Int} {l : List Arc} {k : Nat} (h : k < l.length) : cutSum cut (l.take (k + 1)) = cutStep cut (cutSum cut (l.take k)) l[k] := by
  rw [cutSum, List.take_succ_eq_append_getElem h, List.foldl_append]; rfl
section
variable {C : CT} (hC : Closed Try.prog G0 md0 C)
include hC
theorem t29 (L : Lanes) (D : Int) (cut : List Int) (h1 : L.ls.length < 2^50) (h2 : L.st.length < 2^50) (h3 : cut.length < 2^50) : Ev C 29 [L.av, .int .i64 D, .sl (ints cut)] (.tup [.int .i64 (resCut L D cut), .bool (askCut L D cut)]) := by
  have c1 := t34 hC L h1 h2
  simp only [Lanes.av] at *
  refine Ev.runT hC Try.func29 h29 nt29 r29 (by decide) (Nat.le_of_ble_eq_true rfl) (rfl) ?_
  simp only [c29, push_cast, ↓ifB_true, ↓ifB_false, Nat.reduceBEq, Nat.reduceAdd, Nat.reduceSub, reduceCtorEq, Nat.reduceMul, Nat.reduceEqDiff, Nat.reduceLeDiff, reduceIte, Nat.reduceLT, Int.reduceLE, Int.reduceLT, Int.reduceToNat]
  refine ⟨_, c1, ?_⟩
  cases g1 : lanesOk L
  · simp only [resCut, askCut, g1, push_cast, ↓ifB_true, ↓ifB_false, Nat.reduceBEq, Nat.reduceAdd, Nat.reduceSub, reduceCtorEq, Nat.reduceMul, Nat.reduceEqDiff, Nat.reduceLeDiff, reduceIte, Nat.reduceLT, Int.reduceLE, Int.reduceLT, Int.reduceToNat]
  · simp only [push_cast, ↓ifB_true, ↓ifB_false, Nat.reduceBEq, Nat.reduceAdd, Nat.reduceSub, reduceCtorEq, Nat.reduceMul, Nat.reduceEqDiff, Nat.reduceLeDiff, reduceIte, Nat.reduceLT, Int.reduceLE, Int.reduceLT, Int.reduceToNat]
    refine ⟨_, t43 hC _ _ _, ?_⟩
    rw [show (decide (0 ≤ D) && decide (D ≤ 6)) = inR 0 6 D from rfl]
    cases g2 : inR 0 6 D
    · simp only [resCut, askCut, g1, g2, push_cast, ↓ifB_true, ↓ifB_false, Nat.reduceBEq, Nat.reduceAdd, Nat.reduceSub, reduceCtorEq, Nat.reduceMul, Nat.reduceEqDiff, Nat.reduceLeDiff, reduceIte, Nat.reduceLT, Int.reduceLE, Int.reduceLT, Int.reduceToNat]
    · have hL := lanesOk_LOk g1
      have hD := g2
      simp only [inR, Bool.and_eq_true, decide_eq_true_eq] at hD
      have hm := mul_ok (d := D + 1) ⟨by omega, by omega⟩ hL.d
      simp only [wrap64 (n := D + 1) (by omega) (by omega), wrap64 (n := (D + 1) * L.d) (by omega) (by omega), wrap64 (n := (D + 1) * L.d - 1) (by omega) (by omega), push_cast, ↓ifB_true, ↓ifB_false, Nat.reduceBEq, Nat.reduceAdd, Nat.reduceSub, reduceCtorEq, Nat.reduceMul, Nat.reduceEqDiff, Nat.reduceLeDiff, reduceIte, Nat.reduceLT, Int.reduceLE, Int.reduceLT, Int.reduceToNat]
      refine ⟨_, t58 hC cut _ _ h3, ?_⟩
      rw [show upto cut.length (risP cut 0 ((D + 1) * L.d - 1)) = risB cut ((D + 1) * L.d - 1) from rfl]
      cases g3 : risB cut ((D + 1) * L.d - 1)
      · simp only [resCut, askCut, g1, g2, g3, push_cast, ↓ifB_true, ↓ifB_false, Nat.reduceBEq, Nat.reduceAdd, Nat.reduceSub, reduceCtorEq, Nat.reduceMul, Nat.reduceEqDiff, Nat.reduceLeDiff, reduceIte, Nat.reduceLT, Int.reduceLE, Int.reduceLT, Int.reduceToNat]
      · obtain ⟨N, rfl⟩ : ∃ N : Nat, D = N := ⟨D.toNat, by omega⟩
        have ha : askCut L N cut = true := by simp only [askCut, g1, g2, g3, Bool.and_self]
        simp only [resCut, ha, if_true, Int.toNat_natCast]
        have c2 := t59 hC L N (by omega) hL
        have hal := arcsS_len hL N
        simp only [Lanes.av] at c2
        generalize arcsS L N = A at *
        simp only [push_cast, ↓ifB_true, ↓ifB_false, Nat.reduceBEq, Nat.reduceAdd, Nat.reduceSub, reduceCtorEq, Nat.reduceMul, Nat.reduceEqDiff, Nat.reduceLeDiff, reduceIte, Nat.reduceLT, Int.reduceLE, Int.reduceLT, Int.reduceToNat]
        refine ⟨_, c2, ?_⟩
        simp only [ar4_length, push_cast, ↓ifB_true, ↓ifB_false, Nat.reduceBEq, Nat.reduceAdd, Nat.reduceSub, reduceCtorEq, Nat.reduceMul, Nat.reduceEqDiff, Nat.reduceLeDiff, reduceIte, Nat.reduceLT, Int.reduceLE, Int.reduceLT, Int.reduceToNat]
        refine RL_count (fun k => ⟨tb 58 .any [(2, .sl (ints cut)), (8, .int .i64 (cutSum cut (A.take k))), (35, .ref 1 none 4 0 A.length), (36, .int .i64 (A.length : Int)), (37, .int .i64 (k : Int))], [(1, .slice 4 (ar4 A))], 2⟩) (fun _ => True) A.length 0 (head_tb [(1, 1)] rfl (by simp only [keptV_cons, keptV_nil, tb_get, lk_same, lk_ne, lk_nil, ren, renL, lkp, Nat.reduceLT, Nat.reduceBEq, Nat.reduceEqDiff, reduceIte, and_true, true_and, Nat.not_lt_zero, if_false, if_true, Nat.add_zero, Nat.zero_add]; simp [cutSum]) (by simp only [canR, canB, renO, renL, ren, lkp, hget, Nat.reduceLT, Nat.reduceEqDiff, Nat.not_lt_zero, if_false, if_true, reduceIte, List.append_nil, List.nil_append])) (by omega) trivial fun k hk _ J hJ => ?_
        by_cases hk1 : k < A.length
        · have e1 : (ar4 A)[k]? = some [.int .i64 A[k].f, .int .i64 A[k].t, .int .i64 A[k].m, .int .i64 0] := by simp [ar4, hk1]
          have e2 := cut_succ (cut := cut) hk1
          simp only [Int.toNat_natCast, e1, push_cast, ↓ifB_true, ↓ifB_false, Nat.reduceBEq, Nat.reduceAdd, Nat.reduceSub, reduceCtorEq, Nat.reduceMul, Nat.reduceEqDiff, Nat.reduceLeDiff, reduceIte, Nat.reduceLT, Int.reduceLE, Int.reduceLT, Int.reduceToNat]
          refine ifB_intro (fun _ => ?_) (fun h => by simp at h; omega)
          repeat (refine ⟨by omega, ?_⟩)
          refine ⟨_, t60 hC cut _ h3, ?_⟩
          have fin : ∀ s, cutStep cut (cutSum cut (A.take k)) A[k] = s → ∀ st, Head 0 st ⟨tb 58 .any [(2, .sl (ints cut)), (8, .int .i64 s), (35, .ref 1 none 4 0 A.length), (36, .int .i64 (A.length : Int)), (37, .int .i64 ((k + 1 : Nat) : Int))], [(1, .slice 4 (ar4 A))], 2⟩ → J st := by
            intro s hs; subst hs; rw [← e2]; exact hJ hk1 trivial
          cases g4 : hasB cut A[k].f
          · simp only [push_cast, ↓ifB_true, ↓ifB_false, Nat.reduceBEq, Nat.reduceAdd, Nat.reduceSub, reduceCtorEq, Nat.reduceMul, Nat.reduceEqDiff, Nat.reduceLeDiff, reduceIte, Nat.reduceLT, Int.reduceLE, Int.reduceLT, Int.reduceToNat]
            exact fin (cutSum cut (A.take k)) (by simp only [cutStep, inCut, g4, Bool.false_and]; rfl) _ (head_tb [(1, 1)] rfl (by simp only [keptV_cons, keptV_nil, tb_get, lk_same, lk_ne, lk_nil, ren, renL, lkp, Nat.reduceLT, Nat.reduceBEq, Nat.reduceEqDiff, reduceIte, and_true, true_and, Nat.not_lt_zero, if_false, if_true, Nat.add_zero, Nat.zero_add]; (try rw [wrap64 (by omega) (by omega)]); (first | done | (simp; done) | (simp [*]; done) | (simp; omega) | (and_intros <;> rfl))) (by simp only [canR, canB, renO, renL, ren, lkp, hget, Nat.reduceLT, Nat.reduceEqDiff, Nat.not_lt_zero, if_false, if_true, reduceIte, List.append_nil, List.nil_append]; (first | done | rfl)))
          · simp only [push_cast, ↓ifB_true, ↓ifB_false, Nat.reduceBEq, Nat.reduceAdd, Nat.reduceSub, reduceCtorEq, Nat.reduceMul, Nat.reduceEqDiff, Nat.reduceLeDiff, reduceIte, Nat.reduceLT, Int.reduceLE, Int.reduceLT, Int.reduceToNat]
            refine ⟨_, t60 hC cut _ h3, ?_⟩
            cases g5 : hasB cut A[k].t
            · simp only [push_cast, ↓ifB_true, ↓ifB_false, Nat.reduceBEq, Nat.reduceAdd, Nat.reduceSub, reduceCtorEq, Nat.reduceMul, Nat.reduceEqDiff, Nat.reduceLeDiff, reduceIte, Nat.reduceLT, Int.reduceLE, Int.reduceLT, Int.reduceToNat]
              refine fin (IntKind.i64.wrap (cutSum cut (A.take k) + A[k].m)) (by simp only [cutStep, inCut, g4, g5]; rfl) _ (head_tb [(1, 1)] rfl ?_ (by simp only [canR, canB, renO, renL, ren, lkp, hget, Nat.reduceLT, Nat.reduceEqDiff, Nat.not_lt_zero, if_false, if_true, reduceIte, List.append_nil, List.nil_append]; (first | done | rfl)))
              simp only [keptV_cons, keptV_nil, tb_get, lk_same, lk_ne, lk_nil, ren, renL, lkp, Nat.reduceLT, Nat.reduceBEq, Nat.reduceEqDiff, reduceIte, and_true, true_and, Nat.not_lt_zero, if_false, if_true, Nat.add_zero, Nat.zero_add]
              rw [wrap64 (n := (k : Int) + 1) (by omega) (by omega)]
              simp
            · simp only [push_cast, ↓ifB_true, ↓ifB_false, Nat.reduceBEq, Nat.reduceAdd, Nat.reduceSub, reduceCtorEq, Nat.reduceMul, Nat.reduceEqDiff, Nat.reduceLeDiff, reduceIte, Nat.reduceLT, Int.reduceLE, Int.reduceLT, Int.reduceToNat]
              exact fin (cutSum cut (A.take k)) (by simp only [cutStep, inCut, g4, g5]; rfl) _ (head_tb [(1, 1)] rfl (by simp only [keptV_cons, keptV_nil, tb_get, lk_same, lk_ne, lk_nil, ren, renL, lkp, Nat.reduceLT, Nat.reduceBEq, Nat.reduceEqDiff, reduceIte, and_true, true_and, Nat.not_lt_zero, if_false, if_true, Nat.add_zero, Nat.zero_add]; (try rw [wrap64 (by omega) (by omega)]); (first | done | (simp; done) | (simp [*]; done) | (simp; omega) | (and_intros <;> rfl))) (by simp only [canR, canB, renO, renL, ren, lkp, hget, Nat.reduceLT, Nat.reduceEqDiff, Nat.not_lt_zero, if_false, if_true, reduceIte, List.append_nil, List.nil_append]; (first | done | rfl)))
        · obtain rfl : k = A.length := by omega
          simp only [List.take_length, push_cast, ↓ifB_true, ↓ifB_false, Nat.reduceBEq, Nat.reduceAdd, Nat.reduceSub, reduceCtorEq, Nat.reduceMul, Nat.reduceEqDiff, Nat.reduceLeDiff, reduceIte, Nat.reduceLT, Int.reduceLE, Int.reduceLT, Int.reduceToNat]
          refine ifB_intro (fun h => by simp at h) (fun h => ?_)
          trivial
theorem t31 (L : Lanes) (D : Int) (cut : List Int) (h1 : L.ls.length < 2^50) (h2 : L.st.length < 2^50) (h3 : cut.length < 2^50) : Ev C 31 [L.av, .int .i64 D, .sl (ints cut)] (.tup [.int .i64 (resCut L D cut), .bool (askCut L D cut)]) := by
  have c1 := t12 hC L h1 h2
  simp only [Lanes.av] at *
  refine Ev.runT hC Try.func31 h31 nt31 r31 (by decide) (Nat.le_of_ble_eq_true rfl) (rfl) ?_
  simp only [c31, push_cast, ↓ifB_true, ↓ifB_false, Nat.reduceBEq, Nat.reduceAdd, Nat.reduceSub, reduceCtorEq, Nat.reduceMul, Nat.reduceEqDiff, Nat.reduceLeDiff, reduceIte, Nat.reduceLT, Int.reduceLE, Int.reduceLT, Int.reduceToNat]
  refine ⟨_, c1, ?_⟩
  cases g1 : lanesOk L
  · simp only [resCut, askCut, g1, push_cast, ↓ifB_true, ↓ifB_false, Nat.reduceBEq, Nat.reduceAdd, Nat.reduceSub, reduceCtorEq, Nat.reduceMul, Nat.reduceEqDiff, Nat.reduceLeDiff, reduceIte, Nat.reduceLT, Int.reduceLE, Int.reduceLT, Int.reduceToNat]
  · simp only [push_cast, ↓ifB_true, ↓ifB_false, Nat.reduceBEq, Nat.reduceAdd, Nat.reduceSub, reduceCtorEq, Nat.reduceMul, Nat.reduceEqDiff, Nat.reduceLeDiff, reduceIte, Nat.reduceLT, Int.reduceLE, Int.reduceLT, Int.reduceToNat]
    refine ⟨_, t36 hC _ _ _, ?_⟩
    rw [show (decide (0 ≤ D) && decide (D ≤ 6)) = inR 0 6 D from rfl]
    cases g2 : inR 0 6 D
    · simp only [resCut, askCut, g1, g2, push_cast, ↓ifB_true, ↓ifB_false, Nat.reduceBEq, Nat.reduceAdd, Nat.reduceSub, reduceCtorEq, Nat.reduceMul, Nat.reduceEqDiff, Nat.reduceLeDiff, reduceIte, Nat.reduceLT, Int.reduceLE, Int.reduceLT, Int.reduceToNat]
    · have hL := lanesOk_LOk g1
      have hD := g2
      simp only [inR, Bool.and_eq_true, decide_eq_true_eq] at hD
      simp only [push_cast, ↓ifB_true, ↓ifB_false, Nat.reduceBEq, Nat.reduceAdd, Nat.reduceSub, reduceCtorEq, Nat.reduceMul, Nat.reduceEqDiff, Nat.reduceLeDiff, reduceIte, Nat.reduceLT, Int.reduceLE, Int.reduceLT, Int.reduceToNat]
      refine ⟨_, t61 hC cut h3, ?_⟩
      have hr := ris_eq cut ((D + 1) * L.d - 1)
      cases g3 : upto (cut.length - 1) (incP cut)
      · rw [g3, Bool.false_and] at hr
        simp only [resCut, askCut, g1, g2, ← hr, push_cast, ↓ifB_true, ↓ifB_false, Nat.reduceBEq, Nat.reduceAdd, Nat.reduceSub, reduceCtorEq, Nat.reduceMul, Nat.reduceEqDiff, Nat.reduceLeDiff, reduceIte, Nat.reduceLT, Int.reduceLE, Int.reduceLT, Int.reduceToNat]
      · rw [g3, Bool.true_and] at hr
        simp only [push_cast, ↓ifB_true, ↓ifB_false, Nat.reduceBEq, Nat.reduceAdd, Nat.reduceSub, reduceCtorEq, Nat.reduceMul, Nat.reduceEqDiff, Nat.reduceLeDiff, reduceIte, Nat.reduceLT, Int.reduceLE, Int.reduceLT, Int.reduceToNat]
        refine ⟨_, t38 hC cut 62 [.pf [.int .i64 D], .pf [.int .i64 L.d, .sl (lns L.ls), .sl (ints L.st)]] _ h3 rfl rfl fun n _ => t62 hC L n D hD hL.d, ?_⟩
        cases g4 : cut.any fun x => !inR 0 ((D + 1) * L.d - 1) x
        · rw [g4] at hr
          obtain ⟨N, rfl⟩ : ∃ N : Nat, D = N := ⟨D.toNat, by omega⟩
          have ha : askCut L N cut = true := by simp only [askCut, g1, g2, ← hr]; rfl
          simp only [resCut, ha, if_true, Int.toNat_natCast]
          have c2 := t63 hC L N (by omega) hL
          have hal := arcsLT_len hL (D := N) (by omega)
          rw [← cutSum_eq cut hL (D := N) (by omega)]
          simp only [Lanes.av] at c2
          generalize arcsL L N ++ arcsT L N = A at *
          simp only [push_cast, ↓ifB_true, ↓ifB_false, Nat.reduceBEq, Nat.reduceAdd, Nat.reduceSub, reduceCtorEq, Nat.reduceMul, Nat.reduceEqDiff, Nat.reduceLeDiff, reduceIte, Nat.reduceLT, Int.reduceLE, Int.reduceLT, Int.reduceToNat]
          refine ⟨_, c2, ?_⟩
          simp only [ar5_length, push_cast, ↓ifB_true, ↓ifB_false, Nat.reduceBEq, Nat.reduceAdd, Nat.reduceSub, reduceCtorEq, Nat.reduceMul, Nat.reduceEqDiff, Nat.reduceLeDiff, reduceIte, Nat.reduceLT, Int.reduceLE, Int.reduceLT, Int.reduceToNat]
          refine RL_count (fun k => ⟨tb 57 .any [(2, .sl (ints cut)), (8, .int .i64 (cutSum cut (A.take k))), (34, .ref 2 none 5 0 A.length), (35, .int .i64 (A.length : Int)), (36, .int .i64 (k : Int))], [(2, .slice 5 (ar5 A))], 3⟩) (fun _ => True) A.length 0 (head_tb [(2, 2)] rfl (by simp only [keptV_cons, keptV_nil, tb_get, lk_same, lk_ne, lk_nil, ren, renL, lkp, Nat.reduceLT, Nat.reduceBEq, Nat.reduceEqDiff, reduceIte, and_true, true_and, Nat.not_lt_zero, if_false, if_true, Nat.add_zero, Nat.zero_add]; simp [cutSum]) (by simp only [canR, canB, renO, renL, ren, lkp, hget, Nat.reduceLT, Nat.reduceEqDiff, Nat.not_lt_zero, if_false, if_true, reduceIte, List.append_nil, List.nil_append])) (by omega) trivial fun k hk _ J hJ => ?_
          by_cases hk1 : k < A.length
          · have e1 : (ar5 A)[k]? = some [.int .i64 A[k].f, .int .i64 A[k].t, .int .i64 A[k].m, .int .i64 0, .bool false] := by simp [ar5, hk1]
            have e2 := cut_succ (cut := cut) hk1
            simp only [Int.toNat_natCast, e1, push_cast, ↓ifB_true, ↓ifB_false, Nat.reduceBEq, Nat.reduceAdd, Nat.reduceSub, reduceCtorEq, Nat.reduceMul, Nat.reduceEqDiff, Nat.reduceLeDiff, reduceIte, Nat.reduceLT, Int.reduceLE, Int.reduceLT, Int.reduceToNat]
            refine ifB_intro (fun _ => ?_) (fun h => by simp at h; omega)
            repeat (refine ⟨by omega, ?_⟩)
            refine ⟨_, t64 hC cut _ h3, ?_⟩
            have fin : ∀ s, cutStep cut (cutSum cut (A.take k)) A[k] = s → ∀ st, Head 0 st ⟨tb 57 .any [(2, .sl (ints cut)), (8, .int .i64 s), (34, .ref 2 none 5 0 A.length), (35, .int .i64 (A.length : Int)), (36, .int .i64 ((k + 1 : Nat) : Int))], [(2, .slice 5 (ar5 A))], 3⟩ → J st := by
              intro s hs; subst hs; rw [← e2]; exact hJ hk1 trivial
            cases g4 : hasB cut A[k].f
            · simp only [push_cast, ↓ifB_true, ↓ifB_false, Nat.reduceBEq, Nat.reduceAdd, Nat.reduceSub, reduceCtorEq, Nat.reduceMul, Nat.reduceEqDiff, Nat.reduceLeDiff, reduceIte, Nat.reduceLT, Int.reduceLE, Int.reduceLT, Int.reduceToNat]
              exact fin (cutSum cut (A.take k)) (by simp only [cutStep, inCut, g4, Bool.false_and]; rfl) _ (head_tb [(2, 2)] rfl (by simp only [keptV_cons, keptV_nil, tb_get, lk_same, lk_ne, lk_nil, ren, renL, lkp, Nat.reduceLT, Nat.reduceBEq, Nat.reduceEqDiff, reduceIte, and_true, true_and, Nat.not_lt_zero, if_false, if_true, Nat.add_zero, Nat.zero_add]; (try rw [wrap64 (by omega) (by omega)]); (first | done | (simp; done) | (simp [*]; done) | (simp; omega) | (and_intros <;> rfl))) (by simp only [canR, canB, renO, renL, ren, lkp, hget, Nat.reduceLT, Nat.reduceEqDiff, Nat.not_lt_zero, if_false, if_true, reduceIte, List.append_nil, List.nil_append]; (first | done | rfl)))
            · simp only [push_cast, ↓ifB_true, ↓ifB_false, Nat.reduceBEq, Nat.reduceAdd, Nat.reduceSub, reduceCtorEq, Nat.reduceMul, Nat.reduceEqDiff, Nat.reduceLeDiff, reduceIte, Nat.reduceLT, Int.reduceLE, Int.reduceLT, Int.reduceToNat]
              refine ⟨_, t64 hC cut _ h3, ?_⟩
              cases g5 : hasB cut A[k].t
              · simp only [push_cast, ↓ifB_true, ↓ifB_false, Nat.reduceBEq, Nat.reduceAdd, Nat.reduceSub, reduceCtorEq, Nat.reduceMul, Nat.reduceEqDiff, Nat.reduceLeDiff, reduceIte, Nat.reduceLT, Int.reduceLE, Int.reduceLT, Int.reduceToNat]
                refine fin (IntKind.i64.wrap (cutSum cut (A.take k) + A[k].m)) (by simp only [cutStep, inCut, g4, g5]; rfl) _ (head_tb [(2, 2)] rfl ?_ (by simp only [canR, canB, renO, renL, ren, lkp, hget, Nat.reduceLT, Nat.reduceEqDiff, Nat.not_lt_zero, if_false, if_true, reduceIte, List.append_nil, List.nil_append]; (first | done | rfl)))
                simp only [keptV_cons, keptV_nil, tb_get, lk_same, lk_ne, lk_nil, ren, renL, lkp, Nat.reduceLT, Nat.reduceBEq, Nat.reduceEqDiff, reduceIte, and_true, true_and, Nat.not_lt_zero, if_false, if_true, Nat.add_zero, Nat.zero_add]
                rw [wrap64 (n := (k : Int) + 1) (by omega) (by omega)]
                simp
              · simp only [push_cast, ↓ifB_true, ↓ifB_false, Nat.reduceBEq, Nat.reduceAdd, Nat.reduceSub, reduceCtorEq, Nat.reduceMul, Nat.reduceEqDiff, Nat.reduceLeDiff, reduceIte, Nat.reduceLT, Int.reduceLE, Int.reduceLT, Int.reduceToNat]
                exact fin (cutSum cut (A.take k)) (by simp only [cutStep, inCut, g4, g5]; rfl) _ (head_tb [(2, 2)] rfl (by simp only [keptV_cons, keptV_nil, tb_get, lk_same, lk_ne, lk_nil, ren, renL, lkp, Nat.reduceLT, Nat.reduceBEq, Nat.reduceEqDiff, reduceIte, and_true, true_and, Nat.not_lt_zero, if_false, if_true, Nat.add_zero, Nat.zero_add]; (try rw [wrap64 (by omega) (by omega)]); (first | done | (simp; done) | (simp [*]; done) | (simp; omega) | (and_intros <;> rfl))) (by simp only [canR, canB, renO, renL, ren, lkp, hget, Nat.reduceLT, Nat.reduceEqDiff, Nat.not_lt_zero, if_false, if_true, reduceIte, List.append_nil, List.nil_append]; (first | done | rfl)))
          · obtain rfl : k = A.length := by omega
            simp only [List.take_length, push_cast, ↓ifB_true, ↓ifB_false, Nat.reduceBEq, Nat.reduceAdd, Nat.reduceSub, reduceCtorEq, Nat.reduceMul, Nat.reduceEqDiff, Nat.reduceLeDiff, reduceIte, Nat.reduceLT, Int.reduceLE, Int.reduceLT, Int.reduceToNat]
            refine ifB_intro (fun h => by simp at h) (fun h => ?_)
            trivial
        · rw [g4] at hr
          simp only [resCut, askCut, g1, g2, ← hr, push_cast, ↓ifB_true, ↓ifB_false, Nat.reduceBEq, Nat.reduceAdd, Nat.reduceSub, reduceCtorEq, Nat.reduceMul, Nat.reduceEqDiff, Nat.reduceLeDiff, reduceIte, Nat.reduceLT, Int.reduceLE, Int.reduceLT, Int.reduceToNat]
theorem t8 (L : Lanes) (D : Int) (cut : List Int) (h1 : L.ls.length < 2^50) (h2 : L.st.length < 2^50) (h3 : cut.length < 2^50) : Ev C 8 [L.av, .int .i64 D, .sl (ints cut)] (.bool true) := by
  have c1 := t9 hC L 1048576 (by omega) h1 h2
  simp only [Lanes.av] at *
  refine Ev.runT hC Try.func8 h8 nt8 r8 (by decide) (Nat.le_of_ble_eq_true rfl) (rfl) ?_
  simp only [c8, ints_length, push_cast, ↓ifB_true, ↓ifB_false, Nat.reduceBEq, Nat.reduceAdd, Nat.reduceSub, reduceCtorEq, Nat.reduceMul, Nat.reduceEqDiff, Nat.reduceLeDiff, reduceIte, Nat.reduceLT, Int.reduceLE, Int.reduceLT, Int.reduceToNat]
  refine ifB_intro (fun h => trivial) (fun h0 => ?_)
  refine ⟨_, c1, ?_⟩
  simp only [push_cast, ↓ifB_true, ↓ifB_false, Nat.reduceBEq, Nat.reduceAdd, Nat.reduceSub, reduceCtorEq, Nat.reduceMul, Nat.reduceEqDiff, Nat.reduceLeDiff, reduceIte, Nat.reduceLT, Int.reduceLE, Int.reduceLT, Int.reduceToNat]
  refine ifB_intro (fun h => trivial) (fun h => ?_)
  simp only [decide_eq_false_iff_not] at h0
  have g1 : L.ls.length < 2^30 ∧ L.st.length < 2^30 := by simp only [szL] at h; grind
  have c2 := t11 hC L g1.1 g1.2
  have c3 := t30 hC cut (by omega)
  have c4 := t29 hC L D cut h1 h2 h3
  have c5 := t31 hC L D cut h1 h2 h3
  have c6 := t13 hC L L h1 h2 h1 h2
  have c7 := t18 hC cut cut h3 h3
  simp only [Lanes.av, Lanes.ow] at *
  refine ⟨_, c2, ?_⟩
  simp only [frzLL_ints, frzLL_lns, push_cast, ↓ifB_true, ↓ifB_false, Nat.reduceBEq, Nat.reduceAdd, Nat.reduceSub, reduceCtorEq, Nat.reduceMul, Nat.reduceEqDiff, Nat.reduceLeDiff, reduceIte, Nat.reduceLT, Int.reduceLE, Int.reduceLT, Int.reduceToNat]
  refine ⟨_, c3, ?_⟩
  simp only [frzLL_ints, frzLL_lns, push_cast, ↓ifB_true, ↓ifB_false, Nat.reduceBEq, Nat.reduceAdd, Nat.reduceSub, reduceCtorEq, Nat.reduceMul, Nat.reduceEqDiff, Nat.reduceLeDiff, reduceIte, Nat.reduceLT, Int.reduceLE, Int.reduceLT, Int.reduceToNat]
  refine ⟨_, c4, ?_⟩
  simp only [frzLL_ints, frzLL_lns, push_cast, ↓ifB_true, ↓ifB_false, Nat.reduceBEq, Nat.reduceAdd, Nat.reduceSub, reduceCtorEq, Nat.reduceMul, Nat.reduceEqDiff, Nat.reduceLeDiff, reduceIte, Nat.reduceLT, Int.reduceLE, Int.reduceLT, Int.reduceToNat]
  refine ⟨_, c2, ?_⟩
  simp only [frzLL_ints, frzLL_lns, push_cast, ↓ifB_true, ↓ifB_false, Nat.reduceBEq, Nat.reduceAdd, Nat.reduceSub, reduceCtorEq, Nat.reduceMul, Nat.reduceEqDiff, Nat.reduceLeDiff, reduceIte, Nat.reduceLT, Int.reduceLE, Int.reduceLT, Int.reduceToNat]
  refine ⟨_, c3, ?_⟩
  simp only [frzLL_ints, frzLL_lns, push_cast, ↓ifB_true, ↓ifB_false, Nat.reduceBEq, Nat.reduceAdd, Nat.reduceSub, reduceCtorEq, Nat.reduceMul, Nat.reduceEqDiff, Nat.reduceLeDiff, reduceIte, Nat.reduceLT, Int.reduceLE, Int.reduceLT, Int.reduceToNat]
  refine ⟨_, c5, ?_⟩
  simp only [frzLL_ints, frzLL_lns, push_cast, ↓ifB_true, ↓ifB_false, Nat.reduceBEq, Nat.reduceAdd, Nat.reduceSub, reduceCtorEq, Nat.reduceMul, Nat.reduceEqDiff, Nat.reduceLeDiff, reduceIte, Nat.reduceLT, Int.reduceLE, Int.reduceLT, Int.reduceToNat]
  refine ⟨_, c2, ?_⟩
  simp only [frzLL_ints, frzLL_lns, push_cast, ↓ifB_true, ↓ifB_false, Nat.reduceBEq, Nat.reduceAdd, Nat.reduceSub, reduceCtorEq, Nat.reduceMul, Nat.reduceEqDiff, Nat.reduceLeDiff, reduceIte, Nat.reduceLT, Int.reduceLE, Int.reduceLT, Int.reduceToNat]
  refine ⟨_, c6, ?_⟩
  simp only [frzLL_ints, frzLL_lns, push_cast, ↓ifB_true, ↓ifB_false, Nat.reduceBEq, Nat.reduceAdd, Nat.reduceSub, reduceCtorEq, Nat.reduceMul, Nat.reduceEqDiff, Nat.reduceLeDiff, reduceIte, Nat.reduceLT, Int.reduceLE, Int.reduceLT, Int.reduceToNat]
  refine ⟨_, c3, ?_⟩
  simp only [frzLL_ints, frzLL_lns, push_cast, ↓ifB_true, ↓ifB_false, Nat.reduceBEq, Nat.reduceAdd, Nat.reduceSub, reduceCtorEq, Nat.reduceMul, Nat.reduceEqDiff, Nat.reduceLeDiff, reduceIte, Nat.reduceLT, Int.reduceLE, Int.reduceLT, Int.reduceToNat]
  refine ⟨_, c7, ?_⟩
  simp only [frzLL_ints, frzLL_lns, push_cast, ↓ifB_true, ↓ifB_false, Nat.reduceBEq, Nat.reduceAdd, Nat.reduceSub, reduceCtorEq, Nat.reduceMul, Nat.reduceEqDiff, Nat.reduceLeDiff, reduceIte, Nat.reduceLT, Int.reduceLE, Int.reduceLT, Int.reduceToNat]
end
end Go.Proofs.Ytnajmggefapeaaa.X
