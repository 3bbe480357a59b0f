/- A part of the proof: lemmas on the functions that the law reaches. No condition of its own. -/
import Derived.Test.YtlddjlchgibdfaaDoorXCBdP
import Derived.Test.YtlddjlchgibdfaaDoorXCClB
set_option maxHeartbeats 4000000
set_option maxRecDepth 8000
set_option linter.unusedSimpArgs false
set_option linter.unusedVariables false
namespace Go.Proofs.YtlddjlchgibdfaaDoor.X
open Go
attribute [local irreducible] Ev
structure Od where
  a : Int
  b : Int
  deriving DecidableEq
def odA (o : Od) : List AV := [.int .i64 o.a, .int .i64 o.b]
def ods (l : List Od) : List (List AV) := l.map odA
theorem ods_length (l : List Od) : (ods l).length = l.length := by simp [ods]
theorem frzLL_ods (l : List Od) : frzLL (ods l) = ods l := by
  unfold ods
  induction l with
  | nil => rfl
  | cons x l ih => simp only [List.map_cons, frzLL, odA, frzL, frzT, ih]
theorem own_ods (l : List Od) : ownRLL (ods l) = true := by
  unfold ods
  induction l with
  | nil => rfl
  | cons x l ih => simp only [List.map_cons, ownRLL, odA, ownRL, ownR, Bool.and_true, Bool.true_and]; exact ih
theorem own_owss (W : List (List Int)) : ownRLL (owss W) = true := by have := own_intss W; simpa only [ownR] using this
structure Ct where
  cs : List Od
  d : Int
  rs : List (List Int)
  deriving DecidableEq
def ctF (t : Ct) : List AV := [.sl (ods t.cs), .int .i64 t.d, .sl (intss t.rs)]
def ctO (t : Ct) : List AV := [.ow 2 (ods t.cs), .int .i64 t.d, .ow 1 (owss t.rs)]
structure SSB (B : Nat) (W : List (List Int)) : Prop where
  l : W.length < B
  r : ∀ r ∈ W, r.length < B
structure CtB (B : Nat) (t : Ct) : Prop where
  c : t.cs.length < B
  r : SSB B t.rs
def sz1 (l : List Od) (v : Int) : Int := sub1 v l.length
def szCt (t : Ct) : Int → Int := andThen (sz1 t.cs) (szSS t.rs)
def szCl (W : List (List Int)) (v : Int) : Int := if szSS W v < 0 then -1 else szSS W v
theorem szRows_rng : ∀ (W : List (List Int)) (v : Int), 0 ≤ v → -1 ≤ szRows W v ∧ szRows W v ≤ v
  | [], v, h => by simp only [szRows]; omega
  | r :: W, v, h => by
    simp only [szRows]
    split
    · omega
    · have := szRows_rng W (v - r.length) (by omega); omega
theorem szSS_rng {W : List (List Int)} {v : Int} (h : 0 ≤ v) : -1 ≤ szSS W v ∧ szSS W v ≤ v := by
  simp only [szSS]
  split
  · omega
  · have := szRows_rng W (v - W.length) (by omega); omega
theorem szSS_pos {W : List (List Int)} {v : Int} (h0 : 0 ≤ v) (hv : v ≤ 1048576) (h : 0 ≤ szSS W v) : SSB (2 ^ 21) W := by
  have := szSS_le h0 h
  exact ⟨by omega, fun r hr => by have := this.2 r hr; omega⟩
theorem szCl_rng {W : List (List Int)} {v : Int} (h : 0 ≤ v) : -1 ≤ szCl W v ∧ szCl W v ≤ v := by
  have := szSS_rng (W := W) h
  simp only [szCl]; split <;> omega
theorem szCt_rng {t : Ct} {v : Int} (h : 0 ≤ v) : -1 ≤ szCt t v ∧ szCt t v ≤ v := by
  have h1 : -1 ≤ sz1 t.cs v ∧ sz1 t.cs v ≤ v := sub1_le h
  simp only [szCt, andThen]
  split
  · omega
  · have := szSS_rng (W := t.rs) (v := sz1 t.cs v) (by omega)
    split <;> omega
theorem SSB.mono {A B : Nat} {W : List (List Int)} (h : A ≤ B) (hb : SSB A W) : SSB B W := ⟨by have := hb.l; omega, fun r hr => by have := hb.r r hr; omega⟩
theorem CtB.mono {A B : Nat} {t : Ct} (h : A ≤ B) (hb : CtB A t) : CtB B t := ⟨by have := hb.c; omega, hb.r.mono h⟩
theorem szCt_pos {t : Ct} {v : Int} (h0 : 0 ≤ v) (hv : v ≤ 1048576) (h : 0 ≤ szCt t v) : CtB (2 ^ 21) t := by
  have h1 : -1 ≤ sz1 t.cs v ∧ sz1 t.cs v ≤ v := sub1_le h0
  simp only [szCt, andThen] at h
  split at h
  · omega
  split at h
  · omega
  have h2 := sub1_pos (v := v) (n := t.cs.length) (by show 0 ≤ sz1 t.cs v; omega)
  exact ⟨by omega, szSS_pos (by omega) (by omega) h⟩
def od0 : Od := ⟨0, 0⟩
def prevO (cs : List Od) (i : Nat) : Od := cs.getD (i - 1) od0
/-- A column: in its range and above the one before. -/
def odOk (cs : List Od) (i : Nat) (o : Od) : Bool := inR 1 20 o.a && inR 1 20 o.b && !(decide (0 < (i : Int)) && decide (IntKind.i64.wrap (o.a * (prevO cs i).b) ≤ IntKind.i64.wrap ((prevO cs i).a * o.b)))
def ctRow (n : Nat) (r : List Int) : Bool := decide ((r.length : Int) = (n : Int)) && r.all (inR 0 7)
def ctOk (t : Ct) : Bool := inR 1 8 t.cs.length && inR 1 2 t.d && decide ((t.rs.length : Int) = 5 * t.d + 1) && allI (odOk t.cs) t.cs && t.rs.all (ctRow t.cs.length)
section
variable {C : CT} (hC : Closed Tryd.prog G1 md0 C)
include hC
theorem t129 (l : List Od) (v : Int) (hv : 0 ≤ v ∧ v < 2^50) (hl : l.length < 2^50) : Ev C 129 [.sl (ods l), .int .i64 v] (.int .i64 (sz1 l v)) := by
  refine Ev.runT hC Tryd.func129 h129 nt129 r129 (by decide) (Nat.le_of_ble_eq_true rfl) (rfl) ?_
  simp only [c129, ods_length, push_cast, ↓ifB_true, ↓ifB_false, Nat.reduceBEq, Nat.reduceAdd, Nat.reduceSub, reduceCtorEq, Nat.reduceMul, Nat.reduceEqDiff, Nat.reduceLeDiff, reduceIte, Nat.reduceLT, Int.reduceLE, Int.reduceLT, Int.reduceToNat]
  rw [wrap64 (by omega) (by omega)]
  refine ifB_intro (fun h => ?_) (fun h => ?_)
  · have h' : v < l.length := by simp at h; omega
    simp only [sz1, sub1, if_pos h']
  · have h' : ¬ v < l.length := by simp at h; omega
    simp only [sz1, sub1, if_neg h']
theorem t92 (t : Ct) (v : Int) (hv : 0 ≤ v ∧ v < 2^50) (hb : CtB (2^50) t) : Ev C 92 [.agg (ctF t), .int .i64 v] (.int .i64 (szCt t v)) := by
  have h1 := sub1_le (n := t.cs.length) hv.1
  simp only [ctF]
  refine Ev.runT hC Tryd.func92 h92 nt92 r92 (by decide) (Nat.le_of_ble_eq_true rfl) (rfl) ?_
  simp only [c92, push_cast, ↓ifB_true, ↓ifB_false, Nat.reduceBEq, Nat.reduceAdd, Nat.reduceSub, reduceCtorEq, Nat.reduceMul, Nat.reduceEqDiff, Nat.reduceLeDiff, reduceIte, Nat.reduceLT, Int.reduceLE, Int.reduceLT, Int.reduceToNat]
  refine ⟨_, t129 hC _ _ hv hb.c, ?_⟩
  simp only [push_cast, ↓ifB_true, ↓ifB_false, Nat.reduceBEq, Nat.reduceAdd, Nat.reduceSub, reduceCtorEq, Nat.reduceMul, Nat.reduceEqDiff, Nat.reduceLeDiff, reduceIte, Nat.reduceLT, Int.reduceLE, Int.reduceLT, Int.reduceToNat]
  refine ifB_intro (fun h => ?_) (fun h => ?_)
  · simp only [szCt, andThen, if_pos (of_decide_eq_true h)]
  · have hn := of_decide_eq_false h
    refine ⟨_, t48 hC _ _ ⟨by omega, by simp only [sz1] at *; omega⟩ hb.r.l hb.r.r, ?_⟩
    simp only [push_cast, ↓ifB_true, ↓ifB_false, Nat.reduceBEq, Nat.reduceAdd, Nat.reduceSub, reduceCtorEq, Nat.reduceMul, Nat.reduceEqDiff, Nat.reduceLeDiff, reduceIte, Nat.reduceLT, Int.reduceLE, Int.reduceLT, Int.reduceToNat]
    refine ifB_intro (fun h => ?_) (fun h => ?_)
    · simp only [szCt, andThen, if_neg hn, if_pos (of_decide_eq_true h)]
    · simp only [szCt, andThen, if_neg hn, if_neg (of_decide_eq_false h)]
theorem t163 (o : Od) : Ev C 163 [.agg (odA o)] (.agg (odA o)) := by
  simp only [odA]
  refine Ev.runT hC Tryd.func163 h163 nt163 r163 (by decide) (Nat.le_of_ble_eq_true rfl) (rfl) ?_
  simp only [c163, push_cast, ↓ifB_true, ↓ifB_false, Nat.reduceBEq, Nat.reduceAdd, Nat.reduceSub, reduceCtorEq, Nat.reduceMul, Nat.reduceEqDiff, Nat.reduceLeDiff, reduceIte, Nat.reduceLT, Int.reduceLE, Int.reduceLT, Int.reduceToNat]
  exact RetTo_of (by simp only [conR, conRL, isF, hget, hdel, List.drop_zero, List.take_length, if_true, if_false, reduceIte, Nat.reduceEqDiff, reduceCtorEq]; rfl)
theorem t132 (l : List Od) (hl : l.length < 2^30) : Ev C 132 [.sl (ods l)] (.ow 2 (ods l)) := by
  refine Ev.runT hC Tryd.func132 h132 nt132 r132 (by decide) (Nat.le_of_ble_eq_true rfl) (by simp only [ownR, own_ods]) ?_
  simp only [c132, ods_length, push_cast, ↓ifB_true, ↓ifB_false, Nat.reduceBEq, Nat.reduceAdd, Nat.reduceSub, reduceCtorEq, Nat.reduceMul, Nat.reduceEqDiff, Nat.reduceLeDiff, reduceIte, Nat.reduceLT, Int.reduceLE, Int.reduceLT, Int.reduceToNat]
  repeat (refine ⟨by omega, ?_⟩)
  refine RL_count (fun i => ⟨tb 23 .any [(0, .sl (ods l)), (3, .ref 0 none 2 0 l.length), (4, .int .i64 (i : Int))], [(0, .slice 2 ((l.take i).map odA ++ List.replicate (l.length - i) [.int .i64 0, .int .i64 0]))], 1⟩) (fun _ => True) l.length 0 (head_tb [(0, 0)] rfl (by simp only [keptV_cons, keptV_nil, tb_get, lk_same, lk_ne, lk_nil, ren, renL, lkp, Nat.reduceLT, Nat.reduceBEq, Nat.reduceEqDiff, reduceIte, and_true, true_and, Nat.not_lt_zero, if_false, if_true, Nat.add_zero, Nat.zero_add]; (try rw [wrap64 (by omega) (by omega)]); (first | done | (simp; done) | (simp [*]; done) | (simp; omega) | (and_intros <;> rfl))) (by simp only [canR, canB, renO, renL, ren, lkp, hget, Nat.reduceLT, Nat.reduceEqDiff, Nat.not_lt_zero, if_false, if_true, reduceIte, List.append_nil, List.nil_append]; (first | done | rfl))) (by omega) trivial fun i hi _ J hJ => ?_
  by_cases h1 : i < l.length
  · have e1 : (ods l)[i]? = some (odA l[i]) := by simp [ods, h1]
    rw [show l.length - i = (l.length - (i + 1)) + 1 by omega, List.replicate_succ]
    simp only [ods_length, Int.toNat_natCast, e1, odA, push_cast, ↓ifB_true, ↓ifB_false, Nat.reduceBEq, Nat.reduceAdd, Nat.reduceSub, reduceCtorEq, Nat.reduceMul, Nat.reduceEqDiff, Nat.reduceLeDiff, reduceIte, Nat.reduceLT, Int.reduceLE, Int.reduceLT, Int.reduceToNat]
    refine ifB_intro (fun _ => ?_) (fun h => by simp at h; omega)
    repeat (refine ⟨by omega, ?_⟩)
    refine ⟨_, t163 hC l[i], ?_⟩
    simp only [Int.toNat_natCast, odA, odA, List.take_length, mid_get (show ((l.take i).map odA).length = i by simp; omega), mid_set (show ((l.take i).map odA).length = i by simp; omega), push_cast, ↓ifB_true, ↓ifB_false, Nat.reduceBEq, Nat.reduceAdd, Nat.reduceSub, reduceCtorEq, Nat.reduceMul, Nat.reduceEqDiff, Nat.reduceLeDiff, reduceIte, Nat.reduceLT, Int.reduceLE, Int.reduceLT, Int.reduceToNat]
    repeat (refine ⟨by omega, ?_⟩)
    refine hJ h1 trivial _ (head_tb [(0, 0)] rfl (by simp only [keptV_cons, keptV_nil, tb_get, lk_same, lk_ne, lk_nil, ren, renL, lkp, Nat.reduceLT, Nat.reduceBEq, Nat.reduceEqDiff, reduceIte, and_true, true_and, Nat.not_lt_zero, if_false, if_true, Nat.add_zero, Nat.zero_add]; (try rw [wrap64 (by omega) (by omega)]); (first | done | (simp; done) | (simp [*]; done) | (simp; omega) | (and_intros <;> rfl))) ?_)
    rw [List.take_succ_eq_append_getElem h1, List.map_append, List.append_assoc]
    simp only [hdel, canR, canB, renO, renL, ren, lkp, hget, Nat.reduceLT, Nat.reduceEqDiff, Nat.not_lt_zero, if_false, if_true, reduceIte, List.append_nil, List.nil_append]
    rfl
  · simp only [ods_length, Int.toNat_natCast, push_cast, ↓ifB_true, ↓ifB_false, Nat.reduceBEq, Nat.reduceAdd, Nat.reduceSub, reduceCtorEq, Nat.reduceMul, Nat.reduceEqDiff, Nat.reduceLeDiff, reduceIte, Nat.reduceLT, Int.reduceLE, Int.reduceLT, Int.reduceToNat]
    refine ifB_intro (fun h => by simp at h; omega) (fun h => ?_)
    rw [List.take_of_length_le (by omega), show l.length - i = 0 by omega]
    exact RetTo_ow (by simp [hget, ods]) (by simp [ods])
theorem t94 (t : Ct) (hb : CtB (2^30) t) : Ev C 94 [.agg (ctF t)] (.agg (ctO t)) := by
  simp only [ctF, ctO]
  refine Ev.runT hC Tryd.func94 h94 nt94 r94 (by decide) (Nat.le_of_ble_eq_true rfl) (by simp only [ownR, ownRL, own_ods, own_owss, Bool.and_true]) ?_
  simp only [c94, push_cast, ↓ifB_true, ↓ifB_false, Nat.reduceBEq, Nat.reduceAdd, Nat.reduceSub, reduceCtorEq, Nat.reduceMul, Nat.reduceEqDiff, Nat.reduceLeDiff, reduceIte, Nat.reduceLT, Int.reduceLE, Int.reduceLT, Int.reduceToNat]
  refine ⟨_, t132 hC _ hb.c, ?_⟩
  simp only [push_cast, ↓ifB_true, ↓ifB_false, Nat.reduceBEq, Nat.reduceAdd, Nat.reduceSub, reduceCtorEq, Nat.reduceMul, Nat.reduceEqDiff, Nat.reduceLeDiff, reduceIte, Nat.reduceLT, Int.reduceLE, Int.reduceLT, Int.reduceToNat]
  refine ⟨_, t51 hC _ hb.r.l hb.r.r, ?_⟩
  simp only [push_cast, ↓ifB_true, ↓ifB_false, Nat.reduceBEq, Nat.reduceAdd, Nat.reduceSub, reduceCtorEq, Nat.reduceMul, Nat.reduceEqDiff, Nat.reduceLeDiff, reduceIte, Nat.reduceLT, Int.reduceLE, Int.reduceLT, Int.reduceToNat]
  exact RetTo_of (by simp only [conR, conRL, isF, hget, hdel, List.drop_zero, List.take_length, if_true, if_false, reduceIte, Nat.reduceEqDiff, reduceCtorEq]; rfl)
theorem t164 (t u : Od) : Ev C 164 [.agg (odA t), .agg (odA u)] (.bool (decide (t = u))) := by
  obtain ⟨a1, a2⟩ := t
  obtain ⟨b1, b2⟩ := u
  simp only [odA]
  refine Ev.runT hC Tryd.func164 h164 nt164 r164 (by decide) (Nat.le_of_ble_eq_true rfl) (rfl) ?_
  simp only [c164, push_cast, ↓ifB_true, ↓ifB_false, Nat.reduceBEq, Nat.reduceAdd, Nat.reduceSub, reduceCtorEq, Nat.reduceMul, Nat.reduceEqDiff, Nat.reduceLeDiff, reduceIte, Nat.reduceLT, Int.reduceLE, Int.reduceLT, Int.reduceToNat]
  repeat' (first
    | refine ifB_intro (fun h => ?_) (fun h => ?_)
    | simp only [push_cast, ↓ifB_true, ↓ifB_false, Nat.reduceBEq, Nat.reduceAdd, Nat.reduceSub, reduceCtorEq, Nat.reduceMul, Nat.reduceEqDiff, Nat.reduceLeDiff, reduceIte, Nat.reduceLT, Int.reduceLE, Int.reduceLT, Int.reduceToNat])
  all_goals simp_all
theorem t137 (l m : List Od) (hl : l.length < 2^50) (hm : m.length < 2^50) : Ev C 137 [.sl (ods l), .sl (ods m)] (.bool (decide (l = m))) := by
  refine Ev.runT hC Tryd.func137 h137 nt137 r137 (by decide) (Nat.le_of_ble_eq_true rfl) (rfl) ?_
  simp only [c137, ods_length, push_cast, ↓ifB_true, ↓ifB_false, Nat.reduceBEq, Nat.reduceAdd, Nat.reduceSub, reduceCtorEq, Nat.reduceMul, Nat.reduceEqDiff, Nat.reduceLeDiff, reduceIte, Nat.reduceLT, Int.reduceLE, Int.reduceLT, Int.reduceToNat]
  refine ifB_intro (fun h => ?_) (fun h => ?_)
  · have hlm : l.length = m.length := by simp at h; omega
    refine RL_count (fun i => ⟨tb 27 .any [(0, .sl (ods l)), (1, .sl (ods m)), (5, .int .i64 (i : Int))], [], 0⟩) (fun i => l.take i = m.take i) l.length 0 (head_tb [] rfl (by simp only [keptV_cons, keptV_nil, tb_get, lk_same, lk_ne, lk_nil, ren, renL, lkp, Nat.reduceLT, Nat.reduceBEq, Nat.reduceEqDiff, reduceIte, and_true, true_and, Nat.not_lt_zero, if_false, if_true, Nat.add_zero, Nat.zero_add]; (try rw [wrap64 (by omega) (by omega)]); (first | done | (simp; done) | (simp [*]; done) | (simp; omega) | (and_intros <;> rfl))) (by simp only [canR, canB, renO, renL, ren, lkp, hget, Nat.reduceLT, Nat.reduceEqDiff, Nat.not_lt_zero, if_false, if_true, reduceIte, List.append_nil, List.nil_append]; (first | done | rfl))) (by omega) rfl fun i hi ht J hJ => ?_
    by_cases h1 : i < l.length
    · have h2 : i < m.length := by omega
      have e1 : (ods l)[i]? = some (odA l[i]) := by simp [ods, h1]
      have e2 : (ods m)[i]? = some (odA m[i]) := by simp [ods, h2]
      simp only [ods_length, Int.toNat_natCast, e1, e2, odA, push_cast, ↓ifB_true, ↓ifB_false, Nat.reduceBEq, Nat.reduceAdd, Nat.reduceSub, reduceCtorEq, Nat.reduceMul, Nat.reduceEqDiff, Nat.reduceLeDiff, reduceIte, Nat.reduceLT, Int.reduceLE, Int.reduceLT, Int.reduceToNat]
      refine ifB_intro (fun _ => ?_) (fun h => by simp at h; omega)
      repeat (refine ⟨by omega, ?_⟩)
      refine ⟨_, t164 hC l[i] m[i], ?_⟩
      simp only [push_cast, ↓ifB_true, ↓ifB_false, Nat.reduceBEq, Nat.reduceAdd, Nat.reduceSub, reduceCtorEq, Nat.reduceMul, Nat.reduceEqDiff, Nat.reduceLeDiff, reduceIte, Nat.reduceLT, Int.reduceLE, Int.reduceLT, Int.reduceToNat]
      refine ifB_intro (fun h => ?_) (fun h => ?_)
      · refine hJ h1 ?_ _ (head_tb [] rfl (by simp only [keptV_cons, keptV_nil, tb_get, lk_same, lk_ne, lk_nil, ren, renL, lkp, Nat.reduceLT, Nat.reduceBEq, Nat.reduceEqDiff, reduceIte, and_true, true_and, Nat.not_lt_zero, if_false, if_true, Nat.add_zero, Nat.zero_add]; (try rw [wrap64 (by omega) (by omega)]); (first | done | (simp; done) | (simp [*]; done) | (simp; omega) | (and_intros <;> rfl))) (by simp only [canR, canB, renO, renL, ren, lkp, hget, Nat.reduceLT, Nat.reduceEqDiff, Nat.not_lt_zero, if_false, if_true, reduceIte, List.append_nil, List.nil_append]; (first | done | rfl)))
        rw [List.take_succ_eq_append_getElem h1, List.take_succ_eq_append_getElem h2, ht, of_decide_eq_true h]
      · have : ¬ l = m := by rintro rfl; simp at h
        simp [this]
    · simp only [ods_length, Int.toNat_natCast, push_cast, ↓ifB_true, ↓ifB_false, Nat.reduceBEq, Nat.reduceAdd, Nat.reduceSub, reduceCtorEq, Nat.reduceMul, Nat.reduceEqDiff, Nat.reduceLeDiff, reduceIte, Nat.reduceLT, Int.reduceLE, Int.reduceLT, Int.reduceToNat]
      refine ifB_intro (fun h => by simp at h; omega) (fun h => ?_)
      rw [List.take_of_length_le (by omega), List.take_of_length_le (by omega)] at ht
      simp [ht]
  · have : ¬ l = m := by rintro rfl; simp at h
    simp [this]
theorem t97 (t u : Ct) (h1 : CtB (2^50) t) (h2 : CtB (2^50) u) : Ev C 97 [.agg (ctF t), .agg (ctF u)] (.bool (decide (t = u))) := by
  have c1 := t137 hC t.cs u.cs h1.c h2.c
  have c2 := t54 hC t.rs u.rs h1.r.l h2.r.l h1.r.r h2.r.r
  clear h1 h2
  obtain ⟨a1, a2, a3⟩ := t
  obtain ⟨b1, b2, b3⟩ := u
  simp only [ctF] at *
  refine Ev.runT hC Tryd.func97 h97 nt97 r97 (by decide) (Nat.le_of_ble_eq_true rfl) (rfl) ?_
  simp only [c97, push_cast, ↓ifB_true, ↓ifB_false, Nat.reduceBEq, Nat.reduceAdd, Nat.reduceSub, reduceCtorEq, Nat.reduceMul, Nat.reduceEqDiff, Nat.reduceLeDiff, reduceIte, Nat.reduceLT, Int.reduceLE, Int.reduceLT, Int.reduceToNat]
  repeat' (first
    | refine ⟨_, c1, ?_⟩
    | refine ⟨_, c2, ?_⟩
    | refine ifB_intro (fun h => ?_) (fun h => ?_)
    | simp only [push_cast, ↓ifB_true, ↓ifB_false, Nat.reduceBEq, Nat.reduceAdd, Nat.reduceSub, reduceCtorEq, Nat.reduceMul, Nat.reduceEqDiff, Nat.reduceLeDiff, reduceIte, Nat.reduceLT, Int.reduceLE, Int.reduceLT, Int.reduceToNat])
  all_goals (clear c1 c2; simp_all)
theorem t161 (d : Int) (hd : 1 ≤ d ∧ d ≤ 2) : Ev C 161 [.int .i64 d] (.int .i64 (5 * d + 1)) := by
  refine Ev.runT hC Tryd.func161 h161 nt161 r161 (by decide) (Nat.le_of_ble_eq_true rfl) (rfl) ?_
  simp only [c161, push_cast, ↓ifB_true, ↓ifB_false, Nat.reduceBEq, Nat.reduceAdd, Nat.reduceSub, reduceCtorEq, Nat.reduceMul, Nat.reduceEqDiff, Nat.reduceLeDiff, reduceIte, Nat.reduceLT, Int.reduceLE, Int.reduceLT, Int.reduceToNat]
  rw [wrap64 (n := 5 * d) (by omega) (by omega), wrap64 (by omega) (by omega)]
theorem t134 (x : Int) : Ev C 134 [.int .i64 x] (.bool (inR 0 7 x)) := by
  refine Ev.runT hC Tryd.func134 h134 nt134 r134 (by decide) (Nat.le_of_ble_eq_true rfl) (rfl) ?_
  simp only [c134, push_cast, ↓ifB_true, ↓ifB_false, Nat.reduceBEq, Nat.reduceAdd, Nat.reduceSub, reduceCtorEq, Nat.reduceMul, Nat.reduceEqDiff, Nat.reduceLeDiff, reduceIte, Nat.reduceLT, Int.reduceLE, Int.reduceLT, Int.reduceToNat]
  refine ⟨_, tRange hC _ _ _, ?_⟩
  simp only [push_cast, ↓ifB_true, ↓ifB_false, Nat.reduceBEq, Nat.reduceAdd, Nat.reduceSub, reduceCtorEq, Nat.reduceMul, Nat.reduceEqDiff, Nat.reduceLeDiff, reduceIte, Nat.reduceLT, Int.reduceLE, Int.reduceLT, Int.reduceToNat]
theorem t133 (x : Int) : Ev C 133 [.int .i64 x] (.bool (!inR 0 7 x)) := by
  refine Ev.runT hC Tryd.func133 h133 nt133 r133 (by decide) (Nat.le_of_ble_eq_true rfl) (rfl) ?_
  simp only [c133, push_cast, ↓ifB_true, ↓ifB_false, Nat.reduceBEq, Nat.reduceAdd, Nat.reduceSub, reduceCtorEq, Nat.reduceMul, Nat.reduceEqDiff, Nat.reduceLeDiff, reduceIte, Nat.reduceLT, Int.reduceLE, Int.reduceLT, Int.reduceToNat]
  refine ⟨_, t134 hC _, ?_⟩
  simp only [push_cast, ↓ifB_true, ↓ifB_false, Nat.reduceBEq, Nat.reduceAdd, Nat.reduceSub, reduceCtorEq, Nat.reduceMul, Nat.reduceEqDiff, Nat.reduceLeDiff, reduceIte, Nat.reduceLT, Int.reduceLE, Int.reduceLT, Int.reduceToNat]
theorem t130 (t : Ct) (hb : CtB (2^50) t) : Ev C 130 [.agg (ctF t)] (.bool (ctOk t)) := by
  have b1 := hb.c
  have b2 := hb.r.l
  simp only [ctF]
  refine Ev.runT hC Tryd.func130 h130 nt130 r130 (by decide) (Nat.le_of_ble_eq_true rfl) (rfl) ?_
  simp only [c130, ods_length, intss_length, push_cast, ↓ifB_true, ↓ifB_false, Nat.reduceBEq, Nat.reduceAdd, Nat.reduceSub, reduceCtorEq, Nat.reduceMul, Nat.reduceEqDiff, Nat.reduceLeDiff, reduceIte, Nat.reduceLT, Int.reduceLE, Int.reduceLT, Int.reduceToNat]
  refine ⟨_, tIn hC _ _ _, ?_⟩
  cases g1 : inR 1 8 (t.cs.length : Int)
  · simp only [ctOk, g1, push_cast, ↓ifB_true, ↓ifB_false, Nat.reduceBEq, Nat.reduceAdd, Nat.reduceSub, reduceCtorEq, Nat.reduceMul, Nat.reduceEqDiff, Nat.reduceLeDiff, reduceIte, Nat.reduceLT, Int.reduceLE, Int.reduceLT, Int.reduceToNat]
  simp only [push_cast, ↓ifB_true, ↓ifB_false, Nat.reduceBEq, Nat.reduceAdd, Nat.reduceSub, reduceCtorEq, Nat.reduceMul, Nat.reduceEqDiff, Nat.reduceLeDiff, reduceIte, Nat.reduceLT, Int.reduceLE, Int.reduceLT, Int.reduceToNat]
  refine ⟨_, tIn hC _ _ _, ?_⟩
  cases g2 : inR 1 2 t.d
  · simp only [ctOk, g1, g2, push_cast, ↓ifB_true, ↓ifB_false, Nat.reduceBEq, Nat.reduceAdd, Nat.reduceSub, reduceCtorEq, Nat.reduceMul, Nat.reduceEqDiff, Nat.reduceLeDiff, reduceIte, Nat.reduceLT, Int.reduceLE, Int.reduceLT, Int.reduceToNat]
  have hd := g2
  simp only [inR, Bool.and_eq_true, decide_eq_true_eq] at hd
  simp only [intss_length, push_cast, ↓ifB_true, ↓ifB_false, Nat.reduceBEq, Nat.reduceAdd, Nat.reduceSub, reduceCtorEq, Nat.reduceMul, Nat.reduceEqDiff, Nat.reduceLeDiff, reduceIte, Nat.reduceLT, Int.reduceLE, Int.reduceLT, Int.reduceToNat]
  refine ⟨_, t161 hC _ hd, ?_⟩
  simp only [push_cast, ↓ifB_true, ↓ifB_false, Nat.reduceBEq, Nat.reduceAdd, Nat.reduceSub, reduceCtorEq, Nat.reduceMul, Nat.reduceEqDiff, Nat.reduceLeDiff, reduceIte, Nat.reduceLT, Int.reduceLE, Int.reduceLT, Int.reduceToNat]
  cases g3 : decide ((t.rs.length : Int) = 5 * t.d + 1)
  · simp only [ctOk, g1, g2, g3, push_cast, ↓ifB_true, ↓ifB_false, Nat.reduceBEq, Nat.reduceAdd, Nat.reduceSub, reduceCtorEq, Nat.reduceMul, Nat.reduceEqDiff, Nat.reduceLeDiff, reduceIte, Nat.reduceLT, Int.reduceLE, Int.reduceLT, Int.reduceToNat]
  simp only [ods_length, push_cast, ↓ifB_true, ↓ifB_false, Nat.reduceBEq, Nat.reduceAdd, Nat.reduceSub, reduceCtorEq, Nat.reduceMul, Nat.reduceEqDiff, Nat.reduceLeDiff, reduceIte, Nat.reduceLT, Int.reduceLE, Int.reduceLT, Int.reduceToNat]
  refine RL_count (fun i => ⟨tb 90 .any [(1, .ptr 0 none 0 0 0), (28, .sl (ods t.cs)), (29, .int .i64 (t.cs.length : Int)), (30, .int .i64 (i : Int))], [(0, .var (ctF t))], 1⟩) (fun i => ∀ j (h : j < t.cs.length), j < i → odOk t.cs j t.cs[j] = true) t.cs.length 0 (head_tb [(0, 0)] rfl (by simp only [keptV_cons, keptV_nil, tb_get, lk_same, lk_ne, lk_nil, ren, renL, lkp, Nat.reduceLT, Nat.reduceBEq, Nat.reduceEqDiff, reduceIte, and_true, true_and, Nat.not_lt_zero, if_false, if_true, Nat.add_zero, Nat.zero_add]; (try rw [wrap64 (by omega) (by omega)]); (first | done | (simp; done) | (simp [*]; done) | (simp; omega) | (and_intros <;> rfl))) (by simp only [canR, canB, renO, renL, ren, lkp, hget, Nat.reduceLT, Nat.reduceEqDiff, Nat.not_lt_zero, if_false, if_true, reduceIte, List.append_nil, List.nil_append]; (first | done | rfl))) (by omega) (by intro j h h'; omega) fun i hi' ht J hJ => ?_
  simp only [ctF]
  by_cases h1 : i < t.cs.length
  · have e1 : (ods t.cs)[i]? = some (odA t.cs[i]) := by simp [ods, h1]
    have fin : odOk t.cs i t.cs[i] = true → ∀ (s : St), Head 0 s ⟨tb 90 .any [(1, .ptr 0 none 0 0 0), (28, .sl (ods t.cs)), (29, .int .i64 (t.cs.length : Int)), (30, .int .i64 ((i + 1 : Nat) : Int))], [(0, .var (ctF t))], 1⟩ → J s := fun hf => by
      refine hJ h1 (fun j hj hji => ?_)
      by_cases hij : j = i
      · subst hij; exact hf
      · exact ht j hj (by omega)
    have bad : odOk t.cs i t.cs[i] = false → ctOk t = false := fun hf => by simp only [ctOk, allI_no h1 hf, Bool.and_false, Bool.false_and]
    clear hJ ht
    have eo : odOk t.cs i t.cs[i] = (inR 1 20 t.cs[i].a && inR 1 20 t.cs[i].b && !(decide (0 < (i : Int)) && decide (IntKind.i64.wrap (t.cs[i].a * (prevO t.cs i).b) ≤ IntKind.i64.wrap ((prevO t.cs i).a * t.cs[i].b)))) := rfl
    rw [eo] at fin bad
    clear eo
    generalize t.cs[i] = o at *
    simp only [Int.toNat_natCast, e1, odA, push_cast, ↓ifB_true, ↓ifB_false, Nat.reduceBEq, Nat.reduceAdd, Nat.reduceSub, reduceCtorEq, Nat.reduceMul, Nat.reduceEqDiff, Nat.reduceLeDiff, reduceIte, Nat.reduceLT, Int.reduceLE, Int.reduceLT, Int.reduceToNat]
    refine ifB_intro (fun _ => ?_) (fun h => by simp at h; omega)
    repeat (refine ⟨by omega, ?_⟩)
    refine ⟨_, tIn hC _ _ _, ?_⟩
    cases g4 : inR 1 20 o.a
    · simp only [bad (by rw [g4]; rfl), push_cast, ↓ifB_true, ↓ifB_false, Nat.reduceBEq, Nat.reduceAdd, Nat.reduceSub, reduceCtorEq, Nat.reduceMul, Nat.reduceEqDiff, Nat.reduceLeDiff, reduceIte, Nat.reduceLT, Int.reduceLE, Int.reduceLT, Int.reduceToNat]
    simp only [push_cast, ↓ifB_true, ↓ifB_false, Nat.reduceBEq, Nat.reduceAdd, Nat.reduceSub, reduceCtorEq, Nat.reduceMul, Nat.reduceEqDiff, Nat.reduceLeDiff, reduceIte, Nat.reduceLT, Int.reduceLE, Int.reduceLT, Int.reduceToNat]
    refine ⟨_, tIn hC _ _ _, ?_⟩
    cases g5 : inR 1 20 o.b
    · simp only [bad (by rw [g4, g5]; rfl), push_cast, ↓ifB_true, ↓ifB_false, Nat.reduceBEq, Nat.reduceAdd, Nat.reduceSub, reduceCtorEq, Nat.reduceMul, Nat.reduceEqDiff, Nat.reduceLeDiff, reduceIte, Nat.reduceLT, Int.reduceLE, Int.reduceLT, Int.reduceToNat]
    simp only [push_cast, ↓ifB_true, ↓ifB_false, Nat.reduceBEq, Nat.reduceAdd, Nat.reduceSub, reduceCtorEq, Nat.reduceMul, Nat.reduceEqDiff, Nat.reduceLeDiff, reduceIte, Nat.reduceLT, Int.reduceLE, Int.reduceLT, Int.reduceToNat]
    by_cases h0 : i = 0
    · have ei : decide (0 < (i : Int)) = false := decide_eq_false (by omega)
      simp only [ei, push_cast, ↓ifB_true, ↓ifB_false, Nat.reduceBEq, Nat.reduceAdd, Nat.reduceSub, reduceCtorEq, Nat.reduceMul, Nat.reduceEqDiff, Nat.reduceLeDiff, reduceIte, Nat.reduceLT, Int.reduceLE, Int.reduceLT, Int.reduceToNat]
      exact fin (by rw [g4, g5, ei]; rfl) _ (head_tb [(0, 0)] rfl (by simp only [keptV_cons, keptV_nil, tb_get, lk_same, lk_ne, lk_nil, ren, renL, lkp, Nat.reduceLT, Nat.reduceBEq, Nat.reduceEqDiff, reduceIte, and_true, true_and, Nat.not_lt_zero, if_false, if_true, Nat.add_zero, Nat.zero_add]; (try rw [wrap64 (by omega) (by omega)]); (first | done | (simp; done) | (simp [*]; done) | (simp; omega) | (and_intros <;> rfl))) (by simp only [canR, canB, renO, renL, ren, lkp, hget, Nat.reduceLT, Nat.reduceEqDiff, Nat.not_lt_zero, if_false, if_true, reduceIte, List.append_nil, List.nil_append]; (first | done | rfl)))
    · have ei : decide (0 < (i : Int)) = true := decide_eq_true (by omega)
      have ep : (ods t.cs)[i - 1]? = some (odA (prevO t.cs i)) := by simp [ods, prevO, List.getD, show i - 1 < t.cs.length by omega]
      have en : ((i : Int) - 1).toNat = i - 1 := by omega
      generalize prevO t.cs i = p at *
      simp only [ei, wrap64 (n := (i : Int) - 1) (by omega) (by omega), en, ep, odA, push_cast, ↓ifB_true, ↓ifB_false, Nat.reduceBEq, Nat.reduceAdd, Nat.reduceSub, reduceCtorEq, Nat.reduceMul, Nat.reduceEqDiff, Nat.reduceLeDiff, reduceIte, Nat.reduceLT, Int.reduceLE, Int.reduceLT, Int.reduceToNat]
      repeat (refine ⟨by omega, ?_⟩)
      cases g6 : decide (IntKind.i64.wrap (o.a * p.b) ≤ IntKind.i64.wrap (p.a * o.b))
      · simp only [push_cast, ↓ifB_true, ↓ifB_false, Nat.reduceBEq, Nat.reduceAdd, Nat.reduceSub, reduceCtorEq, Nat.reduceMul, Nat.reduceEqDiff, Nat.reduceLeDiff, reduceIte, Nat.reduceLT, Int.reduceLE, Int.reduceLT, Int.reduceToNat]
        exact fin (by rw [g4, g5, ei, g6]; rfl) _ (head_tb [(0, 0)] rfl (by simp only [keptV_cons, keptV_nil, tb_get, lk_same, lk_ne, lk_nil, ren, renL, lkp, Nat.reduceLT, Nat.reduceBEq, Nat.reduceEqDiff, reduceIte, and_true, true_and, Nat.not_lt_zero, if_false, if_true, Nat.add_zero, Nat.zero_add]; (try rw [wrap64 (by omega) (by omega)]); (first | done | (simp; done) | (simp [*]; done) | (simp; omega) | (and_intros <;> rfl))) (by simp only [canR, canB, renO, renL, ren, lkp, hget, Nat.reduceLT, Nat.reduceEqDiff, Nat.not_lt_zero, if_false, if_true, reduceIte, List.append_nil, List.nil_append]; (first | done | rfl)))
      · simp only [bad (by rw [g4, g5, ei, g6]; rfl), push_cast, ↓ifB_true, ↓ifB_false, Nat.reduceBEq, Nat.reduceAdd, Nat.reduceSub, reduceCtorEq, Nat.reduceMul, Nat.reduceEqDiff, Nat.reduceLeDiff, reduceIte, Nat.reduceLT, Int.reduceLE, Int.reduceLT, Int.reduceToNat]
  · simp only [ods_length, intss_length, push_cast, ↓ifB_true, ↓ifB_false, Nat.reduceBEq, Nat.reduceAdd, Nat.reduceSub, reduceCtorEq, Nat.reduceMul, Nat.reduceEqDiff, Nat.reduceLeDiff, reduceIte, Nat.reduceLT, Int.reduceLE, Int.reduceLT, Int.reduceToNat]
    refine ifB_intro (fun h => by simp at h; omega) (fun h => ?_)
    have gt : allI (odOk t.cs) t.cs = true := allI_yes fun j hj => ht j hj (by omega)
    clear ht hJ
    rw [show ctOk t = t.rs.all (ctRow t.cs.length) by simp only [ctOk, g1, g2, g3, gt, Bool.true_and]]
    refine RL_count (fun i => ⟨tb 90 .any [(1, .ptr 0 none 0 0 0), (72, .sl (intss t.rs)), (73, .int .i64 (t.rs.length : Int)), (74, .int .i64 (i : Int))], [(0, .var (ctF t))], 1⟩) (fun i => t.rs.all (ctRow t.cs.length) = (t.rs.drop i).all (ctRow t.cs.length)) t.rs.length 0 (head_tb [(0, 0)] rfl (by simp only [keptV_cons, keptV_nil, tb_get, lk_same, lk_ne, lk_nil, ren, renL, lkp, Nat.reduceLT, Nat.reduceBEq, Nat.reduceEqDiff, reduceIte, and_true, true_and, Nat.not_lt_zero, if_false, if_true, Nat.add_zero, Nat.zero_add]; (try rw [wrap64 (by omega) (by omega)]); (first | done | (simp; done) | (simp [*]; done) | (simp; omega) | (and_intros <;> rfl))) (by simp only [canR, canB, renO, renL, ren, lkp, hget, Nat.reduceLT, Nat.reduceEqDiff, Nat.not_lt_zero, if_false, if_true, reduceIte, List.append_nil, List.nil_append]; (first | done | rfl))) (by omega) rfl fun i hi' ht J hJ => ?_
    simp only [ctF]
    by_cases h1 : i < t.rs.length
    · have e1 : (intss t.rs)[i]? = some [.sl (ints t.rs[i])] := by simp [intss, h1]
      have hr := hb.r.r _ (List.getElem_mem h1)
      rw [List.drop_eq_getElem_cons h1, List.all_cons] at ht
      generalize t.rs[i] = r at *
      have c1 := t98 hC r 0 7 hr
      simp only [Int.toNat_natCast, e1, push_cast, ↓ifB_true, ↓ifB_false, Nat.reduceBEq, Nat.reduceAdd, Nat.reduceSub, reduceCtorEq, Nat.reduceMul, Nat.reduceEqDiff, Nat.reduceLeDiff, reduceIte, Nat.reduceLT, Int.reduceLE, Int.reduceLT, Int.reduceToNat]
      refine ifB_intro (fun _ => ?_) (fun h => by simp at h; omega)
      repeat (refine ⟨by omega, ?_⟩)
      simp only [ints_length, ods_length, push_cast, ↓ifB_true, ↓ifB_false, Nat.reduceBEq, Nat.reduceAdd, Nat.reduceSub, reduceCtorEq, Nat.reduceMul, Nat.reduceEqDiff, Nat.reduceLeDiff, reduceIte, Nat.reduceLT, Int.reduceLE, Int.reduceLT, Int.reduceToNat]
      cases g4 : decide ((r.length : Int) = (t.cs.length : Int))
      · rw [ht, show ctRow t.cs.length r = false by simp only [ctRow, g4, Bool.false_and]]
        simp only [push_cast, ↓ifB_true, ↓ifB_false, Nat.reduceBEq, Nat.reduceAdd, Nat.reduceSub, reduceCtorEq, Nat.reduceMul, Nat.reduceEqDiff, Nat.reduceLeDiff, reduceIte, Nat.reduceLT, Int.reduceLE, Int.reduceLT, Int.reduceToNat]
      simp only [push_cast, ↓ifB_true, ↓ifB_false, Nat.reduceBEq, Nat.reduceAdd, Nat.reduceSub, reduceCtorEq, Nat.reduceMul, Nat.reduceEqDiff, Nat.reduceLeDiff, reduceIte, Nat.reduceLT, Int.reduceLE, Int.reduceLT, Int.reduceToNat]
      refine ⟨_, c1, ?_⟩
      cases g5 : r.all (inR 0 7)
      · rw [ht, show ctRow t.cs.length r = false by simp only [ctRow, g4, g5, Bool.and_false]]
        simp only [push_cast, ↓ifB_true, ↓ifB_false, Nat.reduceBEq, Nat.reduceAdd, Nat.reduceSub, reduceCtorEq, Nat.reduceMul, Nat.reduceEqDiff, Nat.reduceLeDiff, reduceIte, Nat.reduceLT, Int.reduceLE, Int.reduceLT, Int.reduceToNat]
      · simp only [push_cast, ↓ifB_true, ↓ifB_false, Nat.reduceBEq, Nat.reduceAdd, Nat.reduceSub, reduceCtorEq, Nat.reduceMul, Nat.reduceEqDiff, Nat.reduceLeDiff, reduceIte, Nat.reduceLT, Int.reduceLE, Int.reduceLT, Int.reduceToNat]
        refine hJ h1 ?_ _ (head_tb [(0, 0)] rfl (by simp only [keptV_cons, keptV_nil, tb_get, lk_same, lk_ne, lk_nil, ren, renL, lkp, Nat.reduceLT, Nat.reduceBEq, Nat.reduceEqDiff, reduceIte, and_true, true_and, Nat.not_lt_zero, if_false, if_true, Nat.add_zero, Nat.zero_add]; (try rw [wrap64 (by omega) (by omega)]); (first | done | (simp; done) | (simp [*]; done) | (simp; omega) | (and_intros <;> rfl))) (by simp only [canR, canB, renO, renL, ren, lkp, hget, Nat.reduceLT, Nat.reduceEqDiff, Nat.not_lt_zero, if_false, if_true, reduceIte, List.append_nil, List.nil_append]; (first | done | rfl)))
        rw [ht, show ctRow t.cs.length r = true by simp only [ctRow, g4, g5, Bool.and_true], Bool.true_and]
    · simp only [intss_length, push_cast, ↓ifB_true, ↓ifB_false, Nat.reduceBEq, Nat.reduceAdd, Nat.reduceSub, reduceCtorEq, Nat.reduceMul, Nat.reduceEqDiff, Nat.reduceLeDiff, reduceIte, Nat.reduceLT, Int.reduceLE, Int.reduceLT, Int.reduceToNat]
      refine ifB_intro (fun h => by simp at h; omega) (fun h => ?_)
      rw [ht, List.drop_eq_nil_of_le (by omega)]
      rfl
theorem t95 (t : Ct) (hb : CtB (2^50) t) : Ev C 95 [.agg (ctF t)] (.bool (ctOk t)) := by
  have b1 := hb.c
  have b2 := hb.r.l
  simp only [ctF]
  refine Ev.runT hC Tryd.func95 h95 nt95 r95 (by decide) (Nat.le_of_ble_eq_true rfl) (rfl) ?_
  simp only [c95, ods_length, intss_length, push_cast, ↓ifB_true, ↓ifB_false, Nat.reduceBEq, Nat.reduceAdd, Nat.reduceSub, reduceCtorEq, Nat.reduceMul, Nat.reduceEqDiff, Nat.reduceLeDiff, reduceIte, Nat.reduceLT, Int.reduceLE, Int.reduceLT, Int.reduceToNat]
  refine ⟨_, tRange hC _ _ _, ?_⟩
  cases g1 : inR 1 8 (t.cs.length : Int)
  · simp only [ctOk, g1, push_cast, ↓ifB_true, ↓ifB_false, Nat.reduceBEq, Nat.reduceAdd, Nat.reduceSub, reduceCtorEq, Nat.reduceMul, Nat.reduceEqDiff, Nat.reduceLeDiff, reduceIte, Nat.reduceLT, Int.reduceLE, Int.reduceLT, Int.reduceToNat]
  simp only [push_cast, ↓ifB_true, ↓ifB_false, Nat.reduceBEq, Nat.reduceAdd, Nat.reduceSub, reduceCtorEq, Nat.reduceMul, Nat.reduceEqDiff, Nat.reduceLeDiff, reduceIte, Nat.reduceLT, Int.reduceLE, Int.reduceLT, Int.reduceToNat]
  refine ⟨_, tRange hC _ _ _, ?_⟩
  cases g2 : inR 1 2 t.d
  · simp only [ctOk, g1, g2, push_cast, ↓ifB_true, ↓ifB_false, Nat.reduceBEq, Nat.reduceAdd, Nat.reduceSub, reduceCtorEq, Nat.reduceMul, Nat.reduceEqDiff, Nat.reduceLeDiff, reduceIte, Nat.reduceLT, Int.reduceLE, Int.reduceLT, Int.reduceToNat]
  have hd := g2
  simp only [inR, Bool.and_eq_true, decide_eq_true_eq] at hd
  simp only [intss_length, push_cast, ↓ifB_true, ↓ifB_false, Nat.reduceBEq, Nat.reduceAdd, Nat.reduceSub, reduceCtorEq, Nat.reduceMul, Nat.reduceEqDiff, Nat.reduceLeDiff, reduceIte, Nat.reduceLT, Int.reduceLE, Int.reduceLT, Int.reduceToNat]
  rw [wrap64 (n := 5 * t.d) (by omega) (by omega), wrap64 (n := 5 * t.d + 1) (by omega) (by omega)]
  cases g3 : decide ((t.rs.length : Int) = 5 * t.d + 1)
  · simp only [ctOk, g1, g2, g3, push_cast, ↓ifB_true, ↓ifB_false, Nat.reduceBEq, Nat.reduceAdd, Nat.reduceSub, reduceCtorEq, Nat.reduceMul, Nat.reduceEqDiff, Nat.reduceLeDiff, reduceIte, Nat.reduceLT, Int.reduceLE, Int.reduceLT, Int.reduceToNat]
  simp only [ods_length, push_cast, ↓ifB_true, ↓ifB_false, Nat.reduceBEq, Nat.reduceAdd, Nat.reduceSub, reduceCtorEq, Nat.reduceMul, Nat.reduceEqDiff, Nat.reduceLeDiff, reduceIte, Nat.reduceLT, Int.reduceLE, Int.reduceLT, Int.reduceToNat]
  refine RL_count (fun i => ⟨tb 90 .any [(1, .ptr 0 none 0 0 0), (29, .sl (ods t.cs)), (30, .int .i64 (t.cs.length : Int)), (31, .int .i64 (i : Int))], [(0, .var (ctF t))], 1⟩) (fun i => ∀ j (h : j < t.cs.length), j < i → odOk t.cs j t.cs[j] = true) t.cs.length 0 (head_tb [(0, 0)] rfl (by simp only [keptV_cons, keptV_nil, tb_get, lk_same, lk_ne, lk_nil, ren, renL, lkp, Nat.reduceLT, Nat.reduceBEq, Nat.reduceEqDiff, reduceIte, and_true, true_and, Nat.not_lt_zero, if_false, if_true, Nat.add_zero, Nat.zero_add]; (try rw [wrap64 (by omega) (by omega)]); (first | done | (simp; done) | (simp [*]; done) | (simp; omega) | (and_intros <;> rfl))) (by simp only [canR, canB, renO, renL, ren, lkp, hget, Nat.reduceLT, Nat.reduceEqDiff, Nat.not_lt_zero, if_false, if_true, reduceIte, List.append_nil, List.nil_append]; (first | done | rfl))) (by omega) (by intro j h h'; omega) fun i hi' ht J hJ => ?_
  simp only [ctF]
  by_cases h1 : i < t.cs.length
  · have e1 : (ods t.cs)[i]? = some (odA t.cs[i]) := by simp [ods, h1]
    have fin : odOk t.cs i t.cs[i] = true → ∀ (s : St), Head 0 s ⟨tb 90 .any [(1, .ptr 0 none 0 0 0), (29, .sl (ods t.cs)), (30, .int .i64 (t.cs.length : Int)), (31, .int .i64 ((i + 1 : Nat) : Int))], [(0, .var (ctF t))], 1⟩ → J s := fun hf => by
      refine hJ h1 (fun j hj hji => ?_)
      by_cases hij : j = i
      · subst hij; exact hf
      · exact ht j hj (by omega)
    have bad : odOk t.cs i t.cs[i] = false → ctOk t = false := fun hf => by simp only [ctOk, allI_no h1 hf, Bool.and_false, Bool.false_and]
    clear hJ ht
    have eo : odOk t.cs i t.cs[i] = (inR 1 20 t.cs[i].a && inR 1 20 t.cs[i].b && !(decide (0 < (i : Int)) && decide (IntKind.i64.wrap (t.cs[i].a * (prevO t.cs i).b) ≤ IntKind.i64.wrap ((prevO t.cs i).a * t.cs[i].b)))) := rfl
    rw [eo] at fin bad
    clear eo
    generalize t.cs[i] = o at *
    simp only [Int.toNat_natCast, e1, odA, push_cast, ↓ifB_true, ↓ifB_false, Nat.reduceBEq, Nat.reduceAdd, Nat.reduceSub, reduceCtorEq, Nat.reduceMul, Nat.reduceEqDiff, Nat.reduceLeDiff, reduceIte, Nat.reduceLT, Int.reduceLE, Int.reduceLT, Int.reduceToNat]
    refine ifB_intro (fun _ => ?_) (fun h => by simp at h; omega)
    repeat (refine ⟨by omega, ?_⟩)
    refine ⟨_, tRange hC _ _ _, ?_⟩
    cases g4 : inR 1 20 o.a
    · simp only [bad (by rw [g4]; rfl), push_cast, ↓ifB_true, ↓ifB_false, Nat.reduceBEq, Nat.reduceAdd, Nat.reduceSub, reduceCtorEq, Nat.reduceMul, Nat.reduceEqDiff, Nat.reduceLeDiff, reduceIte, Nat.reduceLT, Int.reduceLE, Int.reduceLT, Int.reduceToNat]
    simp only [push_cast, ↓ifB_true, ↓ifB_false, Nat.reduceBEq, Nat.reduceAdd, Nat.reduceSub, reduceCtorEq, Nat.reduceMul, Nat.reduceEqDiff, Nat.reduceLeDiff, reduceIte, Nat.reduceLT, Int.reduceLE, Int.reduceLT, Int.reduceToNat]
    refine ⟨_, tRange hC _ _ _, ?_⟩
    cases g5 : inR 1 20 o.b
    · simp only [bad (by rw [g4, g5]; rfl), push_cast, ↓ifB_true, ↓ifB_false, Nat.reduceBEq, Nat.reduceAdd, Nat.reduceSub, reduceCtorEq, Nat.reduceMul, Nat.reduceEqDiff, Nat.reduceLeDiff, reduceIte, Nat.reduceLT, Int.reduceLE, Int.reduceLT, Int.reduceToNat]
    simp only [push_cast, ↓ifB_true, ↓ifB_false, Nat.reduceBEq, Nat.reduceAdd, Nat.reduceSub, reduceCtorEq, Nat.reduceMul, Nat.reduceEqDiff, Nat.reduceLeDiff, reduceIte, Nat.reduceLT, Int.reduceLE, Int.reduceLT, Int.reduceToNat]
    by_cases h0 : i = 0
    · have ei : decide (0 < (i : Int)) = false := decide_eq_false (by omega)
      simp only [ei, push_cast, ↓ifB_true, ↓ifB_false, Nat.reduceBEq, Nat.reduceAdd, Nat.reduceSub, reduceCtorEq, Nat.reduceMul, Nat.reduceEqDiff, Nat.reduceLeDiff, reduceIte, Nat.reduceLT, Int.reduceLE, Int.reduceLT, Int.reduceToNat]
      exact fin (by rw [g4, g5, ei]; rfl) _ (head_tb [(0, 0)] rfl (by simp only [keptV_cons, keptV_nil, tb_get, lk_same, lk_ne, lk_nil, ren, renL, lkp, Nat.reduceLT, Nat.reduceBEq, Nat.reduceEqDiff, reduceIte, and_true, true_and, Nat.not_lt_zero, if_false, if_true, Nat.add_zero, Nat.zero_add]; (try rw [wrap64 (by omega) (by omega)]); (first | done | (simp; done) | (simp [*]; done) | (simp; omega) | (and_intros <;> rfl))) (by simp only [canR, canB, renO, renL, ren, lkp, hget, Nat.reduceLT, Nat.reduceEqDiff, Nat.not_lt_zero, if_false, if_true, reduceIte, List.append_nil, List.nil_append]; (first | done | rfl)))
    · have ei : decide (0 < (i : Int)) = true := decide_eq_true (by omega)
      have ep : (ods t.cs)[i - 1]? = some (odA (prevO t.cs i)) := by simp [ods, prevO, List.getD, show i - 1 < t.cs.length by omega]
      have en : ((i : Int) - 1).toNat = i - 1 := by omega
      generalize prevO t.cs i = p at *
      simp only [ei, wrap64 (n := (i : Int) - 1) (by omega) (by omega), en, ep, odA, push_cast, ↓ifB_true, ↓ifB_false, Nat.reduceBEq, Nat.reduceAdd, Nat.reduceSub, reduceCtorEq, Nat.reduceMul, Nat.reduceEqDiff, Nat.reduceLeDiff, reduceIte, Nat.reduceLT, Int.reduceLE, Int.reduceLT, Int.reduceToNat]
      repeat (refine ⟨by omega, ?_⟩)
      cases g6 : decide (IntKind.i64.wrap (o.a * p.b) ≤ IntKind.i64.wrap (p.a * o.b))
      · simp only [push_cast, ↓ifB_true, ↓ifB_false, Nat.reduceBEq, Nat.reduceAdd, Nat.reduceSub, reduceCtorEq, Nat.reduceMul, Nat.reduceEqDiff, Nat.reduceLeDiff, reduceIte, Nat.reduceLT, Int.reduceLE, Int.reduceLT, Int.reduceToNat]
        exact fin (by rw [g4, g5, ei, g6]; rfl) _ (head_tb [(0, 0)] rfl (by simp only [keptV_cons, keptV_nil, tb_get, lk_same, lk_ne, lk_nil, ren, renL, lkp, Nat.reduceLT, Nat.reduceBEq, Nat.reduceEqDiff, reduceIte, and_true, true_and, Nat.not_lt_zero, if_false, if_true, Nat.add_zero, Nat.zero_add]; (try rw [wrap64 (by omega) (by omega)]); (first | done | (simp; done) | (simp [*]; done) | (simp; omega) | (and_intros <;> rfl))) (by simp only [canR, canB, renO, renL, ren, lkp, hget, Nat.reduceLT, Nat.reduceEqDiff, Nat.not_lt_zero, if_false, if_true, reduceIte, List.append_nil, List.nil_append]; (first | done | rfl)))
      · simp only [bad (by rw [g4, g5, ei, g6]; rfl), push_cast, ↓ifB_true, ↓ifB_false, Nat.reduceBEq, Nat.reduceAdd, Nat.reduceSub, reduceCtorEq, Nat.reduceMul, Nat.reduceEqDiff, Nat.reduceLeDiff, reduceIte, Nat.reduceLT, Int.reduceLE, Int.reduceLT, Int.reduceToNat]
  · simp only [ods_length, intss_length, push_cast, ↓ifB_true, ↓ifB_false, Nat.reduceBEq, Nat.reduceAdd, Nat.reduceSub, reduceCtorEq, Nat.reduceMul, Nat.reduceEqDiff, Nat.reduceLeDiff, reduceIte, Nat.reduceLT, Int.reduceLE, Int.reduceLT, Int.reduceToNat]
    refine ifB_intro (fun h => by simp at h; omega) (fun h => ?_)
    have gt : allI (odOk t.cs) t.cs = true := allI_yes fun j hj => ht j hj (by omega)
    clear ht hJ
    rw [show ctOk t = t.rs.all (ctRow t.cs.length) by simp only [ctOk, g1, g2, g3, gt, Bool.true_and]]
    refine RL_count (fun i => ⟨tb 90 .any [(1, .ptr 0 none 0 0 0), (73, .sl (intss t.rs)), (74, .int .i64 (t.rs.length : Int)), (75, .int .i64 (i : Int))], [(0, .var (ctF t))], 1⟩) (fun i => t.rs.all (ctRow t.cs.length) = (t.rs.drop i).all (ctRow t.cs.length)) t.rs.length 0 (head_tb [(0, 0)] rfl (by simp only [keptV_cons, keptV_nil, tb_get, lk_same, lk_ne, lk_nil, ren, renL, lkp, Nat.reduceLT, Nat.reduceBEq, Nat.reduceEqDiff, reduceIte, and_true, true_and, Nat.not_lt_zero, if_false, if_true, Nat.add_zero, Nat.zero_add]; (try rw [wrap64 (by omega) (by omega)]); (first | done | (simp; done) | (simp [*]; done) | (simp; omega) | (and_intros <;> rfl))) (by simp only [canR, canB, renO, renL, ren, lkp, hget, Nat.reduceLT, Nat.reduceEqDiff, Nat.not_lt_zero, if_false, if_true, reduceIte, List.append_nil, List.nil_append]; (first | done | rfl))) (by omega) rfl fun i hi' ht J hJ => ?_
    simp only [ctF]
    by_cases h1 : i < t.rs.length
    · have e1 : (intss t.rs)[i]? = some [.sl (ints t.rs[i])] := by simp [intss, h1]
      have hr := hb.r.r _ (List.getElem_mem h1)
      rw [List.drop_eq_getElem_cons h1, List.all_cons] at ht
      generalize t.rs[i] = r at *
      have c1 := t116 hC r 133 [] _ hr rfl rfl fun x _ => t133 hC x
      have e7 : (r.any fun x => !inR 0 7 x) = !r.all (inR 0 7) := by rw [← all_not]; simp
      rw [e7] at c1
      simp only [Int.toNat_natCast, e1, push_cast, ↓ifB_true, ↓ifB_false, Nat.reduceBEq, Nat.reduceAdd, Nat.reduceSub, reduceCtorEq, Nat.reduceMul, Nat.reduceEqDiff, Nat.reduceLeDiff, reduceIte, Nat.reduceLT, Int.reduceLE, Int.reduceLT, Int.reduceToNat]
      refine ifB_intro (fun _ => ?_) (fun h => by simp at h; omega)
      repeat (refine ⟨by omega, ?_⟩)
      simp only [ints_length, ods_length, push_cast, ↓ifB_true, ↓ifB_false, Nat.reduceBEq, Nat.reduceAdd, Nat.reduceSub, reduceCtorEq, Nat.reduceMul, Nat.reduceEqDiff, Nat.reduceLeDiff, reduceIte, Nat.reduceLT, Int.reduceLE, Int.reduceLT, Int.reduceToNat]
      cases g4 : decide ((r.length : Int) = (t.cs.length : Int))
      · rw [ht, show ctRow t.cs.length r = false by simp only [ctRow, g4, Bool.false_and]]
        simp only [push_cast, ↓ifB_true, ↓ifB_false, Nat.reduceBEq, Nat.reduceAdd, Nat.reduceSub, reduceCtorEq, Nat.reduceMul, Nat.reduceEqDiff, Nat.reduceLeDiff, reduceIte, Nat.reduceLT, Int.reduceLE, Int.reduceLT, Int.reduceToNat]
      simp only [push_cast, ↓ifB_true, ↓ifB_false, Nat.reduceBEq, Nat.reduceAdd, Nat.reduceSub, reduceCtorEq, Nat.reduceMul, Nat.reduceEqDiff, Nat.reduceLeDiff, reduceIte, Nat.reduceLT, Int.reduceLE, Int.reduceLT, Int.reduceToNat]
      refine ⟨_, c1, ?_⟩
      cases g5 : r.all (inR 0 7)
      · rw [ht, show ctRow t.cs.length r = false by simp only [ctRow, g4, g5, Bool.and_false]]
        simp only [push_cast, ↓ifB_true, ↓ifB_false, Nat.reduceBEq, Nat.reduceAdd, Nat.reduceSub, reduceCtorEq, Nat.reduceMul, Nat.reduceEqDiff, Nat.reduceLeDiff, reduceIte, Nat.reduceLT, Int.reduceLE, Int.reduceLT, Int.reduceToNat]
      · simp only [push_cast, ↓ifB_true, ↓ifB_false, Nat.reduceBEq, Nat.reduceAdd, Nat.reduceSub, reduceCtorEq, Nat.reduceMul, Nat.reduceEqDiff, Nat.reduceLeDiff, reduceIte, Nat.reduceLT, Int.reduceLE, Int.reduceLT, Int.reduceToNat]
        refine hJ h1 ?_ _ (head_tb [(0, 0)] rfl (by simp only [keptV_cons, keptV_nil, tb_get, lk_same, lk_ne, lk_nil, ren, renL, lkp, Nat.reduceLT, Nat.reduceBEq, Nat.reduceEqDiff, reduceIte, and_true, true_and, Nat.not_lt_zero, if_false, if_true, Nat.add_zero, Nat.zero_add]; (try rw [wrap64 (by omega) (by omega)]); (first | done | (simp; done) | (simp [*]; done) | (simp; omega) | (and_intros <;> rfl))) (by simp only [canR, canB, renO, renL, ren, lkp, hget, Nat.reduceLT, Nat.reduceEqDiff, Nat.not_lt_zero, if_false, if_true, reduceIte, List.append_nil, List.nil_append]; (first | done | rfl)))
        rw [ht, show ctRow t.cs.length r = true by simp only [ctRow, g4, g5, Bool.and_true], Bool.true_and]
    · simp only [intss_length, push_cast, ↓ifB_true, ↓ifB_false, Nat.reduceBEq, Nat.reduceAdd, Nat.reduceSub, reduceCtorEq, Nat.reduceMul, Nat.reduceEqDiff, Nat.reduceLeDiff, reduceIte, Nat.reduceLT, Int.reduceLE, Int.reduceLT, Int.reduceToNat]
      refine ifB_intro (fun h => by simp at h; omega) (fun h => ?_)
      rw [ht, List.drop_eq_nil_of_le (by omega)]
      rfl
end
end Go.Proofs.YtlddjlchgibdfaaDoor.X
