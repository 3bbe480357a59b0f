import Derived.Test.YtnajmggefapeaaaXMkA
set_option maxHeartbeats 1000000
set_option linter.unusedSimpArgs false
set_option linter.unusedVariables false
namespace Go.Proofs.Ytnajmggefapeaaa.X
open Go
attribute [local irreducible] Ev
/-- Marked rows: the first i, from k on. -/
def mkR : List (List Int) → Int → List (List Int)
  | [], _ => []
  | r :: W, k => mk r k r.length :: mkR W (k + r.length)
def mkW (W : List (List Int)) (k : Int) (i : Nat) : List (List Int) := mkR (W.take i) k ++ W.drop i
theorem mkR_length : ∀ (W : List (List Int)) (k : Int), (mkR W k).length = W.length
  | [], k => rfl
  | r :: W, k => by simp [mkR, mkR_length W]
theorem mkR_append : ∀ (W V : List (List Int)) (k : Int), mkR (W ++ V) k = mkR W k ++ mkR V (k + lens W)
  | [], V, k => by simp [mkR, lens]
  | r :: W, V, k => by
    have e : k + (r.length : Int) + (lens W : Int) = k + (lens (r :: W) : Int) := by simp [lens]; omega
    simp only [List.cons_append, mkR, mkR_append W, e]
theorem mkW_length {W : List (List Int)} {k : Int} {i : Nat} (h : i ≤ W.length) : (mkW W k i).length = W.length := by simp [mkW, mkR_length]; omega
theorem mkW_succ {W : List (List Int)} {k : Int} {i : Nat} (h : i < W.length) : (owss (mkW W k i)).set i [.ow 1 (ints (mk W[i] (k + lens (W.take i)) W[i].length))] = owss (mkW W k (i + 1)) := by
  have e : W.drop i = W[i] :: W.drop (i + 1) := List.drop_eq_getElem_cons h
  have hl : (mkR (W.take i) k).length = i := by rw [mkR_length]; simp; omega
  simp only [mkW, e, List.take_succ_eq_append_getElem h, mkR_append, owss, List.map_append, List.map_cons, mkR, List.map_nil, List.append_assoc, List.cons_append, List.nil_append]
  rw [mid_set (by simp [hl])]
theorem mkW_get {W : List (List Int)} {k : Int} {i : Nat} (h : i < W.length) : (owss (mkW W k i))[i]? = some [.ow 1 (ints W[i])] := by
  have e : W.drop i = W[i] :: W.drop (i + 1) := List.drop_eq_getElem_cons h
  have hl : (mkR (W.take i) k).length = i := by rw [mkR_length]; simp; omega
  simp only [mkW, e, owss, List.map_append, List.map_cons]
  rw [mid_get (by simp [hl])]
theorem mkW_zero {W : List (List Int)} {k : Int} : mkW W k 0 = W := by simp [mkW, mkR]
mutual
theorem ren_mono {n : Nat} : ∀ x : AV, ren n [] x = x → ren (n + 1) [] x = x
  | .ref id sub sz off len, h => by
    simp only [ren, lkp] at h ⊢
    split at h
    · rw [if_pos (by omega)]
    · cases h
  | .ptr id sub sz i c, h => by
    simp only [ren, lkp] at h ⊢
    split at h
    · rw [if_pos (by omega)]
    · cases h
  | .fn f cs, h => by
    simp only [ren, AV.fn.injEq, true_and] at h ⊢
    exact renL_mono cs h
  | .agg cs, h => by
    simp only [ren, AV.agg.injEq] at h ⊢
    exact renL_mono cs h
  | .tup cs, h => by
    simp only [ren, AV.tup.injEq] at h ⊢
    exact renL_mono cs h
  | .any, h => by simp [ren]
  | .con _, h => by simp [ren]
  | .int _ _, h => by simp [ren]
  | .bool _, h => by simp [ren]
  | .str _, h => by simp [ren]
  | .nil, h => by simp [ren]
  | .sl _, h => by simp [ren]
  | .pf _, h => by simp [ren]
  | .ow _ _, h => by simp [ren]
  | .op _, h => by simp [ren]
theorem renL_mono {n : Nat} : ∀ xs : List AV, renL n [] xs = xs → renL (n + 1) [] xs = xs
  | [], _ => by simp [renL]
  | x :: xs, h => by
    simp only [renL, List.cons.injEq] at h ⊢
    exact ⟨ren_mono x h.1, renL_mono xs h.2⟩
end
theorem below_succ {n : Nat} : ∀ {h : Heap}, below n h → below (n + 1) h
  | [], _ => rfl
  | (i, o) :: h, hb => by
    obtain ⟨h1, h2, h3⟩ := below_cons hb
    refine below_mk (by omega) ?_ (below_succ h3)
    cases o with
    | slice sz es => rfl
    | var cs =>
      simp only [renO, Ob.var.injEq] at h2 ⊢
      exact renL_mono cs h2
/-- No slot of a variable holds a part of a part. -/
def solid (h : Heap) : Prop := killH h = h
theorem solid_set {id sz : Nat} {es : List (List AV)} {h : Heap} (hs : solid h) : solid (hset h id (.slice sz es)) := by
  unfold solid at *
  rw [kill_set, hs]
theorem lens_le : ∀ (W : List (List Int)) (i : Nat), lens (W.take i) ≤ lens W
  | [], i => by simp
  | r :: W, 0 => by simp [lens]
  | r :: W, i + 1 => by
    have := lens_le W i
    simp [lens] at this ⊢
    omega
section
variable {C : CT} (hC : Closed Try.prog G0 md0 C)
include hC
theorem t49 (W : List (List Int)) (k : Int) (h : Heap) (id n : Nat) (hg : hget h id = some (.slice 1 (owss W))) (hb : below n h) (hs : solid h) (hk : 0 ≤ k ∧ k < 2^40) (hW : W.length < 2^50) (hl : lens W < 2^40) (hr : ∀ r ∈ W, r.length < 2^50) : C 49 [.ref id none 1 0 W.length, .int .i64 k] h n (fun v h' n' => v = .int .i64 (k + lens W) ∧ n' = n ∧ h' = hset h id (.slice 1 (owss (mkW W k W.length)))) := by
  have hid := below_lt hb hg
  refine Closed.runT hC Try.func49 h49 nt49 r49 (by decide) (Nat.le_of_ble_eq_true rfl) ?_
  simp only [c49, push_cast, ↓ifB_true, ↓ifB_false, Nat.reduceBEq, Nat.reduceAdd, Nat.reduceSub, reduceCtorEq, Nat.reduceMul, Nat.reduceEqDiff, Nat.reduceLeDiff, reduceIte, Nat.reduceLT, Int.reduceLE, Int.reduceLT, Int.reduceToNat]
  refine RL_count (fun i => ⟨tb 19 .any [(0, .ref id none 1 0 W.length), (1, .int .i64 (k + lens (W.take i))), (5, .int .i64 (i : Int))], hset h id (.slice 1 (owss (mkW W k i))), n⟩) (fun _ => True) W.length 0 (head_tb [] (by simp [rhoOk, objIds]) (by simp only [hid, keptV_cons, keptV_nil, tb_get, lk_same, lk_ne, lk_nil, ren, renL, lkp, Nat.reduceLT, Nat.reduceBEq, Nat.reduceEqDiff, reduceIte, and_true, true_and, Nat.not_lt_zero, if_false, if_true, Nat.add_zero, Nat.zero_add]; simp [lens]) (by rw [mkW_zero, hset_get hg]; exact hb)) (by omega) trivial fun i hi _ J hJ => ?_
  have hgi : hget (hset h id (.slice 1 (owss (mkW W k i)))) id = some (.slice 1 (owss (mkW W k i))) := hget_same hg
  by_cases h1 : i < W.length
  · have e1 := mkW_get (k := k) h1
    have hle := lens_le W i
    simp only [Int.toNat_natCast, hgi, e1, ints_length, push_cast, ↓ifB_true, ↓ifB_false, Nat.reduceBEq, Nat.reduceAdd, Nat.reduceSub, reduceCtorEq, Nat.reduceMul, Nat.reduceEqDiff, Nat.reduceLeDiff, reduceIte, Nat.reduceLT, Int.reduceLE, Int.reduceLT, Int.reduceToNat]
    refine ifB_intro (fun _ => ⟨by omega, by omega, _, t21s hC W[i] (k + lens (W.take i)) _ id n i _ hgi e1 (below_set hb) (by omega) (hr _ (List.getElem_mem h1)), ?_⟩) (fun h => by simp at h; omega)
    rintro v h' n' ⟨rfl, rfl, rfl⟩ _
    simp only [push_cast, ↓ifB_true, ↓ifB_false, Nat.reduceBEq, Nat.reduceAdd, Nat.reduceSub, reduceCtorEq, Nat.reduceMul, Nat.reduceEqDiff, Nat.reduceLeDiff, reduceIte, Nat.reduceLT, Int.reduceLE, Int.reduceLT, Int.reduceToNat]
    refine hJ h1 trivial _ (head_tb [] (by simp [rhoOk, objIds]) ?_ ?_)
    · simp only [hid, keptV_cons, keptV_nil, tb_get, lk_same, lk_ne, lk_nil, ren, renL, lkp, Nat.reduceLT, Nat.reduceBEq, Nat.reduceEqDiff, reduceIte, and_true, true_and, Nat.not_lt_zero, if_false, if_true, Nat.add_zero, Nat.zero_add]
      rw [wrap64 (by omega) (by omega), lens_succ h1]
      simp; omega
    · rw [mkW_succ h1, hset_hset, solid_set hs]
      exact below_set hb
  · obtain rfl : i = W.length := by omega
    simp only [List.take_length, push_cast, ↓ifB_true, ↓ifB_false, Nat.reduceBEq, Nat.reduceAdd, Nat.reduceSub, reduceCtorEq, Nat.reduceMul, Nat.reduceEqDiff, Nat.reduceLeDiff, reduceIte, Nat.reduceLT, Int.reduceLE, Int.reduceLT, Int.reduceToNat]
    refine ifB_intro (fun h => by simp at h) (fun h => ?_)
    trivial
theorem t20 (W : List (List Int)) (k : Int) (h : Heap) (id n : Nat) (hg : hget h id = some (.slice 1 (owss W))) (hb : below n h) (hs : solid h) (hk : 0 ≤ k ∧ k < 2^40) (hW : W.length < 2^50) (hl : lens W < 2^40) (hr : ∀ r ∈ W, r.length < 2^50) : C 20 [.agg [.ref id none 1 0 W.length], .int .i64 k] h n (fun v h' n' => v = .int .i64 (k + lens W) ∧ n' = n + 1 ∧ h' = (n, .var [.ref id none 1 0 W.length]) :: hset h id (.slice 1 (owss (mkW W k W.length)))) := by
  have hid := below_lt hb hg
  have hne : ¬ n = id := by omega
  refine Closed.runT hC Try.func20 h20 nt20 r20 (by decide) (Nat.le_of_ble_eq_true rfl) ?_
  simp only [c20, push_cast, ↓ifB_true, ↓ifB_false, Nat.reduceBEq, Nat.reduceAdd, Nat.reduceSub, reduceCtorEq, Nat.reduceMul, Nat.reduceEqDiff, Nat.reduceLeDiff, reduceIte, Nat.reduceLT, Int.reduceLE, Int.reduceLT, Int.reduceToNat]
  have hb' : below (n + 1) ((n, .var [.ref id none 1 0 W.length]) :: h) :=
    below_mk (by omega) (by simp only [renO, renL, ren, if_pos (show id < n + 1 by omega)]) (below_succ hb)
  refine ⟨_, t49 hC W k _ id (n + 1) (by simp only [hget, if_neg hne]; exact hg) hb' ?_ hk hW hl hr, ?_⟩
  · unfold solid at *
    simp only [killH, killL, killS, hs]
  rintro v h' n' ⟨rfl, rfl, rfl⟩ _
  have hs2 := solid_set (id := id) (sz := 1) (es := owss (mkW W k W.length)) hs
  unfold solid at hs2
  simp only [hset, if_neg hne, hs2, push_cast, ↓ifB_true, ↓ifB_false, Nat.reduceBEq, Nat.reduceAdd, Nat.reduceSub, reduceCtorEq, Nat.reduceMul, Nat.reduceEqDiff, Nat.reduceLeDiff, reduceIte, Nat.reduceLT, Int.reduceLE, Int.reduceLT, Int.reduceToNat]
end
end Go.Proofs.Ytnajmggefapeaaa.X
