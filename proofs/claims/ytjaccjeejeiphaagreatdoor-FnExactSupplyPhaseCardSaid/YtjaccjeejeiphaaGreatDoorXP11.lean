/- A part of the proof: lemmas on the machine or on the functions that the law reaches. No condition of its own. -/
import Derived.Test.YtjaccjeejeiphaaGreatDoorXP10
import Derived.Test.YtjaccjeejeiphaaGreatDoorXP4
import Derived.Test.YtjaccjeejeiphaaGreatDoorXP8
set_option maxHeartbeats 1000000
set_option maxRecDepth 8000
set_option linter.unusedSimpArgs false
set_option linter.unusedVariables false
open Nat renaming reduceBEq → N1, reduceAdd → N2, reduceSub → N3, reduceMul → N4, reduceEqDiff → N5, reduceLeDiff → N6, reduceLT → N7
open Int renaming reduceLE → I1, reduceLT → I2, reduceToNat → I3
namespace Go.Proofs.YtjaccjeejeiphaaGreatDoor.X
open Go
/-! a heap that lies below n -/
def below (n : Nat) (h : Heap) : Prop := canB n [] h = h
theorem canB_le (n : Nat) : ∀ h : Heap, (canB n [] h).length ≤ h.length
  | [] => by simp [canB]
  | (i, o) :: h => by
    simp only [canB]
    have := canB_le n h
    split <;> simp <;> omega
theorem below_cons {n i : Nat} {o : Ob} {h : Heap} (hb : below n ((i, o) :: h)) : i < n ∧ renO n [] o = o ∧ below n h := by
  unfold below at hb
  simp only [canB] at hb
  split at hb
  · rename_i hi
    simp only [List.cons.injEq, Prod.mk.injEq, true_and] at hb
    exact ⟨hi, hb.1, hb.2⟩
  · have := canB_le n h
    rw [hb] at this
    simp at this
    omega
theorem below_mk {n i : Nat} {o : Ob} {h : Heap} (hi : i < n) (ho : renO n [] o = o) (hb : below n h) : below n ((i, o) :: h) := by
  unfold below at hb ⊢
  simp only [canB, hi, if_true, ho, hb]
theorem below_set {n : Nat} {id sz : Nat} {es : List (List AV)} : ∀ {h : Heap}, below n h → below n (hset h id (.slice sz es))
  | [], _ => rfl
  | (i, o) :: h, hb => by
    obtain ⟨h1, h2, h3⟩ := below_cons hb
    simp only [hset]
    split
    · exact below_mk h1 rfl h3
    · exact below_mk h1 h2 (below_set h3)
theorem below_lt {n : Nat} {id : Nat} {o : Ob} : ∀ {h : Heap}, below n h → hget h id = some o → id < n
  | [], _, hg => by simp [hget] at hg
  | (i, o') :: h, hb, hg => by
    obtain ⟨h1, h2, h3⟩ := below_cons hb
    simp only [hget] at hg
    split at hg
    · rename_i e; omega
    · exact below_lt h3 hg
theorem hget_same {h : Heap} {id : Nat} {o u : Ob} (hg : hget h id = some o) : hget (hset h id u) id = some u := by
  rw [hget_set]; simp [hg]
theorem hset_hset {id : Nat} {u v : Ob} : ∀ {h : Heap}, hset (hset h id u) id v = hset h id v
  | [] => rfl
  | (i, o) :: h => by
    simp only [hset]
    split
    · rename_i e; simp [hset, e]
    · rename_i e; simp only [hset, if_neg e, hset_hset]
theorem hset_get {id : Nat} {u : Ob} : ∀ {h : Heap}, hget h id = some u → hset h id u = h
  | [], hg => rfl
  | (i, o) :: h, hg => by
    simp only [hget] at hg
    simp only [hset]
    split at hg
    · rename_i e
      simp only [Option.some.injEq] at hg
      subst hg; simp [e]
    · rename_i e; rw [if_neg e, hset_get hg]
theorem kill_set {id sz : Nat} {es : List (List AV)} : ∀ {h : Heap}, killH (hset h id (.slice sz es)) = hset (killH h) id (.slice sz es)
  | [] => rfl
  | (i, .var cs) :: h => by
    simp only [hset]
    split
    · rename_i e; simp [killH, hset, e]
    · rename_i e; simp only [killH, hset, if_neg e, kill_set]
  | (i, .slice a b) :: h => by
    simp only [hset]
    split
    · rename_i e; simp [killH, hset, e]
    · rename_i e; simp only [killH, hset, if_neg e, kill_set]
/-! what is a list of numbers -/
def mk (l : List Int) (k : Int) (i : Nat) : List Int := (List.range i).map (fun j : Nat => k + (j : Int)) ++ l.drop i
theorem mk_length {l : List Int} {k : Int} {i : Nat} (h : i ≤ l.length) : (mk l k i).length = l.length := by simp [mk]; omega
theorem mk_succ {l : List Int} {k : Int} {i : Nat} (h : i < l.length) : (mk l k i).set i (k + i) = mk l k (i + 1) := by
  have e : l.drop i = l[i] :: l.drop (i + 1) := List.drop_eq_getElem_cons h
  simp only [mk, e, List.range_succ, List.map_append, List.map_cons, List.map_nil, List.append_assoc, List.cons_append, List.nil_append]
  rw [mid_set (by simp)]
theorem mk_all {l : List Int} {k : Int} : mk l k l.length = (List.range l.length).map (fun j : Nat => k + (j : Int)) := by simp [mk]
theorem mk_zero {l : List Int} {k : Int} : mk l k 0 = l := by simp [mk]
section
variable {C : CT} (hC : Closed Tryz.prog G1 md0 C)
include hC
theorem t102 (l : List Int) (k : Int) (h : Heap) (id n : Nat) (hg : hget h id = some (.slice 1 (ints l))) (hb : below n h) (hk : 0 ≤ k ∧ k < 2^50) (hl : l.length < 2^50) : C 102 [.ref id none 1 0 l.length, .int .i64 k] h n (fun v h' n' => v = .int .i64 (k + l.length) ∧ n' = n ∧ h' = hset h id (.slice 1 (ints (mk l k l.length)))) := by
  have hid := below_lt hb hg
  refine Closed.rT hC Q102 ?_
  simp only [c102, push_cast, ↓J1, ↓J2, N1, N2, N3, reduceCtorEq, N4, N5, N6, reduceIte, N7, I1, I2, I3]
  refine RL_count (fun i => ⟨tb 19 .any [(0, .ref id none 1 0 l.length), (1, .int .i64 (k + i)), (5, .int .i64 (i : Int))], hset h id (.slice 1 (ints (mk l k i))), n⟩) (fun _ => True) l.length 0 (head_tb [] (by simp [rhoOk, objIds]) (by simp only [hid, keptV_cons, keptV_nil, tb_get, lk_same, lk_ne, lk_nil, ren, renL, lkp, N7, N1, N5, reduceIte, and_true, true_and, Nat.not_lt_zero, if_false, if_true, Nat.add_zero, Nat.zero_add]; simp) (by rw [mk_zero, hset_get hg]; exact hb)) (by omega) trivial fun i hi _ J hJ => ?_
  have hgi : hget (hset h id (.slice 1 (ints (mk l k i)))) id = some (.slice 1 (ints (mk l k i))) := hget_same hg
  by_cases h1 : i < l.length
  · have e1 : (ints (mk l k i))[i]? = some [.int .i64 ((mk l k i).getD i 0)] := ints_get (by rw [mk_length hi]; exact h1)
    simp only [Int.toNat_natCast, hgi, e1, push_cast, ↓J1, ↓J2, N1, N2, N3, reduceCtorEq, N4, N5, N6, reduceIte, N7, I1, I2, I3]
    refine ifB_intro (fun _ => ⟨by omega, by omega, ?_⟩) (fun h => by simp at h; omega)
    refine hJ h1 trivial _ (head_tb [] (by simp [rhoOk, objIds]) ?_ ?_)
    · simp only [hid, keptV_cons, keptV_nil, tb_get, lk_same, lk_ne, lk_nil, ren, renL, lkp, N7, N1, N5, reduceIte, and_true, true_and, Nat.not_lt_zero, if_false, if_true, Nat.add_zero, Nat.zero_add]
      rw [wrap64 (by omega) (by omega), wrap64 (by omega) (by omega)]
      simp; omega
    · rw [ints_set, mk_succ h1, hset_hset]
      exact below_set hb
  · obtain rfl : i = l.length := by omega
    simp only [push_cast, ↓J1, ↓J2, N1, N2, N3, reduceCtorEq, N4, N5, N6, reduceIte, N7, I1, I2, I3]
    refine ifB_intro (fun h => by simp at h) (fun h => ?_)
    trivial
theorem t102s (l : List Int) (k : Int) (h : Heap) (id n i0 : Nat) (es : List (List AV)) (hg : hget h id = some (.slice 1 es)) (he : es[i0]? = some [.ow 1 (ints l)]) (hb : below n h) (hk : 0 ≤ k ∧ k < 2^50) (hl : l.length < 2^50) : C 102 [.ref id (some (1, i0, 0)) 1 0 l.length, .int .i64 k] h n (fun v h' n' => v = .int .i64 (k + l.length) ∧ n' = n ∧ h' = hset h id (.slice 1 (es.set i0 [.ow 1 (ints (mk l k l.length))]))) := by
  have hid := below_lt hb hg
  have hi0 : i0 < es.length := by
    rcases Nat.lt_or_ge i0 es.length with h | h
    · exact h
    · rw [List.getElem?_eq_none_iff.2 h] at he; cases he
  refine Closed.rT hC Q102 ?_
  simp only [c102, push_cast, ↓J1, ↓J2, N1, N2, N3, reduceCtorEq, N4, N5, N6, reduceIte, N7, I1, I2, I3]
  refine RL_count (fun i => ⟨tb 19 .any [(0, .ref id (some (1, i0, 0)) 1 0 l.length), (1, .int .i64 (k + i)), (5, .int .i64 (i : Int))], hset h id (.slice 1 (es.set i0 [.ow 1 (ints (mk l k i))])), n⟩) (fun _ => True) l.length 0 (head_tb [] (by simp [rhoOk, objIds]) (by simp only [hid, keptV_cons, keptV_nil, tb_get, lk_same, lk_ne, lk_nil, ren, renL, lkp, N7, N1, N5, reduceIte, and_true, true_and, Nat.not_lt_zero, if_false, if_true, Nat.add_zero, Nat.zero_add]; simp) ?_) (by omega) trivial fun i hi _ J hJ => ?_
  · rw [mk_zero]
    have : es.set i0 [.ow 1 (ints l)] = es := by
      apply List.ext_getElem?
      intro j
      rw [List.getElem?_set]
      split
      · rename_i e; subst e; rw [he]
      · rfl
    rw [this, hset_get hg]; exact hb
  have hgi : hget (hset h id (.slice 1 (es.set i0 [.ow 1 (ints (mk l k i))]))) id = some (.slice 1 (es.set i0 [.ow 1 (ints (mk l k i))])) := hget_same hg
  have hei : (es.set i0 [.ow 1 (ints (mk l k i))])[i0]? = some [.ow 1 (ints (mk l k i))] := by simp [hi0]
  by_cases h1 : i < l.length
  · have e1 : (ints (mk l k i))[i]? = some [.int .i64 ((mk l k i).getD i 0)] := ints_get (by rw [mk_length hi]; exact h1)
    simp only [Int.toNat_natCast, hgi, hei, e1, push_cast, ↓J1, ↓J2, N1, N2, N3, reduceCtorEq, N4, N5, N6, reduceIte, N7, I1, I2, I3]
    refine ifB_intro (fun _ => ⟨by omega, by omega, ?_⟩) (fun h => by simp at h; omega)
    refine hJ h1 trivial _ (head_tb [] (by simp [rhoOk, objIds]) ?_ ?_)
    · simp only [hid, keptV_cons, keptV_nil, tb_get, lk_same, lk_ne, lk_nil, ren, renL, lkp, N7, N1, N5, reduceIte, and_true, true_and, Nat.not_lt_zero, if_false, if_true, Nat.add_zero, Nat.zero_add]
      rw [wrap64 (by omega) (by omega), wrap64 (by omega) (by omega)]
      simp; omega
    · rw [ints_set, mk_succ h1, List.set_set, hset_hset]
      exact below_set hb
  · obtain rfl : i = l.length := by omega
    simp only [push_cast, ↓J1, ↓J2, N1, N2, N3, reduceCtorEq, N4, N5, N6, reduceIte, N7, I1, I2, I3]
    refine ifB_intro (fun h => by simp at h) (fun h => ?_)
    trivial
end
end Go.Proofs.YtjaccjeejeiphaaGreatDoor.X
set_option maxHeartbeats 1000000
set_option maxRecDepth 8000
set_option linter.unusedSimpArgs false
set_option linter.unusedVariables false
open Nat renaming reduceBEq → N1, reduceAdd → N2, reduceSub → N3, reduceMul → N4, reduceEqDiff → N5, reduceLeDiff → N6, reduceLT → N7
open Int renaming reduceLE → I1, reduceLT → I2, reduceToNat → I3
namespace Go.Proofs.YtjaccjeejeiphaaGreatDoor.X
open Go
attribute [local irreducible] Ev
def mkR : List (List Int) → Int → List (List Int)
  | [], _ => []
  | r :: W, k => mk r k r.length :: mkR W (k + r.length)
def mkW (W : List (List Int)) (k : Int) (i : Nat) : List (List Int) := mkR (W.take i) k ++ W.drop i
theorem mkR_length : ∀ (W : List (List Int)) (k : Int), (mkR W k).length = W.length
  | [], k => rfl
  | r :: W, k => by simp [mkR, mkR_length W]
theorem mkR_append : ∀ (W V : List (List Int)) (k : Int), mkR (W ++ V) k = mkR W k ++ mkR V (k + lens W)
  | [], V, k => by simp [mkR, lens]
  | r :: W, V, k => by
    have e : k + (r.length : Int) + (lens W : Int) = k + (lens (r :: W) : Int) := by simp [lens]; omega
    simp only [List.cons_append, mkR, mkR_append W, e]
theorem mkW_length {W : List (List Int)} {k : Int} {i : Nat} (h : i ≤ W.length) : (mkW W k i).length = W.length := by simp [mkW, mkR_length]; omega
theorem mkW_succ {W : List (List Int)} {k : Int} {i : Nat} (h : i < W.length) : (owss (mkW W k i)).set i [.ow 1 (ints (mk W[i] (k + lens (W.take i)) W[i].length))] = owss (mkW W k (i + 1)) := by
  have e : W.drop i = W[i] :: W.drop (i + 1) := List.drop_eq_getElem_cons h
  have hl : (mkR (W.take i) k).length = i := by rw [mkR_length]; simp; omega
  simp only [mkW, e, List.take_succ_eq_append_getElem h, mkR_append, owss, List.map_append, List.map_cons, mkR, List.map_nil, List.append_assoc, List.cons_append, List.nil_append]
  rw [mid_set (by simp [hl])]
theorem mkW_get {W : List (List Int)} {k : Int} {i : Nat} (h : i < W.length) : (owss (mkW W k i))[i]? = some [.ow 1 (ints W[i])] := by
  have e : W.drop i = W[i] :: W.drop (i + 1) := List.drop_eq_getElem_cons h
  have hl : (mkR (W.take i) k).length = i := by rw [mkR_length]; simp; omega
  simp only [mkW, e, owss, List.map_append, List.map_cons]
  rw [mid_get (by simp [hl])]
theorem mkW_zero {W : List (List Int)} {k : Int} : mkW W k 0 = W := by simp [mkW, mkR]
mutual
theorem ren_mono {n : Nat} : ∀ x : AV, ren n [] x = x → ren (n + 1) [] x = x
  | .ref id sub sz off len, h => by
    simp only [ren, lkp] at h ⊢
    split at h
    · rw [if_pos (by omega)]
    · cases h
  | .ptr id sub sz i c, h => by
    simp only [ren, lkp] at h ⊢
    split at h
    · rw [if_pos (by omega)]
    · cases h
  | .fn f cs, h => by
    simp only [ren, AV.fn.injEq, true_and] at h ⊢
    exact renL_mono cs h
  | .agg cs, h => by
    simp only [ren, AV.agg.injEq] at h ⊢
    exact renL_mono cs h
  | .tup cs, h => by
    simp only [ren, AV.tup.injEq] at h ⊢
    exact renL_mono cs h
  | .any, h => by simp [ren]
  | .con _, h => by simp [ren]
  | .int _ _, h => by simp [ren]
  | .bool _, h => by simp [ren]
  | .str _, h => by simp [ren]
  | .nil, h => by simp [ren]
  | .sl _, h => by simp [ren]
  | .pf _, h => by simp [ren]
  | .ow _ _, h => by simp [ren]
  | .op _, h => by simp [ren]
theorem renL_mono {n : Nat} : ∀ xs : List AV, renL n [] xs = xs → renL (n + 1) [] xs = xs
  | [], _ => by simp [renL]
  | x :: xs, h => by
    simp only [renL, List.cons.injEq] at h ⊢
    exact ⟨ren_mono x h.1, renL_mono xs h.2⟩
end
theorem below_succ {n : Nat} : ∀ {h : Heap}, below n h → below (n + 1) h
  | [], _ => rfl
  | (i, o) :: h, hb => by
    obtain ⟨h1, h2, h3⟩ := below_cons hb
    refine below_mk (by omega) ?_ (below_succ h3)
    cases o with
    | slice sz es => rfl
    | var cs =>
      simp only [renO, Ob.var.injEq] at h2 ⊢
      exact renL_mono cs h2
def solid (h : Heap) : Prop := killH h = h
theorem solid_set {id sz : Nat} {es : List (List AV)} {h : Heap} (hs : solid h) : solid (hset h id (.slice sz es)) := by
  unfold solid at *
  rw [kill_set, hs]
theorem lens_le : ∀ (W : List (List Int)) (i : Nat), lens (W.take i) ≤ lens W
  | [], i => by simp
  | r :: W, 0 => by simp [lens]
  | r :: W, i + 1 => by
    have := lens_le W i
    simp [lens] at this ⊢
    omega
section
variable {C : CT} (hC : Closed Tryz.prog G1 md0 C)
include hC
theorem t115 (W : List (List Int)) (k : Int) (h : Heap) (id n : Nat) (hg : hget h id = some (.slice 1 (owss W))) (hb : below n h) (hs : solid h) (hk : 0 ≤ k ∧ k < 2^48) (hW : W.length < 2^50) (hl : lens W < 2^48) (hr : ∀ r ∈ W, r.length < 2^50) : C 115 [.ref id none 1 0 W.length, .int .i64 k] h n (fun v h' n' => v = .int .i64 (k + lens W) ∧ n' = n ∧ h' = hset h id (.slice 1 (owss (mkW W k W.length)))) := by
  have hid := below_lt hb hg
  refine Closed.rT hC Q115 ?_
  simp only [c115, push_cast, ↓J1, ↓J2, N1, N2, N3, reduceCtorEq, N4, N5, N6, reduceIte, N7, I1, I2, I3]
  refine RL_count (fun i => ⟨tb 19 .any [(0, .ref id none 1 0 W.length), (1, .int .i64 (k + lens (W.take i))), (5, .int .i64 (i : Int))], hset h id (.slice 1 (owss (mkW W k i))), n⟩) (fun _ => True) W.length 0 (head_tb [] (by simp [rhoOk, objIds]) (by simp only [hid, keptV_cons, keptV_nil, tb_get, lk_same, lk_ne, lk_nil, ren, renL, lkp, N7, N1, N5, reduceIte, and_true, true_and, Nat.not_lt_zero, if_false, if_true, Nat.add_zero, Nat.zero_add]; simp [lens]) (by rw [mkW_zero, hset_get hg]; exact hb)) (by omega) trivial fun i hi _ J hJ => ?_
  have hgi : hget (hset h id (.slice 1 (owss (mkW W k i)))) id = some (.slice 1 (owss (mkW W k i))) := hget_same hg
  by_cases h1 : i < W.length
  · have e1 := mkW_get (k := k) h1
    have hle := lens_le W i
    simp only [Int.toNat_natCast, hgi, e1, ints_length, push_cast, ↓J1, ↓J2, N1, N2, N3, reduceCtorEq, N4, N5, N6, reduceIte, N7, I1, I2, I3]
    refine ifB_intro (fun _ => ⟨by omega, by omega, _, t102s hC W[i] (k + lens (W.take i)) _ id n i _ hgi e1 (below_set hb) (by omega) (hr _ (List.getElem_mem h1)), ?_⟩) (fun h => by simp at h; omega)
    rintro v h' n' ⟨rfl, rfl, rfl⟩ _
    simp only [push_cast, ↓J1, ↓J2, N1, N2, N3, reduceCtorEq, N4, N5, N6, reduceIte, N7, I1, I2, I3]
    refine hJ h1 trivial _ (head_tb [] (by simp [rhoOk, objIds]) ?_ ?_)
    · simp only [hid, keptV_cons, keptV_nil, tb_get, lk_same, lk_ne, lk_nil, ren, renL, lkp, N7, N1, N5, reduceIte, and_true, true_and, Nat.not_lt_zero, if_false, if_true, Nat.add_zero, Nat.zero_add]
      rw [wrap64 (by omega) (by omega), lens_succ h1]
      simp; omega
    · rw [mkW_succ h1, hset_hset, solid_set hs]
      exact below_set hb
  · obtain rfl : i = W.length := by omega
    simp only [List.take_length, push_cast, ↓J1, ↓J2, N1, N2, N3, reduceCtorEq, N4, N5, N6, reduceIte, N7, I1, I2, I3]
    refine ifB_intro (fun h => by simp at h) (fun h => ?_)
    trivial
theorem t114 (W : List (List Int)) (k : Int) (h : Heap) (id n : Nat) (hg : hget h id = some (.slice 1 (owss W))) (hb : below n h) (hs : solid h) (hk : 0 ≤ k ∧ k < 2^48) (hW : W.length < 2^50) (hl : lens W < 2^48) (hr : ∀ r ∈ W, r.length < 2^50) : C 114 [.agg [.ref id none 1 0 W.length], .int .i64 k] h n (fun v h' n' => v = .int .i64 (k + lens W) ∧ n' = n + 1 ∧ h' = (n, .var [.ref id none 1 0 W.length]) :: hset h id (.slice 1 (owss (mkW W k W.length)))) := by
  have hid := below_lt hb hg
  have hne : ¬ n = id := by omega
  refine Closed.rT hC Q114 ?_
  simp only [c114, push_cast, ↓J1, ↓J2, N1, N2, N3, reduceCtorEq, N4, N5, N6, reduceIte, N7, I1, I2, I3]
  have hb' : below (n + 1) ((n, .var [.ref id none 1 0 W.length]) :: h) :=
    below_mk (by omega) (by simp only [renO, renL, ren, if_pos (show id < n + 1 by omega)]) (below_succ hb)
  refine ⟨_, t115 hC W k _ id (n + 1) (by simp only [hget, if_neg hne]; exact hg) hb' ?_ hk hW hl hr, ?_⟩
  · unfold solid at *
    simp only [killH, killL, killS, hs]
  rintro v h' n' ⟨rfl, rfl, rfl⟩ _
  have hs2 := solid_set (id := id) (sz := 1) (es := owss (mkW W k W.length)) hs
  unfold solid at hs2
  simp only [hset, if_neg hne, hs2, push_cast, ↓J1, ↓J2, N1, N2, N3, reduceCtorEq, N4, N5, N6, reduceIte, N7, I1, I2, I3]
end
end Go.Proofs.YtjaccjeejeiphaaGreatDoor.X
set_option maxHeartbeats 4000000
set_option maxRecDepth 8000
set_option linter.unusedSimpArgs false
set_option linter.unusedVariables false
open Nat renaming reduceBEq → N1, reduceAdd → N2, reduceSub → N3, reduceMul → N4, reduceEqDiff → N5, reduceLeDiff → N6, reduceLT → N7
open Int renaming reduceLE → I1, reduceLT → I2, reduceToNat → I3
namespace Go.Proofs.YtjaccjeejeiphaaGreatDoor.X
open Go
attribute [local irreducible] Ev
def FrH (ids : List Nat) (n : Nat) (h h' : Heap) : Prop := ∀ j, j < n → j ∉ ids → hget h' j = hget h j
structure MP (ids : List Nat) (h : Heap) (n c : Nat) (k W : Int) (v : AV) (h' : Heap) (n' : Nat) : Prop where
  v : ∃ m, v = .int .i64 m ∧ k ≤ m ∧ m ≤ k + W
  nn : n' = n + c
  f : FrH ids n h h'
  b : below n' h'
  s : solid h'
theorem FrH.set {n id : Nat} {h : Heap} {o : Ob} : FrH [id] n h (hset h id o) := by
  intro j _ hj
  rw [hget_set, if_neg (by simp at hj; omega)]
theorem FrH.trans {a b : List Nat} {n n' : Nat} {h h' h2 : Heap} (h1 : FrH a n h h') (h3 : FrH b n' h' h2) (hn : n ≤ n') : FrH (a ++ b) n h h2 := by
  intro j hj hm
  simp only [List.mem_append, not_or] at hm
  rw [h3 j (by omega) hm.2, h1 j hj hm.1]
theorem FrH.box {n : Nat} {h : Heap} {o : Ob} : FrH [] n h ((n, o) :: h) := by
  intro j hj _
  simp only [hget, if_neg (show ¬ n = j by omega)]
theorem solid_box {n : Nat} {h : Heap} {cs : List AV} (hs : solid h) (hk : killL cs = cs) : solid ((n, .var cs) :: h) := by
  unfold solid at *
  simp only [killH, hk, hs]
theorem below_box {n : Nat} {h : Heap} {cs : List AV} (hb : below n h) (hk : renL (n + 1) [] cs = cs) : below (n + 1) ((n, .var cs) :: h) :=
  below_mk (by omega) (by simp only [renO, hk]) (below_succ hb)
theorem hget_box {n j : Nat} {h : Heap} {o u : Ob} (hb : below n h) (hg : hget h j = some u) : hget ((n, o) :: h) j = some u := by
  have := below_lt hb hg
  simp only [hget, if_neg (show ¬ n = j by omega), hg]
def dig (k : Int) : UInt8 := UInt8.ofNat (IntKind.u8.wrap (IntKind.i64.wrap (48 + k.tmod 10))).toNat
def mtx : Nat → Int → ByteArray → ByteArray
  | 0, _, a => a
  | f + 1, k, a => if 0 < k then mtx f (k.tdiv 10) (⟨#[dig k]⟩ ++ a) else a
theorem mtx_stop {f : Nat} {k : Int} {a : ByteArray} (h : k ≤ 0) : mtx f k a = a := by
  cases f with
  | zero => rfl
  | succ f => simp only [mtx, if_neg (show ¬ 0 < k by omega)]
def mText (k : Int) : ByteArray := if k ≤ 0 then ⟨#[109, 48]⟩ else ⟨#[109]⟩ ++ mtx k.toNat k ByteArray.empty
theorem tdiv10 {k : Int} (h : 0 < k) : 0 ≤ k.tdiv 10 ∧ k.tdiv 10 ≤ k - 1 := by
  rw [Int.tdiv_eq_ediv_of_nonneg (by omega)]
  omega
def mkUns (k : Int) (n : Nat) : List Un := (List.range n).map fun i : Nat => ⟨k + 4 * (i : Int), k + 4 * (i : Int) + 1, k + 4 * (i : Int) + 2, k + 4 * (i : Int) + 3⟩
theorem mkUns_length {k : Int} {n : Nat} : (mkUns k n).length = n := by simp [mkUns]
theorem mkUns_get {k : Int} {n i : Nat} (h : i < n) : (uns (mkUns k n))[i]? = some (unA ⟨k + 4 * (i : Int), k + 4 * (i : Int) + 1, k + 4 * (i : Int) + 2, k + 4 * (i : Int) + 3⟩) := by
  simp [uns, mkUns, h]
theorem mkUns_succ {us : List Un} {k : Int} {i : Nat} (h : i < us.length) : (uns (mkUns k i ++ us.drop i)).set i (unA ⟨k + 4 * (i : Int), k + 4 * (i : Int) + 1, k + 4 * (i : Int) + 2, k + 4 * (i : Int) + 3⟩) = uns (mkUns k (i + 1) ++ us.drop (i + 1)) := by
  have e : us.drop i = us[i] :: us.drop (i + 1) := List.drop_eq_getElem_cons h
  have e2 : mkUns k (i + 1) = mkUns k i ++ [⟨k + 4 * (i : Int), k + 4 * (i : Int) + 1, k + 4 * (i : Int) + 2, k + 4 * (i : Int) + 3⟩] := by simp [mkUns, List.range_succ]
  rw [e, e2]
  simp only [uns, List.map_append, List.map_cons, List.map_nil, List.append_assoc, List.cons_append, List.nil_append]
  rw [mid_set (by simp [mkUns])]
section
variable {C : CT} (hC : Closed Tryz.prog G1 md0 C)
include hC
theorem t226 (k : Int) (hk : k ≤ 2^50) : Ev C 226 [.int .i64 k] (.str (mText k)) := by
  refine rT hC Q226 ?_
  simp only [c226, push_cast, ↓J1, ↓J2, N1, N2, N3, reduceCtorEq, N4, N5, N6, reduceIte, N7, I1, I2, I3]
  refine ifB_intro (fun h => ?_) (fun h => ?_)
  · have h' := of_decide_eq_true h
    simp only [mText, if_pos h', push_cast, ↓J1, ↓J2, N1, N2, N3, reduceCtorEq, N4, N5, N6, reduceIte, N7, I1, I2, I3]
  have h' := of_decide_eq_false h
  simp only [mText, if_neg h']
  refine RL_ind (fun m s' => ∃ (x : Int) (a : ByteArray), x ≤ m ∧ (a.size : Int) + x ≤ k ∧ x ≤ k ∧ 0 ≤ x ∧ mtx k.toNat k ByteArray.empty = mtx m x a ∧ s' = ⟨tb 20 .any [(0, .int .i64 x), (3, .str a)], [], 0⟩) k.toNat ⟨tb 20 .any [(0, .int .i64 k), (3, .str ByteArray.empty)], [], 0⟩ (hdA []) ⟨k, _, by omega, by show (0 : Int) + k ≤ k; omega, by omega, by omega, rfl, rfl⟩ ?_
  rintro m s' ⟨x, a, h1, h2, h3, h4, h5, rfl⟩ J hJ
  simp only [push_cast, ↓J1, ↓J2, N1, N2, N3, reduceCtorEq, N4, N5, N6, reduceIte, N7, I1, I2, I3]
  refine ifB_intro (fun h => ?_) (fun h => ?_)
  · have hx := of_decide_eq_true h
    have hd := tdiv10 hx
    cases m with
    | zero => omega
    | succ m =>
      rw [mtx, if_pos hx] at h5
      have w1 : IntKind.i64.wrap (x.tdiv 10) = x.tdiv 10 := wrap64 (by omega) (by omega)
      have t1 : List.take 1 [[AV.int .u8 (IntKind.u8.wrap (IntKind.i64.wrap (48 + x.tmod 10)))]] = [[AV.int .u8 (IntKind.u8.wrap (IntKind.i64.wrap (48 + x.tmod 10)))]] := rfl
      simp only [byteL, w1, t1, bytesV_one, show (10 : Int) ≠ 0 by decide, push_cast, ↓J1, ↓J2, N1, N2, N3, reduceCtorEq, N4, N5, N6, reduceIte, N7, I1, I2, I3]
      have s1 : (⟨#[dig x]⟩ : ByteArray).size = 1 := rfl
      and_intros
      all_goals first | (show (((⟨#[dig x]⟩ : ByteArray).size + a.size : Nat) : Int) ≤ _; rw [s1]; omega) | skip
      refine hJ m _ _ (by omega) ⟨x.tdiv 10, ⟨#[dig x]⟩ ++ a, by omega, ?_, by omega, by omega, h5, rfl⟩ (hdA [])
      rw [ByteArray.size_append, s1]; omega
  · have hx := of_decide_eq_false h
    rw [h5, mtx_stop (by omega)]
    simp only [push_cast, ↓J1, ↓J2, N1, N2, N3, reduceCtorEq, N4, N5, N6, reduceIte, N7, I1, I2, I3]
    and_intros
    all_goals first | (show (((⟨#[109]⟩ : ByteArray).size + a.size : Nat) : Int) ≤ _; rw [show (⟨#[109]⟩ : ByteArray).size = 1 from rfl]; omega) | skip
theorem t102p (l : List Int) (k : Int) (h : Heap) (id n i0 szo c : Nat) (es : List (List AV)) (e : List AV) (hg : hget h id = some (.slice szo es)) (he : es[i0]? = some e) (hc : e[c]? = some (.ow 1 (ints l))) (hb : below n h) (hk : 0 ≤ k ∧ k < 2^50) (hl : l.length < 2^50) : C 102 [.ref id (some (szo, i0, c)) 1 0 l.length, .int .i64 k] h n (fun v h' n' => v = .int .i64 (k + l.length) ∧ n' = n ∧ h' = hset h id (.slice szo (es.set i0 (e.set c (.ow 1 (ints (mk l k l.length))))))) := by
  have hid := below_lt hb hg
  have hi0 : i0 < es.length := (List.getElem?_eq_some_iff.1 he).1
  have hc0 : c < e.length := (List.getElem?_eq_some_iff.1 hc).1
  refine Closed.rT hC Q102 ?_
  simp only [c102, push_cast, ↓J1, ↓J2, N1, N2, N3, reduceCtorEq, N4, N5, N6, reduceIte, N7, I1, I2, I3]
  refine RL_count (fun i => ⟨tb 19 .any [(0, .ref id (some (szo, i0, c)) 1 0 l.length), (1, .int .i64 (k + i)), (5, .int .i64 (i : Int))], hset h id (.slice szo (es.set i0 (e.set c (.ow 1 (ints (mk l k i)))))), n⟩) (fun _ => True) l.length 0 (head_tb [] (by simp [rhoOk, objIds]) (by simp only [hid, keptV_cons, keptV_nil, tb_get, lk_same, lk_ne, lk_nil, ren, renL, lkp, N7, N1, N5, reduceIte, and_true, true_and, Nat.not_lt_zero, if_false, if_true, Nat.add_zero, Nat.zero_add]; simp) ?_) (by omega) trivial fun i hi _ J hJ => ?_
  · rw [mk_zero]
    have e2 : e.set c (.ow 1 (ints l)) = e := by
      apply List.ext_getElem?
      intro j
      rw [List.getElem?_set]
      split
      · rename_i q; subst q; rw [hc]; try simp [hc0]
      · rfl
    have e3 : es.set i0 e = es := by
      apply List.ext_getElem?
      intro j
      rw [List.getElem?_set]
      split
      · rename_i q; subst q; rw [he]; try simp [hi0]
      · rfl
    rw [e2, e3, hset_get hg]; exact hb
  have hgi : hget (hset h id (.slice szo (es.set i0 (e.set c (.ow 1 (ints (mk l k i))))))) id = some (.slice szo (es.set i0 (e.set c (.ow 1 (ints (mk l k i)))))) := hget_same hg
  have hei : (es.set i0 (e.set c (.ow 1 (ints (mk l k i)))))[i0]? = some (e.set c (.ow 1 (ints (mk l k i)))) := by simp [hi0]
  have hci : (e.set c (.ow 1 (ints (mk l k i))))[c]? = some (.ow 1 (ints (mk l k i))) := by simp [hc0]
  by_cases h1 : i < l.length
  · have e1 : (ints (mk l k i))[i]? = some [.int .i64 ((mk l k i).getD i 0)] := ints_get (by rw [mk_length hi]; exact h1)
    simp only [Int.toNat_natCast, hgi, hei, hci, e1, push_cast, ↓J1, ↓J2, N1, N2, N3, reduceCtorEq, N4, N5, N6, reduceIte, N7, I1, I2, I3]
    refine ifB_intro (fun _ => ?_) (fun h => by simp at h; omega)
    repeat (refine ⟨by omega, ?_⟩)
    refine hJ h1 trivial _ (head_tb [] (by simp [rhoOk, objIds]) ?_ ?_)
    · simp only [hid, keptV_cons, keptV_nil, tb_get, lk_same, lk_ne, lk_nil, ren, renL, lkp, N7, N1, N5, reduceIte, and_true, true_and, Nat.not_lt_zero, if_false, if_true, Nat.add_zero, Nat.zero_add]
      rw [wrap64 (by omega) (by omega), wrap64 (by omega) (by omega)]
      simp; omega
    · rw [ints_set, mk_succ h1, List.set_set, List.set_set, hset_hset]
      exact below_set hb
  · obtain rfl : i = l.length := by omega
    simp only [push_cast, ↓J1, ↓J2, N1, N2, N3, reduceCtorEq, N4, N5, N6, reduceIte, N7, I1, I2, I3]
    refine ifB_intro (fun h => by simp at h) (fun h => ?_)
    trivial
theorem t181 (l : List Od) (k : Int) (h : Heap) (id n : Nat) (hg : hget h id = some (.slice 2 (ods l))) (hb : below n h) (hs : solid h) (hk : 0 ≤ k ∧ k ≤ 2^47) (hl : l.length < 2^21) : C 181 [.ref id none 2 0 l.length, .int .i64 k] h n (MP [id] h n 0 k (2^43)) := by
  have hid := below_lt hb hg
  refine Closed.rT hC Q181 ?_
  simp only [c181, push_cast, ↓J1, ↓J2, N1, N2, N3, reduceCtorEq, N4, N5, N6, reduceIte, N7, I1, I2, I3]
  have hgi : ∀ es : List (List AV), hget (hset h id (.slice 2 es)) id = some (.slice 2 es) := fun es => hget_same hg
  refine RL_ind (fun m s' => ∃ (i : Nat) (l' : List Od) (k' : Int), i + m = l.length ∧ l'.length = l.length ∧ k ≤ k' ∧ k' ≤ k + i * 2 ∧ s' = ⟨tb 27 .any [(0, .ref id none 2 0 l.length), (1, .int .i64 k'), (5, .int .i64 (i : Int))], hset h id (.slice 2 (ods l')), n⟩) l.length ⟨tb 27 .any [(0, .ref id none 2 0 l.length), (1, .int .i64 k), (5, .int .i64 0)], hset h id (.slice 2 (ods l)), n⟩ (head_tb [] (by simp [rhoOk, objIds]) (by simp only [hid, keptV_cons, keptV_nil, tb_get, lk_same, lk_ne, lk_nil, ren, renL, lkp, N7, N1, N5, reduceIte, and_true, true_and, Nat.not_lt_zero, if_false, if_true, Nat.add_zero, Nat.zero_add]; all_goals simp) (by rw [hset_get hg]; exact hb)) ⟨0, l, k, by omega, rfl, by omega, by omega, rfl⟩ ?_
  rintro m s' ⟨i, l', k', h1, h2, h3, h4, rfl⟩ J hJ
  by_cases hi : i < l.length
  · have e1 : (ods l')[i]? = some (odA (l'[i]'(by omega))) := by simp [ods, h2, hi]
    have gs : ∀ e : List AV, ((ods l').set i e)[i]? = some e := by intro e; simp [ods, h2, hi]
    have ls : ∀ u : Od, (ods l').set i (odA u) = ods (l'.set i u) := by intro u; simp [ods, List.map_set]
    generalize (l'[i]'(by omega)) = t at *
    have w0 : IntKind.i64.wrap (k' + 1) = k' + 1 := wrap64 (by omega) (by omega)
    have w1 : IntKind.i64.wrap (k' + 1 + 1) = k' + 1 + 1 := wrap64 (by omega) (by omega)
    simp only [Int.toNat_natCast, hgi, e1, odA, push_cast, ↓J1, ↓J2, N1, N2, N3, reduceCtorEq, N4, N5, N6, reduceIte, N7, I1, I2, I3]
    refine ifB_intro (fun _ => ?_) (fun h => by simp at h; omega)
    repeat (refine ⟨by omega, ?_⟩)
    repeat' (first | refine ⟨by omega, ?_⟩ | simp only [Int.toNat_natCast, hgi, e1, gs, hset_hset, List.set_set, setsA, List.set_cons_zero, List.set_cons_succ, odA, w0, w1, push_cast, ↓J1, ↓J2, N1, N2, N3, reduceCtorEq, N4, N5, N6, reduceIte, N7, I1, I2, I3])
    refine hJ (m - 1) _ _ (by omega) ⟨i + 1, l'.set i ⟨k', k' + 1⟩, k' + 1 + 1, by omega, by simp [h2], ?_, ?_, rfl⟩ (head_tb [] (by simp [rhoOk, objIds]) ?_ ?_)
    rotate_left 2
    · simp only [hid, keptV_cons, keptV_nil, tb_get, lk_same, lk_ne, lk_nil, ren, renL, lkp, N7, N1, N5, reduceIte, and_true, true_and, Nat.not_lt_zero, if_false, if_true, Nat.add_zero, Nat.zero_add]
      rw [wrap64 (n := (i : Int) + 1) (by omega) (by omega)]
      and_intros <;> first | rfl | (simp; done) | omega
    · rw [← ls]
      simp only [odA]
      exact below_set hb
    all_goals omega
  · simp only [push_cast, ↓J1, ↓J2, N1, N2, N3, reduceCtorEq, N4, N5, N6, reduceIte, N7, I1, I2, I3]
    refine ifB_intro (fun h => by simp at h; omega) (fun h => ?_)
    exact ⟨⟨k', rfl, by omega, by omega⟩, rfl, FrH.set, below_set hb, solid_set hs⟩
theorem t175 (l : List Kin) (k : Int) (h : Heap) (id n : Nat) (hg : hget h id = some (.slice 6 (kins l))) (hb : below n h) (hs : solid h) (hk : 0 ≤ k ∧ k ≤ 2^47) (hl : l.length < 2^21) : C 175 [.ref id none 6 0 l.length, .int .i64 k] h n (MP [id] h n 0 k (2^43)) := by
  have hid := below_lt hb hg
  refine Closed.rT hC Q175 ?_
  simp only [c175, push_cast, ↓J1, ↓J2, N1, N2, N3, reduceCtorEq, N4, N5, N6, reduceIte, N7, I1, I2, I3]
  have hgi : ∀ es : List (List AV), hget (hset h id (.slice 6 es)) id = some (.slice 6 es) := fun es => hget_same hg
  refine RL_ind (fun m s' => ∃ (i : Nat) (l' : List Kin) (k' : Int), i + m = l.length ∧ l'.length = l.length ∧ k ≤ k' ∧ k' ≤ k + i * 6 ∧ s' = ⟨tb 58 .any [(0, .ref id none 6 0 l.length), (1, .int .i64 k'), (5, .int .i64 (i : Int))], hset h id (.slice 6 (kins l')), n⟩) l.length ⟨tb 58 .any [(0, .ref id none 6 0 l.length), (1, .int .i64 k), (5, .int .i64 0)], hset h id (.slice 6 (kins l)), n⟩ (head_tb [] (by simp [rhoOk, objIds]) (by simp only [hid, keptV_cons, keptV_nil, tb_get, lk_same, lk_ne, lk_nil, ren, renL, lkp, N7, N1, N5, reduceIte, and_true, true_and, Nat.not_lt_zero, if_false, if_true, Nat.add_zero, Nat.zero_add]; all_goals simp) (by rw [hset_get hg]; exact hb)) ⟨0, l, k, by omega, rfl, by omega, by omega, rfl⟩ ?_
  rintro m s' ⟨i, l', k', h1, h2, h3, h4, rfl⟩ J hJ
  by_cases hi : i < l.length
  · have e1 : (kins l')[i]? = some (kinA (l'[i]'(by omega))) := by simp [kins, h2, hi]
    have gs : ∀ e : List AV, ((kins l').set i e)[i]? = some e := by intro e; simp [kins, h2, hi]
    have ls : ∀ u : Kin, (kins l').set i (kinA u) = kins (l'.set i u) := by intro u; simp [kins, List.map_set]
    generalize (l'[i]'(by omega)) = t at *
    have w0 : IntKind.i64.wrap (k' + 1) = k' + 1 := wrap64 (by omega) (by omega)
    have w1 : IntKind.i64.wrap (k' + 1 + 1) = k' + 1 + 1 := wrap64 (by omega) (by omega)
    have w2 : IntKind.i64.wrap (k' + 1 + 1 + 1) = k' + 1 + 1 + 1 := wrap64 (by omega) (by omega)
    have w3 : IntKind.i64.wrap (k' + 1 + 1 + 1 + 1) = k' + 1 + 1 + 1 + 1 := wrap64 (by omega) (by omega)
    have w4 : IntKind.i64.wrap (k' + 1 + 1 + 1 + 1 + 1) = k' + 1 + 1 + 1 + 1 + 1 := wrap64 (by omega) (by omega)
    have w5 : IntKind.i64.wrap (k' + 1 + 1 + 1 + 1 + 1 + 1) = k' + 1 + 1 + 1 + 1 + 1 + 1 := wrap64 (by omega) (by omega)
    have hT := t226 hC k' (by omega)
    simp only [Int.toNat_natCast, hgi, e1, kinA, push_cast, ↓J1, ↓J2, N1, N2, N3, reduceCtorEq, N4, N5, N6, reduceIte, N7, I1, I2, I3]
    refine ifB_intro (fun _ => ?_) (fun h => by simp at h; omega)
    repeat (refine ⟨by omega, ?_⟩)
    refine ⟨_, hT, ?_⟩
    repeat' (first | refine ⟨by omega, ?_⟩ | simp only [Int.toNat_natCast, hgi, e1, gs, hset_hset, List.set_set, setsA, List.set_cons_zero, List.set_cons_succ, kinA, w0, w1, w2, w3, w4, w5, push_cast, ↓J1, ↓J2, N1, N2, N3, reduceCtorEq, N4, N5, N6, reduceIte, N7, I1, I2, I3])
    refine hJ (m - 1) _ _ (by omega) ⟨i + 1, l'.set i ⟨mText k', k' + 1, k' + 1 + 1, k' + 1 + 1 + 1, decide ((k' + 1 + 1 + 1 + 1).tmod 3 = 0), k' + 1 + 1 + 1 + 1 + 1⟩, k' + 1 + 1 + 1 + 1 + 1 + 1, by omega, by simp [h2], ?_, ?_, rfl⟩ (head_tb [] (by simp [rhoOk, objIds]) ?_ ?_)
    rotate_left 2
    · simp only [hid, keptV_cons, keptV_nil, tb_get, lk_same, lk_ne, lk_nil, ren, renL, lkp, N7, N1, N5, reduceIte, and_true, true_and, Nat.not_lt_zero, if_false, if_true, Nat.add_zero, Nat.zero_add]
      rw [wrap64 (n := (i : Int) + 1) (by omega) (by omega)]
      and_intros <;> first | rfl | (simp; done) | omega
    · rw [← ls]
      simp only [kinA]
      exact below_set hb
    all_goals omega
  · simp only [push_cast, ↓J1, ↓J2, N1, N2, N3, reduceCtorEq, N4, N5, N6, reduceIte, N7, I1, I2, I3]
    refine ifB_intro (fun h => by simp at h; omega) (fun h => ?_)
    exact ⟨⟨k', rfl, by omega, by omega⟩, rfl, FrH.set, below_set hb, solid_set hs⟩
theorem t174 (l : List Ter) (k : Int) (h : Heap) (id n : Nat) (hg : hget h id = some (.slice 5 (tersO l))) (hb : below n h) (hs : solid h) (hk : 0 ≤ k ∧ k ≤ 2^47) (hl : l.length < 2^21) (hc : ∀ t ∈ l, t.c.length < 2^21) : C 174 [.ref id none 5 0 l.length, .int .i64 k] h n (MP [id] h n 0 k (2^43)) := by
  have hid := below_lt hb hg
  refine Closed.rT hC Q174 ?_
  simp only [c174, push_cast, ↓J1, ↓J2, N1, N2, N3, reduceCtorEq, N4, N5, N6, reduceIte, N7, I1, I2, I3]
  have hgi : ∀ es : List (List AV), hget (hset h id (.slice 5 es)) id = some (.slice 5 es) := fun es => hget_same hg
  refine RL_ind (fun m s' => ∃ (i : Nat) (l' : List Ter) (k' : Int), i + m = l.length ∧ l'.length = l.length ∧ (∀ t ∈ l', t.c.length < 2^21) ∧ k ≤ k' ∧ k' ≤ k + i * 2097156 ∧ s' = ⟨tb 51 .any [(0, .ref id none 5 0 l.length), (1, .int .i64 k'), (5, .int .i64 (i : Int))], hset h id (.slice 5 (tersO l')), n⟩) l.length ⟨tb 51 .any [(0, .ref id none 5 0 l.length), (1, .int .i64 k), (5, .int .i64 0)], hset h id (.slice 5 (tersO l)), n⟩ (head_tb [] (by simp [rhoOk, objIds]) (by simp only [hid, keptV_cons, keptV_nil, tb_get, lk_same, lk_ne, lk_nil, ren, renL, lkp, N7, N1, N5, reduceIte, and_true, true_and, Nat.not_lt_zero, if_false, if_true, Nat.add_zero, Nat.zero_add]; all_goals simp) (by rw [hset_get hg]; exact hb)) ⟨0, l, k, by omega, rfl, hc, by omega, by omega, rfl⟩ ?_
  rintro m s' ⟨i, l', k', h1, h2, hI, h3, h4, rfl⟩ J hJ
  by_cases hi : i < l.length
  · have e1 : (tersO l')[i]? = some (terO (l'[i]'(by omega))) := by simp [tersO, h2, hi]
    have gs : ∀ e : List AV, ((tersO l').set i e)[i]? = some e := by intro e; simp [tersO, h2, hi]
    have ls : ∀ u : Ter, (tersO l').set i (terO u) = tersO (l'.set i u) := by intro u; simp [tersO, List.map_set]
    have hin := hI _ (List.getElem_mem (show i < l'.length by omega))
    generalize (l'[i]'(by omega)) = t at *
    have w0 : IntKind.i64.wrap (k' + 1) = k' + 1 := wrap64 (by omega) (by omega)
    have hT := t226 hC k' (by omega)
    have hL : t.c.length < 2^21 := hin
    have w1 : IntKind.i64.wrap (k' + 1 + (t.c.length : Int) + 1) = k' + 1 + (t.c.length : Int) + 1 := wrap64 (by omega) (by omega)
    have w2 : IntKind.i64.wrap (k' + 1 + (t.c.length : Int) + 1 + 1) = k' + 1 + (t.c.length : Int) + 1 + 1 := wrap64 (by omega) (by omega)
    have w3 : IntKind.i64.wrap (k' + 1 + (t.c.length : Int) + 1 + 1 + 1) = k' + 1 + (t.c.length : Int) + 1 + 1 + 1 := wrap64 (by omega) (by omega)
    simp only [Int.toNat_natCast, hgi, e1, terO, push_cast, ↓J1, ↓J2, N1, N2, N3, reduceCtorEq, N4, N5, N6, reduceIte, N7, I1, I2, I3]
    refine ifB_intro (fun _ => ?_) (fun h => by simp at h; omega)
    repeat (refine ⟨by omega, ?_⟩)
    refine ⟨_, hT, ?_⟩
    repeat' (first | refine ⟨by omega, ?_⟩ | simp only [Int.toNat_natCast, hgi, e1, gs, hset_hset, ints_length, List.set_set, setsA, List.set_cons_zero, List.set_cons_succ, terO, w0, push_cast, ↓J1, ↓J2, N1, N2, N3, reduceCtorEq, N4, N5, N6, reduceIte, N7, I1, I2, I3])
    refine ⟨_, t102p hC t.c (k' + 1) _ id n i 5 1 _ _ (hgi _) (gs _) rfl (below_set hb) (by omega) (by omega), ?_⟩
    rintro v hh nn ⟨rfl, rfl, rfl⟩ _
    have hs2 := solid_set (id := id) (sz := 5) (es := ((tersO l').set i (terO ⟨mText k', mk t.c (k' + 1) t.c.length, t.s, t.h, t.b⟩))) hs
    unfold solid at hs2
    simp only [terO] at hs2
    simp only [hs2, hset_hset, List.set_set, List.set_cons_zero, List.set_cons_succ, push_cast, ↓J1, ↓J2, N1, N2, N3, reduceCtorEq, N4, N5, N6, reduceIte, N7, I1, I2, I3]
    repeat' (first | refine ⟨by omega, ?_⟩ | simp only [Int.toNat_natCast, hgi, e1, gs, hset_hset, List.set_set, setsA, List.set_cons_zero, List.set_cons_succ, terO, w1, w2, w3, push_cast, ↓J1, ↓J2, N1, N2, N3, reduceCtorEq, N4, N5, N6, reduceIte, N7, I1, I2, I3])
    refine hJ (m - 1) _ _ (by omega) ⟨i + 1, l'.set i ⟨mText k', mk t.c (k' + 1) t.c.length, k' + 1 + t.c.length, k' + 1 + t.c.length + 1, decide ((k' + 1 + t.c.length + 1 + 1).tmod 3 = 0)⟩, k' + 1 + t.c.length + 1 + 1 + 1, by omega, by simp [h2], ?_, ?_, ?_, rfl⟩ (head_tb [] (by simp [rhoOk, objIds]) ?_ ?_)
    rotate_left 3
    · simp only [hid, keptV_cons, keptV_nil, tb_get, lk_same, lk_ne, lk_nil, ren, renL, lkp, N7, N1, N5, reduceIte, and_true, true_and, Nat.not_lt_zero, if_false, if_true, Nat.add_zero, Nat.zero_add]
      rw [wrap64 (n := (i : Int) + 1) (by omega) (by omega)]
      and_intros <;> first | rfl | (simp; done) | omega
    · rw [← ls]
      simp only [terO]
      exact below_set hb
    · intro u hu
      rcases List.mem_or_eq_of_mem_set hu with hu | rfl
      · exact hI u hu
      · show (mk t.c (k' + 1) t.c.length).length < _
        rw [mk_length (Nat.le_refl _)]; exact hL
    all_goals omega
  · simp only [push_cast, ↓J1, ↓J2, N1, N2, N3, reduceCtorEq, N4, N5, N6, reduceIte, N7, I1, I2, I3]
    refine ifB_intro (fun h => by simp at h; omega) (fun h => ?_)
    exact ⟨⟨k', rfl, by omega, by omega⟩, rfl, FrH.set, below_set hb, solid_set hs⟩
end
end Go.Proofs.YtjaccjeejeiphaaGreatDoor.X
set_option maxHeartbeats 2000000
set_option maxRecDepth 8000
set_option linter.unusedSimpArgs false
set_option linter.unusedVariables false
open Nat renaming reduceBEq → N1, reduceAdd → N2, reduceSub → N3, reduceMul → N4, reduceEqDiff → N5, reduceLeDiff → N6, reduceLT → N7
open Int renaming reduceLE → I1, reduceLT → I2, reduceToNat → I3
namespace Go.Proofs.YtjaccjeejeiphaaGreatDoor.X
open Go
attribute [local irreducible] Ev
def inn (x : Int) (row v : List Int) : Nat → List Int
  | 0 => v
  | k + 1 => (inn x row v k).set k (w64 ((inn x row v k).getD k 0 + w64 (x * row.getD k 0)))
def outS (W : List (List Int)) (o v : List Int) : Nat → List Int
  | 0 => v
  | i + 1 => inn (o.getD i 0) (W.getD i []) (outS W o v i) 3
def chS (W : List (List Int)) (o : List Int) : Nat → List Int
  | 0 => o
  | m + 1 => outS W (chS W o m) [0, 0, 0] 3
theorem inn_length (x : Int) (row v : List Int) : ∀ k, (inn x row v k).length = v.length
  | 0 => rfl
  | k + 1 => by simp [inn, inn_length x row v k]
theorem outS_length (W : List (List Int)) (o : List Int) {v : List Int} (h : v.length = 3) : ∀ i, (outS W o v i).length = 3
  | 0 => h
  | i + 1 => by rw [outS, inn_length, outS_length W o h i]
theorem chS_length (W : List (List Int)) {o : List Int} (h : o.length = 3) : ∀ m, (chS W o m).length = 3
  | 0 => h
  | m + 1 => outS_length W _ rfl 3
theorem good_rows {W : List (List Int)} (hg : goodW W = true) : W.length = 3 ∧ ∀ i, i < 3 → W[i]? = some (W.getD i []) ∧ (W.getD i []).length = 3 := by
  simp only [goodW, Bool.and_eq_true, decide_eq_true_eq] at hg
  refine ⟨hg.1, fun i hi => ?_⟩
  have hl : i < W.length := by omega
  have e : W.getD i [] = W[i] := by simp [List.getD, hl]
  have hr := List.all_eq_true.1 hg.2 _ (List.getElem_mem hl)
  simp only [rowOk, Bool.and_eq_true, decide_eq_true_eq] at hr
  rw [e]
  exact ⟨List.getElem?_eq_getElem hl, hr.1.1⟩
section
variable {C : CT} (hC : Closed Tryz.prog G1 md0 C)
include hC
end
end Go.Proofs.YtjaccjeejeiphaaGreatDoor.X
set_option maxHeartbeats 2000000
set_option maxRecDepth 8000
set_option linter.unusedSimpArgs false
set_option linter.unusedVariables false
open Nat renaming reduceBEq → N1, reduceAdd → N2, reduceSub → N3, reduceMul → N4, reduceEqDiff → N5, reduceLeDiff → N6, reduceLT → N7
open Int renaming reduceLE → I1, reduceLT → I2, reduceToNat → I3
namespace Go.Proofs.YtjaccjeejeiphaaGreatDoor.X
open Go
attribute [local irreducible] Ev szSS szRows
theorem szRows_lens : ∀ (W : List (List Int)) (v : Int), 0 ≤ v → 0 ≤ szRows W v → (lens W : Int) ≤ v
  | [], v, h0, _ => by simp [lens]; exact h0
  | s :: W, v, h0, h => by
    rw [szRows] at h
    split at h
    · omega
    · rename_i hs
      have := szRows_lens W (v - s.length) (by omega) h
      have e : lens (s :: W) = s.length + lens W := by simp [lens]
      rw [e]; omega
theorem szSS_lens {W : List (List Int)} {v : Int} (h0 : 0 ≤ v) (h : 0 ≤ szSS W v) : (lens W : Int) ≤ v := by
  rw [szSS] at h
  split at h
  · omega
  · have := szRows_lens W (v - W.length) (by omega) h
    omega
def run (k : Int) (n : Nat) : List Int := (List.range n).map (fun j : Nat => k + (j : Int))
theorem run_length {k : Int} {n : Nat} : (run k n).length = n := by simp [run]
theorem run_get {k : Int} {n i : Nat} (h : i < n) : (run k n).getD i 0 = k + i := by simp [run, List.getD, h]
theorem mk_run {l : List Int} {k : Int} : mk l k l.length = run k l.length := mk_all
theorem RetTo_lb {h : Heap} {id : Nat} {es : List (List AV)} {len : Nat} {b : Bool} (hg : hget h id = some (.slice 1 es)) (hl : len = es.length) : RetTo h (.tup [.ref id none 1 0 len, .bool b]) (.tup [.ow 1 es, .bool b]) := by
  subst hl
  exact RetTo_of (h2 := hdel h id) (by simp [conR, conRL, isF, hg])
theorem RetTo_nb {h : Heap} {b : Bool} : RetTo h (.tup [.nil, .bool b]) (.tup [.ow 1 [], .bool b]) :=
  ⟨.tup [.nil, .bool b], h, by simp [conR, conRL, isF], by simp [NilTo, NilToL]⟩
section
variable {C : CT} (hC : Closed Tryz.prog G1 md0 C)
include hC
theorem t104 (k : Int) (n : Nat) (hk : 0 ≤ k ∧ k < 2^50) (hn : n < 2^50) : Ev C 104 [.sl (ints (run k n)), .int .i64 k] (.int .i64 (k + n)) := by
  refine rT hC Q104 ?_
  simp only [c104, push_cast, ↓J1, ↓J2, N1, N2, N3, reduceCtorEq, N4, N5, N6, reduceIte, N7, I1, I2, I3]
  refine RL_count (fun i => ⟨tb 21 .any [(0, .sl (ints (run k n))), (1, .int .i64 (k + i)), (5, .int .i64 (i : Int))], [], 0⟩) (fun _ => True) n 0 (hdA []) (by omega) trivial fun i hi _ J hJ => ?_
  by_cases h1 : i < n
  · have e1 : (ints (run k n))[i]? = some [.int .i64 ((run k n).getD i 0)] := ints_get (by rw [run_length]; exact h1)
    simp only [ints_length, run_length, Int.toNat_natCast, e1, run_get h1, push_cast, ↓J1, ↓J2, N1, N2, N3, reduceCtorEq, N4, N5, N6, reduceIte, N7, I1, I2, I3]
    refine ifB_intro (fun _ => ?_) (fun h => by simp at h; omega)
    repeat (refine ⟨by omega, ?_⟩)
    refine hJ h1 trivial _ (hdA [] (hV := ?_))
    simp only [keptV_cons, keptV_nil, tb_get, lk_same, lk_ne, lk_nil, ren, renL, lkp, N7, N1, N5, reduceIte, and_true, true_and, Nat.not_lt_zero, if_false, if_true, Nat.add_zero, Nat.zero_add]
    rw [wrap64 (by omega) (by omega), wrap64 (by omega) (by omega)]
    simp; omega
  · obtain rfl : i = n := by omega
    simp only [ints_length, run_length, push_cast, ↓J1, ↓J2, N1, N2, N3, reduceCtorEq, N4, N5, N6, reduceIte, N7, I1, I2, I3]
    refine ifB_intro (fun h => by simp at h) (fun h => trivial)
def askCh (W : List (List Int)) (w n : Int) : Bool := goodW W && inR 0 2 w && inR 0 6 n
def resCh (W : List (List Int)) (w n : Int) : List Int := if askCh W w n then chS W ([0, 0, 0].set w.toNat 1) n.toNat else []
omit hC in
theorem resCh_length (W : List (List Int)) (w n : Int) : (resCh W w n).length ≤ 3 := by
  unfold resCh
  split
  · rw [chS_length _ (by simp)]; omega
  · simp
omit hC in
theorem own_lb (l : List Int) (b : Bool) : ownR (.tup [.ow 1 (ints l), .bool b]) = true := by
  have e := own_ints l
  simp only [ownR] at e
  simp only [ownR, ownRL, e, Bool.and_true]
end
end Go.Proofs.YtjaccjeejeiphaaGreatDoor.X
