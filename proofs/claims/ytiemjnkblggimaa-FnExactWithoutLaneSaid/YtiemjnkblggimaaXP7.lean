/- A part of the proof: lemmas on the machine or on the functions that the law reaches. No condition of its own. -/
import Derived.Test.YtiemjnkblggimaaXP6
import Derived.Test.YtiemjnkblggimaaXP2
set_option maxHeartbeats 1000000
set_option maxRecDepth 8000
set_option linter.unusedSimpArgs false
set_option linter.unusedVariables false
open Nat renaming reduceBEq → N1, reduceAdd → N2, reduceSub → N3, reduceMul → N4, reduceEqDiff → N5, reduceLeDiff → N6, reduceLT → N7
open Int renaming reduceLE → I1, reduceLT → I2, reduceToNat → I3
namespace Go.Proofs.Ytiemjnkblggimaa.X
open Go
/-! a heap that lies below n -/
def below (n : Nat) (h : Heap) : Prop := canB n [] h = h
theorem canB_le (n : Nat) : ∀ h : Heap, (canB n [] h).length ≤ h.length
  | [] => by simp [canB]
  | (i, o) :: h => by
    simp only [canB]
    have := canB_le n h
    split <;> simp <;> omega
theorem below_cons {n i : Nat} {o : Ob} {h : Heap} (hb : below n ((i, o) :: h)) : i < n ∧ renO n [] o = o ∧ below n h := by
  unfold below at hb
  simp only [canB] at hb
  split at hb
  · rename_i hi
    simp only [List.cons.injEq, Prod.mk.injEq, true_and] at hb
    exact ⟨hi, hb.1, hb.2⟩
  · have := canB_le n h
    rw [hb] at this
    simp at this
    omega
theorem below_mk {n i : Nat} {o : Ob} {h : Heap} (hi : i < n) (ho : renO n [] o = o) (hb : below n h) : below n ((i, o) :: h) := by
  unfold below at hb ⊢
  simp only [canB, hi, if_true, ho, hb]
theorem below_set {n : Nat} {id sz : Nat} {es : List (List AV)} : ∀ {h : Heap}, below n h → below n (hset h id (.slice sz es))
  | [], _ => rfl
  | (i, o) :: h, hb => by
    obtain ⟨h1, h2, h3⟩ := below_cons hb
    simp only [hset]
    split
    · exact below_mk h1 rfl h3
    · exact below_mk h1 h2 (below_set h3)
theorem below_lt {n : Nat} {id : Nat} {o : Ob} : ∀ {h : Heap}, below n h → hget h id = some o → id < n
  | [], _, hg => by simp [hget] at hg
  | (i, o') :: h, hb, hg => by
    obtain ⟨h1, h2, h3⟩ := below_cons hb
    simp only [hget] at hg
    split at hg
    · rename_i e; omega
    · exact below_lt h3 hg
theorem hget_same {h : Heap} {id : Nat} {o u : Ob} (hg : hget h id = some o) : hget (hset h id u) id = some u := by
  rw [hget_set]; simp [hg]
theorem hset_hset {id : Nat} {u v : Ob} : ∀ {h : Heap}, hset (hset h id u) id v = hset h id v
  | [] => rfl
  | (i, o) :: h => by
    simp only [hset]
    split
    · rename_i e; simp [hset, e]
    · rename_i e; simp only [hset, if_neg e, hset_hset]
theorem hset_get {id : Nat} {u : Ob} : ∀ {h : Heap}, hget h id = some u → hset h id u = h
  | [], hg => rfl
  | (i, o) :: h, hg => by
    simp only [hget] at hg
    simp only [hset]
    split at hg
    · rename_i e
      simp only [Option.some.injEq] at hg
      subst hg; simp [e]
    · rename_i e; rw [if_neg e, hset_get hg]
theorem kill_set {id sz : Nat} {es : List (List AV)} : ∀ {h : Heap}, killH (hset h id (.slice sz es)) = hset (killH h) id (.slice sz es)
  | [] => rfl
  | (i, .var cs) :: h => by
    simp only [hset]
    split
    · rename_i e; simp [killH, hset, e]
    · rename_i e; simp only [killH, hset, if_neg e, kill_set]
  | (i, .slice a b) :: h => by
    simp only [hset]
    split
    · rename_i e; simp [killH, hset, e]
    · rename_i e; simp only [killH, hset, if_neg e, kill_set]
/-! what is a list of numbers -/
def mk (l : List Int) (k : Int) (i : Nat) : List Int := (List.range i).map (fun j : Nat => k + (j : Int)) ++ l.drop i
theorem mk_length {l : List Int} {k : Int} {i : Nat} (h : i ≤ l.length) : (mk l k i).length = l.length := by simp [mk]; omega
theorem mk_succ {l : List Int} {k : Int} {i : Nat} (h : i < l.length) : (mk l k i).set i (k + i) = mk l k (i + 1) := by
  have e : l.drop i = l[i] :: l.drop (i + 1) := List.drop_eq_getElem_cons h
  simp only [mk, e, List.range_succ, List.map_append, List.map_cons, List.map_nil, List.append_assoc, List.cons_append, List.nil_append]
  rw [mid_set (by simp)]
theorem mk_all {l : List Int} {k : Int} : mk l k l.length = (List.range l.length).map (fun j : Nat => k + (j : Int)) := by simp [mk]
theorem mk_zero {l : List Int} {k : Int} : mk l k 0 = l := by simp [mk]
section
variable {C : CT} (hC : Closed Try.prog G0 md0 C)
include hC
theorem t16 (l : List Int) (k : Int) (h : Heap) (id n : Nat) (hg : hget h id = some (.slice 1 (ints l))) (hb : below n h) (hk : 0 ≤ k ∧ k < 2^50) (hl : l.length < 2^50) : C 16 [.ref id none 1 0 l.length, .int .i64 k] h n (fun v h' n' => v = .int .i64 (k + l.length) ∧ n' = n ∧ h' = hset h id (.slice 1 (ints (mk l k l.length)))) := by
  have hid := below_lt hb hg
  refine Closed.rT hC Q16 ?_
  simp only [c16, push_cast, ↓J1, ↓J2, N1, N2, N3, reduceCtorEq, N4, N5, N6, reduceIte, N7, I1, I2, I3]
  refine RL_count (fun i => ⟨tb 19 .any [(0, .ref id none 1 0 l.length), (1, .int .i64 (k + i)), (5, .int .i64 (i : Int))], hset h id (.slice 1 (ints (mk l k i))), n⟩) (fun _ => True) l.length 0 (head_tb [] (by simp [rhoOk, objIds]) (by simp only [hid, keptV_cons, keptV_nil, tb_get, lk_same, lk_ne, lk_nil, ren, renL, lkp, N7, N1, N5, reduceIte, and_true, true_and, Nat.not_lt_zero, if_false, if_true, Nat.add_zero, Nat.zero_add]; simp) (by rw [mk_zero, hset_get hg]; exact hb)) (by omega) trivial fun i hi _ J hJ => ?_
  have hgi : hget (hset h id (.slice 1 (ints (mk l k i)))) id = some (.slice 1 (ints (mk l k i))) := hget_same hg
  by_cases h1 : i < l.length
  · have e1 : (ints (mk l k i))[i]? = some [.int .i64 ((mk l k i).getD i 0)] := ints_get (by rw [mk_length hi]; exact h1)
    simp only [Int.toNat_natCast, hgi, e1, push_cast, ↓J1, ↓J2, N1, N2, N3, reduceCtorEq, N4, N5, N6, reduceIte, N7, I1, I2, I3]
    refine ifB_intro (fun _ => ⟨by omega, by omega, ?_⟩) (fun h => by simp at h; omega)
    refine hJ h1 trivial _ (head_tb [] (by simp [rhoOk, objIds]) ?_ ?_)
    · simp only [hid, keptV_cons, keptV_nil, tb_get, lk_same, lk_ne, lk_nil, ren, renL, lkp, N7, N1, N5, reduceIte, and_true, true_and, Nat.not_lt_zero, if_false, if_true, Nat.add_zero, Nat.zero_add]
      rw [wrap64 (by omega) (by omega), wrap64 (by omega) (by omega)]
      simp; omega
    · rw [ints_set, mk_succ h1, hset_hset]
      exact below_set hb
  · obtain rfl : i = l.length := by omega
    simp only [push_cast, ↓J1, ↓J2, N1, N2, N3, reduceCtorEq, N4, N5, N6, reduceIte, N7, I1, I2, I3]
    refine ifB_intro (fun h => by simp at h) (fun h => ?_)
    trivial
theorem t16s (l : List Int) (k : Int) (h : Heap) (id n i0 : Nat) (es : List (List AV)) (hg : hget h id = some (.slice 1 es)) (he : es[i0]? = some [.ow 1 (ints l)]) (hb : below n h) (hk : 0 ≤ k ∧ k < 2^50) (hl : l.length < 2^50) : C 16 [.ref id (some (1, i0, 0)) 1 0 l.length, .int .i64 k] h n (fun v h' n' => v = .int .i64 (k + l.length) ∧ n' = n ∧ h' = hset h id (.slice 1 (es.set i0 [.ow 1 (ints (mk l k l.length))]))) := by
  have hid := below_lt hb hg
  have hi0 : i0 < es.length := by
    rcases Nat.lt_or_ge i0 es.length with h | h
    · exact h
    · rw [List.getElem?_eq_none_iff.2 h] at he; cases he
  refine Closed.rT hC Q16 ?_
  simp only [c16, push_cast, ↓J1, ↓J2, N1, N2, N3, reduceCtorEq, N4, N5, N6, reduceIte, N7, I1, I2, I3]
  refine RL_count (fun i => ⟨tb 19 .any [(0, .ref id (some (1, i0, 0)) 1 0 l.length), (1, .int .i64 (k + i)), (5, .int .i64 (i : Int))], hset h id (.slice 1 (es.set i0 [.ow 1 (ints (mk l k i))])), n⟩) (fun _ => True) l.length 0 (head_tb [] (by simp [rhoOk, objIds]) (by simp only [hid, keptV_cons, keptV_nil, tb_get, lk_same, lk_ne, lk_nil, ren, renL, lkp, N7, N1, N5, reduceIte, and_true, true_and, Nat.not_lt_zero, if_false, if_true, Nat.add_zero, Nat.zero_add]; simp) ?_) (by omega) trivial fun i hi _ J hJ => ?_
  · rw [mk_zero]
    have : es.set i0 [.ow 1 (ints l)] = es := by
      apply List.ext_getElem?
      intro j
      rw [List.getElem?_set]
      split
      · rename_i e; subst e; rw [he]
      · rfl
    rw [this, hset_get hg]; exact hb
  have hgi : hget (hset h id (.slice 1 (es.set i0 [.ow 1 (ints (mk l k i))]))) id = some (.slice 1 (es.set i0 [.ow 1 (ints (mk l k i))])) := hget_same hg
  have hei : (es.set i0 [.ow 1 (ints (mk l k i))])[i0]? = some [.ow 1 (ints (mk l k i))] := by simp [hi0]
  by_cases h1 : i < l.length
  · have e1 : (ints (mk l k i))[i]? = some [.int .i64 ((mk l k i).getD i 0)] := ints_get (by rw [mk_length hi]; exact h1)
    simp only [Int.toNat_natCast, hgi, hei, e1, push_cast, ↓J1, ↓J2, N1, N2, N3, reduceCtorEq, N4, N5, N6, reduceIte, N7, I1, I2, I3]
    refine ifB_intro (fun _ => ⟨by omega, by omega, ?_⟩) (fun h => by simp at h; omega)
    refine hJ h1 trivial _ (head_tb [] (by simp [rhoOk, objIds]) ?_ ?_)
    · simp only [hid, keptV_cons, keptV_nil, tb_get, lk_same, lk_ne, lk_nil, ren, renL, lkp, N7, N1, N5, reduceIte, and_true, true_and, Nat.not_lt_zero, if_false, if_true, Nat.add_zero, Nat.zero_add]
      rw [wrap64 (by omega) (by omega), wrap64 (by omega) (by omega)]
      simp; omega
    · rw [ints_set, mk_succ h1, List.set_set, hset_hset]
      exact below_set hb
  · obtain rfl : i = l.length := by omega
    simp only [push_cast, ↓J1, ↓J2, N1, N2, N3, reduceCtorEq, N4, N5, N6, reduceIte, N7, I1, I2, I3]
    refine ifB_intro (fun h => by simp at h) (fun h => ?_)
    trivial
end
end Go.Proofs.Ytiemjnkblggimaa.X
set_option maxHeartbeats 1000000
set_option maxRecDepth 8000
set_option linter.unusedSimpArgs false
set_option linter.unusedVariables false
open Nat renaming reduceBEq → N1, reduceAdd → N2, reduceSub → N3, reduceMul → N4, reduceEqDiff → N5, reduceLeDiff → N6, reduceLT → N7
open Int renaming reduceLE → I1, reduceLT → I2, reduceToNat → I3
namespace Go.Proofs.Ytiemjnkblggimaa.X
open Go
attribute [local irreducible] Ev
def mkR : List (List Int) → Int → List (List Int)
  | [], _ => []
  | r :: W, k => mk r k r.length :: mkR W (k + r.length)
def mkW (W : List (List Int)) (k : Int) (i : Nat) : List (List Int) := mkR (W.take i) k ++ W.drop i
theorem mkR_length : ∀ (W : List (List Int)) (k : Int), (mkR W k).length = W.length
  | [], k => rfl
  | r :: W, k => by simp [mkR, mkR_length W]
theorem mkR_append : ∀ (W V : List (List Int)) (k : Int), mkR (W ++ V) k = mkR W k ++ mkR V (k + lens W)
  | [], V, k => by simp [mkR, lens]
  | r :: W, V, k => by
    have e : k + (r.length : Int) + (lens W : Int) = k + (lens (r :: W) : Int) := by simp [lens]; omega
    simp only [List.cons_append, mkR, mkR_append W, e]
theorem mkW_length {W : List (List Int)} {k : Int} {i : Nat} (h : i ≤ W.length) : (mkW W k i).length = W.length := by simp [mkW, mkR_length]; omega
theorem mkW_succ {W : List (List Int)} {k : Int} {i : Nat} (h : i < W.length) : (owss (mkW W k i)).set i [.ow 1 (ints (mk W[i] (k + lens (W.take i)) W[i].length))] = owss (mkW W k (i + 1)) := by
  have e : W.drop i = W[i] :: W.drop (i + 1) := List.drop_eq_getElem_cons h
  have hl : (mkR (W.take i) k).length = i := by rw [mkR_length]; simp; omega
  simp only [mkW, e, List.take_succ_eq_append_getElem h, mkR_append, owss, List.map_append, List.map_cons, mkR, List.map_nil, List.append_assoc, List.cons_append, List.nil_append]
  rw [mid_set (by simp [hl])]
theorem mkW_get {W : List (List Int)} {k : Int} {i : Nat} (h : i < W.length) : (owss (mkW W k i))[i]? = some [.ow 1 (ints W[i])] := by
  have e : W.drop i = W[i] :: W.drop (i + 1) := List.drop_eq_getElem_cons h
  have hl : (mkR (W.take i) k).length = i := by rw [mkR_length]; simp; omega
  simp only [mkW, e, owss, List.map_append, List.map_cons]
  rw [mid_get (by simp [hl])]
theorem mkW_zero {W : List (List Int)} {k : Int} : mkW W k 0 = W := by simp [mkW, mkR]
mutual
theorem ren_mono {n : Nat} : ∀ x : AV, ren n [] x = x → ren (n + 1) [] x = x
  | .ref id sub sz off len, h => by
    simp only [ren, lkp] at h ⊢
    split at h
    · rw [if_pos (by omega)]
    · cases h
  | .ptr id sub sz i c, h => by
    simp only [ren, lkp] at h ⊢
    split at h
    · rw [if_pos (by omega)]
    · cases h
  | .fn f cs, h => by
    simp only [ren, AV.fn.injEq, true_and] at h ⊢
    exact renL_mono cs h
  | .agg cs, h => by
    simp only [ren, AV.agg.injEq] at h ⊢
    exact renL_mono cs h
  | .tup cs, h => by
    simp only [ren, AV.tup.injEq] at h ⊢
    exact renL_mono cs h
  | .any, h => by simp [ren]
  | .con _, h => by simp [ren]
  | .int _ _, h => by simp [ren]
  | .bool _, h => by simp [ren]
  | .str _, h => by simp [ren]
  | .nil, h => by simp [ren]
  | .sl _, h => by simp [ren]
  | .pf _, h => by simp [ren]
  | .ow _ _, h => by simp [ren]
  | .op _, h => by simp [ren]
theorem renL_mono {n : Nat} : ∀ xs : List AV, renL n [] xs = xs → renL (n + 1) [] xs = xs
  | [], _ => by simp [renL]
  | x :: xs, h => by
    simp only [renL, List.cons.injEq] at h ⊢
    exact ⟨ren_mono x h.1, renL_mono xs h.2⟩
end
theorem below_succ {n : Nat} : ∀ {h : Heap}, below n h → below (n + 1) h
  | [], _ => rfl
  | (i, o) :: h, hb => by
    obtain ⟨h1, h2, h3⟩ := below_cons hb
    refine below_mk (by omega) ?_ (below_succ h3)
    cases o with
    | slice sz es => rfl
    | var cs =>
      simp only [renO, Ob.var.injEq] at h2 ⊢
      exact renL_mono cs h2
def solid (h : Heap) : Prop := killH h = h
theorem solid_set {id sz : Nat} {es : List (List AV)} {h : Heap} (hs : solid h) : solid (hset h id (.slice sz es)) := by
  unfold solid at *
  rw [kill_set, hs]
theorem lens_le : ∀ (W : List (List Int)) (i : Nat), lens (W.take i) ≤ lens W
  | [], i => by simp
  | r :: W, 0 => by simp [lens]
  | r :: W, i + 1 => by
    have := lens_le W i
    simp [lens] at this ⊢
    omega
section
variable {C : CT} (hC : Closed Try.prog G0 md0 C)
include hC
end
end Go.Proofs.Ytiemjnkblggimaa.X
set_option maxHeartbeats 2000000
set_option maxRecDepth 8000
set_option linter.unusedSimpArgs false
set_option linter.unusedVariables false
open Nat renaming reduceBEq → N1, reduceAdd → N2, reduceSub → N3, reduceMul → N4, reduceEqDiff → N5, reduceLeDiff → N6, reduceLT → N7
open Int renaming reduceLE → I1, reduceLT → I2, reduceToNat → I3
namespace Go.Proofs.Ytiemjnkblggimaa.X
open Go
attribute [local irreducible] Ev
def inn (x : Int) (row v : List Int) : Nat → List Int
  | 0 => v
  | k + 1 => (inn x row v k).set k (w64 ((inn x row v k).getD k 0 + w64 (x * row.getD k 0)))
def outS (W : List (List Int)) (o v : List Int) : Nat → List Int
  | 0 => v
  | i + 1 => inn (o.getD i 0) (W.getD i []) (outS W o v i) 3
def chS (W : List (List Int)) (o : List Int) : Nat → List Int
  | 0 => o
  | m + 1 => outS W (chS W o m) [0, 0, 0] 3
theorem inn_length (x : Int) (row v : List Int) : ∀ k, (inn x row v k).length = v.length
  | 0 => rfl
  | k + 1 => by simp [inn, inn_length x row v k]
theorem outS_length (W : List (List Int)) (o : List Int) {v : List Int} (h : v.length = 3) : ∀ i, (outS W o v i).length = 3
  | 0 => h
  | i + 1 => by rw [outS, inn_length, outS_length W o h i]
theorem chS_length (W : List (List Int)) {o : List Int} (h : o.length = 3) : ∀ m, (chS W o m).length = 3
  | 0 => h
  | m + 1 => outS_length W _ rfl 3
theorem good_rows {W : List (List Int)} (hg : goodW W = true) : W.length = 3 ∧ ∀ i, i < 3 → W[i]? = some (W.getD i []) ∧ (W.getD i []).length = 3 := by
  simp only [goodW, Bool.and_eq_true, decide_eq_true_eq] at hg
  refine ⟨hg.1, fun i hi => ?_⟩
  have hl : i < W.length := by omega
  have e : W.getD i [] = W[i] := by simp [List.getD, hl]
  have hr := List.all_eq_true.1 hg.2 _ (List.getElem_mem hl)
  simp only [rowOk, Bool.and_eq_true, decide_eq_true_eq] at hr
  rw [e]
  exact ⟨List.getElem?_eq_getElem hl, hr.1.1⟩
section
variable {C : CT} (hC : Closed Try.prog G0 md0 C)
include hC
end
end Go.Proofs.Ytiemjnkblggimaa.X
set_option maxHeartbeats 2000000
set_option maxRecDepth 8000
set_option linter.unusedSimpArgs false
set_option linter.unusedVariables false
open Nat renaming reduceBEq → N1, reduceAdd → N2, reduceSub → N3, reduceMul → N4, reduceEqDiff → N5, reduceLeDiff → N6, reduceLT → N7
open Int renaming reduceLE → I1, reduceLT → I2, reduceToNat → I3
namespace Go.Proofs.Ytiemjnkblggimaa.X
open Go
attribute [local irreducible] Ev szSS szRows
theorem szRows_lens : ∀ (W : List (List Int)) (v : Int), 0 ≤ v → 0 ≤ szRows W v → (lens W : Int) ≤ v
  | [], v, h0, _ => by simp [lens]; exact h0
  | s :: W, v, h0, h => by
    rw [szRows] at h
    split at h
    · omega
    · rename_i hs
      have := szRows_lens W (v - s.length) (by omega) h
      have e : lens (s :: W) = s.length + lens W := by simp [lens]
      rw [e]; omega
theorem szSS_lens {W : List (List Int)} {v : Int} (h0 : 0 ≤ v) (h : 0 ≤ szSS W v) : (lens W : Int) ≤ v := by
  rw [szSS] at h
  split at h
  · omega
  · have := szRows_lens W (v - W.length) (by omega) h
    omega
def run (k : Int) (n : Nat) : List Int := (List.range n).map (fun j : Nat => k + (j : Int))
theorem run_length {k : Int} {n : Nat} : (run k n).length = n := by simp [run]
theorem run_get {k : Int} {n i : Nat} (h : i < n) : (run k n).getD i 0 = k + i := by simp [run, List.getD, h]
theorem mk_run {l : List Int} {k : Int} : mk l k l.length = run k l.length := mk_all
theorem RetTo_lb {h : Heap} {id : Nat} {es : List (List AV)} {len : Nat} {b : Bool} (hg : hget h id = some (.slice 1 es)) (hl : len = es.length) : RetTo h (.tup [.ref id none 1 0 len, .bool b]) (.tup [.ow 1 es, .bool b]) := by
  subst hl
  exact RetTo_of (h2 := hdel h id) (by simp [conR, conRL, isF, hg])
theorem RetTo_nb {h : Heap} {b : Bool} : RetTo h (.tup [.nil, .bool b]) (.tup [.ow 1 [], .bool b]) :=
  ⟨.tup [.nil, .bool b], h, by simp [conR, conRL, isF], by simp [NilTo, NilToL]⟩
section
variable {C : CT} (hC : Closed Try.prog G0 md0 C)
include hC
theorem t17 (k : Int) (n : Nat) (hk : 0 ≤ k ∧ k < 2^50) (hn : n < 2^50) : Ev C 17 [.sl (ints (run k n)), .int .i64 k] (.int .i64 (k + n)) := by
  refine rT hC Q17 ?_
  simp only [c17, push_cast, ↓J1, ↓J2, N1, N2, N3, reduceCtorEq, N4, N5, N6, reduceIte, N7, I1, I2, I3]
  refine RL_count (fun i => ⟨tb 21 .any [(0, .sl (ints (run k n))), (1, .int .i64 (k + i)), (5, .int .i64 (i : Int))], [], 0⟩) (fun _ => True) n 0 (hdA []) (by omega) trivial fun i hi _ J hJ => ?_
  by_cases h1 : i < n
  · have e1 : (ints (run k n))[i]? = some [.int .i64 ((run k n).getD i 0)] := ints_get (by rw [run_length]; exact h1)
    simp only [ints_length, run_length, Int.toNat_natCast, e1, run_get h1, push_cast, ↓J1, ↓J2, N1, N2, N3, reduceCtorEq, N4, N5, N6, reduceIte, N7, I1, I2, I3]
    refine ifB_intro (fun _ => ?_) (fun h => by simp at h; omega)
    repeat (refine ⟨by omega, ?_⟩)
    refine hJ h1 trivial _ (hdA [] (hV := ?_))
    simp only [keptV_cons, keptV_nil, tb_get, lk_same, lk_ne, lk_nil, ren, renL, lkp, N7, N1, N5, reduceIte, and_true, true_and, Nat.not_lt_zero, if_false, if_true, Nat.add_zero, Nat.zero_add]
    rw [wrap64 (by omega) (by omega), wrap64 (by omega) (by omega)]
    simp; omega
  · obtain rfl : i = n := by omega
    simp only [ints_length, run_length, push_cast, ↓J1, ↓J2, N1, N2, N3, reduceCtorEq, N4, N5, N6, reduceIte, N7, I1, I2, I3]
    refine ifB_intro (fun h => by simp at h) (fun h => trivial)
def askCh (W : List (List Int)) (w n : Int) : Bool := goodW W && inR 0 2 w && inR 0 6 n
def resCh (W : List (List Int)) (w n : Int) : List Int := if askCh W w n then chS W ([0, 0, 0].set w.toNat 1) n.toNat else []
omit hC in
theorem resCh_length (W : List (List Int)) (w n : Int) : (resCh W w n).length ≤ 3 := by
  unfold resCh
  split
  · rw [chS_length _ (by simp)]; omega
  · simp
omit hC in
theorem own_lb (l : List Int) (b : Bool) : ownR (.tup [.ow 1 (ints l), .bool b]) = true := by
  have e := own_ints l
  simp only [ownR] at e
  simp only [ownR, ownRL, e, Bool.and_true]
end
end Go.Proofs.Ytiemjnkblggimaa.X
set_option maxHeartbeats 4000000
set_option maxRecDepth 8000
set_option linter.unusedSimpArgs false
set_option linter.unusedVariables false
open Nat renaming reduceBEq → N1, reduceAdd → N2, reduceSub → N3, reduceMul → N4, reduceEqDiff → N5, reduceLeDiff → N6, reduceLT → N7
open Int renaming reduceLE → I1, reduceLT → I2, reduceToNat → I3
namespace Go.Proofs.Ytiemjnkblggimaa.X
open Go
attribute [local irreducible] Ev fE
def cuF (p : Nat → Bool) (k : Nat) : List Nat := (List.range k).filter p
theorem cuF_succ (p : Nat → Bool) (k : Nat) : cuF p (k + 1) = cuF p k ++ (if p k then [k] else []) := by
  simp only [cuF, List.range_succ, List.filter_append, List.filter_cons, List.filter_nil]
theorem cuF_le (p : Nat → Bool) (k : Nat) : (cuF p k).length ≤ k := by
  have := List.length_filter_le p (List.range k)
  simpa [cuF] using this
def cuN (lim : Int) (L : Lanes) (F T D : Nat) : List Int := ni (cuF (seen (fE (sN L F T D) (nN L D) F (eN L T D) lim).1 (nN L D) F) (nN L D))
def cuR (lim : Int) (L : Lanes) (F T D : Int) : List Int := if askT L F T D then cuN lim L F.toNat T.toNat D.toNat else []
theorem cuN_len {lim : Int} {L : Lanes} {F T D : Nat} (h : nN L D ≤ 42) : (cuN lim L F T D).length ≤ 42 := by
  rw [cuN, ni_length]; exact Nat.le_trans (cuF_le _ _) h
theorem cuN_I {lim lim' : Int} {L : Lanes} {F T D : Nat} (x : Deliv lim lim' L F T D) : cuN lim L F T D = ni (cuF (seen (fE (iN L F T D) (nN L D) F (eN L T D) lim').1 (nN L D) F) (nN L D)) := by
  rw [cuN, cuF, cuF]
  congr 1
  apply List.filter_congr
  intro w hw
  exact (x.sn w (by simpa using hw)).symm
section
variable {C : CT} (hC : Closed Try.prog G0 md0 C)
include hC
end
end Go.Proofs.Ytiemjnkblggimaa.X
set_option maxHeartbeats 1000000
set_option maxRecDepth 8000
set_option linter.unusedSimpArgs false
set_option linter.unusedSectionVars false
set_option linter.unusedVariables false
open Nat renaming reduceBEq → N1, reduceAdd → N2, reduceSub → N3, reduceMul → N4, reduceEqDiff → N5, reduceLeDiff → N6, reduceLT → N7
open Int renaming reduceLE → I1, reduceLT → I2, reduceToNat → I3
namespace Go.Proofs.Ytiemjnkblggimaa.X
open Go
theorem has_lane {k : Nat} {xs : List AV} (h : Has Try.prog (k + 6) 77 xs) : ∃ p : Ln, xs = lnA p := by
  have h := has_struct sty_77 h
  obtain ⟨x1, r, rfl, _, h1, h⟩ := hasE_cons h
  obtain ⟨x2, r, rfl, _, h2, h⟩ := hasE_cons h
  obtain ⟨x3, r, rfl, _, h3, h⟩ := hasE_cons h
  obtain rfl := hasE_nil h
  obtain ⟨a, rfl, _⟩ := has_int tk_3 h1
  obtain ⟨b, rfl, _⟩ := has_int tk_3 h2
  obtain ⟨c, rfl, _⟩ := has_int tk_3 h3
  exact ⟨⟨a, b, c⟩, rfl⟩
theorem has_ints {k : Nat} {xs : List AV} (h : Has Try.prog (k + 2) 23 xs) : ∃ l, xs = [.sl (ints l)] ∧ l.length < 2 ^ 50 := by
  obtain ⟨es, rfl, _, hb, he⟩ := has_slice tk_23 h
  rw [bo_3] at hb
  obtain ⟨l, rfl⟩ := all_map (f := fun n : Int => [AV.int .i64 n]) (es := es) fun e hx => by
    obtain ⟨n, hn, _⟩ := has_int tk_3 (he e hx).2
    exact ⟨n, hn⟩
  simp only [reachBytes, List.length_map] at hb
  exact ⟨l, rfl, by omega⟩
theorem has_lanes {k : Nat} {xs : List AV} (h : Has Try.prog (k + 7) 22 xs) : ∃ l, xs = [.sl (lns l)] ∧ l.length < 2 ^ 50 := by
  obtain ⟨es, rfl, _, hb, he⟩ := has_slice tk_22 h
  rw [bo_77] at hb
  obtain ⟨l, rfl⟩ := all_map (f := lnA) (es := es) fun e hx => has_lane (he e hx).2
  simp only [reachBytes, List.length_map] at hb
  exact ⟨l, rfl, by omega⟩
end Go.Proofs.Ytiemjnkblggimaa.X
set_option maxHeartbeats 4000000
set_option maxRecDepth 8000
set_option linter.unusedSimpArgs false
set_option linter.unusedSectionVars false
set_option linter.unusedVariables false
open Nat renaming reduceBEq → N1, reduceAdd → N2, reduceSub → N3, reduceMul → N4, reduceEqDiff → N5, reduceLeDiff → N6, reduceLT → N7
open Int renaming reduceLE → I1, reduceLT → I2, reduceToNat → I3
namespace Go.Proofs.Ytiemjnkblggimaa.X
open Go
attribute [local irreducible] Ev
def mkL (k : Int) (i : Nat) : List Ln := (List.range i).map fun j : Nat => ⟨k + 3 * (j : Int), k + 3 * (j : Int) + 1, k + 3 * (j : Int) + 2⟩
theorem mkL_length {k : Int} {i : Nat} : (mkL k i).length = i := by simp [mkL]
theorem mkL_succ {l : List Ln} {k : Int} {i : Nat} (h : i < l.length) : (lns (mkL k i ++ l.drop i)).set i [.int .i64 (k + 3 * (i : Int)), .int .i64 (k + 3 * (i : Int) + 1), .int .i64 (k + 3 * (i : Int) + 2)] = lns (mkL k (i + 1) ++ l.drop (i + 1)) := by
  have e : l.drop i = l[i] :: l.drop (i + 1) := List.drop_eq_getElem_cons h
  simp only [e, lns, List.map_append, List.map_cons]
  rw [mid_set (by simp [mkL])]
  simp only [mkL, List.range_succ, List.map_append, List.map_cons, List.map_nil, List.append_assoc, List.cons_append, List.nil_append, lnA]
theorem hset_cons_ne {h : Heap} {n id : Nat} {o u : Ob} (hn : n ≠ id) : hset ((n, o) :: h) id u = (n, o) :: hset h id u := by
  simp only [hset, if_neg hn]
section
variable {C : CT} (hC : Closed Try.prog G0 md0 C)
include hC
theorem t34 (l : List Ln) (k : Int) (h : Heap) (id n : Nat) (hg : hget h id = some (.slice 3 (lns l))) (hb : below n h) (hk : 0 ≤ k ∧ k ≤ 2^48) (hl : l.length < 2^40) : C 34 [.ref id none 3 0 l.length, .int .i64 k] h n (fun v h' n' => v = .int .i64 (k + 3 * (l.length : Int)) ∧ n' = n ∧ h' = hset h id (.slice 3 (lns (mkL k l.length)))) := by
  have hid := below_lt hb hg
  refine Closed.rT hC Q34 ?_
  simp only [c34, push_cast, ↓J1, ↓J2, N1, N2, N3, reduceCtorEq, N4, N5, N6, reduceIte, N7, I1, I2, I3]
  have hgi : ∀ es : List (List AV), hget (hset h id (.slice 3 es)) id = some (.slice 3 es) := fun es => hget_same hg
  refine RL_count (fun i => ⟨tb 34 .any [(0, .ref id none 3 0 l.length), (1, .int .i64 (k + 3 * (i : Int))), (5, .int .i64 (i : Int))], hset h id (.slice 3 (lns (mkL k i ++ l.drop i))), n⟩) (fun _ => True) l.length 0 (head_tb [] (by simp [rhoOk, objIds]) (by simp only [hid, keptV_cons, keptV_nil, tb_get, lk_same, lk_ne, lk_nil, ren, renL, lkp, N7, N1, N5, reduceIte, and_true, true_and, Nat.not_lt_zero, if_false, if_true, Nat.add_zero, Nat.zero_add]; all_goals simp) (by rw [show mkL k 0 ++ l.drop 0 = l from rfl, hset_get hg]; exact hb)) (by omega) trivial fun i hi _ J hJ => ?_
  by_cases h1 : i < l.length
  · have hlen : (lns (mkL k i ++ l.drop i)).length = l.length := by simp [lns, mkL]; omega
    have e1 : ∃ u : Ln, (lns (mkL k i ++ l.drop i))[i]? = some (lnA u) := ⟨_, by rw [lns, List.getElem?_map, List.getElem?_eq_getElem (by simp [mkL]; omega)]; rfl⟩
    obtain ⟨t, e1⟩ := e1
    have gs : ∀ e : List AV, ((lns (mkL k i ++ l.drop i)).set i e)[i]? = some e := by intro e; rw [List.getElem?_set, if_pos rfl, if_pos (by omega)]
    have ls := mkL_succ (l := l) (k := k) h1
    have w0 : IntKind.i64.wrap (k + 3 * (i : Int) + 1) = k + 3 * (i : Int) + 1 := wrap64 (by omega) (by omega)
    have w1 : IntKind.i64.wrap (k + 3 * (i : Int) + 1 + 1) = k + 3 * (i : Int) + 1 + 1 := wrap64 (by omega) (by omega)
    have w2 : IntKind.i64.wrap (k + 3 * (i : Int) + 1 + 1 + 1) = k + 3 * (i : Int) + 1 + 1 + 1 := wrap64 (by omega) (by omega)
    have ea : k + 3 * (i : Int) + 1 + 1 = k + 3 * (i : Int) + 2 := by omega
    simp only [Int.toNat_natCast, hgi, e1, lnA, push_cast, ↓J1, ↓J2, N1, N2, N3, reduceCtorEq, N4, N5, N6, reduceIte, N7, I1, I2, I3]
    refine ifB_intro (fun _ => ?_) (fun h => by simp at h; omega)
    repeat (refine ⟨by omega, ?_⟩)
    repeat' (first | refine ⟨by omega, ?_⟩ | simp only [Int.toNat_natCast, hgi, e1, gs, hset_hset, List.set_set, setsA, List.set_cons_zero, List.set_cons_succ, lnA, w0, w1, w2, push_cast, ↓J1, ↓J2, N1, N2, N3, reduceCtorEq, N4, N5, N6, reduceIte, N7, I1, I2, I3])
    refine hJ h1 trivial _ (head_tb [] (by simp [rhoOk, objIds]) ?_ ?_)
    · simp only [hid, keptV_cons, keptV_nil, tb_get, lk_same, lk_ne, lk_nil, ren, renL, lkp, N7, N1, N5, reduceIte, and_true, true_and, Nat.not_lt_zero, if_false, if_true, Nat.add_zero, Nat.zero_add]
      rw [wrap64 (n := (i : Int) + 1) (by omega) (by omega), show k + 3 * ((i + 1 : Nat) : Int) = k + 3 * (i : Int) + 1 + 1 + 1 by omega]
      and_intros <;> rfl
    · rw [← ls]
      simp only [lnA, ea]
      exact below_set hb
  · obtain rfl : i = l.length := by omega
    simp only [push_cast, ↓J1, ↓J2, N1, N2, N3, reduceCtorEq, N4, N5, N6, reduceIte, N7, I1, I2, I3]
    refine ifB_intro (fun h => by simp at h) (fun h => ?_)
    rw [List.drop_length, List.append_nil]
theorem t11 (d : Int) (l : List Ln) (q : List Int) (k : Int) (h : Heap) (i j n : Nat) (hg : hget h i = some (.slice 3 (lns l))) (hg2 : hget h j = some (.slice 1 (ints q))) (hij : i ≠ j) (hb : below n h) (hs : solid h) (hk : 0 ≤ k ∧ k ≤ 2^47) (hl : l.length < 2^40) (hq : q.length < 2^40) : C 11 [.agg [.int .i64 d, .ref i none 3 0 l.length, .ref j none 1 0 q.length], .int .i64 k] h n (fun v h' n' => v = .int .i64 (k + 3 * (l.length : Int) + q.length) ∧ n' = n + 1 ∧ h' = (n, .var [.int .i64 d, .ref i none 3 0 l.length, .ref j none 1 0 q.length]) :: hset (hset h i (.slice 3 (lns (mkL k l.length)))) j (.slice 1 (ints (mk q (k + 3 * (l.length : Int)) q.length)))) := by
  have qi := below_lt hb hg
  have qj := below_lt hb hg2
  refine Closed.rT hC Q11 ?_
  simp only [c11, push_cast, ↓J1, ↓J2, N1, N2, N3, reduceCtorEq, N4, N5, N6, reduceIte, N7, I1, I2, I3]
  have hni : ¬ n = i := by omega
  have hnj : ¬ n = j := by omega
  have B0 : below (n + 1) ((n, .var [.int .i64 d, .ref i none 3 0 l.length, .ref j none 1 0 q.length]) :: h) :=
    below_mk (by omega) (by simp only [renO, renL, ren, lkp, if_pos (show i < n + 1 by omega), if_pos (show j < n + 1 by omega)]) (below_succ hb)
  refine ⟨_, t34 hC l k _ i (n + 1) (by simp only [hget, if_neg hni]; exact hg) B0 (by omega) hl, ?_⟩
  rintro v h' n' ⟨rfl, rfl, rfl⟩ _
  have hs2 := solid_set (id := i) (sz := 3) (es := lns (mkL k l.length)) hs
  have hb2 := below_set (id := i) (sz := 3) (es := lns (mkL k l.length)) hb
  have hg3 : hget (hset h i (.slice 3 (lns (mkL k l.length)))) j = some (.slice 1 (ints q)) := by
    rw [hget_set, if_neg (by omega)]; exact hg2
  unfold solid at hs2
  simp only [hset, if_neg hni, hs2, push_cast, ↓J1, ↓J2, N1, N2, N3, reduceCtorEq, N4, N5, N6, reduceIte, N7, I1, I2, I3]
  generalize hset h i (.slice 3 (lns (mkL k l.length))) = h2 at *
  have B2 : below (n + 1) ((n, .var [.int .i64 d, .ref i none 3 0 l.length, .ref j none 1 0 q.length]) :: h2) :=
    below_mk (by omega) (by simp only [renO, renL, ren, lkp, if_pos (show i < n + 1 by omega), if_pos (show j < n + 1 by omega)]) (below_succ hb2)
  refine ⟨_, t16 hC q _ _ j (n + 1) (by simp only [hget, if_neg hnj]; exact hg3) B2 (by omega) (by omega), ?_⟩
  rintro v h' n' ⟨rfl, rfl, rfl⟩ _
  have hs3 := solid_set (id := j) (sz := 1) (es := ints (mk q (k + 3 * (l.length : Int)) q.length)) hs2
  unfold solid at hs3
  simp only [hset, if_neg hnj, hs3, push_cast, ↓J1, ↓J2, N1, N2, N3, reduceCtorEq, N4, N5, N6, reduceIte, N7, I1, I2, I3]
end
end Go.Proofs.Ytiemjnkblggimaa.X
set_option maxHeartbeats 4000000
set_option maxRecDepth 8000
set_option linter.unusedSimpArgs false
set_option linter.unusedSectionVars false
set_option linter.unusedVariables false
open Nat renaming reduceBEq → N1, reduceAdd → N2, reduceSub → N3, reduceMul → N4, reduceEqDiff → N5, reduceLeDiff → N6, reduceLT → N7
open Int renaming reduceLE → I1, reduceLT → I2, reduceToNat → I3
namespace Go.Proofs.Ytiemjnkblggimaa.X
open Go
attribute [local irreducible] Ev fE
def Lanes.wo (L : Lanes) (i : Nat) : Lanes := ⟨L.d, L.ls.eraseIdx i, L.st⟩
def DelL (C : CT) : Prop := ∀ (l : List Ln) (i j : Nat) (h : Heap) (id nx : Nat), hget h id = some (.slice 3 (lns l)) → i < j → j ≤ l.length → C 50 [.ref id none 3 0 l.length, .int .i64 i, .int .i64 j] h nx fun v h' n' => v = .ref id none 3 0 (i + (l.length - j)) ∧ h' = hset h id (.slice 3 (lns (l.take i ++ l.drop j ++ List.replicate (j - i) ⟨0, 0, 0⟩))) ∧ n' = nx
theorem lns_all (l : List Ln) : (lns l).all (fun e => e.length == 3) = true := List.all_eq_true.2 (by simp [lns, lnA])
theorem wo_take {l : List Ln} {i : Nat} (h : i < l.length) : List.take (i + (l.length - (i + 1))) (lns (l.take i ++ l.drop (i + 1) ++ List.replicate (i + 1 - i) ⟨0, 0, 0⟩)) = lns (l.eraseIdx i) := by
  rw [List.eraseIdx_eq_take_drop_succ]
  simp only [lns, ← List.map_take]
  rw [List.take_append_of_le_length (by simp; omega), List.take_of_length_le (by simp; omega)]
theorem RetTo_nil {h h2 : Heap} {v r0 r : AV} (hc : conR 8 h v = some (r0, h2)) (hn : NilTo r0 r) : RetTo h v r := ⟨r0, h2, hc, hn⟩
theorem NilTo_nl {sz : Nat} : NilTo .nil (.ow sz []) := by
  simp only [NilTo]; exact .inr ⟨sz, rfl⟩
theorem NilToL_nil : NilToL [] [] := by simp [NilToL]
theorem NilToL_cons {x y : AV} {xs ys : List AV} (h : NilTo x y) (hs : NilToL xs ys) : NilToL (x :: xs) (y :: ys) := by simp only [NilToL]; exact ⟨y, ys, rfl, h, hs⟩
theorem NilTo_tup {xs ys : List AV} (h : NilToL xs ys) : NilTo (.tup xs) (.tup ys) := by
  simp only [NilTo]; exact ⟨ys, rfl, h⟩
theorem NilTo_agg {xs ys : List AV} (h : NilToL xs ys) : NilTo (.agg xs) (.agg ys) := by
  simp only [NilTo]; exact ⟨ys, rfl, h⟩
def woF (l : List Ln) (i k : Nat) : List Ln := (l.take k).eraseIdx i
theorem woF_zero {l : List Ln} {i : Nat} : woF l i 0 = [] := by simp [woF]
theorem woF_end {l : List Ln} {i : Nat} : woF l i l.length = l.eraseIdx i := by simp [woF]
theorem woF_le {l : List Ln} {i k : Nat} : (woF l i k).length ≤ k := by
  have := List.length_eraseIdx_le (l.take k) i
  simp only [List.length_take] at this
  simp only [woF]; omega
theorem woF_same {l : List Ln} {i : Nat} (h : i < l.length) : woF l i (i + 1) = woF l i i := by
  simp only [woF]
  rw [List.eraseIdx_eq_take_drop_succ, List.eraseIdx_of_length_le (by simp; omega), List.take_take, List.drop_eq_nil_of_le (by simp; omega), List.append_nil, Nat.min_eq_left (by omega)]
theorem woF_succ {l : List Ln} {i k : Nat} (h : k < l.length) (hn : k ≠ i) : woF l i (k + 1) = woF l i k ++ [l[k]] := by
  simp only [woF]
  rw [List.take_succ_eq_append_getElem h]
  rcases Nat.lt_or_ge i k with h1 | h1
  · rw [List.eraseIdx_append_of_lt_length (by simp; omega)]
  · rw [List.eraseIdx_of_length_le (by simp; omega), List.eraseIdx_of_length_le (by simp; omega)]
def woS (V : List (Nat × AV)) (d : Int) (st : List Int) (L0 R0 : Ob) : List Ln → St
  | [] => ⟨tb 33 .any V, [(3, .slice 1 (ints st)), (2, .var [.int .i64 d, .nil, .ref 3 none 1 0 st.length]), (1, R0), (0, L0)], 4⟩
  | a :: r => ⟨tb 33 .any V, [(4, .slice 3 (lns (a :: r))), (3, .slice 1 (ints st)), (2, .var [.int .i64 d, .ref 4 none 3 0 (r.length + 1), .ref 3 none 1 0 st.length]), (1, R0), (0, L0)], 5⟩
theorem woS_snoc {V : List (Nat × AV)} {d : Int} {st : List Int} {L0 R0 : Ob} {l : List Ln} {a : Ln} : woS V d st L0 R0 (l ++ [a]) = ⟨tb 33 .any V, [(4, .slice 3 (lns (l ++ [a]))), (3, .slice 1 (ints st)), (2, .var [.int .i64 d, .ref 4 none 3 0 (l.length + 1), .ref 3 none 1 0 st.length]), (1, R0), (0, L0)], 5⟩ := by
  cases l with
  | nil => rfl
  | cons x l => simp only [List.cons_append, woS, List.length_append, List.length_cons, List.length_nil]
theorem lns_sn (l : List Ln) (a : Ln) : lns l ++ [[.int .i64 a.a, .int .i64 a.b, .int .i64 a.c]] = lns (l ++ [a]) := by simp [lns, lnA]
theorem lns_take1 (a : Ln) (r : List Ln) : List.take (r.length + 1) (lns (a :: r)) = lns (a :: r) := List.take_of_length_le (by simp [lns])
section
variable {C : CT} (hC : Closed Try.prog G0 md0 C)
include hC
theorem t51 (l : List Ln) (hl : l.length < 2^40) : Ev C 51 [.sl (lns l)] (.ow 3 (lns l)) := by
  refine rT hC Q51 ?_ (own_lns _)
  simp only [c51, lns_length, push_cast, ↓J1, ↓J2, N1, N2, N3, reduceCtorEq, N4, N5, N6, reduceIte, N7, I1, I2, I3]
  intro b hb0
  cases b
  · simp only [lns_all, if_true, lns_length, push_cast, ↓J1, ↓J2, N1, N2, N3, reduceCtorEq, N4, N5, N6, reduceIte, N7, I1, I2, I3]
    repeat (refine ⟨by omega, ?_⟩)
    exact RetTo_ow rfl (by rw [lns_length])
  · have := hb0 rfl
    simp only [push_cast, ↓J1, ↓J2, N1, N2, N3, reduceCtorEq, N4, N5, N6, reduceIte, N7, I1, I2, I3]
    exact RetTo_nil (r0 := .nil) (h2 := []) (by simp [conR, isF]) (by rw [this]; exact NilTo_nl)
theorem t52 (l : List Int) (hl : l.length < 2^40) : Ev C 52 [.sl (ints l)] (.ow 1 (ints l)) := by
  refine rT hC Q52 ?_ (own_ints l)
  simp only [c52, push_cast, ↓J1, ↓J2, N1, N2, N3, reduceCtorEq, N4, N5, N6, reduceIte, N7, I1, I2, I3]
  intro b hb
  have e : ((ints l).all fun e => e.length == 1) = true := by simp [ints]
  cases b
  · simp only [e, if_true, ints_length, push_cast, ↓J1, ↓J2, N1, N2, N3, reduceCtorEq, N4, N5, N6, reduceIte, N7, I1, I2, I3]
    repeat (refine ⟨by omega, ?_⟩)
    exact RetTo_ow rfl (by rw [ints_length])
  · have := hb rfl
    simp only [push_cast, ↓J1, ↓J2, N1, N2, N3, reduceCtorEq, N4, N5, N6, reduceIte, N7, I1, I2, I3]
    exact RetTo_nil (r0 := .nil) (h2 := []) (by simp [conR, isF]) (by rw [this]; exact NilTo_nl)
omit hC in
theorem wo_own (L : Lanes) (i : Nat) : ownR (L.wo i).ow = true := by
  have e1 := own_lns (L.wo i).ls
  have e2 := own_ints (L.wo i).st
  simp only [ownR] at e1 e2
  simp only [Lanes.ow, ownR, ownRL, e1, e2, Bool.and_true]
theorem t32 (hD : DelL C) (L : Lanes) (i : Nat) (hi : i < L.ls.length) (h1 : L.ls.length < 2^40) (h2 : L.st.length < 2^40) : Ev C 32 [L.av, .int .i64 i] (L.wo i).ow := by
  have c1 := t51 hC L.ls h1
  have c2 := t52 hC L.st h2
  have c3 : ∀ h id nx, hget h id = some (.slice 3 (lns L.ls)) → _ := fun h id nx hg => hD L.ls i (i + 1) h id nx hg (by omega) (by omega)
  simp only [Int.natCast_add, Int.cast_ofNat_Int] at c3
  have w1 : IntKind.i64.wrap ((i : Int) + 1) = (i : Int) + 1 := wrap64 (by omega) (by omega)
  have tk := wo_take hi
  have tk2 : List.take L.st.length (ints L.st) = ints L.st := List.take_of_length_le (by rw [ints_length]; omega)
  have ho := wo_own L i
  simp only [Lanes.av, Lanes.ow, Lanes.wo] at *
  refine rT hC Q32 ?_ (ho)
  simp only [c32, w1, push_cast, ↓J1, ↓J2, N1, N2, N3, reduceCtorEq, N4, N5, N6, reduceIte, N7, I1, I2, I3]
  repeat' (first
    | refine ⟨_, c1, ?_⟩
    | refine ⟨_, c2, ?_⟩
    | (refine ⟨_, c3 _ _ _ rfl, ?_⟩; rintro v h' n' ⟨rfl, rfl, rfl⟩ _)
    | simp only [lns_length, ints_length, w1, push_cast, ↓J1, ↓J2, N1, N2, N3, reduceCtorEq, N4, N5, N6, reduceIte, N7, I1, I2, I3]
    | refine And.intro ?_ ?_)
  all_goals exact RetTo_of (by simp only [conR, conRL, isF, hget, hdel, List.drop_zero, List.take_length, if_true, if_false, reduceIte, N5, reduceCtorEq, tk, tk2]; rfl)
theorem t45 (q : List Int) (hq : q.length < 2^40) : Ev C 45 [.sl (ints q)] (.ow 1 (ints q)) := by
  have hb : (ints q).all (fun e => e.length == 1) = true := List.all_eq_true.2 (by simp [ints])
  refine rT hC Q45 ?_ (by simp only [own_ints])
  simp only [c45, ints_length, hb, push_cast, ↓J1, ↓J2, N1, N2, N3, reduceCtorEq, N4, N5, N6, reduceIte, N7, I1, I2, I3]
  have tku : List.take q.length (ints q) = ints q := List.take_of_length_le (by rw [ints_length]; omega)
  and_intros
  all_goals first
    | omega
    | skip
  all_goals exact RetTo_of (by simp only [conR, conRL, isF, hget, hdel, List.drop_zero, List.take_length, if_true, if_false, reduceIte, N5, reduceCtorEq, tku]; rfl)
theorem t27 (L : Lanes) (i : Nat) (hi : i < L.ls.length) (h1 : L.ls.length < 2^40) (h2 : L.st.length < 2^40) : Ev C 27 [L.av, .int .i64 i] (L.wo i).ow := by
  have c2 := t45 hC L.st h2
  have ho := wo_own L i
  have tk2 : List.take L.st.length (ints L.st) = ints L.st := List.take_of_length_le (by rw [ints_length]; omega)
  simp only [Lanes.av, Lanes.ow, Lanes.wo] at *
  refine rT hC Q27 ?_ (ho)
  simp only [c27, lns_length, ints_length, push_cast, ↓J1, ↓J2, N1, N2, N3, reduceCtorEq, N4, N5, N6, reduceIte, N7, I1, I2, I3]
  repeat' (first
    | refine ⟨_, c2, ?_⟩
    | simp only [lns_length, ints_length, push_cast, ↓J1, ↓J2, N1, N2, N3, reduceCtorEq, N4, N5, N6, reduceIte, N7, I1, I2, I3]
    | refine And.intro ?_ ?_)
  all_goals
    refine RL_count (fun k => woS [(1, .int .i64 (i : Int)), (4, .ptr 1 none 0 0 0), (5, .ptr 2 none 0 0 0), (15, .sl (lns L.ls)), (16, .int .i64 (L.ls.length : Int)), (17, .int .i64 (k : Int))] L.d L.st (.var [.int .i64 L.d, .sl (lns L.ls), .sl (ints L.st)]) (.var [.int .i64 0, .nil, .nil]) (woF L.ls i k)) (fun _ => True) L.ls.length 0 (by rw [woF_zero]; (first | exact (hdA [(2, 3), (3, 2), (1, 1), (0, 0)]) | exact (hdA [(3, 3), (2, 2), (1, 1), (0, 0)]))) (by omega) trivial fun k hk _ J hJ => ?_
    have hkl : (woF L.ls i k).length ≤ k := woF_le
    by_cases h3 : k < L.ls.length
    · have e1 : (lns L.ls)[k]? = some [.int .i64 L.ls[k].a, .int .i64 L.ls[k].b, .int .i64 L.ls[k].c] := by simp [lns, lnA, h3]
      have w3 : IntKind.i64.wrap ((k : Int) + 1) = (k : Int) + 1 := wrap64 (by omega) (by omega)
      rcases hA : woF L.ls i k with _ | ⟨a, r⟩
      all_goals
        rw [hA] at hkl
        simp only [List.length_cons, List.length_nil] at hkl
        simp only [woS, e1, Int.toNat_natCast, w3, lns_take1, lns_length, lns_scD, List.length_cons, push_cast, ↓J1, ↓J2, N1, N2, N3, reduceCtorEq, N4, N5, N6, reduceIte, N7, I1, I2, I3]
        refine ifB_intro (fun _ => ?_) (fun h => by simp at h; omega)
        cases g : decide ((k : Int) = (i : Int))
        · have hn : k ≠ i := by have := of_decide_eq_false g; omega
          simp only [Bool.not_false, push_cast, ↓J1, ↓J2, N1, N2, N3, reduceCtorEq, N4, N5, N6, reduceIte, N7, I1, I2, I3]
          repeat (refine ⟨by omega, ?_⟩)
          refine hJ h3 trivial _ ?_
          rw [woF_succ h3 hn, hA, woS_snoc]
          (first | exact head_tb [(6, 4), (3, 3), (2, 2), (1, 1), (0, 0)] rfl (by simp only [keptV_cons, keptV_nil, tb_get, lk_same, lk_ne, lk_nil, ren, renL, lkp, N7, N1, N5, reduceIte, and_true, true_and, Nat.not_lt_zero, if_false, if_true, Nat.add_zero, Nat.zero_add]; (first | done | (simp; done) | (and_intros <;> rfl))) (by simp only [canR, canB, renO, renL, ren, lkp, hget, N7, N5, Nat.not_lt_zero, if_false, if_true, reduceIte, List.append_nil, List.nil_append]; (first | done | rfl | (rw [← lns_sn]; rfl))) | exact head_tb [(7, 4), (3, 3), (2, 2), (1, 1), (0, 0)] rfl (by simp only [keptV_cons, keptV_nil, tb_get, lk_same, lk_ne, lk_nil, ren, renL, lkp, N7, N1, N5, reduceIte, and_true, true_and, Nat.not_lt_zero, if_false, if_true, Nat.add_zero, Nat.zero_add]; (first | done | (simp; done) | (and_intros <;> rfl))) (by simp only [canR, canB, renO, renL, ren, lkp, hget, N7, N5, Nat.not_lt_zero, if_false, if_true, reduceIte, List.append_nil, List.nil_append]; (first | done | rfl | (rw [← lns_sn]; rfl))))
        · obtain rfl : k = i := by have := of_decide_eq_true g; omega
          simp only [Bool.not_true, push_cast, ↓J1, ↓J2, N1, N2, N3, reduceCtorEq, N4, N5, N6, reduceIte, N7, I1, I2, I3]
          repeat (refine ⟨by omega, ?_⟩)
          refine hJ h3 trivial _ ?_
          rw [woF_same hi, hA]
          (first | exact (hdA [(3, 3), (2, 2), (1, 1), (0, 0)]) | exact (hdA [(4, 4), (3, 3), (2, 2), (1, 1), (0, 0)]))
    · obtain rfl : k = L.ls.length := by omega
      rw [woF_end] at hkl ⊢
      rcases hA : L.ls.eraseIdx i with _ | ⟨a, r⟩
      · simp only [woS, lns_length, push_cast, ↓J1, ↓J2, N1, N2, N3, reduceCtorEq, N4, N5, N6, reduceIte, N7, I1, I2, I3]
        refine ifB_intro (fun h => by simp at h) (fun h => ?_)
        exact RetTo_nil (r0 := .agg [.int .i64 L.d, .nil, .ow 1 (ints L.st)]) (by simp only [conR, conRL, isF, hget, hdel, List.drop_zero, tk2, if_true, if_false, reduceIte, N5, reduceCtorEq]; rfl) (NilTo_agg (NilToL_cons (NilTo.refl _) (NilToL_cons NilTo_nl (NilToL_cons (NilTo.refl _) NilToL_nil))))
      · simp only [woS, lns_take1, lns_length, push_cast, ↓J1, ↓J2, N1, N2, N3, reduceCtorEq, N4, N5, N6, reduceIte, N7, I1, I2, I3]
        refine ifB_intro (fun h => by simp at h) (fun h => ?_)
        have tk3 : List.take (r.length + 1) (lns (a :: r)) = lns (a :: r) := lns_take1 a r
        exact RetTo_of (by simp only [conR, conRL, isF, hget, hdel, List.drop_zero, List.take_length, if_true, if_false, reduceIte, N5, reduceCtorEq, tk2, tk3]; rfl)
end
end Go.Proofs.Ytiemjnkblggimaa.X
