/- A part of the proof: lemmas on the machine or on the functions that the law reaches. No condition of its own. -/
import Derived.Test.YtjaccjeejeiphaaGreatDoorXP8
import Derived.Test.YtjaccjeejeiphaaGreatDoorXP7
import Derived.Test.YtjaccjeejeiphaaGreatDoorXP3
import Derived.Test.YtjaccjeejeiphaaGreatDoorXP4
set_option maxHeartbeats 1000000
set_option maxRecDepth 8000
set_option linter.unusedSimpArgs false
set_option linter.unusedVariables false
open Nat renaming reduceBEq → N1, reduceAdd → N2, reduceSub → N3, reduceMul → N4, reduceEqDiff → N5, reduceLeDiff → N6, reduceLT → N7
open Int renaming reduceLE → I1, reduceLT → I2, reduceToNat → I3
namespace Go.Proofs.YtjaccjeejeiphaaGreatDoor.X
open Go
attribute [local irreducible] Ev
def mkR : List (List Int) → Int → List (List Int)
  | [], _ => []
  | r :: W, k => mk r k r.length :: mkR W (k + r.length)
def mkW (W : List (List Int)) (k : Int) (i : Nat) : List (List Int) := mkR (W.take i) k ++ W.drop i
theorem mkR_length : ∀ (W : List (List Int)) (k : Int), (mkR W k).length = W.length
  | [], k => rfl
  | r :: W, k => by simp [mkR, mkR_length W]
theorem mkR_append : ∀ (W V : List (List Int)) (k : Int), mkR (W ++ V) k = mkR W k ++ mkR V (k + lens W)
  | [], V, k => by simp [mkR, lens]
  | r :: W, V, k => by
    have e : k + (r.length : Int) + (lens W : Int) = k + (lens (r :: W) : Int) := by simp [lens]; omega
    simp only [List.cons_append, mkR, mkR_append W, e]
theorem mkW_length {W : List (List Int)} {k : Int} {i : Nat} (h : i ≤ W.length) : (mkW W k i).length = W.length := by simp [mkW, mkR_length]; omega
theorem mkW_succ {W : List (List Int)} {k : Int} {i : Nat} (h : i < W.length) : (owss (mkW W k i)).set i [.ow 1 (ints (mk W[i] (k + lens (W.take i)) W[i].length))] = owss (mkW W k (i + 1)) := by
  have e : W.drop i = W[i] :: W.drop (i + 1) := List.drop_eq_getElem_cons h
  have hl : (mkR (W.take i) k).length = i := by rw [mkR_length]; simp; omega
  simp only [mkW, e, List.take_succ_eq_append_getElem h, mkR_append, owss, List.map_append, List.map_cons, mkR, List.map_nil, List.append_assoc, List.cons_append, List.nil_append]
  rw [mid_set (by simp [hl])]
theorem mkW_get {W : List (List Int)} {k : Int} {i : Nat} (h : i < W.length) : (owss (mkW W k i))[i]? = some [.ow 1 (ints W[i])] := by
  have e : W.drop i = W[i] :: W.drop (i + 1) := List.drop_eq_getElem_cons h
  have hl : (mkR (W.take i) k).length = i := by rw [mkR_length]; simp; omega
  simp only [mkW, e, owss, List.map_append, List.map_cons]
  rw [mid_get (by simp [hl])]
theorem mkW_zero {W : List (List Int)} {k : Int} : mkW W k 0 = W := by simp [mkW, mkR]
mutual
theorem ren_mono {n : Nat} : ∀ x : AV, ren n [] x = x → ren (n + 1) [] x = x
  | .ref id sub sz off len, h => by
    simp only [ren, lkp] at h ⊢
    split at h
    · rw [if_pos (by omega)]
    · cases h
  | .ptr id sub sz i c, h => by
    simp only [ren, lkp] at h ⊢
    split at h
    · rw [if_pos (by omega)]
    · cases h
  | .fn f cs, h => by
    simp only [ren, AV.fn.injEq, true_and] at h ⊢
    exact renL_mono cs h
  | .agg cs, h => by
    simp only [ren, AV.agg.injEq] at h ⊢
    exact renL_mono cs h
  | .tup cs, h => by
    simp only [ren, AV.tup.injEq] at h ⊢
    exact renL_mono cs h
  | .any, h => by simp [ren]
  | .con _, h => by simp [ren]
  | .int _ _, h => by simp [ren]
  | .bool _, h => by simp [ren]
  | .str _, h => by simp [ren]
  | .nil, h => by simp [ren]
  | .sl _, h => by simp [ren]
  | .pf _, h => by simp [ren]
  | .ow _ _, h => by simp [ren]
  | .op _, h => by simp [ren]
theorem renL_mono {n : Nat} : ∀ xs : List AV, renL n [] xs = xs → renL (n + 1) [] xs = xs
  | [], _ => by simp [renL]
  | x :: xs, h => by
    simp only [renL, List.cons.injEq] at h ⊢
    exact ⟨ren_mono x h.1, renL_mono xs h.2⟩
end
theorem below_succ {n : Nat} : ∀ {h : Heap}, below n h → below (n + 1) h
  | [], _ => rfl
  | (i, o) :: h, hb => by
    obtain ⟨h1, h2, h3⟩ := below_cons hb
    refine below_mk (by omega) ?_ (below_succ h3)
    cases o with
    | slice sz es => rfl
    | var cs =>
      simp only [renO, Ob.var.injEq] at h2 ⊢
      exact renL_mono cs h2
def solid (h : Heap) : Prop := killH h = h
theorem solid_set {id sz : Nat} {es : List (List AV)} {h : Heap} (hs : solid h) : solid (hset h id (.slice sz es)) := by
  unfold solid at *
  rw [kill_set, hs]
theorem lens_le : ∀ (W : List (List Int)) (i : Nat), lens (W.take i) ≤ lens W
  | [], i => by simp
  | r :: W, 0 => by simp [lens]
  | r :: W, i + 1 => by
    have := lens_le W i
    simp [lens] at this ⊢
    omega
section
variable {C : CT} (hC : Closed Tryz.prog G1 md0 C)
include hC
theorem t115 (W : List (List Int)) (k : Int) (h : Heap) (id n : Nat) (hg : hget h id = some (.slice 1 (owss W))) (hb : below n h) (hs : solid h) (hk : 0 ≤ k ∧ k < 2^48) (hW : W.length < 2^50) (hl : lens W < 2^48) (hr : ∀ r ∈ W, r.length < 2^50) : C 115 [.ref id none 1 0 W.length, .int .i64 k] h n (fun v h' n' => v = .int .i64 (k + lens W) ∧ n' = n ∧ h' = hset h id (.slice 1 (owss (mkW W k W.length)))) := by
  have hid := below_lt hb hg
  refine Closed.rT hC Q115 ?_
  simp only [c115, push_cast, ↓J1, ↓J2, N1, N2, N3, reduceCtorEq, N4, N5, N6, reduceIte, N7, I1, I2, I3]
  refine RL_count (fun i => ⟨tb 19 .any [(0, .ref id none 1 0 W.length), (1, .int .i64 (k + lens (W.take i))), (5, .int .i64 (i : Int))], hset h id (.slice 1 (owss (mkW W k i))), n⟩) (fun _ => True) W.length 0 (head_tb [] (by simp [rhoOk, objIds]) (by simp only [hid, keptV_cons, keptV_nil, tb_get, lk_same, lk_ne, lk_nil, ren, renL, lkp, N7, N1, N5, reduceIte, and_true, true_and, Nat.not_lt_zero, if_false, if_true, Nat.add_zero, Nat.zero_add]; simp [lens]) (by rw [mkW_zero, hset_get hg]; exact hb)) (by omega) trivial fun i hi _ J hJ => ?_
  have hgi : hget (hset h id (.slice 1 (owss (mkW W k i)))) id = some (.slice 1 (owss (mkW W k i))) := hget_same hg
  by_cases h1 : i < W.length
  · have e1 := mkW_get (k := k) h1
    have hle := lens_le W i
    simp only [Int.toNat_natCast, hgi, e1, ints_length, push_cast, ↓J1, ↓J2, N1, N2, N3, reduceCtorEq, N4, N5, N6, reduceIte, N7, I1, I2, I3]
    refine ifB_intro (fun _ => ⟨by omega, by omega, _, t102s hC W[i] (k + lens (W.take i)) _ id n i _ hgi e1 (below_set hb) (by omega) (hr _ (List.getElem_mem h1)), ?_⟩) (fun h => by simp at h; omega)
    rintro v h' n' ⟨rfl, rfl, rfl⟩ _
    simp only [push_cast, ↓J1, ↓J2, N1, N2, N3, reduceCtorEq, N4, N5, N6, reduceIte, N7, I1, I2, I3]
    refine hJ h1 trivial _ (head_tb [] (by simp [rhoOk, objIds]) ?_ ?_)
    · simp only [hid, keptV_cons, keptV_nil, tb_get, lk_same, lk_ne, lk_nil, ren, renL, lkp, N7, N1, N5, reduceIte, and_true, true_and, Nat.not_lt_zero, if_false, if_true, Nat.add_zero, Nat.zero_add]
      rw [wrap64 (by omega) (by omega), lens_succ h1]
      simp; omega
    · rw [mkW_succ h1, hset_hset, solid_set hs]
      exact below_set hb
  · obtain rfl : i = W.length := by omega
    simp only [List.take_length, push_cast, ↓J1, ↓J2, N1, N2, N3, reduceCtorEq, N4, N5, N6, reduceIte, N7, I1, I2, I3]
    refine ifB_intro (fun h => by simp at h) (fun h => ?_)
    trivial
theorem t114 (W : List (List Int)) (k : Int) (h : Heap) (id n : Nat) (hg : hget h id = some (.slice 1 (owss W))) (hb : below n h) (hs : solid h) (hk : 0 ≤ k ∧ k < 2^48) (hW : W.length < 2^50) (hl : lens W < 2^48) (hr : ∀ r ∈ W, r.length < 2^50) : C 114 [.agg [.ref id none 1 0 W.length], .int .i64 k] h n (fun v h' n' => v = .int .i64 (k + lens W) ∧ n' = n + 1 ∧ h' = (n, .var [.ref id none 1 0 W.length]) :: hset h id (.slice 1 (owss (mkW W k W.length)))) := by
  have hid := below_lt hb hg
  have hne : ¬ n = id := by omega
  refine Closed.rT hC Q114 ?_
  simp only [c114, push_cast, ↓J1, ↓J2, N1, N2, N3, reduceCtorEq, N4, N5, N6, reduceIte, N7, I1, I2, I3]
  have hb' : below (n + 1) ((n, .var [.ref id none 1 0 W.length]) :: h) :=
    below_mk (by omega) (by simp only [renO, renL, ren, if_pos (show id < n + 1 by omega)]) (below_succ hb)
  refine ⟨_, t115 hC W k _ id (n + 1) (by simp only [hget, if_neg hne]; exact hg) hb' ?_ hk hW hl hr, ?_⟩
  · unfold solid at *
    simp only [killH, killL, killS, hs]
  rintro v h' n' ⟨rfl, rfl, rfl⟩ _
  have hs2 := solid_set (id := id) (sz := 1) (es := owss (mkW W k W.length)) hs
  unfold solid at hs2
  simp only [hset, if_neg hne, hs2, push_cast, ↓J1, ↓J2, N1, N2, N3, reduceCtorEq, N4, N5, N6, reduceIte, N7, I1, I2, I3]
end
end Go.Proofs.YtjaccjeejeiphaaGreatDoor.X
set_option maxHeartbeats 2000000
set_option maxRecDepth 8000
set_option linter.unusedSimpArgs false
set_option linter.unusedVariables false
open Nat renaming reduceBEq → N1, reduceAdd → N2, reduceSub → N3, reduceMul → N4, reduceEqDiff → N5, reduceLeDiff → N6, reduceLT → N7
open Int renaming reduceLE → I1, reduceLT → I2, reduceToNat → I3
namespace Go.Proofs.YtjaccjeejeiphaaGreatDoor.X
open Go
attribute [local irreducible] Ev
def inn (x : Int) (row v : List Int) : Nat → List Int
  | 0 => v
  | k + 1 => (inn x row v k).set k (w64 ((inn x row v k).getD k 0 + w64 (x * row.getD k 0)))
def outS (W : List (List Int)) (o v : List Int) : Nat → List Int
  | 0 => v
  | i + 1 => inn (o.getD i 0) (W.getD i []) (outS W o v i) 3
def chS (W : List (List Int)) (o : List Int) : Nat → List Int
  | 0 => o
  | m + 1 => outS W (chS W o m) [0, 0, 0] 3
theorem inn_length (x : Int) (row v : List Int) : ∀ k, (inn x row v k).length = v.length
  | 0 => rfl
  | k + 1 => by simp [inn, inn_length x row v k]
theorem outS_length (W : List (List Int)) (o : List Int) {v : List Int} (h : v.length = 3) : ∀ i, (outS W o v i).length = 3
  | 0 => h
  | i + 1 => by rw [outS, inn_length, outS_length W o h i]
theorem chS_length (W : List (List Int)) {o : List Int} (h : o.length = 3) : ∀ m, (chS W o m).length = 3
  | 0 => h
  | m + 1 => outS_length W _ rfl 3
theorem good_rows {W : List (List Int)} (hg : goodW W = true) : W.length = 3 ∧ ∀ i, i < 3 → W[i]? = some (W.getD i []) ∧ (W.getD i []).length = 3 := by
  simp only [goodW, Bool.and_eq_true, decide_eq_true_eq] at hg
  refine ⟨hg.1, fun i hi => ?_⟩
  have hl : i < W.length := by omega
  have e : W.getD i [] = W[i] := by simp [List.getD, hl]
  have hr := List.all_eq_true.1 hg.2 _ (List.getElem_mem hl)
  simp only [rowOk, Bool.and_eq_true, decide_eq_true_eq] at hr
  rw [e]
  exact ⟨List.getElem?_eq_getElem hl, hr.1.1⟩
section
variable {C : CT} (hC : Closed Tryz.prog G1 md0 C)
include hC
end
end Go.Proofs.YtjaccjeejeiphaaGreatDoor.X
set_option maxHeartbeats 2000000
set_option maxRecDepth 8000
set_option linter.unusedSimpArgs false
set_option linter.unusedVariables false
open Nat renaming reduceBEq → N1, reduceAdd → N2, reduceSub → N3, reduceMul → N4, reduceEqDiff → N5, reduceLeDiff → N6, reduceLT → N7
open Int renaming reduceLE → I1, reduceLT → I2, reduceToNat → I3
namespace Go.Proofs.YtjaccjeejeiphaaGreatDoor.X
open Go
attribute [local irreducible] Ev szSS szRows
theorem szRows_lens : ∀ (W : List (List Int)) (v : Int), 0 ≤ v → 0 ≤ szRows W v → (lens W : Int) ≤ v
  | [], v, h0, _ => by simp [lens]; exact h0
  | s :: W, v, h0, h => by
    rw [szRows] at h
    split at h
    · omega
    · rename_i hs
      have := szRows_lens W (v - s.length) (by omega) h
      have e : lens (s :: W) = s.length + lens W := by simp [lens]
      rw [e]; omega
theorem szSS_lens {W : List (List Int)} {v : Int} (h0 : 0 ≤ v) (h : 0 ≤ szSS W v) : (lens W : Int) ≤ v := by
  rw [szSS] at h
  split at h
  · omega
  · have := szRows_lens W (v - W.length) (by omega) h
    omega
def run (k : Int) (n : Nat) : List Int := (List.range n).map (fun j : Nat => k + (j : Int))
theorem run_length {k : Int} {n : Nat} : (run k n).length = n := by simp [run]
theorem run_get {k : Int} {n i : Nat} (h : i < n) : (run k n).getD i 0 = k + i := by simp [run, List.getD, h]
theorem mk_run {l : List Int} {k : Int} : mk l k l.length = run k l.length := mk_all
theorem RetTo_lb {h : Heap} {id : Nat} {es : List (List AV)} {len : Nat} {b : Bool} (hg : hget h id = some (.slice 1 es)) (hl : len = es.length) : RetTo h (.tup [.ref id none 1 0 len, .bool b]) (.tup [.ow 1 es, .bool b]) := by
  subst hl
  exact RetTo_of (h2 := hdel h id) (by simp [conR, conRL, isF, hg])
theorem RetTo_nb {h : Heap} {b : Bool} : RetTo h (.tup [.nil, .bool b]) (.tup [.ow 1 [], .bool b]) :=
  ⟨.tup [.nil, .bool b], h, by simp [conR, conRL, isF], by simp [NilTo, NilToL]⟩
section
variable {C : CT} (hC : Closed Tryz.prog G1 md0 C)
include hC
theorem t104 (k : Int) (n : Nat) (hk : 0 ≤ k ∧ k < 2^50) (hn : n < 2^50) : Ev C 104 [.sl (ints (run k n)), .int .i64 k] (.int .i64 (k + n)) := by
  refine rT hC Q104 ?_
  simp only [c104, push_cast, ↓J1, ↓J2, N1, N2, N3, reduceCtorEq, N4, N5, N6, reduceIte, N7, I1, I2, I3]
  refine RL_count (fun i => ⟨tb 21 .any [(0, .sl (ints (run k n))), (1, .int .i64 (k + i)), (5, .int .i64 (i : Int))], [], 0⟩) (fun _ => True) n 0 (hdA []) (by omega) trivial fun i hi _ J hJ => ?_
  by_cases h1 : i < n
  · have e1 : (ints (run k n))[i]? = some [.int .i64 ((run k n).getD i 0)] := ints_get (by rw [run_length]; exact h1)
    simp only [ints_length, run_length, Int.toNat_natCast, e1, run_get h1, push_cast, ↓J1, ↓J2, N1, N2, N3, reduceCtorEq, N4, N5, N6, reduceIte, N7, I1, I2, I3]
    refine ifB_intro (fun _ => ?_) (fun h => by simp at h; omega)
    repeat (refine ⟨by omega, ?_⟩)
    refine hJ h1 trivial _ (hdA [] (hV := ?_))
    simp only [keptV_cons, keptV_nil, tb_get, lk_same, lk_ne, lk_nil, ren, renL, lkp, N7, N1, N5, reduceIte, and_true, true_and, Nat.not_lt_zero, if_false, if_true, Nat.add_zero, Nat.zero_add]
    rw [wrap64 (by omega) (by omega), wrap64 (by omega) (by omega)]
    simp; omega
  · obtain rfl : i = n := by omega
    simp only [ints_length, run_length, push_cast, ↓J1, ↓J2, N1, N2, N3, reduceCtorEq, N4, N5, N6, reduceIte, N7, I1, I2, I3]
    refine ifB_intro (fun h => by simp at h) (fun h => trivial)
def askCh (W : List (List Int)) (w n : Int) : Bool := goodW W && inR 0 2 w && inR 0 6 n
def resCh (W : List (List Int)) (w n : Int) : List Int := if askCh W w n then chS W ([0, 0, 0].set w.toNat 1) n.toNat else []
omit hC in
theorem resCh_length (W : List (List Int)) (w n : Int) : (resCh W w n).length ≤ 3 := by
  unfold resCh
  split
  · rw [chS_length _ (by simp)]; omega
  · simp
omit hC in
theorem own_lb (l : List Int) (b : Bool) : ownR (.tup [.ow 1 (ints l), .bool b]) = true := by
  have e := own_ints l
  simp only [ownR] at e
  simp only [ownR, ownRL, e, Bool.and_true]
end
end Go.Proofs.YtjaccjeejeiphaaGreatDoor.X
set_option maxHeartbeats 2000000
set_option maxRecDepth 8000
set_option linter.unusedSimpArgs false
set_option linter.unusedVariables false
open Nat renaming reduceBEq → N1, reduceAdd → N2, reduceSub → N3, reduceMul → N4, reduceEqDiff → N5, reduceLeDiff → N6, reduceLT → N7
open Int renaming reduceLE → I1, reduceLT → I2, reduceToNat → I3
namespace Go.Proofs.YtjaccjeejeiphaaGreatDoor.X
open Go
attribute [local irreducible] Ev szSS szRows
theorem ints_snoc {l : List Int} {x : Int} : ints l ++ [[.int .i64 x]] = ints (l ++ [x]) := by simp [ints]
theorem allScs_ints (l : List Int) : allScs (ints l) = true := by
  unfold ints
  induction l with
  | nil => rfl
  | cons x l ih => simp only [List.map_cons, allScs, allSc, isSc, Bool.and_true, Bool.true_and]; exact ih
def wAt (W : List (List Int)) (w seed : Int) : Nat → Int
  | 0 => w
  | i + 1 => nextS (rowAt W (wAt W w seed i)) (belowOf seed i 36) 0
def wOut (W : List (List Int)) (w seed : Int) : Nat → List Int
  | 0 => []
  | i + 1 => wOut W w seed i ++ [wAt W w seed (i + 1)]
theorem wOut_length (W : List (List Int)) (w seed : Int) : ∀ i, (wOut W w seed i).length = i
  | 0 => rfl
  | i + 1 => by simp [wOut, wOut_length W w seed i]
theorem wAt_in {W : List (List Int)} {w seed : Int} (hg : goodW W = true) (hw : inR 0 2 w = true) : ∀ i, inR 0 2 (wAt W w seed i) = true
  | 0 => hw
  | i + 1 => by
    obtain ⟨_, _, a, b, c, hra, _⟩ := rowAt_some hg (wAt_in hg hw i)
    rw [wAt, hra]
    simp only [nextS]
    split
    · rfl
    · split
      · rfl
      · split <;> rfl
def askWF (W : List (List Int)) (w seed n : Int) : Bool := goodW W && inR 0 2 w && inR 0 4611686016279904236 seed && inR 0 30 n
def resWF (W : List (List Int)) (w seed n : Int) : List Int := if askWF W w seed n then wOut W w seed n.toNat else []
theorem resWF_length (W : List (List Int)) (w seed n : Int) : (resWF W w seed n).length ≤ 1000 := by
  unfold resWF
  split
  · rename_i h
    simp only [askWF, inR, Bool.and_eq_true, decide_eq_true_eq] at h
    rw [wOut_length]; omega
  · simp
section
variable {C : CT} (hC : Closed Tryz.prog G1 md0 C)
include hC
end
end Go.Proofs.YtjaccjeejeiphaaGreatDoor.X
set_option maxHeartbeats 2000000
set_option maxRecDepth 8000
set_option linter.unusedSimpArgs false
set_option linter.unusedVariables false
open Nat renaming reduceBEq → N1, reduceAdd → N2, reduceSub → N3, reduceMul → N4, reduceEqDiff → N5, reduceLeDiff → N6, reduceLT → N7
open Int renaming reduceLE → I1, reduceLT → I2, reduceToNat → I3
namespace Go.Proofs.YtjaccjeejeiphaaGreatDoor.X
open Go
attribute [local irreducible] Ev szSS szRows
def lkS (W : List (List Int)) (l : List Int) : Nat → Int
  | 0 => 1
  | i + 1 => w64 (lkS W l i * (W.getD (l.getD i 0).toNat []).getD (l.getD (i + 1) 0).toNat 0)
def digs (n : Nat) (code : Int) : Nat → List Int × Int
  | 0 => (List.replicate n 0, code)
  | j + 1 => ((digs n code j).1.set (n - 1 - j) ((digs n code j).2.tmod 3), (digs n code j).2.tdiv 3)
theorem digs_length (n : Nat) (code : Int) : ∀ j, (digs n code j).1.length = n
  | 0 => by simp [digs]
  | j + 1 => by simp [digs, digs_length n code j]
theorem digs_in (n : Nat) (code : Int) (h0 : 0 ≤ code ∧ code < 2^30) : ∀ j, (0 ≤ (digs n code j).2 ∧ (digs n code j).2 < 2^30) ∧ ∀ x ∈ (digs n code j).1, inR 0 2 x = true
  | 0 => ⟨h0, by intro x hx; simp [digs] at hx; rw [hx.2]; rfl⟩
  | j + 1 => by
    obtain ⟨h1, h2⟩ := digs_in n code h0 j
    have h3 := Int.tmod_lt_of_pos (digs n code j).2 (show (0 : Int) < 3 by omega)
    have h4 := Int.tmod_nonneg 3 h1.1
    have h5 := Int.tdiv_nonneg h1.1 (show (0 : Int) ≤ 3 by omega)
    have h6 := Int.tdiv_le_self (b := 3) h1.1
    refine ⟨⟨h5, by simp only [digs]; omega⟩, fun x hx => ?_⟩
    simp only [digs] at hx
    rcases List.mem_or_eq_of_mem_set hx with hx | rfl
    · exact h2 x hx
    · simp only [inR, Bool.and_eq_true, decide_eq_true_eq]; omega
def dg (n : Nat) (m : Nat) : List Int := (digs n (m : Int) n).1
def bst (W : List (List Int)) (w : Int) (n : Nat) : Nat → List Int × Int
  | 0 => ([], -1)
  | m + 1 => if (bst W w n m).2 < lkS W (w :: dg n m) n then (dg n m, lkS W (w :: dg n m) n) else bst W w n m
theorem bst_length (W : List (List Int)) (w : Int) (n : Nat) : ∀ m, (bst W w n m).1.length ≤ n
  | 0 => by simp [bst]
  | m + 1 => by
    rw [bst]
    split
    · simp only [dg, digs_length]; omega
    · exact bst_length W w n m
theorem ints_cons {w : Int} {l : List Int} : [AV.int .i64 w] :: ints l = ints (w :: l) := rfl
theorem ints_rep {n : Nat} : List.replicate n [AV.int .i64 0] = ints (List.replicate n 0) := by simp [ints]
theorem RetTo_no {h : Heap} : RetTo h .nil (.ow 1 []) := ⟨.nil, h, by simp [conR, isF], by simp [NilTo]⟩
def pw (i : Nat) : Nat := 3 ^ i
theorem pw_succ (i : Nat) : pw (i + 1) = pw i * 3 := Nat.pow_succ 3 i
theorem pow3 {i : Nat} (h : i ≤ 6) : pw i ≤ 729 := Nat.pow_le_pow_right (show 0 < 3 by omega) h
section
variable {C : CT} (hC : Closed Tryz.prog G1 md0 C)
include hC
theorem t136 (l : List Int) (hl : l.length < 2^30) : Ev C 136 [.sl (ints l)] (.ow 1 (ints l)) := by
  refine rT hC Q136 ?_ (own_ints l)
  simp only [c136, push_cast, ↓J1, ↓J2, N1, N2, N3, reduceCtorEq, N4, N5, N6, reduceIte, N7, I1, I2, I3]
  intro b hb
  refine ifB_intro (fun h => ?_) (fun h => ?_)
  · have := hb h
    rw [this]
    exact RetTo_no
  · have e : ((ints l).all fun e => e.length == 1) = true := by simp [ints]
    simp only [e, ints_length, Nat.zero_add, push_cast, ↓J1, ↓J2, N1, N2, N3, reduceCtorEq, N4, N5, N6, reduceIte, N7, I1, I2, I3]
    refine ⟨by omega, ?_⟩
    exact RetTo_ow (by simp [hget]) (by rw [ints_length])

omit hC in
theorem ppp : True := trivial
def askML (W : List (List Int)) (w n : Int) : Bool := goodW W && inR 0 2 w && inR 0 6 n
def resML (W : List (List Int)) (w n : Int) : List Int := if askML W w n then (bst W w n.toNat (pw n.toNat)).1 else []
omit hC in
theorem resML_length (W : List (List Int)) (w n : Int) : (resML W w n).length ≤ 6 := by
  unfold resML
  split
  · rename_i h
    simp only [askML, inR, Bool.and_eq_true, decide_eq_true_eq] at h
    have := bst_length W w n.toNat (pw n.toNat)
    omega
  · simp
end
end Go.Proofs.YtjaccjeejeiphaaGreatDoor.X
set_option maxHeartbeats 1000000
set_option maxRecDepth 8000
set_option linter.unusedSimpArgs false
set_option linter.unusedVariables false
open Nat renaming reduceBEq → N1, reduceAdd → N2, reduceSub → N3, reduceMul → N4, reduceEqDiff → N5, reduceLeDiff → N6, reduceLT → N7
open Int renaming reduceLE → I1, reduceLT → I2, reduceToNat → I3
namespace Go.Proofs.YtjaccjeejeiphaaGreatDoor.X
open Go
attribute [local irreducible] Ev
def wk0 : Wk := ⟨0, 0, 0, []⟩
theorem nil_wk : NilToL [.int .i64 0, .int .i64 0, .int .i64 0, .nil] (wkO wk0) := NilToL_cons (NilTo.refl _) (NilToL_cons (NilTo.refl _) (NilToL_cons (NilTo.refl _) (NilToL_cons NilTo_nl NilToL_nil)))
theorem own_uns' (l : List Un) : ownR (.ow 4 (uns l)) = true := by simp only [ownR, own_uns]
theorem own_ints' (l : List Int) : ownR (.ow 1 (ints l)) = true := by simp only [own_ints]
def dUX (b : Brd) (u : Un) (x : Wk) : Int := distI (u.at_.tmod b.m.w) (u.at_.tdiv b.m.w) (x.at_.tmod b.m.w) (x.at_.tdiv b.m.w)
def rsOk (b : Brd) (s : Sta) (x : Wk) (u : Int) : Bool := prOk b s x && hurt b s u && decide ((unOf s u).sd = x.sd) && !inZon b s (1 - x.sd) (unOf s u).at_ && !decide (x.pt < (kindOf b (unOf s u).k).st) && !decide (b.r.supply < dUX b (unOf s u) x)
def rsS (s : Sta) (k : Nat) : Sta := ⟨s.t, s.w, s.us.set k ⟨(unOf s k).sd, (unOf s k).k, (unOf s k).at_, (unOf s k).st + 1⟩⟩
def rsW (b : Brd) (s : Sta) (x : Wk) (u : Int) : Wk := ⟨x.sd, x.at_, x.pt - (kindOf b (unOf s u).k).st, x.q⟩
theorem uns_set {s : Sta} {k : Nat} {a b c d : Int} : (uns s.us).set k [.int .i64 a, .int .i64 b, .int .i64 c, .int .i64 d] = uns (s.us.set k ⟨a, b, c, d⟩) := by
  simp only [uns, List.map_set, unA]
theorem own_wk (x : Wk) : ownR (.agg (wkO x)) = true := by
  have h := own_ints x.q
  simp only [ownR] at h
  simp only [wkO, ownR, ownRL, h, Bool.and_true]
theorem pos_bnd {w h i : Int} (h1 : 1 ≤ w ∧ w ≤ 10) (h2 : 1 ≤ h ∧ h ≤ 10) (hi : 0 ≤ i ∧ i < 300) : (0 ≤ i.tmod w ∧ i.tmod w < 10) ∧ 0 ≤ i.tdiv w ∧ i.tdiv w ≤ 300 := by
  have a1 := Int.tmod_nonneg w hi.1
  have a2 := Int.tmod_lt_of_pos i (show 0 < w by omega)
  have a3 := Int.tdiv_nonneg hi.1 (show 0 ≤ w by omega)
  have a4 := Int.tdiv_le_self (a := i) (b := w) hi.1
  omega
section
variable {C : CT} (hC : Closed Tryz.prog G1 md0 C)
include hC
theorem t171 (n : Int) (h : -2000 ≤ n ∧ n ≤ 2000) : Ev C 171 [.int .i64 n] (.int .i64 (absI n)) := by
  refine rT hC Q171 ?_
  simp only [c171, push_cast, ↓J1, ↓J2, N1, N2, N3, reduceCtorEq, N4, N5, N6, reduceIte, N7, I1, I2, I3]
  cases g : decide (n < 0)
  · have h1 := of_decide_eq_false g
    simp only [absI, if_neg h1, push_cast, ↓J1, ↓J2, N1, N2, N3, reduceCtorEq, N4, N5, N6, reduceIte, N7, I1, I2, I3]
  · have h1 := of_decide_eq_true g
    simp only [absI, if_pos h1, push_cast, ↓J1, ↓J2, N1, N2, N3, reduceCtorEq, N4, N5, N6, reduceIte, N7, I1, I2, I3]
    rw [wrap64 (n := 0 - n) (by omega) (by omega)]; rw [Int.zero_sub]
theorem t221 (a b : Int) : Ev C 221 [.int .i64 a, .int .i64 b] (.int .i64 (if b < a then a else b)) := by
  refine rT hC Q221 ?_
  simp only [c221, push_cast, ↓J1, ↓J2, N1, N2, N3, reduceCtorEq, N4, N5, N6, reduceIte, N7, I1, I2, I3]
  cases g : decide (b < a)
  · have h1 := of_decide_eq_false g
    simp only [if_neg h1, push_cast, ↓J1, ↓J2, N1, N2, N3, reduceCtorEq, N4, N5, N6, reduceIte, N7, I1, I2, I3]
  · have h1 := of_decide_eq_true g
    simp only [if_pos h1, push_cast, ↓J1, ↓J2, N1, N2, N3, reduceCtorEq, N4, N5, N6, reduceIte, N7, I1, I2, I3]
theorem t164 (n : Int) (h : -2000 ≤ n ∧ n ≤ 2000) : Ev C 164 [.int .i64 n] (.int .i64 (absI n)) := by
  have c1 := t221 hC n (-n)
  rw [show (if -n < n then n else -n) = absI n by simp only [absI]; split <;> split <;> omega] at c1
  refine rT hC Q164 ?_
  simp only [c164, push_cast, ↓J1, ↓J2, N1, N2, N3, reduceCtorEq, N4, N5, N6, reduceIte, N7, I1, I2, I3]
  rw [wrap64 (n := 0 - n) (by omega) (by omega), Int.zero_sub]
  refine ⟨_, c1, ?_⟩
  simp only [push_cast, ↓J1, ↓J2, N1, N2, N3, reduceCtorEq, N4, N5, N6, reduceIte, N7, I1, I2, I3]
theorem t94 (q1 r1 q2 r2 : Int) (h1 : (0 ≤ q1 ∧ q1 < 10) ∧ 0 ≤ r1 ∧ r1 ≤ 300) (h2 : (0 ≤ q2 ∧ q2 < 10) ∧ 0 ≤ r2 ∧ r2 ≤ 300) : Ev C 94 [.agg [.int .i64 q1, .int .i64 r1], .agg [.int .i64 q2, .int .i64 r2]] (.int .i64 (distI q1 r1 q2 r2)) := by
  have c1 := t171 hC (q2 - q1) (by omega)
  have c2 := t171 hC (r2 - r1) (by omega)
  have c3 := t171 hC (q2 - q1 + (r2 - r1)) (by omega)
  have b1 := absI_bnd (n := q2 - q1) (B := 2000) (by omega)
  have b2 := absI_bnd (n := r2 - r1) (B := 2000) (by omega)
  have b3 := absI_bnd (n := q2 - q1 + (r2 - r1)) (B := 2000) (by omega)
  refine rT hC Q94 ?_
  simp only [c94, push_cast, ↓J1, ↓J2, N1, N2, N3, reduceCtorEq, N4, N5, N6, reduceIte, N7, I1, I2, I3]
  rw [wrap64 (n := q2 - q1) (by omega) (by omega), wrap64 (n := r2 - r1) (by omega) (by omega)]
  refine ⟨_, c1, ?_⟩
  simp only [push_cast, ↓J1, ↓J2, N1, N2, N3, reduceCtorEq, N4, N5, N6, reduceIte, N7, I1, I2, I3]
  refine ⟨_, c2, ?_⟩
  simp only [push_cast, ↓J1, ↓J2, N1, N2, N3, reduceCtorEq, N4, N5, N6, reduceIte, N7, I1, I2, I3]
  rw [wrap64 (n := q2 - q1 + (r2 - r1)) (by omega) (by omega)]
  refine ⟨_, c3, ?_⟩
  simp only [push_cast, ↓J1, ↓J2, N1, N2, N3, reduceCtorEq, N4, N5, N6, reduceIte, N7, I1, I2, I3]
  rw [wrap64 (n := absI (q2 - q1) + absI (r2 - r1)) (by omega) (by omega), wrap64 (n := absI (q2 - q1) + absI (r2 - r1) + absI (q2 - q1 + (r2 - r1))) (by omega) (by omega)]
  have hb : 0 ≤ distI q1 r1 q2 r2 ∧ distI q1 r1 q2 r2 ≤ 6000 := by
    have := Int.tdiv_nonneg (a := absI (q2 - q1) + absI (r2 - r1) + absI (q2 - q1 + (r2 - r1))) (b := 2) (by omega) (by omega)
    have := Int.tdiv_le_self (a := absI (q2 - q1) + absI (r2 - r1) + absI (q2 - q1 + (r2 - r1))) (b := 2) (by omega)
    simp only [distI]; omega
  simp only [distI] at *
  try rw [wrap64 (n := (absI (q2 - q1) + absI (r2 - r1) + absI (q2 - q1 + (r2 - r1))).tdiv 2) (by omega) (by omega)]
  exact ⟨by omega, rfl⟩
theorem t88 (q1 r1 q2 r2 : Int) (h1 : (0 ≤ q1 ∧ q1 < 10) ∧ 0 ≤ r1 ∧ r1 ≤ 300) (h2 : (0 ≤ q2 ∧ q2 < 10) ∧ 0 ≤ r2 ∧ r2 ≤ 300) : Ev C 88 [.agg [.int .i64 q1, .int .i64 r1], .agg [.int .i64 q2, .int .i64 r2]] (.int .i64 (distI q1 r1 q2 r2)) := by
  have c1 := t164 hC (q2 - q1) (by omega)
  have c2 := t164 hC (r2 - r1) (by omega)
  have c3 := t164 hC (q2 - q1 + (r2 - r1)) (by omega)
  have b1 := absI_bnd (n := q2 - q1) (B := 2000) (by omega)
  have b2 := absI_bnd (n := r2 - r1) (B := 2000) (by omega)
  have b3 := absI_bnd (n := q2 - q1 + (r2 - r1)) (B := 2000) (by omega)
  refine rT hC Q88 ?_
  simp only [c88, push_cast, ↓J1, ↓J2, N1, N2, N3, reduceCtorEq, N4, N5, N6, reduceIte, N7, I1, I2, I3]
  rw [wrap64 (n := q2 - q1) (by omega) (by omega), wrap64 (n := r2 - r1) (by omega) (by omega)]
  refine ⟨_, c1, ?_⟩
  simp only [push_cast, ↓J1, ↓J2, N1, N2, N3, reduceCtorEq, N4, N5, N6, reduceIte, N7, I1, I2, I3]
  refine ⟨_, c2, ?_⟩
  simp only [push_cast, ↓J1, ↓J2, N1, N2, N3, reduceCtorEq, N4, N5, N6, reduceIte, N7, I1, I2, I3]
  rw [wrap64 (n := q2 - q1 + (r2 - r1)) (by omega) (by omega)]
  refine ⟨_, c3, ?_⟩
  simp only [push_cast, ↓J1, ↓J2, N1, N2, N3, reduceCtorEq, N4, N5, N6, reduceIte, N7, I1, I2, I3]
  rw [wrap64 (n := absI (q2 - q1) + absI (r2 - r1)) (by omega) (by omega), wrap64 (n := absI (q2 - q1) + absI (r2 - r1) + absI (q2 - q1 + (r2 - r1))) (by omega) (by omega)]
  have hb : 0 ≤ distI q1 r1 q2 r2 ∧ distI q1 r1 q2 r2 ≤ 6000 := by
    have := Int.tdiv_nonneg (a := absI (q2 - q1) + absI (r2 - r1) + absI (q2 - q1 + (r2 - r1))) (b := 2) (by omega) (by omega)
    have := Int.tdiv_le_self (a := absI (q2 - q1) + absI (r2 - r1) + absI (q2 - q1 + (r2 - r1))) (b := 2) (by omega)
    simp only [distI]; omega
  simp only [distI] at *
  try rw [wrap64 (n := (absI (q2 - q1) + absI (r2 - r1) + absI (q2 - q1 + (r2 - r1))).tdiv 2) (by omega) (by omega)]
  exact ⟨by omega, rfl⟩
theorem t98 (x : Wk) (hq : x.q.length < 2^30) : Ev C 98 [.agg (wkF x)] (.agg (wkO x)) := by
  have c1 := t136 hC x.q hq
  simp only [wkF, wkO]
  refine rT hC Q98 ?_ (own_wk x)
  simp only [c98, push_cast, ↓J1, ↓J2, N1, N2, N3, reduceCtorEq, N4, N5, N6, reduceIte, N7, I1, I2, I3]
  refine ⟨_, c1, ?_⟩
  simp only [push_cast, ↓J1, ↓J2, N1, N2, N3, reduceCtorEq, N4, N5, N6, reduceIte, N7, I1, I2, I3]
  exact rtA
theorem t165o (q : List Int) (hq : q.length < 2^30) : Ev C 165 [.sl (ints q)] (.ow 1 (ints q)) := by
  have hb : (ints q).all (fun e => e.length == 1) = true := List.all_eq_true.2 (by simp [ints])
  refine rT hC Q165 ?_ (by simp only [own_ints])
  simp only [c165, ints_length, hb, push_cast, ↓J1, ↓J2, N1, N2, N3, reduceCtorEq, N4, N5, N6, reduceIte, N7, I1, I2, I3]
  have tku : List.take q.length (ints q) = ints q := List.take_of_length_le (by rw [ints_length]; omega)
  and_intros
  all_goals first
    | omega
    | skip
  all_goals exact RetTo_of (by simp only [conR, conRL, isF, hget, hdel, List.drop_zero, List.take_length, if_true, if_false, reduceIte, N5, reduceCtorEq, tku]; rfl)
theorem t91 (x : Wk) (hq : x.q.length < 2^30) : Ev C 91 [.agg (wkF x)] (.agg (wkO x)) := by
  have c1 := t165o hC x.q hq
  simp only [wkF, wkO]
  refine rT hC Q91 ?_ (own_wk x)
  simp only [c91, push_cast, ↓J1, ↓J2, N1, N2, N3, reduceCtorEq, N4, N5, N6, reduceIte, N7, I1, I2, I3]
  refine ⟨_, c1, ?_⟩
  simp only [push_cast, ↓J1, ↓J2, N1, N2, N3, reduceCtorEq, N4, N5, N6, reduceIte, N7, I1, I2, I3]
  exact rtA
end
end Go.Proofs.YtjaccjeejeiphaaGreatDoor.X
set_option maxHeartbeats 1500000
set_option maxRecDepth 8000
set_option linter.unusedSimpArgs false
set_option linter.unusedVariables false
open Nat renaming reduceBEq → N1, reduceAdd → N2, reduceSub → N3, reduceMul → N4, reduceEqDiff → N5, reduceLeDiff → N6, reduceLT → N7
open Int renaming reduceLE → I1, reduceLT → I2, reduceToNat → I3
namespace Go.Proofs.YtjaccjeejeiphaaGreatDoor.X
open Go
attribute [local irreducible] Ev
theorem own_sw (s : Sta) (x : Wk) (v : Bool) : ownR (.tup [.agg (staO s), .agg (wkO x), .bool v]) = true := by
  have h := own_ints x.q
  simp only [ownR] at h
  simp only [wkO, staO, ownR, ownRL, own_uns, h, Bool.and_true]
section
variable {C : CT} (hC : Closed Tryz.prog G1 md0 C)
include hC
theorem t33 (b : Brd) (s : Sta) (x : Wk) (u : Int) (hb : BrdB (2^50) b) (hl : s.us.length < 2^40) (hq : x.q.length < 2^50) : Ev C 33 [brdF b, .agg (staF s), .agg (wkF x), .int .i64 u] (.tup [.agg (staO (if rsOk b s x u then rsS s u.toNat else sta0)), .agg (wkO (if rsOk b s x u then rsW b s x u else wk0)), .bool (rsOk b s x u)]) := by
  have c1 := t61 hC b s x hb hl hq
  have c2 := t86 hC b s u hb hl
  have c3 := fun i g hu hi => t87 hC b s (1 - x.sd) i g hu hi hb hl
  have o1 := t90 hC s hl
  have o2 := fun h => t91 hC x h
  have d0 := fun (h1 : 1 ≤ b.m.w ∧ b.m.w ≤ 10) (h2 : 1 ≤ b.m.h ∧ b.m.h ≤ 10) i hi => t89 hC b.m i h1 h2 hi
  have d1 := fun q1 r1 q2 r2 h1 h2 => t88 hC q1 r1 q2 r2 h1 h2
  simp only [brdF, rulF, mpF, List.cons_append, List.nil_append, staF, staO, wkF, wkO] at c1 c2 c3 o1 o2 d0 ⊢
  refine rT hC Q33 ?_ (own_sw _ _ _)
  simp only [c33, push_cast, ↓J1, ↓J2, N1, N2, N3, reduceCtorEq, N4, N5, N6, reduceIte, N7, I1, I2, I3]
  refine ⟨_, c1, ?_⟩
  cases g1 : prOk b s x
  · have hno : rsOk b s x u = false := by simp only [rsOk, g1, Bool.false_and]
    simp only [hno, Bool.false_eq_true, if_false, push_cast, ↓J1, ↓J2, N1, N2, N3, reduceCtorEq, N4, N5, N6, reduceIte, N7, I1, I2, I3]
    exact RetTo_nil (h2 := _) (by simp only [conR, conRL, isF, hget, hdel, List.drop_zero, List.take_length, if_true, if_false, reduceIte, N5, reduceCtorEq]; rfl) (NilTo_tup (NilToL_cons (NilTo_agg nil_sta) (NilToL_cons (NilTo_agg nil_wk) (NilToL_cons (NilTo.refl _) NilToL_nil))))
  simp only [push_cast, ↓J1, ↓J2, N1, N2, N3, reduceCtorEq, N4, N5, N6, reduceIte, N7, I1, I2, I3]
  refine ⟨_, c2, ?_⟩
  cases g2 : hurt b s u
  · have hno : rsOk b s x u = false := by simp only [rsOk, g2, Bool.and_false, Bool.false_and]
    simp only [hno, Bool.false_eq_true, if_false, push_cast, ↓J1, ↓J2, N1, N2, N3, reduceCtorEq, N4, N5, N6, reduceIte, N7, I1, I2, I3]
    exact RetTo_nil (h2 := _) (by simp only [conR, conRL, isF, hget, hdel, List.drop_zero, List.take_length, if_true, if_false, reduceIte, N5, reduceCtorEq]; rfl) (NilTo_tup (NilToL_cons (NilTo_agg nil_sta) (NilToL_cons (NilTo_agg nil_wk) (NilToL_cons (NilTo.refl _) NilToL_nil))))
  have hp := g1
  simp only [prOk, Bool.and_eq_true] at hp
  have gb := sta_brd hp.1
  have hun := sta_all hp.1
  have hlen := sta_len hp.1
  have hw := wk_in hp.2
  have hm := mp_wh (brd_mp gb)
  have hwh := brd_wh gb
  have hr := brd_ru gb
  simp only [rulOk, tailOk, inR, Bool.and_eq_true, decide_eq_true_eq] at hr
  have hxp := hp.2
  simp only [wkR, inR, Bool.and_eq_true, decide_eq_true_eq] at hxp
  have hh := g2
  simp only [hurt, hasU, canRe, inR, Bool.and_eq_true, decide_eq_true_eq] at hh
  obtain ⟨k, rfl⟩ : ∃ m : Nat, u = m := ⟨u.toNat, by omega⟩
  have e1 := uns_un (s := s) (k := k) (by omega)
  have hk0 := sta_kind hp.1 (k := k) (by omega)
  have hk := kind_at hk0
  have hkb := (kin_bnd hk0).2.1
  have hkc := (kin_bnd hk0).2.2.2.1
  obtain ⟨j, ej⟩ : ∃ m : Nat, (unOf s k).k = m := ⟨(unOf s k).k.toNat, by omega⟩
  have e2 := kins_get (b := b) (k := j) (by omega)
  have hat := unOk_at (sta_un hp.1 (k := k) (by omega)) (by omega)
  have hsd := un_sd (sta_un hp.1 (k := k) (by omega))
  have hst : 0 ≤ (unOf s k).st := by
    have := sta_un hp.1 (k := k) (by omega)
    simp only [unOk, inR, Bool.and_eq_true, decide_eq_true_eq] at this; omega
  have p1 := pos_bnd hm.1 hm.2 (i := (unOf s k).at_) (by omega)
  have p2 := pos_bnd hm.1 hm.2 (i := x.at_) (by omega)
  have hinat : inR 0 (b.m.w * b.m.h - 1) (unOf s k).at_ = true := by simp only [inR, Bool.and_eq_true, decide_eq_true_eq]; omega
  simp only [Int.toNat_natCast, e1, unA, uns_length, push_cast, ↓J1, ↓J2, N1, N2, N3, reduceCtorEq, N4, N5, N6, reduceIte, N7, I1, I2, I3]
  repeat (refine ⟨by omega, ?_⟩)
  cases g3 : decide ((unOf s k).sd = x.sd)
  · have hno : rsOk b s x k = false := by simp only [rsOk, g3, Bool.and_false, Bool.false_and]
    simp only [hno, Bool.false_eq_true, if_false, push_cast, ↓J1, ↓J2, N1, N2, N3, reduceCtorEq, N4, N5, N6, reduceIte, N7, I1, I2, I3]
    exact RetTo_nil (h2 := _) (by simp only [conR, conRL, isF, hget, hdel, List.drop_zero, List.take_length, if_true, if_false, reduceIte, N5, reduceCtorEq]; rfl) (NilTo_tup (NilToL_cons (NilTo_agg nil_sta) (NilToL_cons (NilTo_agg nil_wk) (NilToL_cons (NilTo.refl _) NilToL_nil))))
  simp only [Int.toNat_natCast, e1, unA, uns_length, push_cast, ↓J1, ↓J2, N1, N2, N3, reduceCtorEq, N4, N5, N6, reduceIte, N7, I1, I2, I3]
  repeat (refine ⟨by omega, ?_⟩)
  rw [wrap64 (n := 1 - x.sd) (by omega) (by omega)]
  refine ⟨_, c3 _ gb hun hinat, ?_⟩
  cases g4 : inZon b s (1 - x.sd) (unOf s k).at_
  rotate_left
  · have hno : rsOk b s x k = false := by simp only [rsOk, g4, Bool.not_true, Bool.and_false, Bool.false_and]
    simp only [hno, Bool.false_eq_true, if_false, push_cast, ↓J1, ↓J2, N1, N2, N3, reduceCtorEq, N4, N5, N6, reduceIte, N7, I1, I2, I3]
    exact RetTo_nil (h2 := _) (by simp only [conR, conRL, isF, hget, hdel, List.drop_zero, List.take_length, if_true, if_false, reduceIte, N5, reduceCtorEq]; rfl) (NilTo_tup (NilToL_cons (NilTo_agg nil_sta) (NilToL_cons (NilTo_agg nil_wk) (NilToL_cons (NilTo.refl _) NilToL_nil))))
  simp only [Int.toNat_natCast, e1, unA, uns_length, ej, e2, kinA, kins_length, push_cast, ↓J1, ↓J2, N1, N2, N3, reduceCtorEq, N4, N5, N6, reduceIte, N7, I1, I2, I3]
  repeat (refine ⟨by omega, ?_⟩)
  cases g5 : decide (x.pt < (kindOf b (unOf s k).k).st)
  rotate_left
  · have hno : rsOk b s x k = false := by simp only [rsOk, g5, Bool.not_true, Bool.and_false, Bool.false_and]
    rw [ej] at g5
    simp only [hno, g5, Bool.false_eq_true, if_false, push_cast, ↓J1, ↓J2, N1, N2, N3, reduceCtorEq, N4, N5, N6, reduceIte, N7, I1, I2, I3]
    exact RetTo_nil (h2 := _) (by simp only [conR, conRL, isF, hget, hdel, List.drop_zero, List.take_length, if_true, if_false, reduceIte, N5, reduceCtorEq]; rfl) (NilTo_tup (NilToL_cons (NilTo_agg nil_sta) (NilToL_cons (NilTo_agg nil_wk) (NilToL_cons (NilTo.refl _) NilToL_nil))))
  have g5' := g5
  rw [ej] at g5'
  simp only [Int.toNat_natCast, e1, unA, uns_length, g5', push_cast, ↓J1, ↓J2, N1, N2, N3, reduceCtorEq, N4, N5, N6, reduceIte, N7, I1, I2, I3]
  repeat (refine ⟨by omega, ?_⟩)
  have d2 := d0 hm.1 hm.2 (unOf s k).at_ (by omega)
  have d3 := d0 hm.1 hm.2 x.at_ (by omega)
  refine ⟨_, d2, ?_⟩
  simp only [push_cast, ↓J1, ↓J2, N1, N2, N3, reduceCtorEq, N4, N5, N6, reduceIte, N7, I1, I2, I3]
  refine ⟨_, d3, ?_⟩
  simp only [push_cast, ↓J1, ↓J2, N1, N2, N3, reduceCtorEq, N4, N5, N6, reduceIte, N7, I1, I2, I3]
  refine ⟨_, d1 _ _ _ _ p1 p2, ?_⟩
  cases g6 : decide (b.r.supply < dUX b (unOf s k) x)
  rotate_left
  · have hno : rsOk b s x k = false := by simp only [rsOk, g6, Bool.not_true, Bool.and_false, Bool.false_and]
    have g6' : decide (b.r.supply < distI ((unOf s k).at_.tmod b.m.w) ((unOf s k).at_.tdiv b.m.w) (x.at_.tmod b.m.w) (x.at_.tdiv b.m.w)) = true := g6
    simp only [hno, g6', Bool.false_eq_true, if_false, push_cast, ↓J1, ↓J2, N1, N2, N3, reduceCtorEq, N4, N5, N6, reduceIte, N7, I1, I2, I3]
    exact RetTo_nil (h2 := _) (by simp only [conR, conRL, isF, hget, hdel, List.drop_zero, List.take_length, if_true, if_false, reduceIte, N5, reduceCtorEq]; rfl) (NilTo_tup (NilToL_cons (NilTo_agg nil_sta) (NilToL_cons (NilTo_agg nil_wk) (NilToL_cons (NilTo.refl _) NilToL_nil))))
  have g6' : decide (b.r.supply < distI ((unOf s k).at_.tmod b.m.w) ((unOf s k).at_.tdiv b.m.w) (x.at_.tmod b.m.w) (x.at_.tdiv b.m.w)) = false := g6
  have hok : rsOk b s x k = true := by simp only [rsOk, g1, g2, g3, g4, g5, g6, Bool.and_self, Bool.not_false]
  simp only [hok, if_true, rsS, rsW, Int.toNat_natCast, staF, staO, wkF, wkO]
  have hkb' := hkb
  rw [ej] at hkb'
  have o1 := o1
  have o2 := o2 (by omega)
  have es := fun v => uns_set (s := s) (k := k) (a := (unOf s k).sd) (b := (unOf s k).k) (c := (unOf s k).at_) (d := v)
  have wz : IntKind.i64.wrap ((unOf s k).st + 1) = (unOf s k).st + 1 := wrap64 (by omega) (by omega)
  have wp : IntKind.i64.wrap (x.pt - (kindOf b j).st) = x.pt - (kindOf b j).st := wrap64 (by omega) (by omega)
  have hset : ∀ v : Un, (s.us.set k v).length = s.us.length := fun v => List.length_set
  have tku : ∀ v : Un, List.take s.us.length (uns (s.us.set k v)) = uns (s.us.set k v) := fun v => List.take_of_length_le (by rw [uns_length, List.length_set]; omega)
  have tkq : List.take x.q.length (ints x.q) = ints x.q := List.take_of_length_le (by rw [ints_length]; omega)
  have wd1 : decide ((k : Int) < (s.us.length : Int)) = true := decide_eq_true (by omega)
  have e0 : List.take s.us.length (uns s.us) = uns s.us := List.take_of_length_le (by rw [uns_length]; omega)
  simp only [g6', push_cast, ↓J1, ↓J2, N1, N2, N3, reduceCtorEq, N4, N5, N6, reduceIte, N7, I1, I2, I3]
  repeat' (first
    | simp only [g6', ej, e1, e2, unA, kinA, Int.toNat_natCast, uns_length, ints_length, wz, wp, es, push_cast, ↓J1, ↓J2, N1, N2, N3, reduceCtorEq, N4, N5, N6, reduceIte, N7, I1, I2, I3]
    | refine ⟨_, o1, ?_⟩
    | refine ⟨_, o2, ?_⟩
    | refine ifB_intro (fun h => ?_) (fun h => ?_)
    | refine And.intro ?_ ?_)
  all_goals first
    | omega
    | skip
  all_goals exact RetTo_of (by simp only [conR, conRL, isF, hget, hdel, List.drop_zero, List.take_length, if_true, if_false, reduceIte, N5, reduceCtorEq, uns_set, tku, tkq, uns_length, ints_length]; rfl)
theorem t34 (b : Brd) (s : Sta) (x : Wk) (u : Int) (hb : BrdB (2^50) b) (hl : s.us.length < 2^40) (hq : x.q.length < 2^50) : Ev C 34 [brdF b, .agg (staF s), .agg (wkF x), .int .i64 u] (.tup [.agg (staO (if rsOk b s x u then rsS s u.toNat else sta0)), .agg (wkO (if rsOk b s x u then rsW b s x u else wk0)), .bool (rsOk b s x u)]) := by
  have c1 := t92 hC b s u hb hl
  have c2 := fun g => t93 hC b x g hb hq
  have c3 := fun sd i g hu hi => t96 hC b s sd i g hu hi hb hl
  have o1 := t97 hC s hl
  have o2 := fun h => t98 hC x h
  have d0 := fun (h1 : 1 ≤ b.m.w ∧ b.m.w ≤ 10) (h2 : 1 ≤ b.m.h ∧ b.m.h ≤ 10) i hi => t95 hC b.m i h1 h2 hi
  have d1 := fun q1 r1 q2 r2 h1 h2 => t94 hC q1 r1 q2 r2 h1 h2
  simp only [brdF, rulF, mpF, List.cons_append, List.nil_append, staF, staO, wkF, wkO] at c1 c2 c3 o1 o2 d0 ⊢
  refine rT hC Q34 ?_ (own_sw _ _ _)
  simp only [c34, push_cast, ↓J1, ↓J2, N1, N2, N3, reduceCtorEq, N4, N5, N6, reduceIte, N7, I1, I2, I3]
  refine ⟨_, c1, ?_⟩
  cases g2 : hurt b s u
  · have hno : rsOk b s x u = false := by simp only [rsOk, g2, Bool.and_false, Bool.false_and]
    simp only [hno, Bool.false_eq_true, if_false, push_cast, ↓J1, ↓J2, N1, N2, N3, reduceCtorEq, N4, N5, N6, reduceIte, N7, I1, I2, I3]
    exact RetTo_nil (h2 := _) (by simp only [conR, conRL, isF, hget, hdel, List.drop_zero, List.take_length, if_true, if_false, reduceIte, N5, reduceCtorEq]; rfl) (NilTo_tup (NilToL_cons (NilTo_agg nil_sta) (NilToL_cons (NilTo_agg nil_wk) (NilToL_cons (NilTo.refl _) NilToL_nil))))
  have gs : staOk b s = true := by simp only [hurt, hasU, Bool.and_eq_true] at g2; exact g2.1.1
  simp only [if_true, push_cast, ↓J1, ↓J2, N1, N2, N3, reduceCtorEq, N4, N5, N6, reduceIte, N7, I1, I2, I3]
  refine ⟨_, c2 (sta_brd gs), ?_⟩
  cases g0 : wkR b x
  · have hno : rsOk b s x u = false := by simp only [rsOk, prOk, g0, Bool.and_false, Bool.false_and]
    simp only [hno, Bool.false_eq_true, if_false, push_cast, ↓J1, ↓J2, N1, N2, N3, reduceCtorEq, N4, N5, N6, reduceIte, N7, I1, I2, I3]
    exact RetTo_nil (h2 := _) (by simp only [conR, conRL, isF, hget, hdel, List.drop_zero, List.take_length, if_true, if_false, reduceIte, N5, reduceCtorEq]; rfl) (NilTo_tup (NilToL_cons (NilTo_agg nil_sta) (NilToL_cons (NilTo_agg nil_wk) (NilToL_cons (NilTo.refl _) NilToL_nil))))
  have g1 : prOk b s x = true := by simp only [prOk, gs, g0, Bool.and_self]
  have hp := g1
  simp only [prOk, Bool.and_eq_true] at hp
  have gb := sta_brd hp.1
  have hun := sta_all hp.1
  have hlen := sta_len hp.1
  have hw := wk_in hp.2
  have hm := mp_wh (brd_mp gb)
  have hwh := brd_wh gb
  have hr := brd_ru gb
  simp only [rulOk, tailOk, inR, Bool.and_eq_true, decide_eq_true_eq] at hr
  have hxp := hp.2
  simp only [wkR, inR, Bool.and_eq_true, decide_eq_true_eq] at hxp
  have hh := g2
  simp only [hurt, hasU, canRe, inR, Bool.and_eq_true, decide_eq_true_eq] at hh
  obtain ⟨k, rfl⟩ : ∃ m : Nat, u = m := ⟨u.toNat, by omega⟩
  have e1 := uns_un (s := s) (k := k) (by omega)
  have hk0 := sta_kind hp.1 (k := k) (by omega)
  have hk := kind_at hk0
  have hkb := (kin_bnd hk0).2.1
  have hkc := (kin_bnd hk0).2.2.2.1
  obtain ⟨j, ej⟩ : ∃ m : Nat, (unOf s k).k = m := ⟨(unOf s k).k.toNat, by omega⟩
  have e2 := kins_get (b := b) (k := j) (by omega)
  have hat := unOk_at (sta_un hp.1 (k := k) (by omega)) (by omega)
  have hsd := un_sd (sta_un hp.1 (k := k) (by omega))
  have hst : 0 ≤ (unOf s k).st := by
    have := sta_un hp.1 (k := k) (by omega)
    simp only [unOk, inR, Bool.and_eq_true, decide_eq_true_eq] at this; omega
  have p1 := pos_bnd hm.1 hm.2 (i := (unOf s k).at_) (by omega)
  have p2 := pos_bnd hm.1 hm.2 (i := x.at_) (by omega)
  have hinat : inR 0 (b.m.w * b.m.h - 1) (unOf s k).at_ = true := by simp only [inR, Bool.and_eq_true, decide_eq_true_eq]; omega
  simp only [Int.toNat_natCast, e1, unA, uns_length, push_cast, ↓J1, ↓J2, N1, N2, N3, reduceCtorEq, N4, N5, N6, reduceIte, N7, I1, I2, I3]
  repeat (refine ⟨by omega, ?_⟩)
  cases g3 : decide ((unOf s k).sd = x.sd)
  · have hno : rsOk b s x k = false := by simp only [rsOk, g3, Bool.and_false, Bool.false_and]
    simp only [hno, Bool.false_eq_true, if_false, push_cast, ↓J1, ↓J2, N1, N2, N3, reduceCtorEq, N4, N5, N6, reduceIte, N7, I1, I2, I3]
    exact RetTo_nil (h2 := _) (by simp only [conR, conRL, isF, hget, hdel, List.drop_zero, List.take_length, if_true, if_false, reduceIte, N5, reduceCtorEq]; rfl) (NilTo_tup (NilToL_cons (NilTo_agg nil_sta) (NilToL_cons (NilTo_agg nil_wk) (NilToL_cons (NilTo.refl _) NilToL_nil))))
  simp only [Int.toNat_natCast, e1, unA, uns_length, push_cast, ↓J1, ↓J2, N1, N2, N3, reduceCtorEq, N4, N5, N6, reduceIte, N7, I1, I2, I3]
  repeat (refine ⟨by omega, ?_⟩)
  have d2 := d0 hm.1 hm.2 (unOf s k).at_ (by omega)
  have d3 := d0 hm.1 hm.2 x.at_ (by omega)
  refine ⟨_, d2, ?_⟩
  simp only [push_cast, ↓J1, ↓J2, N1, N2, N3, reduceCtorEq, N4, N5, N6, reduceIte, N7, I1, I2, I3]
  refine ⟨_, d3, ?_⟩
  simp only [push_cast, ↓J1, ↓J2, N1, N2, N3, reduceCtorEq, N4, N5, N6, reduceIte, N7, I1, I2, I3]
  refine ⟨_, d1 _ _ _ _ p1 p2, ?_⟩
  cases g6 : decide (b.r.supply < dUX b (unOf s k) x)
  rotate_left
  · have hno : rsOk b s x k = false := by simp only [rsOk, g6, Bool.not_true, Bool.and_false, Bool.false_and]
    have g6' : decide (b.r.supply < distI ((unOf s k).at_.tmod b.m.w) ((unOf s k).at_.tdiv b.m.w) (x.at_.tmod b.m.w) (x.at_.tdiv b.m.w)) = true := g6
    simp only [hno, g6', Bool.false_eq_true, if_false, push_cast, ↓J1, ↓J2, N1, N2, N3, reduceCtorEq, N4, N5, N6, reduceIte, N7, I1, I2, I3]
    exact RetTo_nil (h2 := _) (by simp only [conR, conRL, isF, hget, hdel, List.drop_zero, List.take_length, if_true, if_false, reduceIte, N5, reduceCtorEq]; rfl) (NilTo_tup (NilToL_cons (NilTo_agg nil_sta) (NilToL_cons (NilTo_agg nil_wk) (NilToL_cons (NilTo.refl _) NilToL_nil))))
  have g6' : decide (b.r.supply < distI ((unOf s k).at_.tmod b.m.w) ((unOf s k).at_.tdiv b.m.w) (x.at_.tmod b.m.w) (x.at_.tdiv b.m.w)) = false := g6
  have h3 := of_decide_eq_true g3
  simp only [g6', push_cast, ↓J1, ↓J2, N1, N2, N3, reduceCtorEq, N4, N5, N6, reduceIte, N7, I1, I2, I3]
  rw [h3, wrap64 (n := 1 - x.sd) (by omega) (by omega)]
  refine ⟨_, c3 _ _ gb hun hinat, ?_⟩
  cases g4 : inZon b s (1 - x.sd) (unOf s k).at_
  rotate_left
  · have hno : rsOk b s x k = false := by simp only [rsOk, g4, Bool.not_true, Bool.and_false, Bool.false_and]
    simp only [hno, Bool.false_eq_true, if_false, push_cast, ↓J1, ↓J2, N1, N2, N3, reduceCtorEq, N4, N5, N6, reduceIte, N7, I1, I2, I3]
    exact RetTo_nil (h2 := _) (by simp only [conR, conRL, isF, hget, hdel, List.drop_zero, List.take_length, if_true, if_false, reduceIte, N5, reduceCtorEq]; rfl) (NilTo_tup (NilToL_cons (NilTo_agg nil_sta) (NilToL_cons (NilTo_agg nil_wk) (NilToL_cons (NilTo.refl _) NilToL_nil))))
  simp only [ej, push_cast, ↓J1, ↓J2, N1, N2, N3, reduceCtorEq, N4, N5, N6, reduceIte, N7, I1, I2, I3]
  cases g5 : decide (x.pt < (kindOf b (unOf s k).k).st)
  rotate_left
  · have hno : rsOk b s x k = false := by simp only [rsOk, g5, Bool.not_true, Bool.and_false, Bool.false_and]
    rw [ej] at g5
    simp only [hno, g5, Bool.false_eq_true, if_false, push_cast, ↓J1, ↓J2, N1, N2, N3, reduceCtorEq, N4, N5, N6, reduceIte, N7, I1, I2, I3]
    exact RetTo_nil (h2 := _) (by simp only [conR, conRL, isF, hget, hdel, List.drop_zero, List.take_length, if_true, if_false, reduceIte, N5, reduceCtorEq]; rfl) (NilTo_tup (NilToL_cons (NilTo_agg nil_sta) (NilToL_cons (NilTo_agg nil_wk) (NilToL_cons (NilTo.refl _) NilToL_nil))))
  have g5' := g5
  rw [ej] at g5'
  simp only [g5', push_cast, ↓J1, ↓J2, N1, N2, N3, reduceCtorEq, N4, N5, N6, reduceIte, N7, I1, I2, I3]
  have hok : rsOk b s x k = true := by simp only [rsOk, g1, g2, g3, g4, g5, g6, Bool.and_self, Bool.not_false]
  simp only [hok, if_true, rsS, rsW, Int.toNat_natCast, staF, staO, wkF, wkO]
  have hkb' := hkb
  rw [ej] at hkb'
  have o1 := o1
  have o2 := o2 (by omega)
  have es := fun v => uns_set (s := s) (k := k) (a := (unOf s k).sd) (b := (unOf s k).k) (c := (unOf s k).at_) (d := v)
  have wz : IntKind.i64.wrap ((unOf s k).st + 1) = (unOf s k).st + 1 := wrap64 (by omega) (by omega)
  have wp : IntKind.i64.wrap (x.pt - (kindOf b j).st) = x.pt - (kindOf b j).st := wrap64 (by omega) (by omega)
  have hset : ∀ v : Un, (s.us.set k v).length = s.us.length := fun v => List.length_set
  have tku : ∀ v : Un, List.take s.us.length (uns (s.us.set k v)) = uns (s.us.set k v) := fun v => List.take_of_length_le (by rw [uns_length, List.length_set]; omega)
  have tkq : List.take x.q.length (ints x.q) = ints x.q := List.take_of_length_le (by rw [ints_length]; omega)
  have wd1 : decide ((k : Int) < (s.us.length : Int)) = true := decide_eq_true (by omega)
  have e0 : List.take s.us.length (uns s.us) = uns s.us := List.take_of_length_le (by rw [uns_length]; omega)
  repeat' (first
    | simp only [g6', ej, e1, e2, unA, kinA, Int.toNat_natCast, uns_length, ints_length, wz, wp, es, push_cast, ↓J1, ↓J2, N1, N2, N3, reduceCtorEq, N4, N5, N6, reduceIte, N7, I1, I2, I3]
    | refine ⟨_, o1, ?_⟩
    | refine ⟨_, o2, ?_⟩
    | refine ifB_intro (fun h => ?_) (fun h => ?_)
    | refine And.intro ?_ ?_)
  all_goals first
    | omega
    | skip
  all_goals exact RetTo_of (by simp only [conR, conRL, isF, hget, hdel, List.drop_zero, List.take_length, if_true, if_false, reduceIte, N5, reduceCtorEq, uns_set, tku, tkq, uns_length, ints_length]; rfl)
end
end Go.Proofs.YtjaccjeejeiphaaGreatDoor.X
