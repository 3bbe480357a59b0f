/- A part of the proof: lemmas on the machine or on the functions that the law reaches. No condition of its own. -/
import Derived.Test.YtfnphiiopghnpaaDoorXP5
import Derived.Test.YtfnphiiopghnpaaDoorXP4
set_option maxHeartbeats 4000000
set_option maxRecDepth 8000
set_option linter.unusedSimpArgs false
set_option linter.unusedVariables false
open Nat renaming reduceBEq → N1, reduceAdd → N2, reduceSub → N3, reduceMul → N4, reduceEqDiff → N5, reduceLeDiff → N6, reduceLT → N7
open Int renaming reduceLE → I1, reduceLT → I2, reduceToNat → I3
namespace Go.Proofs.YtfnphiiopghnpaaDoor.X
open Go
attribute [local irreducible] Ev
def FrH (ids : List Nat) (n : Nat) (h h' : Heap) : Prop := ∀ j, j < n → j ∉ ids → hget h' j = hget h j
structure MP (ids : List Nat) (h : Heap) (n c : Nat) (k W : Int) (v : AV) (h' : Heap) (n' : Nat) : Prop where
  v : ∃ m, v = .int .i64 m ∧ k ≤ m ∧ m ≤ k + W
  nn : n' = n + c
  f : FrH ids n h h'
  b : below n' h'
  s : solid h'
theorem FrH.set {n id : Nat} {h : Heap} {o : Ob} : FrH [id] n h (hset h id o) := by
  intro j _ hj
  rw [hget_set, if_neg (by simp at hj; omega)]
theorem FrH.trans {a b : List Nat} {n n' : Nat} {h h' h2 : Heap} (h1 : FrH a n h h') (h3 : FrH b n' h' h2) (hn : n ≤ n') : FrH (a ++ b) n h h2 := by
  intro j hj hm
  simp only [List.mem_append, not_or] at hm
  rw [h3 j (by omega) hm.2, h1 j hj hm.1]
theorem FrH.box {n : Nat} {h : Heap} {o : Ob} : FrH [] n h ((n, o) :: h) := by
  intro j hj _
  simp only [hget, if_neg (show ¬ n = j by omega)]
theorem solid_box {n : Nat} {h : Heap} {cs : List AV} (hs : solid h) (hk : killL cs = cs) : solid ((n, .var cs) :: h) := by
  unfold solid at *
  simp only [killH, hk, hs]
theorem below_box {n : Nat} {h : Heap} {cs : List AV} (hb : below n h) (hk : renL (n + 1) [] cs = cs) : below (n + 1) ((n, .var cs) :: h) :=
  below_mk (by omega) (by simp only [renO, hk]) (below_succ hb)
theorem hget_box {n j : Nat} {h : Heap} {o u : Ob} (hb : below n h) (hg : hget h j = some u) : hget ((n, o) :: h) j = some u := by
  have := below_lt hb hg
  simp only [hget, if_neg (show ¬ n = j by omega), hg]
def dig (k : Int) : UInt8 := UInt8.ofNat (IntKind.u8.wrap (IntKind.i64.wrap (48 + k.tmod 10))).toNat
def mtx : Nat → Int → ByteArray → ByteArray
  | 0, _, a => a
  | f + 1, k, a => if 0 < k then mtx f (k.tdiv 10) (⟨#[dig k]⟩ ++ a) else a
theorem mtx_stop {f : Nat} {k : Int} {a : ByteArray} (h : k ≤ 0) : mtx f k a = a := by
  cases f with
  | zero => rfl
  | succ f => simp only [mtx, if_neg (show ¬ 0 < k by omega)]
def mText (k : Int) : ByteArray := if k ≤ 0 then ⟨#[109, 48]⟩ else ⟨#[109]⟩ ++ mtx k.toNat k ByteArray.empty
theorem tdiv10 {k : Int} (h : 0 < k) : 0 ≤ k.tdiv 10 ∧ k.tdiv 10 ≤ k - 1 := by
  rw [Int.tdiv_eq_ediv_of_nonneg (by omega)]
  omega
def mkUns (k : Int) (n : Nat) : List Un := (List.range n).map fun i : Nat => ⟨k + 4 * (i : Int), k + 4 * (i : Int) + 1, k + 4 * (i : Int) + 2, k + 4 * (i : Int) + 3⟩
theorem mkUns_length {k : Int} {n : Nat} : (mkUns k n).length = n := by simp [mkUns]
theorem mkUns_get {k : Int} {n i : Nat} (h : i < n) : (uns (mkUns k n))[i]? = some (unA ⟨k + 4 * (i : Int), k + 4 * (i : Int) + 1, k + 4 * (i : Int) + 2, k + 4 * (i : Int) + 3⟩) := by
  simp [uns, mkUns, h]
theorem mkUns_succ {us : List Un} {k : Int} {i : Nat} (h : i < us.length) : (uns (mkUns k i ++ us.drop i)).set i (unA ⟨k + 4 * (i : Int), k + 4 * (i : Int) + 1, k + 4 * (i : Int) + 2, k + 4 * (i : Int) + 3⟩) = uns (mkUns k (i + 1) ++ us.drop (i + 1)) := by
  have e : us.drop i = us[i] :: us.drop (i + 1) := List.drop_eq_getElem_cons h
  have e2 : mkUns k (i + 1) = mkUns k i ++ [⟨k + 4 * (i : Int), k + 4 * (i : Int) + 1, k + 4 * (i : Int) + 2, k + 4 * (i : Int) + 3⟩] := by simp [mkUns, List.range_succ]
  rw [e, e2]
  simp only [uns, List.map_append, List.map_cons, List.map_nil, List.append_assoc, List.cons_append, List.nil_append]
  rw [mid_set (by simp [mkUns])]
section
variable {C : CT} (hC : Closed Tryd.prog G1 md0 C)
include hC
theorem t66 (k : Int) (hk : k ≤ 2^50) : Ev C 66 [.int .i64 k] (.str (mText k)) := by
  refine rT hC Q66 ?_
  simp only [c66, push_cast, ↓J1, ↓J2, N1, N2, N3, reduceCtorEq, N4, N5, N6, reduceIte, N7, I1, I2, I3]
  refine ifB_intro (fun h => ?_) (fun h => ?_)
  · have h' := of_decide_eq_true h
    simp only [mText, if_pos h', push_cast, ↓J1, ↓J2, N1, N2, N3, reduceCtorEq, N4, N5, N6, reduceIte, N7, I1, I2, I3]
  have h' := of_decide_eq_false h
  simp only [mText, if_neg h']
  refine RL_ind (fun m s' => ∃ (x : Int) (a : ByteArray), x ≤ m ∧ (a.size : Int) + x ≤ k ∧ x ≤ k ∧ 0 ≤ x ∧ mtx k.toNat k ByteArray.empty = mtx m x a ∧ s' = ⟨tb 20 .any [(0, .int .i64 x), (3, .str a)], [], 0⟩) k.toNat ⟨tb 20 .any [(0, .int .i64 k), (3, .str ByteArray.empty)], [], 0⟩ (hdA []) ⟨k, _, by omega, by show (0 : Int) + k ≤ k; omega, by omega, by omega, rfl, rfl⟩ ?_
  rintro m s' ⟨x, a, h1, h2, h3, h4, h5, rfl⟩ J hJ
  simp only [push_cast, ↓J1, ↓J2, N1, N2, N3, reduceCtorEq, N4, N5, N6, reduceIte, N7, I1, I2, I3]
  refine ifB_intro (fun h => ?_) (fun h => ?_)
  · have hx := of_decide_eq_true h
    have hd := tdiv10 hx
    cases m with
    | zero => omega
    | succ m =>
      rw [mtx, if_pos hx] at h5
      have w1 : IntKind.i64.wrap (x.tdiv 10) = x.tdiv 10 := wrap64 (by omega) (by omega)
      have t1 : List.take 1 [[AV.int .u8 (IntKind.u8.wrap (IntKind.i64.wrap (48 + x.tmod 10)))]] = [[AV.int .u8 (IntKind.u8.wrap (IntKind.i64.wrap (48 + x.tmod 10)))]] := rfl
      simp only [byteL, w1, t1, bytesV_one, show (10 : Int) ≠ 0 by decide, push_cast, ↓J1, ↓J2, N1, N2, N3, reduceCtorEq, N4, N5, N6, reduceIte, N7, I1, I2, I3]
      have s1 : (⟨#[dig x]⟩ : ByteArray).size = 1 := rfl
      and_intros
      all_goals first | (show (((⟨#[dig x]⟩ : ByteArray).size + a.size : Nat) : Int) ≤ _; rw [s1]; omega) | skip
      refine hJ m _ _ (by omega) ⟨x.tdiv 10, ⟨#[dig x]⟩ ++ a, by omega, ?_, by omega, by omega, h5, rfl⟩ (hdA [])
      rw [ByteArray.size_append, s1]; omega
  · have hx := of_decide_eq_false h
    rw [h5, mtx_stop (by omega)]
    simp only [push_cast, ↓J1, ↓J2, N1, N2, N3, reduceCtorEq, N4, N5, N6, reduceIte, N7, I1, I2, I3]
    and_intros
    all_goals first | (show (((⟨#[109]⟩ : ByteArray).size + a.size : Nat) : Int) ≤ _; rw [show (⟨#[109]⟩ : ByteArray).size = 1 from rfl]; omega) | skip
theorem t32p (l : List Int) (k : Int) (h : Heap) (id n i0 szo c : Nat) (es : List (List AV)) (e : List AV) (hg : hget h id = some (.slice szo es)) (he : es[i0]? = some e) (hc : e[c]? = some (.ow 1 (ints l))) (hb : below n h) (hk : 0 ≤ k ∧ k < 2^50) (hl : l.length < 2^50) : C 32 [.ref id (some (szo, i0, c)) 1 0 l.length, .int .i64 k] h n (fun v h' n' => v = .int .i64 (k + l.length) ∧ n' = n ∧ h' = hset h id (.slice szo (es.set i0 (e.set c (.ow 1 (ints (mk l k l.length))))))) := by
  have hid := below_lt hb hg
  have hi0 : i0 < es.length := (List.getElem?_eq_some_iff.1 he).1
  have hc0 : c < e.length := (List.getElem?_eq_some_iff.1 hc).1
  refine Closed.rT hC Q32 ?_
  simp only [c32, push_cast, ↓J1, ↓J2, N1, N2, N3, reduceCtorEq, N4, N5, N6, reduceIte, N7, I1, I2, I3]
  refine RL_count (fun i => ⟨tb 19 .any [(0, .ref id (some (szo, i0, c)) 1 0 l.length), (1, .int .i64 (k + i)), (5, .int .i64 (i : Int))], hset h id (.slice szo (es.set i0 (e.set c (.ow 1 (ints (mk l k i)))))), n⟩) (fun _ => True) l.length 0 (head_tb [] (by simp [rhoOk, objIds]) (by simp only [hid, keptV_cons, keptV_nil, tb_get, lk_same, lk_ne, lk_nil, ren, renL, lkp, N7, N1, N5, reduceIte, and_true, true_and, Nat.not_lt_zero, if_false, if_true, Nat.add_zero, Nat.zero_add]; simp) ?_) (by omega) trivial fun i hi _ J hJ => ?_
  · rw [mk_zero]
    have e2 : e.set c (.ow 1 (ints l)) = e := by
      apply List.ext_getElem?
      intro j
      rw [List.getElem?_set]
      split
      · rename_i q; subst q; rw [hc]; try simp [hc0]
      · rfl
    have e3 : es.set i0 e = es := by
      apply List.ext_getElem?
      intro j
      rw [List.getElem?_set]
      split
      · rename_i q; subst q; rw [he]; try simp [hi0]
      · rfl
    rw [e2, e3, hset_get hg]; exact hb
  have hgi : hget (hset h id (.slice szo (es.set i0 (e.set c (.ow 1 (ints (mk l k i))))))) id = some (.slice szo (es.set i0 (e.set c (.ow 1 (ints (mk l k i)))))) := hget_same hg
  have hei : (es.set i0 (e.set c (.ow 1 (ints (mk l k i)))))[i0]? = some (e.set c (.ow 1 (ints (mk l k i)))) := by simp [hi0]
  have hci : (e.set c (.ow 1 (ints (mk l k i))))[c]? = some (.ow 1 (ints (mk l k i))) := by simp [hc0]
  by_cases h1 : i < l.length
  · have e1 : (ints (mk l k i))[i]? = some [.int .i64 ((mk l k i).getD i 0)] := ints_get (by rw [mk_length hi]; exact h1)
    simp only [Int.toNat_natCast, hgi, hei, hci, e1, push_cast, ↓J1, ↓J2, N1, N2, N3, reduceCtorEq, N4, N5, N6, reduceIte, N7, I1, I2, I3]
    refine ifB_intro (fun _ => ?_) (fun h => by simp at h; omega)
    repeat (refine ⟨by omega, ?_⟩)
    refine hJ h1 trivial _ (head_tb [] (by simp [rhoOk, objIds]) ?_ ?_)
    · simp only [hid, keptV_cons, keptV_nil, tb_get, lk_same, lk_ne, lk_nil, ren, renL, lkp, N7, N1, N5, reduceIte, and_true, true_and, Nat.not_lt_zero, if_false, if_true, Nat.add_zero, Nat.zero_add]
      rw [wrap64 (by omega) (by omega), wrap64 (by omega) (by omega)]
      simp; omega
    · rw [ints_set, mk_succ h1, List.set_set, List.set_set, hset_hset]
      exact below_set hb
  · obtain rfl : i = l.length := by omega
    simp only [push_cast, ↓J1, ↓J2, N1, N2, N3, reduceCtorEq, N4, N5, N6, reduceIte, N7, I1, I2, I3]
    refine ifB_intro (fun h => by simp at h) (fun h => ?_)
    trivial
theorem t50 (l : List Kin) (k : Int) (h : Heap) (id n : Nat) (hg : hget h id = some (.slice 6 (kins l))) (hb : below n h) (hs : solid h) (hk : 0 ≤ k ∧ k ≤ 2^47) (hl : l.length < 2^21) : C 50 [.ref id none 6 0 l.length, .int .i64 k] h n (MP [id] h n 0 k (2^43)) := by
  have hid := below_lt hb hg
  refine Closed.rT hC Q50 ?_
  simp only [c50, push_cast, ↓J1, ↓J2, N1, N2, N3, reduceCtorEq, N4, N5, N6, reduceIte, N7, I1, I2, I3]
  have hgi : ∀ es : List (List AV), hget (hset h id (.slice 6 es)) id = some (.slice 6 es) := fun es => hget_same hg
  refine RL_ind (fun m s' => ∃ (i : Nat) (l' : List Kin) (k' : Int), i + m = l.length ∧ l'.length = l.length ∧ k ≤ k' ∧ k' ≤ k + i * 6 ∧ s' = ⟨tb 58 .any [(0, .ref id none 6 0 l.length), (1, .int .i64 k'), (5, .int .i64 (i : Int))], hset h id (.slice 6 (kins l')), n⟩) l.length ⟨tb 58 .any [(0, .ref id none 6 0 l.length), (1, .int .i64 k), (5, .int .i64 0)], hset h id (.slice 6 (kins l)), n⟩ (head_tb [] (by simp [rhoOk, objIds]) (by simp only [hid, keptV_cons, keptV_nil, tb_get, lk_same, lk_ne, lk_nil, ren, renL, lkp, N7, N1, N5, reduceIte, and_true, true_and, Nat.not_lt_zero, if_false, if_true, Nat.add_zero, Nat.zero_add]; all_goals simp) (by rw [hset_get hg]; exact hb)) ⟨0, l, k, by omega, rfl, by omega, by omega, rfl⟩ ?_
  rintro m s' ⟨i, l', k', h1, h2, h3, h4, rfl⟩ J hJ
  by_cases hi : i < l.length
  · have e1 : (kins l')[i]? = some (kinA (l'[i]'(by omega))) := by simp [kins, h2, hi]
    have gs : ∀ e : List AV, ((kins l').set i e)[i]? = some e := by intro e; simp [kins, h2, hi]
    have ls : ∀ u : Kin, (kins l').set i (kinA u) = kins (l'.set i u) := by intro u; simp [kins, List.map_set]
    generalize (l'[i]'(by omega)) = t at *
    have w0 : IntKind.i64.wrap (k' + 1) = k' + 1 := wrap64 (by omega) (by omega)
    have w1 : IntKind.i64.wrap (k' + 1 + 1) = k' + 1 + 1 := wrap64 (by omega) (by omega)
    have w2 : IntKind.i64.wrap (k' + 1 + 1 + 1) = k' + 1 + 1 + 1 := wrap64 (by omega) (by omega)
    have w3 : IntKind.i64.wrap (k' + 1 + 1 + 1 + 1) = k' + 1 + 1 + 1 + 1 := wrap64 (by omega) (by omega)
    have w4 : IntKind.i64.wrap (k' + 1 + 1 + 1 + 1 + 1) = k' + 1 + 1 + 1 + 1 + 1 := wrap64 (by omega) (by omega)
    have w5 : IntKind.i64.wrap (k' + 1 + 1 + 1 + 1 + 1 + 1) = k' + 1 + 1 + 1 + 1 + 1 + 1 := wrap64 (by omega) (by omega)
    have hT := t66 hC k' (by omega)
    simp only [Int.toNat_natCast, hgi, e1, kinA, push_cast, ↓J1, ↓J2, N1, N2, N3, reduceCtorEq, N4, N5, N6, reduceIte, N7, I1, I2, I3]
    refine ifB_intro (fun _ => ?_) (fun h => by simp at h; omega)
    repeat (refine ⟨by omega, ?_⟩)
    refine ⟨_, hT, ?_⟩
    repeat' (first | refine ⟨by omega, ?_⟩ | simp only [Int.toNat_natCast, hgi, e1, gs, hset_hset, List.set_set, setsA, List.set_cons_zero, List.set_cons_succ, kinA, w0, w1, w2, w3, w4, w5, push_cast, ↓J1, ↓J2, N1, N2, N3, reduceCtorEq, N4, N5, N6, reduceIte, N7, I1, I2, I3])
    refine hJ (m - 1) _ _ (by omega) ⟨i + 1, l'.set i ⟨mText k', k' + 1, k' + 1 + 1, k' + 1 + 1 + 1, decide ((k' + 1 + 1 + 1 + 1).tmod 3 = 0), k' + 1 + 1 + 1 + 1 + 1⟩, k' + 1 + 1 + 1 + 1 + 1 + 1, by omega, by simp [h2], ?_, ?_, rfl⟩ (head_tb [] (by simp [rhoOk, objIds]) ?_ ?_)
    rotate_left 2
    · simp only [hid, keptV_cons, keptV_nil, tb_get, lk_same, lk_ne, lk_nil, ren, renL, lkp, N7, N1, N5, reduceIte, and_true, true_and, Nat.not_lt_zero, if_false, if_true, Nat.add_zero, Nat.zero_add]
      rw [wrap64 (n := (i : Int) + 1) (by omega) (by omega)]
      and_intros <;> first | rfl | (simp; done) | omega
    · rw [← ls]
      simp only [kinA]
      exact below_set hb
    all_goals omega
  · simp only [push_cast, ↓J1, ↓J2, N1, N2, N3, reduceCtorEq, N4, N5, N6, reduceIte, N7, I1, I2, I3]
    refine ifB_intro (fun h => by simp at h; omega) (fun h => ?_)
    exact ⟨⟨k', rfl, by omega, by omega⟩, rfl, FrH.set, below_set hb, solid_set hs⟩
theorem t49 (l : List Ter) (k : Int) (h : Heap) (id n : Nat) (hg : hget h id = some (.slice 5 (tersO l))) (hb : below n h) (hs : solid h) (hk : 0 ≤ k ∧ k ≤ 2^47) (hl : l.length < 2^21) (hc : ∀ t ∈ l, t.c.length < 2^21) : C 49 [.ref id none 5 0 l.length, .int .i64 k] h n (MP [id] h n 0 k (2^43)) := by
  have hid := below_lt hb hg
  refine Closed.rT hC Q49 ?_
  simp only [c49, push_cast, ↓J1, ↓J2, N1, N2, N3, reduceCtorEq, N4, N5, N6, reduceIte, N7, I1, I2, I3]
  have hgi : ∀ es : List (List AV), hget (hset h id (.slice 5 es)) id = some (.slice 5 es) := fun es => hget_same hg
  refine RL_ind (fun m s' => ∃ (i : Nat) (l' : List Ter) (k' : Int), i + m = l.length ∧ l'.length = l.length ∧ (∀ t ∈ l', t.c.length < 2^21) ∧ k ≤ k' ∧ k' ≤ k + i * 2097156 ∧ s' = ⟨tb 51 .any [(0, .ref id none 5 0 l.length), (1, .int .i64 k'), (5, .int .i64 (i : Int))], hset h id (.slice 5 (tersO l')), n⟩) l.length ⟨tb 51 .any [(0, .ref id none 5 0 l.length), (1, .int .i64 k), (5, .int .i64 0)], hset h id (.slice 5 (tersO l)), n⟩ (head_tb [] (by simp [rhoOk, objIds]) (by simp only [hid, keptV_cons, keptV_nil, tb_get, lk_same, lk_ne, lk_nil, ren, renL, lkp, N7, N1, N5, reduceIte, and_true, true_and, Nat.not_lt_zero, if_false, if_true, Nat.add_zero, Nat.zero_add]; all_goals simp) (by rw [hset_get hg]; exact hb)) ⟨0, l, k, by omega, rfl, hc, by omega, by omega, rfl⟩ ?_
  rintro m s' ⟨i, l', k', h1, h2, hI, h3, h4, rfl⟩ J hJ
  by_cases hi : i < l.length
  · have e1 : (tersO l')[i]? = some (terO (l'[i]'(by omega))) := by simp [tersO, h2, hi]
    have gs : ∀ e : List AV, ((tersO l').set i e)[i]? = some e := by intro e; simp [tersO, h2, hi]
    have ls : ∀ u : Ter, (tersO l').set i (terO u) = tersO (l'.set i u) := by intro u; simp [tersO, List.map_set]
    have hin := hI _ (List.getElem_mem (show i < l'.length by omega))
    generalize (l'[i]'(by omega)) = t at *
    have w0 : IntKind.i64.wrap (k' + 1) = k' + 1 := wrap64 (by omega) (by omega)
    have hT := t66 hC k' (by omega)
    have hL : t.c.length < 2^21 := hin
    have w1 : IntKind.i64.wrap (k' + 1 + (t.c.length : Int) + 1) = k' + 1 + (t.c.length : Int) + 1 := wrap64 (by omega) (by omega)
    have w2 : IntKind.i64.wrap (k' + 1 + (t.c.length : Int) + 1 + 1) = k' + 1 + (t.c.length : Int) + 1 + 1 := wrap64 (by omega) (by omega)
    have w3 : IntKind.i64.wrap (k' + 1 + (t.c.length : Int) + 1 + 1 + 1) = k' + 1 + (t.c.length : Int) + 1 + 1 + 1 := wrap64 (by omega) (by omega)
    simp only [Int.toNat_natCast, hgi, e1, terO, push_cast, ↓J1, ↓J2, N1, N2, N3, reduceCtorEq, N4, N5, N6, reduceIte, N7, I1, I2, I3]
    refine ifB_intro (fun _ => ?_) (fun h => by simp at h; omega)
    repeat (refine ⟨by omega, ?_⟩)
    refine ⟨_, hT, ?_⟩
    repeat' (first | refine ⟨by omega, ?_⟩ | simp only [Int.toNat_natCast, hgi, e1, gs, hset_hset, ints_length, List.set_set, setsA, List.set_cons_zero, List.set_cons_succ, terO, w0, push_cast, ↓J1, ↓J2, N1, N2, N3, reduceCtorEq, N4, N5, N6, reduceIte, N7, I1, I2, I3])
    refine ⟨_, t32p hC t.c (k' + 1) _ id n i 5 1 _ _ (hgi _) (gs _) rfl (below_set hb) (by omega) (by omega), ?_⟩
    rintro v hh nn ⟨rfl, rfl, rfl⟩ _
    have hs2 := solid_set (id := id) (sz := 5) (es := ((tersO l').set i (terO ⟨mText k', mk t.c (k' + 1) t.c.length, t.s, t.h, t.b⟩))) hs
    unfold solid at hs2
    simp only [terO] at hs2
    simp only [hs2, hset_hset, List.set_set, List.set_cons_zero, List.set_cons_succ, push_cast, ↓J1, ↓J2, N1, N2, N3, reduceCtorEq, N4, N5, N6, reduceIte, N7, I1, I2, I3]
    repeat' (first | refine ⟨by omega, ?_⟩ | simp only [Int.toNat_natCast, hgi, e1, gs, hset_hset, List.set_set, setsA, List.set_cons_zero, List.set_cons_succ, terO, w1, w2, w3, push_cast, ↓J1, ↓J2, N1, N2, N3, reduceCtorEq, N4, N5, N6, reduceIte, N7, I1, I2, I3])
    refine hJ (m - 1) _ _ (by omega) ⟨i + 1, l'.set i ⟨mText k', mk t.c (k' + 1) t.c.length, k' + 1 + t.c.length, k' + 1 + t.c.length + 1, decide ((k' + 1 + t.c.length + 1 + 1).tmod 3 = 0)⟩, k' + 1 + t.c.length + 1 + 1 + 1, by omega, by simp [h2], ?_, ?_, ?_, rfl⟩ (head_tb [] (by simp [rhoOk, objIds]) ?_ ?_)
    rotate_left 3
    · simp only [hid, keptV_cons, keptV_nil, tb_get, lk_same, lk_ne, lk_nil, ren, renL, lkp, N7, N1, N5, reduceIte, and_true, true_and, Nat.not_lt_zero, if_false, if_true, Nat.add_zero, Nat.zero_add]
      rw [wrap64 (n := (i : Int) + 1) (by omega) (by omega)]
      and_intros <;> first | rfl | (simp; done) | omega
    · rw [← ls]
      simp only [terO]
      exact below_set hb
    · intro u hu
      rcases List.mem_or_eq_of_mem_set hu with hu | rfl
      · exact hI u hu
      · show (mk t.c (k' + 1) t.c.length).length < _
        rw [mk_length (Nat.le_refl _)]; exact hL
    all_goals omega
  · simp only [push_cast, ↓J1, ↓J2, N1, N2, N3, reduceCtorEq, N4, N5, N6, reduceIte, N7, I1, I2, I3]
    refine ifB_intro (fun h => by simp at h; omega) (fun h => ?_)
    exact ⟨⟨k', rfl, by omega, by omega⟩, rfl, FrH.set, below_set hb, solid_set hs⟩
end
end Go.Proofs.YtfnphiiopghnpaaDoor.X
set_option maxHeartbeats 400000
set_option maxRecDepth 8000
set_option linter.unusedSimpArgs false
set_option linter.unusedVariables false
open Nat renaming reduceBEq → N1, reduceAdd → N2, reduceSub → N3, reduceMul → N4, reduceEqDiff → N5, reduceLeDiff → N6, reduceLT → N7
open Int renaming reduceLE → I1, reduceLT → I2, reduceToNat → I3
namespace Go.Proofs.YtfnphiiopghnpaaDoor.X
open Go
attribute [local irreducible] Ev
theorem MP_set {id n : Nat} {h h' : Heap} {sz : Nat} {es : List (List AV)} {k m W : Int} {v : AV} {n' : Nat} (hb : below n h) (hs : solid h) (hm : k ≤ m ∧ m ≤ k + W) (hp : v = .int .i64 m ∧ n' = n ∧ h' = hset h id (.slice sz es)) : MP [id] h n 0 k W v h' n' := by
  obtain ⟨rfl, rfl, rfl⟩ := hp
  exact ⟨⟨m, rfl, hm.1, hm.2⟩, rfl, FrH.set, below_set hb, solid_set hs⟩
theorem lens_bnd : ∀ {W : List (List Int)}, (∀ r ∈ W, r.length < 2 ^ 21) → lens W ≤ W.length * 2097152
  | [], _ => by simp [lens]
  | r :: W, h => by
    have h1 := h r (by simp)
    have h2 := lens_bnd (W := W) fun x hx => h x (by simp [hx])
    simp only [lens, List.map_cons, List.sum_cons, List.length_cons] at *
    omega
theorem FrH.get {ids : List Nat} {n j : Nat} {h h' : Heap} {o : Ob} (hf : FrH ids n h h') (hb : below n h) (hj : j ∉ ids) (hg : hget h j = some o) : hget h' j = some o := by
  rw [hf j (below_lt hb hg) hj, hg]
structure MS (id : Nat) (h : Heap) (n c : Nat) (k : Int) (len : Nat) (v : AV) (h' : Heap) (n' : Nat) : Prop where
  v : v = .int .i64 (k + 4 * (len : Int))
  nn : n' = n + c
  g : hget h' id = some (.slice 4 (uns (mkUns k len)))
  f : FrH [id] n h h'
  b : below n' h'
  s : solid h'
structure MW (id : Nat) (h : Heap) (n c : Nat) (k : Int) (len : Nat) (v : AV) (h' : Heap) (n' : Nat) : Prop where
  v : v = .int .i64 (k + (len : Int))
  nn : n' = n + c
  g : hget h' id = some (.slice 1 (ints (run k len)))
  f : FrH [id] n h h'
  b : below n' h'
  s : solid h'
section
variable {C : CT} (hC : Closed Tryd.prog G1 md0 C)
include hC
theorem t14 (a b c : Int) (k : Int) (n : Nat) (hk : 0 ≤ k ∧ k ≤ 2^47) (hn : n < 2^40) : Ev C 14 [.agg [.int .i64 a, .int .i64 b, .int .i64 c, .sl (ints (run k n))], .int .i64 k] (.int .i64 (k + (n : Int))) := by
  have c1 := t33 hC k n (by omega) (by omega)
  refine rT hC Q14 ?_
  simp only [c14, push_cast, ↓J1, ↓J2, N1, N2, N3, reduceCtorEq, N4, N5, N6, reduceIte, N7, I1, I2, I3]
  refine ⟨_, c1, ?_⟩
  have g1 : decide (k + (n : Int) < 0) = false := decide_eq_false (by omega)
  simp only [g1, push_cast, ↓J1, ↓J2, N1, N2, N3, reduceCtorEq, N4, N5, N6, reduceIte, N7, I1, I2, I3]
theorem t31 (m : Mp) (i1 i2 i3 : Nat) (k : Int) (h : Heap) (n : Nat) (gi1 : hget h i1 = some (.slice 1 (ints m.t))) (gi2 : hget h i2 = some (.slice 1 (ints m.ri))) (gi3 : hget h i3 = some (.slice 1 (ints m.ro))) (ni1i2 : i1 ≠ i2) (ni1i3 : i1 ≠ i3) (ni2i3 : i2 ≠ i3) (hB : MpB (2^21) m) (hb : below n h) (hs : solid h) (hk : 0 ≤ k ∧ k ≤ 2^48) : C 31 [.agg [.int .i64 m.w, .int .i64 m.h, .ref i1 none 1 0 m.t.length, .ref i2 none 1 0 m.ri.length, .ref i3 none 1 0 m.ro.length], .int .i64 k] h n (MP [i1, i2, i3] h n 1 k (2^45)) := by
  have qi1 := below_lt hb gi1
  have qi2 := below_lt hb gi2
  have qi3 := below_lt hb gi3
  refine Closed.rT hC Q31 ?_
  simp only [c31, push_cast, ↓J1, ↓J2, N1, N2, N3, reduceCtorEq, N4, N5, N6, reduceIte, N7, I1, I2, I3]
  have B0 : below (n + 1) ((n, .var [.int .i64 m.w, .int .i64 m.h, .ref i1 none 1 0 m.t.length, .ref i2 none 1 0 m.ri.length, .ref i3 none 1 0 m.ro.length]) :: h) := below_box hb (by simp only [renL, ren, lkp, if_pos (show i1 < n + 1 by omega), if_pos (show i2 < n + 1 by omega), if_pos (show i3 < n + 1 by omega)])
  have S0 : solid ((n, .var [.int .i64 m.w, .int .i64 m.h, .ref i1 none 1 0 m.t.length, .ref i2 none 1 0 m.ri.length, .ref i3 none 1 0 m.ro.length]) :: h) := solid_box hs rfl
  have F0 : FrH [] n h ((n, .var [.int .i64 m.w, .int .i64 m.h, .ref i1 none 1 0 m.t.length, .ref i2 none 1 0 m.ri.length, .ref i3 none 1 0 m.ro.length]) :: h) := FrH.box
  have V0 : hget ((n, .var [.int .i64 m.w, .int .i64 m.h, .ref i1 none 1 0 m.t.length, .ref i2 none 1 0 m.ri.length, .ref i3 none 1 0 m.ro.length]) :: h) n = some (.var [.int .i64 m.w, .int .i64 m.h, .ref i1 none 1 0 m.t.length, .ref i2 none 1 0 m.ri.length, .ref i3 none 1 0 m.ro.length]) := by simp only [hget, if_true]
  have gi10 := hget_box (n := n) (o := .var [.int .i64 m.w, .int .i64 m.h, .ref i1 none 1 0 m.t.length, .ref i2 none 1 0 m.ri.length, .ref i3 none 1 0 m.ro.length]) hb gi1
  have gi20 := hget_box (n := n) (o := .var [.int .i64 m.w, .int .i64 m.h, .ref i1 none 1 0 m.t.length, .ref i2 none 1 0 m.ri.length, .ref i3 none 1 0 m.ro.length]) hb gi2
  have gi30 := hget_box (n := n) (o := .var [.int .i64 m.w, .int .i64 m.h, .ref i1 none 1 0 m.t.length, .ref i2 none 1 0 m.ri.length, .ref i3 none 1 0 m.ro.length]) hb gi3
  generalize ((n, Ob.var [.int .i64 m.w, .int .i64 m.h, .ref i1 none 1 0 m.t.length, .ref i2 none 1 0 m.ri.length, .ref i3 none 1 0 m.ro.length]) :: h) = H0 at *
  refine ⟨_, t32 hC m.t k H0 i1 (n + 1) gi10 B0 (by have := hB.t; have := hB.ri; have := hB.ro; omega) (by have := hB.t; have := hB.ri; have := hB.ro; omega), ?_⟩
  rintro v0 H1 m0 p0 _
  replace p0 := MP_set (W := 2^43) (k := k) (m := k + (m.t.length : Int)) B0 S0 (by have := hB.t; have := hB.ri; have := hB.ro; omega) p0
  obtain ⟨⟨k0, rfl, a0, b0⟩, rfl, f0, B1, S1⟩ := p0
  have V1 := f0.get B0 (by simp only [List.mem_cons, List.not_mem_nil, or_false, not_or]; exact Nat.ne_of_gt qi1) V0
  have gi21 := f0.get B0 (by simp only [List.mem_cons, List.not_mem_nil, or_false, not_or]; exact Ne.symm ni1i2) gi20
  have gi31 := f0.get B0 (by simp only [List.mem_cons, List.not_mem_nil, or_false, not_or]; exact Ne.symm ni1i3) gi30
  have F1 := F0.trans f0 (by omega)
  have K1 : killH H1 = H1 := S1
  simp only [K1, V1, push_cast, ↓J1, ↓J2, N1, N2, N3, reduceCtorEq, N4, N5, N6, reduceIte, N7, I1, I2, I3]
  refine ⟨_, t32 hC m.ri k0 H1 i2 (n + 1) gi21 B1 (by have := hB.t; have := hB.ri; have := hB.ro; omega) (by have := hB.t; have := hB.ri; have := hB.ro; omega), ?_⟩
  rintro v1 H2 m1 p1 _
  replace p1 := MP_set (W := 2^43) (k := k0) (m := k0 + (m.ri.length : Int)) B1 S1 (by have := hB.t; have := hB.ri; have := hB.ro; omega) p1
  obtain ⟨⟨k1, rfl, a1, b1⟩, rfl, f1, B2, S2⟩ := p1
  have V2 := f1.get B1 (by simp only [List.mem_cons, List.not_mem_nil, or_false, not_or]; exact Nat.ne_of_gt qi2) V1
  have gi32 := f1.get B1 (by simp only [List.mem_cons, List.not_mem_nil, or_false, not_or]; exact Ne.symm ni2i3) gi31
  have F2 := F1.trans f1 (by omega)
  have K2 : killH H2 = H2 := S2
  simp only [K2, V2, push_cast, ↓J1, ↓J2, N1, N2, N3, reduceCtorEq, N4, N5, N6, reduceIte, N7, I1, I2, I3]
  refine ⟨_, t32 hC m.ro k1 H2 i3 (n + 1) gi32 B2 (by have := hB.t; have := hB.ri; have := hB.ro; omega) (by have := hB.t; have := hB.ri; have := hB.ro; omega), ?_⟩
  rintro v2 H3 m2 p2 _
  replace p2 := MP_set (W := 2^43) (k := k1) (m := k1 + (m.ro.length : Int)) B2 S2 (by have := hB.t; have := hB.ri; have := hB.ro; omega) p2
  obtain ⟨⟨k2, rfl, a2, b2⟩, rfl, f2, B3, S3⟩ := p2
  have V3 := f2.get B2 (by simp only [List.mem_cons, List.not_mem_nil, or_false, not_or]; exact Nat.ne_of_gt qi3) V2
  have F3 := F2.trans f2 (by omega)
  have K3 : killH H3 = H3 := S3
  simp only [K3, V3, push_cast, ↓J1, ↓J2, N1, N2, N3, reduceCtorEq, N4, N5, N6, reduceIte, N7, I1, I2, I3]
  refine ⟨⟨k2, rfl, by omega, by omega⟩, by omega, fun j hj hm => F3 j hj ?_, by simpa only [Nat.add_assoc] using B3, S3⟩
  simpa using hm
theorem t30 (r : Rul) (j1 j2 : Nat) (k : Int) (h : Heap) (n : Nat) (gj1 : hget h j1 = some (.slice 5 (tersO r.ts))) (gj2 : hget h j2 = some (.slice 6 (kins r.ks))) (nj1j2 : j1 ≠ j2) (hR : RulB (2^21) r) (hb : below n h) (hs : solid h) (hk : 0 ≤ k ∧ k ≤ 2^46 + 2^45) : C 30 [.agg [.ref j1 none 5 0 r.ts.length, .ref j2 none 6 0 r.ks.length, .int .i64 r.stack, .int .i64 r.river, .int .i64 r.road, .int .i64 r.supply, .int .i64 r.turns], .int .i64 k] h n (MP [j1, j2] h n 1 k (2^44)) := by
  have qj1 := below_lt hb gj1
  have qj2 := below_lt hb gj2
  refine Closed.rT hC Q30 ?_
  simp only [c30, push_cast, ↓J1, ↓J2, N1, N2, N3, reduceCtorEq, N4, N5, N6, reduceIte, N7, I1, I2, I3]
  have B0 : below (n + 1) ((n, .var [.ref j1 none 5 0 r.ts.length, .ref j2 none 6 0 r.ks.length, .int .i64 r.stack, .int .i64 r.river, .int .i64 r.road, .int .i64 r.supply, .int .i64 r.turns]) :: h) := below_box hb (by simp only [renL, ren, lkp, if_pos (show j1 < n + 1 by omega), if_pos (show j2 < n + 1 by omega)])
  have S0 : solid ((n, .var [.ref j1 none 5 0 r.ts.length, .ref j2 none 6 0 r.ks.length, .int .i64 r.stack, .int .i64 r.river, .int .i64 r.road, .int .i64 r.supply, .int .i64 r.turns]) :: h) := solid_box hs rfl
  have F0 : FrH [] n h ((n, .var [.ref j1 none 5 0 r.ts.length, .ref j2 none 6 0 r.ks.length, .int .i64 r.stack, .int .i64 r.river, .int .i64 r.road, .int .i64 r.supply, .int .i64 r.turns]) :: h) := FrH.box
  have V0 : hget ((n, .var [.ref j1 none 5 0 r.ts.length, .ref j2 none 6 0 r.ks.length, .int .i64 r.stack, .int .i64 r.river, .int .i64 r.road, .int .i64 r.supply, .int .i64 r.turns]) :: h) n = some (.var [.ref j1 none 5 0 r.ts.length, .ref j2 none 6 0 r.ks.length, .int .i64 r.stack, .int .i64 r.river, .int .i64 r.road, .int .i64 r.supply, .int .i64 r.turns]) := by simp only [hget, if_true]
  have gj10 := hget_box (n := n) (o := .var [.ref j1 none 5 0 r.ts.length, .ref j2 none 6 0 r.ks.length, .int .i64 r.stack, .int .i64 r.river, .int .i64 r.road, .int .i64 r.supply, .int .i64 r.turns]) hb gj1
  have gj20 := hget_box (n := n) (o := .var [.ref j1 none 5 0 r.ts.length, .ref j2 none 6 0 r.ks.length, .int .i64 r.stack, .int .i64 r.river, .int .i64 r.road, .int .i64 r.supply, .int .i64 r.turns]) hb gj2
  generalize ((n, Ob.var [.ref j1 none 5 0 r.ts.length, .ref j2 none 6 0 r.ks.length, .int .i64 r.stack, .int .i64 r.river, .int .i64 r.road, .int .i64 r.supply, .int .i64 r.turns]) :: h) = H0 at *
  refine ⟨_, t49 hC r.ts k H0 j1 (n + 1) gj10 B0 S0 (by omega) hR.ts (fun t ht => (hR.t t ht).2), ?_⟩
  rintro v0 H1 m0 p0 _
  obtain ⟨⟨k0, rfl, a0, b0⟩, rfl, f0, B1, S1⟩ := p0
  have V1 := f0.get B0 (by simp only [List.mem_cons, List.not_mem_nil, or_false, not_or]; exact Nat.ne_of_gt qj1) V0
  have gj21 := f0.get B0 (by simp only [List.mem_cons, List.not_mem_nil, or_false, not_or]; exact Ne.symm nj1j2) gj20
  have F1 := F0.trans f0 (by omega)
  have K1 : killH H1 = H1 := S1
  simp only [K1, V1, push_cast, ↓J1, ↓J2, N1, N2, N3, reduceCtorEq, N4, N5, N6, reduceIte, N7, I1, I2, I3]
  refine ⟨_, t50 hC r.ks k0 H1 j2 (n + 1) gj21 B1 S1 (by omega) hR.ks, ?_⟩
  rintro v1 H2 m1 p1 _
  obtain ⟨⟨k1, rfl, a1, b1⟩, rfl, f1, B2, S2⟩ := p1
  have V2 := f1.get B1 (by simp only [List.mem_cons, List.not_mem_nil, or_false, not_or]; exact Nat.ne_of_gt qj2) V1
  have F2 := F1.trans f1 (by omega)
  have K2 : killH H2 = H2 := S2
  simp only [K2, V2, push_cast, ↓J1, ↓J2, N1, N2, N3, reduceCtorEq, N4, N5, N6, reduceIte, N7, I1, I2, I3]
  refine ⟨⟨k1, rfl, by omega, by omega⟩, by omega, fun j hj hm => F2 j hj ?_, by simpa only [Nat.add_assoc] using B2, S2⟩
  simpa using hm
theorem t12 (b : Brd) (j1 j2 i1 i2 i3 : Nat) (k : Int) (h : Heap) (n : Nat) (gj1 : hget h j1 = some (.slice 5 (tersO b.r.ts))) (gj2 : hget h j2 = some (.slice 6 (kins b.r.ks))) (gi1 : hget h i1 = some (.slice 1 (ints b.m.t))) (gi2 : hget h i2 = some (.slice 1 (ints b.m.ri))) (gi3 : hget h i3 = some (.slice 1 (ints b.m.ro))) (nj1j2 : j1 ≠ j2) (nj1i1 : j1 ≠ i1) (nj1i2 : j1 ≠ i2) (nj1i3 : j1 ≠ i3) (nj2i1 : j2 ≠ i1) (nj2i2 : j2 ≠ i2) (nj2i3 : j2 ≠ i3) (ni1i2 : i1 ≠ i2) (ni1i3 : i1 ≠ i3) (ni2i3 : i2 ≠ i3) (hB : BrdB (2^21) b) (hb : below n h) (hs : solid h) (hk : 0 ≤ k ∧ k ≤ 2^46) : C 12 [.agg [.ref j1 none 5 0 b.r.ts.length, .ref j2 none 6 0 b.r.ks.length, .int .i64 b.r.stack, .int .i64 b.r.river, .int .i64 b.r.road, .int .i64 b.r.supply, .int .i64 b.r.turns, .int .i64 b.m.w, .int .i64 b.m.h, .ref i1 none 1 0 b.m.t.length, .ref i2 none 1 0 b.m.ri.length, .ref i3 none 1 0 b.m.ro.length], .int .i64 k] h n (MP [j1, j2, i1, i2, i3] h n 3 k (2^46)) := by
  have qj1 := below_lt hb gj1
  have qj2 := below_lt hb gj2
  have qi1 := below_lt hb gi1
  have qi2 := below_lt hb gi2
  have qi3 := below_lt hb gi3
  refine Closed.rT hC Q12 ?_
  simp only [c12, push_cast, ↓J1, ↓J2, N1, N2, N3, reduceCtorEq, N4, N5, N6, reduceIte, N7, I1, I2, I3]
  have B0 : below (n + 1) ((n, .var [.ref j1 none 5 0 b.r.ts.length, .ref j2 none 6 0 b.r.ks.length, .int .i64 b.r.stack, .int .i64 b.r.river, .int .i64 b.r.road, .int .i64 b.r.supply, .int .i64 b.r.turns, .int .i64 b.m.w, .int .i64 b.m.h, .ref i1 none 1 0 b.m.t.length, .ref i2 none 1 0 b.m.ri.length, .ref i3 none 1 0 b.m.ro.length]) :: h) := below_box hb (by simp only [renL, ren, lkp, if_pos (show j1 < n + 1 by omega), if_pos (show j2 < n + 1 by omega), if_pos (show i1 < n + 1 by omega), if_pos (show i2 < n + 1 by omega), if_pos (show i3 < n + 1 by omega)])
  have S0 : solid ((n, .var [.ref j1 none 5 0 b.r.ts.length, .ref j2 none 6 0 b.r.ks.length, .int .i64 b.r.stack, .int .i64 b.r.river, .int .i64 b.r.road, .int .i64 b.r.supply, .int .i64 b.r.turns, .int .i64 b.m.w, .int .i64 b.m.h, .ref i1 none 1 0 b.m.t.length, .ref i2 none 1 0 b.m.ri.length, .ref i3 none 1 0 b.m.ro.length]) :: h) := solid_box hs rfl
  have F0 : FrH [] n h ((n, .var [.ref j1 none 5 0 b.r.ts.length, .ref j2 none 6 0 b.r.ks.length, .int .i64 b.r.stack, .int .i64 b.r.river, .int .i64 b.r.road, .int .i64 b.r.supply, .int .i64 b.r.turns, .int .i64 b.m.w, .int .i64 b.m.h, .ref i1 none 1 0 b.m.t.length, .ref i2 none 1 0 b.m.ri.length, .ref i3 none 1 0 b.m.ro.length]) :: h) := FrH.box
  have V0 : hget ((n, .var [.ref j1 none 5 0 b.r.ts.length, .ref j2 none 6 0 b.r.ks.length, .int .i64 b.r.stack, .int .i64 b.r.river, .int .i64 b.r.road, .int .i64 b.r.supply, .int .i64 b.r.turns, .int .i64 b.m.w, .int .i64 b.m.h, .ref i1 none 1 0 b.m.t.length, .ref i2 none 1 0 b.m.ri.length, .ref i3 none 1 0 b.m.ro.length]) :: h) n = some (.var [.ref j1 none 5 0 b.r.ts.length, .ref j2 none 6 0 b.r.ks.length, .int .i64 b.r.stack, .int .i64 b.r.river, .int .i64 b.r.road, .int .i64 b.r.supply, .int .i64 b.r.turns, .int .i64 b.m.w, .int .i64 b.m.h, .ref i1 none 1 0 b.m.t.length, .ref i2 none 1 0 b.m.ri.length, .ref i3 none 1 0 b.m.ro.length]) := by simp only [hget, if_true]
  have gj10 := hget_box (n := n) (o := .var [.ref j1 none 5 0 b.r.ts.length, .ref j2 none 6 0 b.r.ks.length, .int .i64 b.r.stack, .int .i64 b.r.river, .int .i64 b.r.road, .int .i64 b.r.supply, .int .i64 b.r.turns, .int .i64 b.m.w, .int .i64 b.m.h, .ref i1 none 1 0 b.m.t.length, .ref i2 none 1 0 b.m.ri.length, .ref i3 none 1 0 b.m.ro.length]) hb gj1
  have gj20 := hget_box (n := n) (o := .var [.ref j1 none 5 0 b.r.ts.length, .ref j2 none 6 0 b.r.ks.length, .int .i64 b.r.stack, .int .i64 b.r.river, .int .i64 b.r.road, .int .i64 b.r.supply, .int .i64 b.r.turns, .int .i64 b.m.w, .int .i64 b.m.h, .ref i1 none 1 0 b.m.t.length, .ref i2 none 1 0 b.m.ri.length, .ref i3 none 1 0 b.m.ro.length]) hb gj2
  have gi10 := hget_box (n := n) (o := .var [.ref j1 none 5 0 b.r.ts.length, .ref j2 none 6 0 b.r.ks.length, .int .i64 b.r.stack, .int .i64 b.r.river, .int .i64 b.r.road, .int .i64 b.r.supply, .int .i64 b.r.turns, .int .i64 b.m.w, .int .i64 b.m.h, .ref i1 none 1 0 b.m.t.length, .ref i2 none 1 0 b.m.ri.length, .ref i3 none 1 0 b.m.ro.length]) hb gi1
  have gi20 := hget_box (n := n) (o := .var [.ref j1 none 5 0 b.r.ts.length, .ref j2 none 6 0 b.r.ks.length, .int .i64 b.r.stack, .int .i64 b.r.river, .int .i64 b.r.road, .int .i64 b.r.supply, .int .i64 b.r.turns, .int .i64 b.m.w, .int .i64 b.m.h, .ref i1 none 1 0 b.m.t.length, .ref i2 none 1 0 b.m.ri.length, .ref i3 none 1 0 b.m.ro.length]) hb gi2
  have gi30 := hget_box (n := n) (o := .var [.ref j1 none 5 0 b.r.ts.length, .ref j2 none 6 0 b.r.ks.length, .int .i64 b.r.stack, .int .i64 b.r.river, .int .i64 b.r.road, .int .i64 b.r.supply, .int .i64 b.r.turns, .int .i64 b.m.w, .int .i64 b.m.h, .ref i1 none 1 0 b.m.t.length, .ref i2 none 1 0 b.m.ri.length, .ref i3 none 1 0 b.m.ro.length]) hb gi3
  generalize ((n, Ob.var [.ref j1 none 5 0 b.r.ts.length, .ref j2 none 6 0 b.r.ks.length, .int .i64 b.r.stack, .int .i64 b.r.river, .int .i64 b.r.road, .int .i64 b.r.supply, .int .i64 b.r.turns, .int .i64 b.m.w, .int .i64 b.m.h, .ref i1 none 1 0 b.m.t.length, .ref i2 none 1 0 b.m.ri.length, .ref i3 none 1 0 b.m.ro.length]) :: h) = H0 at *
  refine ⟨_, t30 hC b.r j1 j2 k H0 (n + 1) gj10 gj20 nj1j2 hB.r B0 S0 (by omega), ?_⟩
  rintro v0 H1 m0 p0 _
  obtain ⟨⟨k0, rfl, a0, b0⟩, rfl, f0, B1, S1⟩ := p0
  have V1 := f0.get B0 (by simp only [List.mem_cons, List.not_mem_nil, or_false, not_or]; exact ⟨Nat.ne_of_gt qj1, Nat.ne_of_gt qj2⟩) V0
  have gi11 := f0.get B0 (by simp only [List.mem_cons, List.not_mem_nil, or_false, not_or]; exact ⟨Ne.symm nj1i1, Ne.symm nj2i1⟩) gi10
  have gi21 := f0.get B0 (by simp only [List.mem_cons, List.not_mem_nil, or_false, not_or]; exact ⟨Ne.symm nj1i2, Ne.symm nj2i2⟩) gi20
  have gi31 := f0.get B0 (by simp only [List.mem_cons, List.not_mem_nil, or_false, not_or]; exact ⟨Ne.symm nj1i3, Ne.symm nj2i3⟩) gi30
  have F1 := F0.trans f0 (by omega)
  have K1 : killH H1 = H1 := S1
  simp only [K1, V1, push_cast, ↓J1, ↓J2, N1, N2, N3, reduceCtorEq, N4, N5, N6, reduceIte, N7, I1, I2, I3]
  refine ⟨_, t31 hC b.m i1 i2 i3 k0 H1 (n + 1 + 1) gi11 gi21 gi31 ni1i2 ni1i3 ni2i3 hB.m B1 S1 (by omega), ?_⟩
  rintro v1 H2 m1 p1 _
  obtain ⟨⟨k1, rfl, a1, b1⟩, rfl, f1, B2, S2⟩ := p1
  have V2 := f1.get B1 (by simp only [List.mem_cons, List.not_mem_nil, or_false, not_or]; exact ⟨Nat.ne_of_gt qi1, Nat.ne_of_gt qi2, Nat.ne_of_gt qi3⟩) V1
  have F2 := F1.trans f1 (by omega)
  have K2 : killH H2 = H2 := S2
  simp only [K2, V2, push_cast, ↓J1, ↓J2, N1, N2, N3, reduceCtorEq, N4, N5, N6, reduceIte, N7, I1, I2, I3]
  refine ⟨⟨k1, rfl, by omega, by omega⟩, by omega, fun j hj hm => F2 j hj ?_, by simpa only [Nat.add_assoc] using B2, S2⟩
  simpa using hm
theorem t13 (a b c : Int) (q : List Int) (i : Nat) (k : Int) (h : Heap) (n : Nat) (g : hget h i = some (.slice 1 (ints q))) (hb : below n h) (hs : solid h) (hk : 0 ≤ k ∧ k ≤ 2^47 + 2^46) (hl : q.length < 2^40) : C 13 [.agg [.int .i64 a, .int .i64 b, .int .i64 c, .ref i none 1 0 q.length], .int .i64 k] h n (MW i h n 1 k q.length) := by
  have qq := below_lt hb g
  refine Closed.rT hC Q13 ?_
  simp only [c13, push_cast, ↓J1, ↓J2, N1, N2, N3, reduceCtorEq, N4, N5, N6, reduceIte, N7, I1, I2, I3]
  have B0 : below (n + 1) ((n, .var [.int .i64 a, .int .i64 b, .int .i64 c, .ref i none 1 0 q.length]) :: h) := below_box hb (by simp only [renL, ren, lkp, if_pos (show i < n + 1 by omega)])
  have S0 : solid ((n, .var [.int .i64 a, .int .i64 b, .int .i64 c, .ref i none 1 0 q.length]) :: h) := solid_box hs rfl
  have F0 : FrH [] n h ((n, .var [.int .i64 a, .int .i64 b, .int .i64 c, .ref i none 1 0 q.length]) :: h) := FrH.box
  have g0 := hget_box (n := n) (o := .var [.int .i64 a, .int .i64 b, .int .i64 c, .ref i none 1 0 q.length]) hb g
  generalize ((n, Ob.var [.int .i64 a, .int .i64 b, .int .i64 c, .ref i none 1 0 q.length]) :: h) = H0 at *
  refine ⟨_, t32 hC q k H0 i (n + 1) g0 B0 (by omega) (by omega), ?_⟩
  rintro v H1 m p _
  obtain ⟨rfl, rfl, rfl⟩ := p
  have g1 : hget (hset H0 i (.slice 1 (ints (mk q k q.length)))) i = some (.slice 1 (ints (run k q.length))) := by rw [hget_same g0, mk_all]; rfl
  have f0 : FrH [i] (n + 1) H0 (hset H0 i (.slice 1 (ints (mk q k q.length)))) := FrH.set
  have B1 := below_set (id := i) (sz := 1) (es := ints (mk q k q.length)) B0
  have S1 := solid_set (id := i) (sz := 1) (es := ints (mk q k q.length)) S0
  generalize hset H0 i (.slice 1 (ints (mk q k q.length))) = H1 at *
  have K1 : killH H1 = H1 := S1
  simp only [K1, push_cast, ↓J1, ↓J2, N1, N2, N3, reduceCtorEq, N4, N5, N6, reduceIte, N7, I1, I2, I3]
  exact ⟨rfl, rfl, g1, fun j hj hm => F0.trans f0 (by omega) j hj (by simpa using hm), B1, S1⟩
end
end Go.Proofs.YtfnphiiopghnpaaDoor.X
set_option maxHeartbeats 1000000
set_option maxRecDepth 8000
set_option linter.unusedSimpArgs false
set_option linter.unusedVariables false
open Nat renaming reduceBEq → N1, reduceAdd → N2, reduceSub → N3, reduceMul → N4, reduceEqDiff → N5, reduceLeDiff → N6, reduceLT → N7
open Int renaming reduceLE → I1, reduceLT → I2, reduceToNat → I3
namespace Go.Proofs.YtfnphiiopghnpaaDoor.X
open Go
section
variable {P : Program} {G : Glo} {C : CT} {md : FuncId → Bool} {B : Nat} {t : List AV} {h : Heap} {n : Nat} {Q : XE → St → Prop} {r x y : XC}
theorem cutF (A : St → Prop) (h1 : ∀ (K : St → Prop) (F : XE → St → Prop), (∀ s', A s' → K s') → R P G C md B x ⟨t, h, n⟩ (thenX K F) ∧ R P G C md B y ⟨t, h, n⟩ (thenX K F)) (h2 : ∀ s', A s' → R P G C md B r s' Q) : R P G C md B (.fork x y r) ⟨t, h, n⟩ Q := by
  rw [R_fork]; exact h1 _ _ h2
end
theorem below_le {n m : Nat} {h : Heap} (hb : below n h) (hm : n ≤ m) : below m h := by
  induction hm with
  | refl => exact hb
  | step _ ih => exact below_succ ih
end Go.Proofs.YtfnphiiopghnpaaDoor.X
set_option maxHeartbeats 4000000
set_option maxRecDepth 8000
set_option linter.unusedSimpArgs false
set_option linter.unusedVariables false
open Nat renaming reduceBEq → N1, reduceAdd → N2, reduceSub → N3, reduceMul → N4, reduceEqDiff → N5, reduceLeDiff → N6, reduceLT → N7
open Int renaming reduceLE → I1, reduceLT → I2, reduceToNat → I3
namespace Go.Proofs.YtfnphiiopghnpaaDoor.X
open Go
attribute [local irreducible] Ev
def akOk (b : Brd) (x : Wk) (k : Int) : Bool := wkOk b x && inR 0 (b.r.ks.length - 1) k && !decide (x.q.length = 8)
def akX (b : Brd) (x : Wk) (k : Int) : Wk := if akOk b x k then ⟨x.sd, x.at_, x.pt, x.q ++ [k]⟩ else wk0
theorem akX_len (b : Brd) (x : Wk) (k : Int) : (akX b x k).q.length ≤ x.q.length + 1 := by
  simp only [akX]
  split
  · simp
  · simp [wk0]
theorem own_wb (x : Wk) (w : Bool) : ownR (.tup [.agg (wkO x), .bool w]) = true := by
  have h := own_ints x.q
  simp only [ownR] at h
  simp only [wkO, ownR, ownRL, h, Bool.and_true]
section
variable {C : CT} (hC : Closed Tryd.prog G1 md0 C)
include hC
theorem t6 (b : Brd) (x : Wk) (k : Int) (hb : BrdB (2^50) b) (hq : x.q.length < 2^50) : Ev C 6 [brdF b, .agg (wkF x), .int .i64 k] (.tup [.agg (wkO (akX b x k)), .bool (akOk b x k)]) := by
  have c1 := t18 hC b x hb hq
  have c2 := t19 hC b k 0 hb
  have o1 := fun h => t20 hC x h
  have hks := hb.r.ks
  simp only [brdF, rulF, mpF, List.cons_append, List.nil_append, wkF, wkO] at c1 c2 o1 ⊢
  refine rT hC Q6 ?_ (own_wb _ _)
  simp only [c6, push_cast, ↓J1, ↓J2, N1, N2, N3, reduceCtorEq, N4, N5, N6, reduceIte, N7, I1, I2, I3]
  refine ⟨_, c1, ?_⟩
  cases g1 : wkOk b x
  · have hno : akOk b x k = false := by simp only [akOk, g1, Bool.false_and]
    simp only [akX, hno, Bool.false_eq_true, if_false, push_cast, ↓J1, ↓J2, N1, N2, N3, reduceCtorEq, N4, N5, N6, reduceIte, N7, I1, I2, I3]
    exact RetTo_nil (h2 := _) (by simp only [conR, conRL, isF, hget, hdel, List.drop_zero, List.take_length, if_true, if_false, reduceIte, N5, reduceCtorEq]; rfl) (NilTo_tup (NilToL_cons (NilTo_agg nil_wk) (NilToL_cons (NilTo.refl _) NilToL_nil)))
  have gb : brdOk b = true := by simp only [wkOk, Bool.and_eq_true] at g1; exact g1.1
  have hm := mp_wh (brd_mp gb)
  have hwh := wh_le hm.1 hm.2
  have hq8 : x.q.length ≤ 8 := by
    have h := g1
    simp only [wkOk, Bool.and_eq_true] at h
    exact (wk_in h.2).2.2.1
  simp only [kins_length, push_cast, ↓J1, ↓J2, N1, N2, N3, reduceCtorEq, N4, N5, N6, reduceIte, N7, I1, I2, I3]
  refine ⟨_, c2, ?_⟩
  have e0 : (kindAsk b k && inR 0 (b.m.w * b.m.h - 1) 0) = inR 0 (b.r.ks.length - 1) k := by
    have h0 : inR 0 (b.m.w * b.m.h - 1) 0 = true := by simp only [inR, Bool.and_eq_true, decide_eq_true_eq]; omega
    simp only [kindAsk, gb, h0, Bool.true_and, Bool.and_true]
  rw [e0]
  cases g2 : inR 0 (b.r.ks.length - 1) k
  · have hno : akOk b x k = false := by simp only [akOk, g2, Bool.and_false, Bool.false_and]
    simp only [akX, hno, Bool.false_eq_true, if_false, push_cast, ↓J1, ↓J2, N1, N2, N3, reduceCtorEq, N4, N5, N6, reduceIte, N7, I1, I2, I3]
    exact RetTo_nil (h2 := _) (by simp only [conR, conRL, isF, hget, hdel, List.drop_zero, List.take_length, if_true, if_false, reduceIte, N5, reduceCtorEq]; rfl) (NilTo_tup (NilToL_cons (NilTo_agg nil_wk) (NilToL_cons (NilTo.refl _) NilToL_nil)))
  simp only [ints_length, push_cast, ↓J1, ↓J2, N1, N2, N3, reduceCtorEq, N4, N5, N6, reduceIte, N7, I1, I2, I3]
  by_cases h8 : x.q.length = 8
  · have g8 : decide ((x.q.length : Int) = 8) = true := decide_eq_true (by omega)
    have hno : akOk b x k = false := by simp only [akOk, decide_eq_true h8, Bool.not_true, Bool.and_false]
    simp only [akX, hno, g8, Bool.false_eq_true, if_false, push_cast, ↓J1, ↓J2, N1, N2, N3, reduceCtorEq, N4, N5, N6, reduceIte, N7, I1, I2, I3]
    exact RetTo_nil (h2 := _) (by simp only [conR, conRL, isF, hget, hdel, List.drop_zero, List.take_length, if_true, if_false, reduceIte, N5, reduceCtorEq]; rfl) (NilTo_tup (NilToL_cons (NilTo_agg nil_wk) (NilToL_cons (NilTo.refl _) NilToL_nil)))
  have g8 : decide ((x.q.length : Int) = 8) = false := decide_eq_false (by omega)
  have hok : akOk b x k = true := by simp only [akOk, g1, g2, decide_eq_false h8, Bool.not_false, Bool.and_self]
  have tkq : List.take x.q.length (ints x.q) = ints x.q := List.take_of_length_le (by rw [ints_length]; omega)
  have tkr : List.take (x.q.length + 1) (ints (x.q ++ [k])) = ints (x.q ++ [k]) := List.take_of_length_le (by rw [ints_length]; simp)
  simp only [akX, hok, g8, if_true, push_cast, ↓J1, ↓J2, N1, N2, N3, reduceCtorEq, N4, N5, N6, reduceIte, N7, I1, I2, I3]
  refine ⟨_, o1 (by omega), ?_⟩
  simp only [tkq, ints_length, allScs, apYR_sc, push_cast, ↓J1, ↓J2, N1, N2, N3, reduceCtorEq, N4, N5, N6, reduceIte, N7, I1, I2, I3]
  repeat (refine ⟨by omega, ?_⟩)
  exact RetTo_of (by simp only [conR, conRL, isF, hget, hdel, List.drop_zero, List.take_length, if_true, if_false, reduceIte, N5, reduceCtorEq, ints_sn, tkq, tkr, ints_length]; rfl)
theorem t9 (b : Brd) (x : Wk) (k : Int) (hb : BrdB (2^50) b) (hq : x.q.length < 2^50) : Ev C 9 [brdF b, .agg (wkF x), .int .i64 k] (.tup [.agg (wkO (akX b x k)), .bool (akOk b x k)]) := by
  have c1 := t24 hC b x hb hq
  have c2 := fun h => tIdx hC k (b.r.ks.length : Int) h
  have o1 := fun h => t26 hC x h
  have hks := hb.r.ks
  simp only [brdF, rulF, mpF, List.cons_append, List.nil_append, wkF, wkO] at c1 c2 o1 ⊢
  refine rT hC Q9 ?_ (own_wb _ _)
  simp only [c9, push_cast, ↓J1, ↓J2, N1, N2, N3, reduceCtorEq, N4, N5, N6, reduceIte, N7, I1, I2, I3]
  refine ⟨_, c1, ?_⟩
  cases g1 : wkOk b x
  · have hno : akOk b x k = false := by simp only [akOk, g1, Bool.false_and]
    simp only [akX, hno, Bool.false_eq_true, if_false, push_cast, ↓J1, ↓J2, N1, N2, N3, reduceCtorEq, N4, N5, N6, reduceIte, N7, I1, I2, I3]
    exact RetTo_nil (h2 := _) (by simp only [conR, conRL, isF, hget, hdel, List.drop_zero, List.take_length, if_true, if_false, reduceIte, N5, reduceCtorEq]; rfl) (NilTo_tup (NilToL_cons (NilTo_agg nil_wk) (NilToL_cons (NilTo.refl _) NilToL_nil)))
  have gb : brdOk b = true := by simp only [wkOk, Bool.and_eq_true] at g1; exact g1.1
  have hm := mp_wh (brd_mp gb)
  have hwh := wh_le hm.1 hm.2
  have hq8 : x.q.length ≤ 8 := by
    have h := g1
    simp only [wkOk, Bool.and_eq_true] at h
    exact (wk_in h.2).2.2.1
  simp only [kins_length, push_cast, ↓J1, ↓J2, N1, N2, N3, reduceCtorEq, N4, N5, N6, reduceIte, N7, I1, I2, I3]
  refine ⟨_, c2 (by omega), ?_⟩
  cases g2 : inR 0 (b.r.ks.length - 1) k
  · have hno : akOk b x k = false := by simp only [akOk, g2, Bool.and_false, Bool.false_and]
    simp only [akX, hno, Bool.false_eq_true, if_false, push_cast, ↓J1, ↓J2, N1, N2, N3, reduceCtorEq, N4, N5, N6, reduceIte, N7, I1, I2, I3]
    exact RetTo_nil (h2 := _) (by simp only [conR, conRL, isF, hget, hdel, List.drop_zero, List.take_length, if_true, if_false, reduceIte, N5, reduceCtorEq]; rfl) (NilTo_tup (NilToL_cons (NilTo_agg nil_wk) (NilToL_cons (NilTo.refl _) NilToL_nil)))
  simp only [ints_length, push_cast, ↓J1, ↓J2, N1, N2, N3, reduceCtorEq, N4, N5, N6, reduceIte, N7, I1, I2, I3]
  by_cases h8 : x.q.length = 8
  · have g8 : decide ((x.q.length : Int) = 8) = true := decide_eq_true (by omega)
    have hno : akOk b x k = false := by simp only [akOk, decide_eq_true h8, Bool.not_true, Bool.and_false]
    simp only [akX, hno, g8, Bool.false_eq_true, if_false, push_cast, ↓J1, ↓J2, N1, N2, N3, reduceCtorEq, N4, N5, N6, reduceIte, N7, I1, I2, I3]
    exact RetTo_nil (h2 := _) (by simp only [conR, conRL, isF, hget, hdel, List.drop_zero, List.take_length, if_true, if_false, reduceIte, N5, reduceCtorEq]; rfl) (NilTo_tup (NilToL_cons (NilTo_agg nil_wk) (NilToL_cons (NilTo.refl _) NilToL_nil)))
  have g8 : decide ((x.q.length : Int) = 8) = false := decide_eq_false (by omega)
  have hok : akOk b x k = true := by simp only [akOk, g1, g2, decide_eq_false h8, Bool.not_false, Bool.and_self]
  have tkq : List.take x.q.length (ints x.q) = ints x.q := List.take_of_length_le (by rw [ints_length]; omega)
  have tkr : List.take (x.q.length + 1) (ints (x.q ++ [k])) = ints (x.q ++ [k]) := List.take_of_length_le (by rw [ints_length]; simp)
  simp only [akX, hok, g8, if_true, push_cast, ↓J1, ↓J2, N1, N2, N3, reduceCtorEq, N4, N5, N6, reduceIte, N7, I1, I2, I3]
  refine ⟨_, o1 (by omega), ?_⟩
  simp only [tkq, ints_length, allScs, apYR_sc, push_cast, ↓J1, ↓J2, N1, N2, N3, reduceCtorEq, N4, N5, N6, reduceIte, N7, I1, I2, I3]
  repeat (refine ⟨by omega, ?_⟩)
  exact RetTo_of (by simp only [conR, conRL, isF, hget, hdel, List.drop_zero, List.take_length, if_true, if_false, reduceIte, N5, reduceCtorEq, ints_sn, tkq, tkr, ints_length]; rfl)
end
section
variable {C : CT} (hC : Closed Tryd.prog G1 md0 C)
include hC
theorem t3 (b : Brd) (x : Wk) (d : Int) (hb : BrdB (2^50) b) (hx : x.q.length < 2^50) : Ev C 3 [brdF b, .agg (wkF x), .int .i64 d] (.bool true) := by
  have z0 := fun p => t4 hC b 1048576 p hb
  have z1 := fun p => t5 hC x (szBrd b 1048576) p hx
  have d0 := fun Hb => t7 hC b Hb
  have e0 := t11 hC b b hb hb
  have d1 := fun Hx => t8 hC x Hx
  have e1 := t10 hC x x hx hx
  have f1 := fun (Hb : BrdB (2^30) b) (Hx : x.q.length < 2^30) => t6 hC b x d hb (by omega)
  have f2 := fun (Hb : BrdB (2^30) b) (Hx : x.q.length < 2^30) => t9 hC b x d hb (by omega)
  have hq := True.intro
  have bQ : (BrdB (2^30) b) → (x.q.length < 2^30) → ((akX b x d)).q.length < 2^40 := by intros; (have := akX_len b x d; omega)
  generalize (akX b x d) = Q at *
  simp only [brdO, rulO, mpO, brdF, rulF, mpF, szWk, wkF, wkO, List.cons_append, List.nil_append, List.append_assoc, decide_true] at *
  refine rT hC Q3 ?_
  simp only [c3, push_cast, ↓J1, ↓J2, N1, N2, N3, reduceCtorEq, N4, N5, N6, reduceIte, N7, I1, I2, I3]
  refine ⟨_, z0 (by omega), ?_⟩
  simp only [push_cast, ↓J1, ↓J2, N1, N2, N3, reduceCtorEq, N4, N5, N6, reduceIte, N7, I1, I2, I3]
  refine ifB_intro (fun h => trivial) (fun h => ?_)
  have n0 := of_decide_eq_false h
  clear h
  have l0 := szBrd_le (b := b) (v := 1048576) (by omega) (by omega)
  have Hb : BrdB (2^30) b := (szBrd_pos (by omega)).mono (by omega)
  have Gb : BrdB (2^21) b := szBrd_pos (by omega)
  refine ⟨_, z1 (by omega), ?_⟩
  simp only [push_cast, ↓J1, ↓J2, N1, N2, N3, reduceCtorEq, N4, N5, N6, reduceIte, N7, I1, I2, I3]
  refine ifB_intro (fun h => trivial) (fun h => ?_)
  have n1 := of_decide_eq_false h
  clear h
  have l1 := sub1_le (v := (szBrd b 1048576)) (n := x.q.length) (by omega)
  have Hx : x.q.length < 2^30 := by have := sub1_pos (v := (szBrd b 1048576)) (n := x.q.length) (by omega); omega
  have d0 := d0 Hb
  have d1 := d1 Hx
  have bQ := bQ Hb Hx
  have hQ : Q.q.length < 2^50 := by omega
  have f1 := f1 Hb Hx
  have f2 := f2 Hb Hx
  have r0 := t10 hC Q Q hQ hQ
  have tkQ0 : List.take Q.q.length (ints Q.q) = ints Q.q := List.take_of_length_le (by rw [ints_length]; omega)
  have tkQ1 : ∀ k, List.take Q.q.length (ints (run k Q.q.length)) = ints (run k Q.q.length) := fun k => List.take_of_length_le (by rw [ints_length, run_length]; omega)
  simp only [brdO, rulO, mpO, brdF, rulF, mpF, szWk, wkF, wkO, List.cons_append, List.nil_append, List.append_assoc, decide_true] at r0
  have q0 := t14 hC Q.sd Q.at_ Q.pt 1 Q.q.length (by omega) (by omega)
  have w0 : decide (1 + (Q.q.length : Int) < 0) = false := decide_eq_false (by omega)
  repeat' (first
    | simp only [frzLL_ints, frzLL_ters, frzLL_kins, push_cast, ↓J1, ↓J2, N1, N2, N3, reduceCtorEq, N4, N5, N6, reduceIte, N7, I1, I2, I3]
    | refine ⟨_, d0, ?_⟩
    | refine ⟨_, e0, ?_⟩
    | refine ⟨_, d1, ?_⟩
    | refine ⟨_, e1, ?_⟩
    | refine ⟨_, r0, ?_⟩
    | refine ⟨_, q0, ?_⟩
    | refine ⟨_, f1, ?_⟩
    | refine ⟨_, f2, ?_⟩
    | refine ifB_intro (fun h => ?_) (fun h => ?_)
    | refine And.intro ?_ ?_)
  all_goals
    try simp only [tersO_length, kins_length, ints_length]
    refine ⟨_, t12 hC b _ _ _ _ _ 1 _ _ ?_ ?_ ?_ ?_ ?_ ?_ ?_ ?_ ?_ ?_ ?_ ?_ ?_ ?_ ?_ Gb ?_ ?_ ?_, ?_⟩
    any_goals (first | rfl | assumption | decide | omega | (simp only [tkQ0, tkQ1, hget, N5, N7, reduceIte]; done))
    rintro v0 a0 m0 p0 _
    obtain ⟨⟨k0, rfl, u0, o0⟩, rfl, y0, B0, S0⟩ := p0
    have K0 : killH a0 = a0 := S0
    unfold FrH at y0
    have nn0 : decide (k0 < 0) = false := decide_eq_false (by omega)
    repeat' (first
    | simp only [frzLL_ints, frzLL_ters, frzLL_kins, tkQ0, tkQ1, K0, y0, nn0, List.mem_cons, List.not_mem_nil, or_false, not_false_eq_true, not_or, and_true, and_self, push_cast, ↓J1, ↓J2, N1, N2, N3, reduceCtorEq, N4, N5, N6, reduceIte, N7, I1, I2, I3]
    | refine ⟨_, d0, ?_⟩
    | refine ⟨_, e0, ?_⟩
    | refine ⟨_, d1, ?_⟩
    | refine ⟨_, e1, ?_⟩
    | refine ⟨_, r0, ?_⟩
    | refine ⟨_, q0, ?_⟩
    | refine ⟨_, f1, ?_⟩
    | refine ⟨_, f2, ?_⟩
    | refine ifB_intro (fun h => ?_) (fun h => ?_)
    | refine And.intro ?_ ?_)
  all_goals
    try simp only [tersO_length, kins_length, ints_length]
    refine ⟨_, t13 hC x.sd x.at_ x.pt x.q _ (k0) _ _ ?_ ?_ ?_ ?_ (by omega), ?_⟩
    any_goals (first | rfl | assumption | decide | omega | (simp only [tkQ0, tkQ1, K0, y0, nn0, List.mem_cons, List.not_mem_nil, or_false, not_false_eq_true, not_or, and_true, and_self, hget, N5, N7, reduceIte]; done))
    rintro v1 a1 m1 p1 _
    obtain ⟨rfl, rfl, -, y1, B1, S1⟩ := p1
    have K1 : killH a1 = a1 := S1
    unfold FrH at y1
    have nn1 : decide (k0 + (x.q.length : Int) < 0) = false := decide_eq_false (by omega)
    repeat' (first
    | simp only [frzLL_ints, frzLL_ters, frzLL_kins, tkQ0, tkQ1, K0, y0, nn0, List.mem_cons, List.not_mem_nil, or_false, not_false_eq_true, not_or, and_true, and_self, K1, y1, nn1, push_cast, ↓J1, ↓J2, N1, N2, N3, reduceCtorEq, N4, N5, N6, reduceIte, N7, I1, I2, I3]
    | refine ⟨_, d0, ?_⟩
    | refine ⟨_, e0, ?_⟩
    | refine ⟨_, d1, ?_⟩
    | refine ⟨_, e1, ?_⟩
    | refine ⟨_, r0, ?_⟩
    | refine ⟨_, q0, ?_⟩
    | refine ⟨_, f1, ?_⟩
    | refine ⟨_, f2, ?_⟩
    | refine ifB_intro (fun h => ?_) (fun h => ?_)
    | refine And.intro ?_ ?_)
  all_goals
    try simp only [tersO_length, kins_length, ints_length]
    refine ⟨_, t13 hC Q.sd Q.at_ Q.pt Q.q _ 1 _ _ ?_ ?_ ?_ ?_ (by omega), ?_⟩
    any_goals (first | rfl | assumption | decide | omega | (simp only [tkQ0, tkQ1, K0, y0, nn0, List.mem_cons, List.not_mem_nil, or_false, not_false_eq_true, not_or, and_true, and_self, K1, y1, nn1, hget, N5, N7, reduceIte]; done))
    rintro v2 a2 m2 p2 _
    obtain ⟨rfl, rfl, g2, y2, B2, S2⟩ := p2
    have K2 : killH a2 = a2 := S2
    unfold FrH at y2
    repeat' (first
    | simp only [frzLL_ints, frzLL_ters, frzLL_kins, tkQ0, tkQ1, K0, y0, nn0, List.mem_cons, List.not_mem_nil, or_false, not_false_eq_true, not_or, and_true, and_self, K1, y1, nn1, K2, y2, g2, w0, push_cast, ↓J1, ↓J2, N1, N2, N3, reduceCtorEq, N4, N5, N6, reduceIte, N7, I1, I2, I3]
    | refine ⟨_, d0, ?_⟩
    | refine ⟨_, e0, ?_⟩
    | refine ⟨_, d1, ?_⟩
    | refine ⟨_, e1, ?_⟩
    | refine ⟨_, r0, ?_⟩
    | refine ⟨_, q0, ?_⟩
    | refine ⟨_, f1, ?_⟩
    | refine ⟨_, f2, ?_⟩
    | refine ifB_intro (fun h => ?_) (fun h => ?_)
    | refine And.intro ?_ ?_)
end
end Go.Proofs.YtfnphiiopghnpaaDoor.X
