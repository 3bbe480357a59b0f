/- A part of the proof: lemmas on the machine or on the functions that the law reaches. No condition of its own. -/
import Derived.Test.YtehkpnfehfcphaaDoorXP5
import Derived.Test.YtehkpnfehfcphaaDoorXP4
import Derived.Test.YtehkpnfehfcphaaDoorXM5
import Derived.WalkKit
import Derived.Deep.RegionLaw
set_option maxHeartbeats 4000000
set_option maxRecDepth 8000
set_option linter.unusedSimpArgs false
set_option linter.unusedVariables false
open Nat renaming reduceBEq → N1, reduceAdd → N2, reduceSub → N3, reduceMul → N4, reduceEqDiff → N5, reduceLeDiff → N6, reduceLT → N7
open Int renaming reduceLE → I1, reduceLT → I2, reduceToNat → I3
namespace Go.Proofs.YtehkpnfehfcphaaDoor.X
open Go
attribute [local irreducible] Ev
def FrH (ids : List Nat) (n : Nat) (h h' : Heap) : Prop := ∀ j, j < n → j ∉ ids → hget h' j = hget h j
structure MP (ids : List Nat) (h : Heap) (n c : Nat) (k W : Int) (v : AV) (h' : Heap) (n' : Nat) : Prop where
  v : ∃ m, v = .int .i64 m ∧ k ≤ m ∧ m ≤ k + W
  nn : n' = n + c
  f : FrH ids n h h'
  b : below n' h'
  s : solid h'
theorem FrH.set {n id : Nat} {h : Heap} {o : Ob} : FrH [id] n h (hset h id o) := by
  intro j _ hj
  rw [hget_set, if_neg (by simp at hj; omega)]
theorem FrH.trans {a b : List Nat} {n n' : Nat} {h h' h2 : Heap} (h1 : FrH a n h h') (h3 : FrH b n' h' h2) (hn : n ≤ n') : FrH (a ++ b) n h h2 := by
  intro j hj hm
  simp only [List.mem_append, not_or] at hm
  rw [h3 j (by omega) hm.2, h1 j hj hm.1]
theorem FrH.box {n : Nat} {h : Heap} {o : Ob} : FrH [] n h ((n, o) :: h) := by
  intro j hj _
  simp only [hget, if_neg (show ¬ n = j by omega)]
theorem solid_box {n : Nat} {h : Heap} {cs : List AV} (hs : solid h) (hk : killL cs = cs) : solid ((n, .var cs) :: h) := by
  unfold solid at *
  simp only [killH, hk, hs]
theorem below_box {n : Nat} {h : Heap} {cs : List AV} (hb : below n h) (hk : renL (n + 1) [] cs = cs) : below (n + 1) ((n, .var cs) :: h) :=
  below_mk (by omega) (by simp only [renO, hk]) (below_succ hb)
theorem hget_box {n j : Nat} {h : Heap} {o u : Ob} (hb : below n h) (hg : hget h j = some u) : hget ((n, o) :: h) j = some u := by
  have := below_lt hb hg
  simp only [hget, if_neg (show ¬ n = j by omega), hg]
def dig (k : Int) : UInt8 := UInt8.ofNat (IntKind.u8.wrap (IntKind.i64.wrap (48 + k.tmod 10))).toNat
def mtx : Nat → Int → ByteArray → ByteArray
  | 0, _, a => a
  | f + 1, k, a => if 0 < k then mtx f (k.tdiv 10) (⟨#[dig k]⟩ ++ a) else a
theorem mtx_stop {f : Nat} {k : Int} {a : ByteArray} (h : k ≤ 0) : mtx f k a = a := by
  cases f with
  | zero => rfl
  | succ f => simp only [mtx, if_neg (show ¬ 0 < k by omega)]
def mText (k : Int) : ByteArray := if k ≤ 0 then ⟨#[109, 48]⟩ else ⟨#[109]⟩ ++ mtx k.toNat k ByteArray.empty
theorem tdiv10 {k : Int} (h : 0 < k) : 0 ≤ k.tdiv 10 ∧ k.tdiv 10 ≤ k - 1 := by
  rw [Int.tdiv_eq_ediv_of_nonneg (by omega)]
  omega
def mkUns (k : Int) (n : Nat) : List Un := (List.range n).map fun i : Nat => ⟨k + 4 * (i : Int), k + 4 * (i : Int) + 1, k + 4 * (i : Int) + 2, k + 4 * (i : Int) + 3⟩
theorem mkUns_length {k : Int} {n : Nat} : (mkUns k n).length = n := by simp [mkUns]
theorem mkUns_get {k : Int} {n i : Nat} (h : i < n) : (uns (mkUns k n))[i]? = some (unA ⟨k + 4 * (i : Int), k + 4 * (i : Int) + 1, k + 4 * (i : Int) + 2, k + 4 * (i : Int) + 3⟩) := by
  simp [uns, mkUns, h]
theorem mkUns_succ {us : List Un} {k : Int} {i : Nat} (h : i < us.length) : (uns (mkUns k i ++ us.drop i)).set i (unA ⟨k + 4 * (i : Int), k + 4 * (i : Int) + 1, k + 4 * (i : Int) + 2, k + 4 * (i : Int) + 3⟩) = uns (mkUns k (i + 1) ++ us.drop (i + 1)) := by
  have e : us.drop i = us[i] :: us.drop (i + 1) := List.drop_eq_getElem_cons h
  have e2 : mkUns k (i + 1) = mkUns k i ++ [⟨k + 4 * (i : Int), k + 4 * (i : Int) + 1, k + 4 * (i : Int) + 2, k + 4 * (i : Int) + 3⟩] := by simp [mkUns, List.range_succ]
  rw [e, e2]
  simp only [uns, List.map_append, List.map_cons, List.map_nil, List.append_assoc, List.cons_append, List.nil_append]
  rw [mid_set (by simp [mkUns])]
section
variable {C : CT} (hC : Closed Tryd.prog G1 md0 C)
include hC
theorem t65 (k : Int) (hk : k ≤ 2^50) : Ev C 65 [.int .i64 k] (.str (mText k)) := by
  refine rT hC Q65 ?_
  simp only [c65, push_cast, ↓J1, ↓J2, N1, N2, N3, reduceCtorEq, N4, N5, N6, reduceIte, N7, I1, I2, I3]
  refine ifB_intro (fun h => ?_) (fun h => ?_)
  · have h' := of_decide_eq_true h
    simp only [mText, if_pos h', push_cast, ↓J1, ↓J2, N1, N2, N3, reduceCtorEq, N4, N5, N6, reduceIte, N7, I1, I2, I3]
  have h' := of_decide_eq_false h
  simp only [mText, if_neg h']
  refine RL_ind (fun m s' => ∃ (x : Int) (a : ByteArray), x ≤ m ∧ (a.size : Int) + x ≤ k ∧ x ≤ k ∧ 0 ≤ x ∧ mtx k.toNat k ByteArray.empty = mtx m x a ∧ s' = ⟨tb 20 .any [(0, .int .i64 x), (3, .str a)], [], 0⟩) k.toNat ⟨tb 20 .any [(0, .int .i64 k), (3, .str ByteArray.empty)], [], 0⟩ (hdA []) ⟨k, _, by omega, by show (0 : Int) + k ≤ k; omega, by omega, by omega, rfl, rfl⟩ ?_
  rintro m s' ⟨x, a, h1, h2, h3, h4, h5, rfl⟩ J hJ
  simp only [push_cast, ↓J1, ↓J2, N1, N2, N3, reduceCtorEq, N4, N5, N6, reduceIte, N7, I1, I2, I3]
  refine ifB_intro (fun h => ?_) (fun h => ?_)
  · have hx := of_decide_eq_true h
    have hd := tdiv10 hx
    cases m with
    | zero => omega
    | succ m =>
      rw [mtx, if_pos hx] at h5
      have w1 : IntKind.i64.wrap (x.tdiv 10) = x.tdiv 10 := wrap64 (by omega) (by omega)
      have t1 : List.take 1 [[AV.int .u8 (IntKind.u8.wrap (IntKind.i64.wrap (48 + x.tmod 10)))]] = [[AV.int .u8 (IntKind.u8.wrap (IntKind.i64.wrap (48 + x.tmod 10)))]] := rfl
      simp only [byteL, w1, t1, bytesV_one, show (10 : Int) ≠ 0 by decide, push_cast, ↓J1, ↓J2, N1, N2, N3, reduceCtorEq, N4, N5, N6, reduceIte, N7, I1, I2, I3]
      have s1 : (⟨#[dig x]⟩ : ByteArray).size = 1 := rfl
      and_intros
      all_goals first | (show (((⟨#[dig x]⟩ : ByteArray).size + a.size : Nat) : Int) ≤ _; rw [s1]; omega) | skip
      refine hJ m _ _ (by omega) ⟨x.tdiv 10, ⟨#[dig x]⟩ ++ a, by omega, ?_, by omega, by omega, h5, rfl⟩ (hdA [])
      rw [ByteArray.size_append, s1]; omega
  · have hx := of_decide_eq_false h
    rw [h5, mtx_stop (by omega)]
    simp only [push_cast, ↓J1, ↓J2, N1, N2, N3, reduceCtorEq, N4, N5, N6, reduceIte, N7, I1, I2, I3]
    and_intros
    all_goals first | (show (((⟨#[109]⟩ : ByteArray).size + a.size : Nat) : Int) ≤ _; rw [show (⟨#[109]⟩ : ByteArray).size = 1 from rfl]; omega) | skip
theorem t33p (l : List Int) (k : Int) (h : Heap) (id n i0 szo c : Nat) (es : List (List AV)) (e : List AV) (hg : hget h id = some (.slice szo es)) (he : es[i0]? = some e) (hc : e[c]? = some (.ow 1 (ints l))) (hb : below n h) (hk : 0 ≤ k ∧ k < 2^50) (hl : l.length < 2^50) : C 33 [.ref id (some (szo, i0, c)) 1 0 l.length, .int .i64 k] h n (fun v h' n' => v = .int .i64 (k + l.length) ∧ n' = n ∧ h' = hset h id (.slice szo (es.set i0 (e.set c (.ow 1 (ints (mk l k l.length))))))) := by
  have hid := below_lt hb hg
  have hi0 : i0 < es.length := (List.getElem?_eq_some_iff.1 he).1
  have hc0 : c < e.length := (List.getElem?_eq_some_iff.1 hc).1
  refine Closed.rT hC Q33 ?_
  simp only [c33, push_cast, ↓J1, ↓J2, N1, N2, N3, reduceCtorEq, N4, N5, N6, reduceIte, N7, I1, I2, I3]
  refine RL_count (fun i => ⟨tb 19 .any [(0, .ref id (some (szo, i0, c)) 1 0 l.length), (1, .int .i64 (k + i)), (5, .int .i64 (i : Int))], hset h id (.slice szo (es.set i0 (e.set c (.ow 1 (ints (mk l k i)))))), n⟩) (fun _ => True) l.length 0 (head_tb [] (by simp [rhoOk, objIds]) (by simp only [hid, keptV_cons, keptV_nil, tb_get, lk_same, lk_ne, lk_nil, ren, renL, lkp, N7, N1, N5, reduceIte, and_true, true_and, Nat.not_lt_zero, if_false, if_true, Nat.add_zero, Nat.zero_add]; simp) ?_) (by omega) trivial fun i hi _ J hJ => ?_
  · rw [mk_zero]
    have e2 : e.set c (.ow 1 (ints l)) = e := by
      apply List.ext_getElem?
      intro j
      rw [List.getElem?_set]
      split
      · rename_i q; subst q; rw [hc]; try simp [hc0]
      · rfl
    have e3 : es.set i0 e = es := by
      apply List.ext_getElem?
      intro j
      rw [List.getElem?_set]
      split
      · rename_i q; subst q; rw [he]; try simp [hi0]
      · rfl
    rw [e2, e3, hset_get hg]; exact hb
  have hgi : hget (hset h id (.slice szo (es.set i0 (e.set c (.ow 1 (ints (mk l k i))))))) id = some (.slice szo (es.set i0 (e.set c (.ow 1 (ints (mk l k i)))))) := hget_same hg
  have hei : (es.set i0 (e.set c (.ow 1 (ints (mk l k i)))))[i0]? = some (e.set c (.ow 1 (ints (mk l k i)))) := by simp [hi0]
  have hci : (e.set c (.ow 1 (ints (mk l k i))))[c]? = some (.ow 1 (ints (mk l k i))) := by simp [hc0]
  by_cases h1 : i < l.length
  · have e1 : (ints (mk l k i))[i]? = some [.int .i64 ((mk l k i).getD i 0)] := ints_get (by rw [mk_length hi]; exact h1)
    simp only [Int.toNat_natCast, hgi, hei, hci, e1, push_cast, ↓J1, ↓J2, N1, N2, N3, reduceCtorEq, N4, N5, N6, reduceIte, N7, I1, I2, I3]
    refine ifB_intro (fun _ => ?_) (fun h => by simp at h; omega)
    repeat (refine ⟨by omega, ?_⟩)
    refine hJ h1 trivial _ (head_tb [] (by simp [rhoOk, objIds]) ?_ ?_)
    · simp only [hid, keptV_cons, keptV_nil, tb_get, lk_same, lk_ne, lk_nil, ren, renL, lkp, N7, N1, N5, reduceIte, and_true, true_and, Nat.not_lt_zero, if_false, if_true, Nat.add_zero, Nat.zero_add]
      rw [wrap64 (by omega) (by omega), wrap64 (by omega) (by omega)]
      simp; omega
    · rw [ints_set, mk_succ h1, List.set_set, List.set_set, hset_hset]
      exact below_set hb
  · obtain rfl : i = l.length := by omega
    simp only [push_cast, ↓J1, ↓J2, N1, N2, N3, reduceCtorEq, N4, N5, N6, reduceIte, N7, I1, I2, I3]
    refine ifB_intro (fun h => by simp at h) (fun h => ?_)
    trivial
theorem t49 (l : List Kin) (k : Int) (h : Heap) (id n : Nat) (hg : hget h id = some (.slice 6 (kins l))) (hb : below n h) (hs : solid h) (hk : 0 ≤ k ∧ k ≤ 2^47) (hl : l.length < 2^21) : C 49 [.ref id none 6 0 l.length, .int .i64 k] h n (MP [id] h n 0 k (2^43)) := by
  have hid := below_lt hb hg
  refine Closed.rT hC Q49 ?_
  simp only [c49, push_cast, ↓J1, ↓J2, N1, N2, N3, reduceCtorEq, N4, N5, N6, reduceIte, N7, I1, I2, I3]
  have hgi : ∀ es : List (List AV), hget (hset h id (.slice 6 es)) id = some (.slice 6 es) := fun es => hget_same hg
  refine RL_ind (fun m s' => ∃ (i : Nat) (l' : List Kin) (k' : Int), i + m = l.length ∧ l'.length = l.length ∧ k ≤ k' ∧ k' ≤ k + i * 6 ∧ s' = ⟨tb 58 .any [(0, .ref id none 6 0 l.length), (1, .int .i64 k'), (5, .int .i64 (i : Int))], hset h id (.slice 6 (kins l')), n⟩) l.length ⟨tb 58 .any [(0, .ref id none 6 0 l.length), (1, .int .i64 k), (5, .int .i64 0)], hset h id (.slice 6 (kins l)), n⟩ (head_tb [] (by simp [rhoOk, objIds]) (by simp only [hid, keptV_cons, keptV_nil, tb_get, lk_same, lk_ne, lk_nil, ren, renL, lkp, N7, N1, N5, reduceIte, and_true, true_and, Nat.not_lt_zero, if_false, if_true, Nat.add_zero, Nat.zero_add]; all_goals simp) (by rw [hset_get hg]; exact hb)) ⟨0, l, k, by omega, rfl, by omega, by omega, rfl⟩ ?_
  rintro m s' ⟨i, l', k', h1, h2, h3, h4, rfl⟩ J hJ
  by_cases hi : i < l.length
  · have e1 : (kins l')[i]? = some (kinA (l'[i]'(by omega))) := by simp [kins, h2, hi]
    have gs : ∀ e : List AV, ((kins l').set i e)[i]? = some e := by intro e; simp [kins, h2, hi]
    have ls : ∀ u : Kin, (kins l').set i (kinA u) = kins (l'.set i u) := by intro u; simp [kins, List.map_set]
    generalize (l'[i]'(by omega)) = t at *
    have w0 : IntKind.i64.wrap (k' + 1) = k' + 1 := wrap64 (by omega) (by omega)
    have w1 : IntKind.i64.wrap (k' + 1 + 1) = k' + 1 + 1 := wrap64 (by omega) (by omega)
    have w2 : IntKind.i64.wrap (k' + 1 + 1 + 1) = k' + 1 + 1 + 1 := wrap64 (by omega) (by omega)
    have w3 : IntKind.i64.wrap (k' + 1 + 1 + 1 + 1) = k' + 1 + 1 + 1 + 1 := wrap64 (by omega) (by omega)
    have w4 : IntKind.i64.wrap (k' + 1 + 1 + 1 + 1 + 1) = k' + 1 + 1 + 1 + 1 + 1 := wrap64 (by omega) (by omega)
    have w5 : IntKind.i64.wrap (k' + 1 + 1 + 1 + 1 + 1 + 1) = k' + 1 + 1 + 1 + 1 + 1 + 1 := wrap64 (by omega) (by omega)
    have hT := t65 hC k' (by omega)
    simp only [Int.toNat_natCast, hgi, e1, kinA, push_cast, ↓J1, ↓J2, N1, N2, N3, reduceCtorEq, N4, N5, N6, reduceIte, N7, I1, I2, I3]
    refine ifB_intro (fun _ => ?_) (fun h => by simp at h; omega)
    repeat (refine ⟨by omega, ?_⟩)
    refine ⟨_, hT, ?_⟩
    repeat' (first | refine ⟨by omega, ?_⟩ | simp only [Int.toNat_natCast, hgi, e1, gs, hset_hset, List.set_set, setsA, List.set_cons_zero, List.set_cons_succ, kinA, w0, w1, w2, w3, w4, w5, push_cast, ↓J1, ↓J2, N1, N2, N3, reduceCtorEq, N4, N5, N6, reduceIte, N7, I1, I2, I3])
    refine hJ (m - 1) _ _ (by omega) ⟨i + 1, l'.set i ⟨mText k', k' + 1, k' + 1 + 1, k' + 1 + 1 + 1, decide ((k' + 1 + 1 + 1 + 1).tmod 3 = 0), k' + 1 + 1 + 1 + 1 + 1⟩, k' + 1 + 1 + 1 + 1 + 1 + 1, by omega, by simp [h2], ?_, ?_, rfl⟩ (head_tb [] (by simp [rhoOk, objIds]) ?_ ?_)
    rotate_left 2
    · simp only [hid, keptV_cons, keptV_nil, tb_get, lk_same, lk_ne, lk_nil, ren, renL, lkp, N7, N1, N5, reduceIte, and_true, true_and, Nat.not_lt_zero, if_false, if_true, Nat.add_zero, Nat.zero_add]
      rw [wrap64 (n := (i : Int) + 1) (by omega) (by omega)]
      and_intros <;> first | rfl | (simp; done) | omega
    · rw [← ls]
      simp only [kinA]
      exact below_set hb
    all_goals omega
  · simp only [push_cast, ↓J1, ↓J2, N1, N2, N3, reduceCtorEq, N4, N5, N6, reduceIte, N7, I1, I2, I3]
    refine ifB_intro (fun h => by simp at h; omega) (fun h => ?_)
    exact ⟨⟨k', rfl, by omega, by omega⟩, rfl, FrH.set, below_set hb, solid_set hs⟩
theorem t48 (l : List Ter) (k : Int) (h : Heap) (id n : Nat) (hg : hget h id = some (.slice 5 (tersO l))) (hb : below n h) (hs : solid h) (hk : 0 ≤ k ∧ k ≤ 2^47) (hl : l.length < 2^21) (hc : ∀ t ∈ l, t.c.length < 2^21) : C 48 [.ref id none 5 0 l.length, .int .i64 k] h n (MP [id] h n 0 k (2^43)) := by
  have hid := below_lt hb hg
  refine Closed.rT hC Q48 ?_
  simp only [c48, push_cast, ↓J1, ↓J2, N1, N2, N3, reduceCtorEq, N4, N5, N6, reduceIte, N7, I1, I2, I3]
  have hgi : ∀ es : List (List AV), hget (hset h id (.slice 5 es)) id = some (.slice 5 es) := fun es => hget_same hg
  refine RL_ind (fun m s' => ∃ (i : Nat) (l' : List Ter) (k' : Int), i + m = l.length ∧ l'.length = l.length ∧ (∀ t ∈ l', t.c.length < 2^21) ∧ k ≤ k' ∧ k' ≤ k + i * 2097156 ∧ s' = ⟨tb 51 .any [(0, .ref id none 5 0 l.length), (1, .int .i64 k'), (5, .int .i64 (i : Int))], hset h id (.slice 5 (tersO l')), n⟩) l.length ⟨tb 51 .any [(0, .ref id none 5 0 l.length), (1, .int .i64 k), (5, .int .i64 0)], hset h id (.slice 5 (tersO l)), n⟩ (head_tb [] (by simp [rhoOk, objIds]) (by simp only [hid, keptV_cons, keptV_nil, tb_get, lk_same, lk_ne, lk_nil, ren, renL, lkp, N7, N1, N5, reduceIte, and_true, true_and, Nat.not_lt_zero, if_false, if_true, Nat.add_zero, Nat.zero_add]; all_goals simp) (by rw [hset_get hg]; exact hb)) ⟨0, l, k, by omega, rfl, hc, by omega, by omega, rfl⟩ ?_
  rintro m s' ⟨i, l', k', h1, h2, hI, h3, h4, rfl⟩ J hJ
  by_cases hi : i < l.length
  · have e1 : (tersO l')[i]? = some (terO (l'[i]'(by omega))) := by simp [tersO, h2, hi]
    have gs : ∀ e : List AV, ((tersO l').set i e)[i]? = some e := by intro e; simp [tersO, h2, hi]
    have ls : ∀ u : Ter, (tersO l').set i (terO u) = tersO (l'.set i u) := by intro u; simp [tersO, List.map_set]
    have hin := hI _ (List.getElem_mem (show i < l'.length by omega))
    generalize (l'[i]'(by omega)) = t at *
    have w0 : IntKind.i64.wrap (k' + 1) = k' + 1 := wrap64 (by omega) (by omega)
    have hT := t65 hC k' (by omega)
    have hL : t.c.length < 2^21 := hin
    have w1 : IntKind.i64.wrap (k' + 1 + (t.c.length : Int) + 1) = k' + 1 + (t.c.length : Int) + 1 := wrap64 (by omega) (by omega)
    have w2 : IntKind.i64.wrap (k' + 1 + (t.c.length : Int) + 1 + 1) = k' + 1 + (t.c.length : Int) + 1 + 1 := wrap64 (by omega) (by omega)
    have w3 : IntKind.i64.wrap (k' + 1 + (t.c.length : Int) + 1 + 1 + 1) = k' + 1 + (t.c.length : Int) + 1 + 1 + 1 := wrap64 (by omega) (by omega)
    simp only [Int.toNat_natCast, hgi, e1, terO, push_cast, ↓J1, ↓J2, N1, N2, N3, reduceCtorEq, N4, N5, N6, reduceIte, N7, I1, I2, I3]
    refine ifB_intro (fun _ => ?_) (fun h => by simp at h; omega)
    repeat (refine ⟨by omega, ?_⟩)
    refine ⟨_, hT, ?_⟩
    repeat' (first | refine ⟨by omega, ?_⟩ | simp only [Int.toNat_natCast, hgi, e1, gs, hset_hset, ints_length, List.set_set, setsA, List.set_cons_zero, List.set_cons_succ, terO, w0, push_cast, ↓J1, ↓J2, N1, N2, N3, reduceCtorEq, N4, N5, N6, reduceIte, N7, I1, I2, I3])
    refine ⟨_, t33p hC t.c (k' + 1) _ id n i 5 1 _ _ (hgi _) (gs _) rfl (below_set hb) (by omega) (by omega), ?_⟩
    rintro v hh nn ⟨rfl, rfl, rfl⟩ _
    have hs2 := solid_set (id := id) (sz := 5) (es := ((tersO l').set i (terO ⟨mText k', mk t.c (k' + 1) t.c.length, t.s, t.h, t.b⟩))) hs
    unfold solid at hs2
    simp only [terO] at hs2
    simp only [hs2, hset_hset, List.set_set, List.set_cons_zero, List.set_cons_succ, push_cast, ↓J1, ↓J2, N1, N2, N3, reduceCtorEq, N4, N5, N6, reduceIte, N7, I1, I2, I3]
    repeat' (first | refine ⟨by omega, ?_⟩ | simp only [Int.toNat_natCast, hgi, e1, gs, hset_hset, List.set_set, setsA, List.set_cons_zero, List.set_cons_succ, terO, w1, w2, w3, push_cast, ↓J1, ↓J2, N1, N2, N3, reduceCtorEq, N4, N5, N6, reduceIte, N7, I1, I2, I3])
    refine hJ (m - 1) _ _ (by omega) ⟨i + 1, l'.set i ⟨mText k', mk t.c (k' + 1) t.c.length, k' + 1 + t.c.length, k' + 1 + t.c.length + 1, decide ((k' + 1 + t.c.length + 1 + 1).tmod 3 = 0)⟩, k' + 1 + t.c.length + 1 + 1 + 1, by omega, by simp [h2], ?_, ?_, ?_, rfl⟩ (head_tb [] (by simp [rhoOk, objIds]) ?_ ?_)
    rotate_left 3
    · simp only [hid, keptV_cons, keptV_nil, tb_get, lk_same, lk_ne, lk_nil, ren, renL, lkp, N7, N1, N5, reduceIte, and_true, true_and, Nat.not_lt_zero, if_false, if_true, Nat.add_zero, Nat.zero_add]
      rw [wrap64 (n := (i : Int) + 1) (by omega) (by omega)]
      and_intros <;> first | rfl | (simp; done) | omega
    · rw [← ls]
      simp only [terO]
      exact below_set hb
    · intro u hu
      rcases List.mem_or_eq_of_mem_set hu with hu | rfl
      · exact hI u hu
      · show (mk t.c (k' + 1) t.c.length).length < _
        rw [mk_length (Nat.le_refl _)]; exact hL
    all_goals omega
  · simp only [push_cast, ↓J1, ↓J2, N1, N2, N3, reduceCtorEq, N4, N5, N6, reduceIte, N7, I1, I2, I3]
    refine ifB_intro (fun h => by simp at h; omega) (fun h => ?_)
    exact ⟨⟨k', rfl, by omega, by omega⟩, rfl, FrH.set, below_set hb, solid_set hs⟩
end
end Go.Proofs.YtehkpnfehfcphaaDoor.X
set_option maxHeartbeats 400000
set_option maxRecDepth 8000
set_option linter.unusedSimpArgs false
set_option linter.unusedVariables false
open Nat renaming reduceBEq → N1, reduceAdd → N2, reduceSub → N3, reduceMul → N4, reduceEqDiff → N5, reduceLeDiff → N6, reduceLT → N7
open Int renaming reduceLE → I1, reduceLT → I2, reduceToNat → I3
namespace Go.Proofs.YtehkpnfehfcphaaDoor.X
open Go
attribute [local irreducible] Ev
theorem MP_set {id n : Nat} {h h' : Heap} {sz : Nat} {es : List (List AV)} {k m W : Int} {v : AV} {n' : Nat} (hb : below n h) (hs : solid h) (hm : k ≤ m ∧ m ≤ k + W) (hp : v = .int .i64 m ∧ n' = n ∧ h' = hset h id (.slice sz es)) : MP [id] h n 0 k W v h' n' := by
  obtain ⟨rfl, rfl, rfl⟩ := hp
  exact ⟨⟨m, rfl, hm.1, hm.2⟩, rfl, FrH.set, below_set hb, solid_set hs⟩
theorem lens_bnd : ∀ {W : List (List Int)}, (∀ r ∈ W, r.length < 2 ^ 21) → lens W ≤ W.length * 2097152
  | [], _ => by simp [lens]
  | r :: W, h => by
    have h1 := h r (by simp)
    have h2 := lens_bnd (W := W) fun x hx => h x (by simp [hx])
    simp only [lens, List.map_cons, List.sum_cons, List.length_cons] at *
    omega
theorem FrH.get {ids : List Nat} {n j : Nat} {h h' : Heap} {o : Ob} (hf : FrH ids n h h') (hb : below n h) (hj : j ∉ ids) (hg : hget h j = some o) : hget h' j = some o := by
  rw [hf j (below_lt hb hg) hj, hg]
structure MS (id : Nat) (h : Heap) (n c : Nat) (k : Int) (len : Nat) (v : AV) (h' : Heap) (n' : Nat) : Prop where
  v : v = .int .i64 (k + 4 * (len : Int))
  nn : n' = n + c
  g : hget h' id = some (.slice 4 (uns (mkUns k len)))
  f : FrH [id] n h h'
  b : below n' h'
  s : solid h'
structure MW (id : Nat) (h : Heap) (n c : Nat) (k : Int) (len : Nat) (v : AV) (h' : Heap) (n' : Nat) : Prop where
  v : v = .int .i64 (k + (len : Int))
  nn : n' = n + c
  g : hget h' id = some (.slice 1 (ints (run k len)))
  f : FrH [id] n h h'
  b : below n' h'
  s : solid h'
section
variable {C : CT} (hC : Closed Tryd.prog G1 md0 C)
include hC
theorem t14 (a b c : Int) (k : Int) (n : Nat) (hk : 0 ≤ k ∧ k ≤ 2^47) (hn : n < 2^40) : Ev C 14 [.agg [.int .i64 a, .int .i64 b, .int .i64 c, .sl (ints (run k n))], .int .i64 k] (.int .i64 (k + (n : Int))) := by
  have c1 := t34 hC k n (by omega) (by omega)
  refine rT hC Q14 ?_
  simp only [c14, push_cast, ↓J1, ↓J2, N1, N2, N3, reduceCtorEq, N4, N5, N6, reduceIte, N7, I1, I2, I3]
  refine ⟨_, c1, ?_⟩
  have g1 : decide (k + (n : Int) < 0) = false := decide_eq_false (by omega)
  simp only [g1, push_cast, ↓J1, ↓J2, N1, N2, N3, reduceCtorEq, N4, N5, N6, reduceIte, N7, I1, I2, I3]
theorem t32 (m : Mp) (i1 i2 i3 : Nat) (k : Int) (h : Heap) (n : Nat) (gi1 : hget h i1 = some (.slice 1 (ints m.t))) (gi2 : hget h i2 = some (.slice 1 (ints m.ri))) (gi3 : hget h i3 = some (.slice 1 (ints m.ro))) (ni1i2 : i1 ≠ i2) (ni1i3 : i1 ≠ i3) (ni2i3 : i2 ≠ i3) (hB : MpB (2^21) m) (hb : below n h) (hs : solid h) (hk : 0 ≤ k ∧ k ≤ 2^48) : C 32 [.agg [.int .i64 m.w, .int .i64 m.h, .ref i1 none 1 0 m.t.length, .ref i2 none 1 0 m.ri.length, .ref i3 none 1 0 m.ro.length], .int .i64 k] h n (MP [i1, i2, i3] h n 1 k (2^45)) := by
  have qi1 := below_lt hb gi1
  have qi2 := below_lt hb gi2
  have qi3 := below_lt hb gi3
  refine Closed.rT hC Q32 ?_
  simp only [c32, push_cast, ↓J1, ↓J2, N1, N2, N3, reduceCtorEq, N4, N5, N6, reduceIte, N7, I1, I2, I3]
  have B0 : below (n + 1) ((n, .var [.int .i64 m.w, .int .i64 m.h, .ref i1 none 1 0 m.t.length, .ref i2 none 1 0 m.ri.length, .ref i3 none 1 0 m.ro.length]) :: h) := below_box hb (by simp only [renL, ren, lkp, if_pos (show i1 < n + 1 by omega), if_pos (show i2 < n + 1 by omega), if_pos (show i3 < n + 1 by omega)])
  have S0 : solid ((n, .var [.int .i64 m.w, .int .i64 m.h, .ref i1 none 1 0 m.t.length, .ref i2 none 1 0 m.ri.length, .ref i3 none 1 0 m.ro.length]) :: h) := solid_box hs rfl
  have F0 : FrH [] n h ((n, .var [.int .i64 m.w, .int .i64 m.h, .ref i1 none 1 0 m.t.length, .ref i2 none 1 0 m.ri.length, .ref i3 none 1 0 m.ro.length]) :: h) := FrH.box
  have V0 : hget ((n, .var [.int .i64 m.w, .int .i64 m.h, .ref i1 none 1 0 m.t.length, .ref i2 none 1 0 m.ri.length, .ref i3 none 1 0 m.ro.length]) :: h) n = some (.var [.int .i64 m.w, .int .i64 m.h, .ref i1 none 1 0 m.t.length, .ref i2 none 1 0 m.ri.length, .ref i3 none 1 0 m.ro.length]) := by simp only [hget, if_true]
  have gi10 := hget_box (n := n) (o := .var [.int .i64 m.w, .int .i64 m.h, .ref i1 none 1 0 m.t.length, .ref i2 none 1 0 m.ri.length, .ref i3 none 1 0 m.ro.length]) hb gi1
  have gi20 := hget_box (n := n) (o := .var [.int .i64 m.w, .int .i64 m.h, .ref i1 none 1 0 m.t.length, .ref i2 none 1 0 m.ri.length, .ref i3 none 1 0 m.ro.length]) hb gi2
  have gi30 := hget_box (n := n) (o := .var [.int .i64 m.w, .int .i64 m.h, .ref i1 none 1 0 m.t.length, .ref i2 none 1 0 m.ri.length, .ref i3 none 1 0 m.ro.length]) hb gi3
  generalize ((n, Ob.var [.int .i64 m.w, .int .i64 m.h, .ref i1 none 1 0 m.t.length, .ref i2 none 1 0 m.ri.length, .ref i3 none 1 0 m.ro.length]) :: h) = H0 at *
  refine ⟨_, t33 hC m.t k H0 i1 (n + 1) gi10 B0 (by have := hB.t; have := hB.ri; have := hB.ro; omega) (by have := hB.t; have := hB.ri; have := hB.ro; omega), ?_⟩
  rintro v0 H1 m0 p0 _
  replace p0 := MP_set (W := 2^43) (k := k) (m := k + (m.t.length : Int)) B0 S0 (by have := hB.t; have := hB.ri; have := hB.ro; omega) p0
  obtain ⟨⟨k0, rfl, a0, b0⟩, rfl, f0, B1, S1⟩ := p0
  have V1 := f0.get B0 (by simp only [List.mem_cons, List.not_mem_nil, or_false, not_or]; exact Nat.ne_of_gt qi1) V0
  have gi21 := f0.get B0 (by simp only [List.mem_cons, List.not_mem_nil, or_false, not_or]; exact Ne.symm ni1i2) gi20
  have gi31 := f0.get B0 (by simp only [List.mem_cons, List.not_mem_nil, or_false, not_or]; exact Ne.symm ni1i3) gi30
  have F1 := F0.trans f0 (by omega)
  have K1 : killH H1 = H1 := S1
  simp only [K1, V1, push_cast, ↓J1, ↓J2, N1, N2, N3, reduceCtorEq, N4, N5, N6, reduceIte, N7, I1, I2, I3]
  refine ⟨_, t33 hC m.ri k0 H1 i2 (n + 1) gi21 B1 (by have := hB.t; have := hB.ri; have := hB.ro; omega) (by have := hB.t; have := hB.ri; have := hB.ro; omega), ?_⟩
  rintro v1 H2 m1 p1 _
  replace p1 := MP_set (W := 2^43) (k := k0) (m := k0 + (m.ri.length : Int)) B1 S1 (by have := hB.t; have := hB.ri; have := hB.ro; omega) p1
  obtain ⟨⟨k1, rfl, a1, b1⟩, rfl, f1, B2, S2⟩ := p1
  have V2 := f1.get B1 (by simp only [List.mem_cons, List.not_mem_nil, or_false, not_or]; exact Nat.ne_of_gt qi2) V1
  have gi32 := f1.get B1 (by simp only [List.mem_cons, List.not_mem_nil, or_false, not_or]; exact Ne.symm ni2i3) gi31
  have F2 := F1.trans f1 (by omega)
  have K2 : killH H2 = H2 := S2
  simp only [K2, V2, push_cast, ↓J1, ↓J2, N1, N2, N3, reduceCtorEq, N4, N5, N6, reduceIte, N7, I1, I2, I3]
  refine ⟨_, t33 hC m.ro k1 H2 i3 (n + 1) gi32 B2 (by have := hB.t; have := hB.ri; have := hB.ro; omega) (by have := hB.t; have := hB.ri; have := hB.ro; omega), ?_⟩
  rintro v2 H3 m2 p2 _
  replace p2 := MP_set (W := 2^43) (k := k1) (m := k1 + (m.ro.length : Int)) B2 S2 (by have := hB.t; have := hB.ri; have := hB.ro; omega) p2
  obtain ⟨⟨k2, rfl, a2, b2⟩, rfl, f2, B3, S3⟩ := p2
  have V3 := f2.get B2 (by simp only [List.mem_cons, List.not_mem_nil, or_false, not_or]; exact Nat.ne_of_gt qi3) V2
  have F3 := F2.trans f2 (by omega)
  have K3 : killH H3 = H3 := S3
  simp only [K3, V3, push_cast, ↓J1, ↓J2, N1, N2, N3, reduceCtorEq, N4, N5, N6, reduceIte, N7, I1, I2, I3]
  refine ⟨⟨k2, rfl, by omega, by omega⟩, by omega, fun j hj hm => F3 j hj ?_, by simpa only [Nat.add_assoc] using B3, S3⟩
  simpa using hm
theorem t31 (r : Rul) (j1 j2 : Nat) (k : Int) (h : Heap) (n : Nat) (gj1 : hget h j1 = some (.slice 5 (tersO r.ts))) (gj2 : hget h j2 = some (.slice 6 (kins r.ks))) (nj1j2 : j1 ≠ j2) (hR : RulB (2^21) r) (hb : below n h) (hs : solid h) (hk : 0 ≤ k ∧ k ≤ 2^46 + 2^45) : C 31 [.agg [.ref j1 none 5 0 r.ts.length, .ref j2 none 6 0 r.ks.length, .int .i64 r.stack, .int .i64 r.river, .int .i64 r.road, .int .i64 r.supply, .int .i64 r.turns], .int .i64 k] h n (MP [j1, j2] h n 1 k (2^44)) := by
  have qj1 := below_lt hb gj1
  have qj2 := below_lt hb gj2
  refine Closed.rT hC Q31 ?_
  simp only [c31, push_cast, ↓J1, ↓J2, N1, N2, N3, reduceCtorEq, N4, N5, N6, reduceIte, N7, I1, I2, I3]
  have B0 : below (n + 1) ((n, .var [.ref j1 none 5 0 r.ts.length, .ref j2 none 6 0 r.ks.length, .int .i64 r.stack, .int .i64 r.river, .int .i64 r.road, .int .i64 r.supply, .int .i64 r.turns]) :: h) := below_box hb (by simp only [renL, ren, lkp, if_pos (show j1 < n + 1 by omega), if_pos (show j2 < n + 1 by omega)])
  have S0 : solid ((n, .var [.ref j1 none 5 0 r.ts.length, .ref j2 none 6 0 r.ks.length, .int .i64 r.stack, .int .i64 r.river, .int .i64 r.road, .int .i64 r.supply, .int .i64 r.turns]) :: h) := solid_box hs rfl
  have F0 : FrH [] n h ((n, .var [.ref j1 none 5 0 r.ts.length, .ref j2 none 6 0 r.ks.length, .int .i64 r.stack, .int .i64 r.river, .int .i64 r.road, .int .i64 r.supply, .int .i64 r.turns]) :: h) := FrH.box
  have V0 : hget ((n, .var [.ref j1 none 5 0 r.ts.length, .ref j2 none 6 0 r.ks.length, .int .i64 r.stack, .int .i64 r.river, .int .i64 r.road, .int .i64 r.supply, .int .i64 r.turns]) :: h) n = some (.var [.ref j1 none 5 0 r.ts.length, .ref j2 none 6 0 r.ks.length, .int .i64 r.stack, .int .i64 r.river, .int .i64 r.road, .int .i64 r.supply, .int .i64 r.turns]) := by simp only [hget, if_true]
  have gj10 := hget_box (n := n) (o := .var [.ref j1 none 5 0 r.ts.length, .ref j2 none 6 0 r.ks.length, .int .i64 r.stack, .int .i64 r.river, .int .i64 r.road, .int .i64 r.supply, .int .i64 r.turns]) hb gj1
  have gj20 := hget_box (n := n) (o := .var [.ref j1 none 5 0 r.ts.length, .ref j2 none 6 0 r.ks.length, .int .i64 r.stack, .int .i64 r.river, .int .i64 r.road, .int .i64 r.supply, .int .i64 r.turns]) hb gj2
  generalize ((n, Ob.var [.ref j1 none 5 0 r.ts.length, .ref j2 none 6 0 r.ks.length, .int .i64 r.stack, .int .i64 r.river, .int .i64 r.road, .int .i64 r.supply, .int .i64 r.turns]) :: h) = H0 at *
  refine ⟨_, t48 hC r.ts k H0 j1 (n + 1) gj10 B0 S0 (by omega) hR.ts (fun t ht => (hR.t t ht).2), ?_⟩
  rintro v0 H1 m0 p0 _
  obtain ⟨⟨k0, rfl, a0, b0⟩, rfl, f0, B1, S1⟩ := p0
  have V1 := f0.get B0 (by simp only [List.mem_cons, List.not_mem_nil, or_false, not_or]; exact Nat.ne_of_gt qj1) V0
  have gj21 := f0.get B0 (by simp only [List.mem_cons, List.not_mem_nil, or_false, not_or]; exact Ne.symm nj1j2) gj20
  have F1 := F0.trans f0 (by omega)
  have K1 : killH H1 = H1 := S1
  simp only [K1, V1, push_cast, ↓J1, ↓J2, N1, N2, N3, reduceCtorEq, N4, N5, N6, reduceIte, N7, I1, I2, I3]
  refine ⟨_, t49 hC r.ks k0 H1 j2 (n + 1) gj21 B1 S1 (by omega) hR.ks, ?_⟩
  rintro v1 H2 m1 p1 _
  obtain ⟨⟨k1, rfl, a1, b1⟩, rfl, f1, B2, S2⟩ := p1
  have V2 := f1.get B1 (by simp only [List.mem_cons, List.not_mem_nil, or_false, not_or]; exact Nat.ne_of_gt qj2) V1
  have F2 := F1.trans f1 (by omega)
  have K2 : killH H2 = H2 := S2
  simp only [K2, V2, push_cast, ↓J1, ↓J2, N1, N2, N3, reduceCtorEq, N4, N5, N6, reduceIte, N7, I1, I2, I3]
  refine ⟨⟨k1, rfl, by omega, by omega⟩, by omega, fun j hj hm => F2 j hj ?_, by simpa only [Nat.add_assoc] using B2, S2⟩
  simpa using hm
theorem t12 (b : Brd) (j1 j2 i1 i2 i3 : Nat) (k : Int) (h : Heap) (n : Nat) (gj1 : hget h j1 = some (.slice 5 (tersO b.r.ts))) (gj2 : hget h j2 = some (.slice 6 (kins b.r.ks))) (gi1 : hget h i1 = some (.slice 1 (ints b.m.t))) (gi2 : hget h i2 = some (.slice 1 (ints b.m.ri))) (gi3 : hget h i3 = some (.slice 1 (ints b.m.ro))) (nj1j2 : j1 ≠ j2) (nj1i1 : j1 ≠ i1) (nj1i2 : j1 ≠ i2) (nj1i3 : j1 ≠ i3) (nj2i1 : j2 ≠ i1) (nj2i2 : j2 ≠ i2) (nj2i3 : j2 ≠ i3) (ni1i2 : i1 ≠ i2) (ni1i3 : i1 ≠ i3) (ni2i3 : i2 ≠ i3) (hB : BrdB (2^21) b) (hb : below n h) (hs : solid h) (hk : 0 ≤ k ∧ k ≤ 2^46) : C 12 [.agg [.ref j1 none 5 0 b.r.ts.length, .ref j2 none 6 0 b.r.ks.length, .int .i64 b.r.stack, .int .i64 b.r.river, .int .i64 b.r.road, .int .i64 b.r.supply, .int .i64 b.r.turns, .int .i64 b.m.w, .int .i64 b.m.h, .ref i1 none 1 0 b.m.t.length, .ref i2 none 1 0 b.m.ri.length, .ref i3 none 1 0 b.m.ro.length], .int .i64 k] h n (MP [j1, j2, i1, i2, i3] h n 3 k (2^46)) := by
  have qj1 := below_lt hb gj1
  have qj2 := below_lt hb gj2
  have qi1 := below_lt hb gi1
  have qi2 := below_lt hb gi2
  have qi3 := below_lt hb gi3
  refine Closed.rT hC Q12 ?_
  simp only [c12, push_cast, ↓J1, ↓J2, N1, N2, N3, reduceCtorEq, N4, N5, N6, reduceIte, N7, I1, I2, I3]
  have B0 : below (n + 1) ((n, .var [.ref j1 none 5 0 b.r.ts.length, .ref j2 none 6 0 b.r.ks.length, .int .i64 b.r.stack, .int .i64 b.r.river, .int .i64 b.r.road, .int .i64 b.r.supply, .int .i64 b.r.turns, .int .i64 b.m.w, .int .i64 b.m.h, .ref i1 none 1 0 b.m.t.length, .ref i2 none 1 0 b.m.ri.length, .ref i3 none 1 0 b.m.ro.length]) :: h) := below_box hb (by simp only [renL, ren, lkp, if_pos (show j1 < n + 1 by omega), if_pos (show j2 < n + 1 by omega), if_pos (show i1 < n + 1 by omega), if_pos (show i2 < n + 1 by omega), if_pos (show i3 < n + 1 by omega)])
  have S0 : solid ((n, .var [.ref j1 none 5 0 b.r.ts.length, .ref j2 none 6 0 b.r.ks.length, .int .i64 b.r.stack, .int .i64 b.r.river, .int .i64 b.r.road, .int .i64 b.r.supply, .int .i64 b.r.turns, .int .i64 b.m.w, .int .i64 b.m.h, .ref i1 none 1 0 b.m.t.length, .ref i2 none 1 0 b.m.ri.length, .ref i3 none 1 0 b.m.ro.length]) :: h) := solid_box hs rfl
  have F0 : FrH [] n h ((n, .var [.ref j1 none 5 0 b.r.ts.length, .ref j2 none 6 0 b.r.ks.length, .int .i64 b.r.stack, .int .i64 b.r.river, .int .i64 b.r.road, .int .i64 b.r.supply, .int .i64 b.r.turns, .int .i64 b.m.w, .int .i64 b.m.h, .ref i1 none 1 0 b.m.t.length, .ref i2 none 1 0 b.m.ri.length, .ref i3 none 1 0 b.m.ro.length]) :: h) := FrH.box
  have V0 : hget ((n, .var [.ref j1 none 5 0 b.r.ts.length, .ref j2 none 6 0 b.r.ks.length, .int .i64 b.r.stack, .int .i64 b.r.river, .int .i64 b.r.road, .int .i64 b.r.supply, .int .i64 b.r.turns, .int .i64 b.m.w, .int .i64 b.m.h, .ref i1 none 1 0 b.m.t.length, .ref i2 none 1 0 b.m.ri.length, .ref i3 none 1 0 b.m.ro.length]) :: h) n = some (.var [.ref j1 none 5 0 b.r.ts.length, .ref j2 none 6 0 b.r.ks.length, .int .i64 b.r.stack, .int .i64 b.r.river, .int .i64 b.r.road, .int .i64 b.r.supply, .int .i64 b.r.turns, .int .i64 b.m.w, .int .i64 b.m.h, .ref i1 none 1 0 b.m.t.length, .ref i2 none 1 0 b.m.ri.length, .ref i3 none 1 0 b.m.ro.length]) := by simp only [hget, if_true]
  have gj10 := hget_box (n := n) (o := .var [.ref j1 none 5 0 b.r.ts.length, .ref j2 none 6 0 b.r.ks.length, .int .i64 b.r.stack, .int .i64 b.r.river, .int .i64 b.r.road, .int .i64 b.r.supply, .int .i64 b.r.turns, .int .i64 b.m.w, .int .i64 b.m.h, .ref i1 none 1 0 b.m.t.length, .ref i2 none 1 0 b.m.ri.length, .ref i3 none 1 0 b.m.ro.length]) hb gj1
  have gj20 := hget_box (n := n) (o := .var [.ref j1 none 5 0 b.r.ts.length, .ref j2 none 6 0 b.r.ks.length, .int .i64 b.r.stack, .int .i64 b.r.river, .int .i64 b.r.road, .int .i64 b.r.supply, .int .i64 b.r.turns, .int .i64 b.m.w, .int .i64 b.m.h, .ref i1 none 1 0 b.m.t.length, .ref i2 none 1 0 b.m.ri.length, .ref i3 none 1 0 b.m.ro.length]) hb gj2
  have gi10 := hget_box (n := n) (o := .var [.ref j1 none 5 0 b.r.ts.length, .ref j2 none 6 0 b.r.ks.length, .int .i64 b.r.stack, .int .i64 b.r.river, .int .i64 b.r.road, .int .i64 b.r.supply, .int .i64 b.r.turns, .int .i64 b.m.w, .int .i64 b.m.h, .ref i1 none 1 0 b.m.t.length, .ref i2 none 1 0 b.m.ri.length, .ref i3 none 1 0 b.m.ro.length]) hb gi1
  have gi20 := hget_box (n := n) (o := .var [.ref j1 none 5 0 b.r.ts.length, .ref j2 none 6 0 b.r.ks.length, .int .i64 b.r.stack, .int .i64 b.r.river, .int .i64 b.r.road, .int .i64 b.r.supply, .int .i64 b.r.turns, .int .i64 b.m.w, .int .i64 b.m.h, .ref i1 none 1 0 b.m.t.length, .ref i2 none 1 0 b.m.ri.length, .ref i3 none 1 0 b.m.ro.length]) hb gi2
  have gi30 := hget_box (n := n) (o := .var [.ref j1 none 5 0 b.r.ts.length, .ref j2 none 6 0 b.r.ks.length, .int .i64 b.r.stack, .int .i64 b.r.river, .int .i64 b.r.road, .int .i64 b.r.supply, .int .i64 b.r.turns, .int .i64 b.m.w, .int .i64 b.m.h, .ref i1 none 1 0 b.m.t.length, .ref i2 none 1 0 b.m.ri.length, .ref i3 none 1 0 b.m.ro.length]) hb gi3
  generalize ((n, Ob.var [.ref j1 none 5 0 b.r.ts.length, .ref j2 none 6 0 b.r.ks.length, .int .i64 b.r.stack, .int .i64 b.r.river, .int .i64 b.r.road, .int .i64 b.r.supply, .int .i64 b.r.turns, .int .i64 b.m.w, .int .i64 b.m.h, .ref i1 none 1 0 b.m.t.length, .ref i2 none 1 0 b.m.ri.length, .ref i3 none 1 0 b.m.ro.length]) :: h) = H0 at *
  refine ⟨_, t31 hC b.r j1 j2 k H0 (n + 1) gj10 gj20 nj1j2 hB.r B0 S0 (by omega), ?_⟩
  rintro v0 H1 m0 p0 _
  obtain ⟨⟨k0, rfl, a0, b0⟩, rfl, f0, B1, S1⟩ := p0
  have V1 := f0.get B0 (by simp only [List.mem_cons, List.not_mem_nil, or_false, not_or]; exact ⟨Nat.ne_of_gt qj1, Nat.ne_of_gt qj2⟩) V0
  have gi11 := f0.get B0 (by simp only [List.mem_cons, List.not_mem_nil, or_false, not_or]; exact ⟨Ne.symm nj1i1, Ne.symm nj2i1⟩) gi10
  have gi21 := f0.get B0 (by simp only [List.mem_cons, List.not_mem_nil, or_false, not_or]; exact ⟨Ne.symm nj1i2, Ne.symm nj2i2⟩) gi20
  have gi31 := f0.get B0 (by simp only [List.mem_cons, List.not_mem_nil, or_false, not_or]; exact ⟨Ne.symm nj1i3, Ne.symm nj2i3⟩) gi30
  have F1 := F0.trans f0 (by omega)
  have K1 : killH H1 = H1 := S1
  simp only [K1, V1, push_cast, ↓J1, ↓J2, N1, N2, N3, reduceCtorEq, N4, N5, N6, reduceIte, N7, I1, I2, I3]
  refine ⟨_, t32 hC b.m i1 i2 i3 k0 H1 (n + 1 + 1) gi11 gi21 gi31 ni1i2 ni1i3 ni2i3 hB.m B1 S1 (by omega), ?_⟩
  rintro v1 H2 m1 p1 _
  obtain ⟨⟨k1, rfl, a1, b1⟩, rfl, f1, B2, S2⟩ := p1
  have V2 := f1.get B1 (by simp only [List.mem_cons, List.not_mem_nil, or_false, not_or]; exact ⟨Nat.ne_of_gt qi1, Nat.ne_of_gt qi2, Nat.ne_of_gt qi3⟩) V1
  have F2 := F1.trans f1 (by omega)
  have K2 : killH H2 = H2 := S2
  simp only [K2, V2, push_cast, ↓J1, ↓J2, N1, N2, N3, reduceCtorEq, N4, N5, N6, reduceIte, N7, I1, I2, I3]
  refine ⟨⟨k1, rfl, by omega, by omega⟩, by omega, fun j hj hm => F2 j hj ?_, by simpa only [Nat.add_assoc] using B2, S2⟩
  simpa using hm
theorem t13 (a b c : Int) (q : List Int) (i : Nat) (k : Int) (h : Heap) (n : Nat) (g : hget h i = some (.slice 1 (ints q))) (hb : below n h) (hs : solid h) (hk : 0 ≤ k ∧ k ≤ 2^47 + 2^46) (hl : q.length < 2^40) : C 13 [.agg [.int .i64 a, .int .i64 b, .int .i64 c, .ref i none 1 0 q.length], .int .i64 k] h n (MW i h n 1 k q.length) := by
  have qq := below_lt hb g
  refine Closed.rT hC Q13 ?_
  simp only [c13, push_cast, ↓J1, ↓J2, N1, N2, N3, reduceCtorEq, N4, N5, N6, reduceIte, N7, I1, I2, I3]
  have B0 : below (n + 1) ((n, .var [.int .i64 a, .int .i64 b, .int .i64 c, .ref i none 1 0 q.length]) :: h) := below_box hb (by simp only [renL, ren, lkp, if_pos (show i < n + 1 by omega)])
  have S0 : solid ((n, .var [.int .i64 a, .int .i64 b, .int .i64 c, .ref i none 1 0 q.length]) :: h) := solid_box hs rfl
  have F0 : FrH [] n h ((n, .var [.int .i64 a, .int .i64 b, .int .i64 c, .ref i none 1 0 q.length]) :: h) := FrH.box
  have g0 := hget_box (n := n) (o := .var [.int .i64 a, .int .i64 b, .int .i64 c, .ref i none 1 0 q.length]) hb g
  generalize ((n, Ob.var [.int .i64 a, .int .i64 b, .int .i64 c, .ref i none 1 0 q.length]) :: h) = H0 at *
  refine ⟨_, t33 hC q k H0 i (n + 1) g0 B0 (by omega) (by omega), ?_⟩
  rintro v H1 m p _
  obtain ⟨rfl, rfl, rfl⟩ := p
  have g1 : hget (hset H0 i (.slice 1 (ints (mk q k q.length)))) i = some (.slice 1 (ints (run k q.length))) := by rw [hget_same g0, mk_all]; rfl
  have f0 : FrH [i] (n + 1) H0 (hset H0 i (.slice 1 (ints (mk q k q.length)))) := FrH.set
  have B1 := below_set (id := i) (sz := 1) (es := ints (mk q k q.length)) B0
  have S1 := solid_set (id := i) (sz := 1) (es := ints (mk q k q.length)) S0
  generalize hset H0 i (.slice 1 (ints (mk q k q.length))) = H1 at *
  have K1 : killH H1 = H1 := S1
  simp only [K1, push_cast, ↓J1, ↓J2, N1, N2, N3, reduceCtorEq, N4, N5, N6, reduceIte, N7, I1, I2, I3]
  exact ⟨rfl, rfl, g1, fun j hj hm => F0.trans f0 (by omega) j hj (by simpa using hm), B1, S1⟩
end
end Go.Proofs.YtehkpnfehfcphaaDoor.X
set_option maxHeartbeats 1000000
set_option maxRecDepth 8000
set_option linter.unusedSimpArgs false
set_option linter.unusedVariables false
open Nat renaming reduceBEq → N1, reduceAdd → N2, reduceSub → N3, reduceMul → N4, reduceEqDiff → N5, reduceLeDiff → N6, reduceLT → N7
open Int renaming reduceLE → I1, reduceLT → I2, reduceToNat → I3
namespace Go.Proofs.YtehkpnfehfcphaaDoor.X
open Go
section
variable {P : Program} {G : Glo} {C : CT} {md : FuncId → Bool} {B : Nat} {t : List AV} {h : Heap} {n : Nat} {Q : XE → St → Prop} {r x y : XC}
theorem cutF (A : St → Prop) (h1 : ∀ (K : St → Prop) (F : XE → St → Prop), (∀ s', A s' → K s') → R P G C md B x ⟨t, h, n⟩ (thenX K F) ∧ R P G C md B y ⟨t, h, n⟩ (thenX K F)) (h2 : ∀ s', A s' → R P G C md B r s' Q) : R P G C md B (.fork x y r) ⟨t, h, n⟩ Q := by
  rw [R_fork]; exact h1 _ _ h2
end
theorem below_le {n m : Nat} {h : Heap} (hb : below n h) (hm : n ≤ m) : below m h := by
  induction hm with
  | refl => exact hb
  | step _ ih => exact below_succ ih
end Go.Proofs.YtehkpnfehfcphaaDoor.X
set_option linter.unusedVariables false
set_option linter.unusedSimpArgs false
open Nat renaming reduceBEq → N1, reduceAdd → N2, reduceSub → N3, reduceMul → N4, reduceEqDiff → N5, reduceLeDiff → N6, reduceLT → N7
open Int renaming reduceLE → I1, reduceLT → I2, reduceToNat → I3
namespace Go.Proofs.YtehkpnfehfcphaaDoor.X
open Go Go.RowKit
theorem zeroCells_rep {zero : Array Value} {sz n : Nat} {z : Value} (h : zero = Array.replicate sz z) (hs : 0 < sz) : (Builtin.zeroCells zero n).toList = List.replicate (n * sz) z := by
  subst h
  simp only [Builtin.zeroCells, Array.size_replicate, Array.toList_map, Array.toList_range]
  refine List.ext_getElem (by simp) fun k h1 h2 => ?_
  simp only [List.getElem_map, List.getElem_range, List.getElem_replicate]
  rw [getElem!_pos _ _ (by simp only [Array.size_replicate]; exact Nat.mod_lt _ hs), Array.getElem_replicate]
theorem run_clear_cells {P : Program} (w : World) (t e ty : TypeId) (z : Value) (ht : P.underlying t = some (.slice e)) (hv : ∀ w, (zeroValue e).run P w = .ok z w) (b o n c : Nat) (hn : 0 < n) (zs : List Value) (hzs : (Builtin.zeroCells z.cells n).toList = zs) (h1 : ∀ v ∈ zs, v.oneCell' = true)
    (hc : ∀ j, j < zs.length → (w.cell? ⟨b, o + j, none⟩).isSome = true) (hf : ∀ j, j < zs.length → w.frozen? ⟨b, o + j, none⟩ = false) :
    (Builtin.clear_ #[t] ty #[.slice (some ⟨b, o, none⟩) n c]).run P w = .ok (.tuple #[]) (w.setCells b o zs) := by
  have hst := run_storeCells_cells (P := P) b o zs 0 w (by simpa using hc) (by simpa using hf) h1
  simp only [Nat.add_zero] at hst
  obtain ⟨m, rfl⟩ : ∃ m, n = m + 1 := ⟨n - 1, by omega⟩
  simp [Builtin.clear_, run_underlying ht, hv, hzs, hst]
theorem ints_scD (l : List Int) : allScs (ints l) = true := by
  unfold ints
  induction l with
  | nil => rfl
  | cons x l ih => simp only [List.map_cons, allScs, allSc, isSc, Bool.and_true, Bool.true_and]; exact ih
theorem delIntInfo : (Tryd.prog.info? 3).map (fun i => (i.zero, i.size, i.bytes)) = some (some (Value.int .i64 0), 1, 8) := by kernel_rfl
set_option maxHeartbeats 4000000 in
set_option maxRecDepth 1000000 in
theorem delInt_walk : DelW Tryd.prog 27 1 := by
  intro b off cap i j n vs w hvl h1 hc hf hcap hm hij hj
  simp only [Nat.mul_one] at hvl ⊢
  obtain ⟨i0, hi0, hz0, hz1, hz2⟩ := info_parts delIntInfo
  obtain ⟨news, hnews⟩ : ∃ news, news = vs.drop (j) := ⟨_, rfl⟩
  have hlen : news.length = (n - j) := by rw [hnews, List.length_drop, hvl]
  have hget : ∀ t u, news[t]? = some u → vs[j + t]? = some u := by
    intro t u hu
    rw [hnews, List.getElem?_drop] at hu
    exact hu
  obtain ⟨A, hA, hsrc⟩ : ∃ A : Addr, (if cap = j then some (⟨b, off, none⟩ : Addr) else some ⟨b, off + j, none⟩) = some A ∧ Hid (∀ t u, news[t]? = some u → w.drew.cell? (A.add t) = some u) := by
    by_cases h : cap = j
    · refine ⟨⟨b, off, none⟩, by simp [h], fun t u hu => ?_⟩
      have h0 : news.length = 0 := by rw [hlen]; omega
      rw [List.length_eq_zero_iff.1 h0] at hu
      simp at hu
    · refine ⟨⟨b, off + j, none⟩, by simp [h], fun t u hu => ?_⟩
      rw [Addr.add_lit, Nat.add_assoc]
      exact hc _ _ (hget t u hu)
  have s2 : Hid (∀ u ∈ news, u.oneCell' = true) := fun u hu => h1 u (List.mem_of_mem_drop (hnews ▸ hu))
  have s1 : Hid (news.length = (n - j) * 1) := by rw [Nat.mul_one]; exact hlen
  have s3 : Hid (∀ t, t < news.length → (w.drew.cell? ⟨b, off + i * 1 + t, none⟩).isSome = true ∧ w.drew.frozen? ⟨b, off + i * 1 + t, none⟩ = false) := by
    intro t ht
    rw [Nat.mul_one]
    rw [hlen] at ht
    have hlt : i + t < vs.length := by omega
    rw [Nat.add_assoc]
    exact ⟨by show (w.cell? _).isSome = true; rw [hc _ _ (List.getElem?_eq_getElem hlt)]; rfl, hf _ hlt⟩
  obtain ⟨W1, hW1⟩ : ∃ W1, W1 = w.drew.setCells b (off + i) news := ⟨_, rfl⟩
  rw [← hnews, ← hW1]
  have hcl : ∀ ty, (Builtin.clear_ #[26] ty #[.slice (some ⟨b, off + (i + (n - j)), none⟩) (n - (i + (n - j))) (cap - (i + (n - j)))]).run Tryd.prog W1 = .ok (.tuple #[]) (W1.setCells b (off + (i + (n - j))) (List.replicate ((j - i)) (.int .i64 0))) := by
    intro ty
    have hz : (Builtin.zeroCells (Value.int .i64 0).cells (n - (i + (n - j)))).toList = List.replicate ((j - i)) (.int .i64 0) := by
      rw [show n - (i + (n - j)) = j - i by omega]
      refine Eq.trans (zeroCells_rep (sz := 1) (n := j - i) (show (Value.int .i64 0).cells = Array.replicate 1 (.int .i64 0) from rfl) (by omega)) (by rw [Nat.mul_one])
    have hW1c : ∀ t, t < n → (W1.cell? ⟨b, off + t, none⟩).isSome = true := by
      intro t ht
      rw [hW1]
      by_cases h : t < i ∨ i + (n - j) ≤ t
      · rw [World.cell?_setCells_out b news (off + i) w.drew ⟨b, off + t, none⟩ (fun _ _ => by simp only; omega)]
        show (w.cell? _).isSome = true
        rw [hc _ _ (List.getElem?_eq_getElem (show t < vs.length by omega))]; rfl
      · obtain ⟨q, rfl⟩ : ∃ q, t = i + q := ⟨t - i, by omega⟩
        rw [← Nat.add_assoc, World.cell?_setCells_in b news (off + i) w.drew (fun t ht => by have := (s3.out t ht).1; rwa [Nat.mul_one] at this) q (by omega)]; rfl
    have hW1f : ∀ t, t < n → W1.frozen? ⟨b, off + t, none⟩ = false := by
      intro t ht
      rw [hW1, World.frozen?_setCells]
      exact hf t (by omega)
    refine run_clear_cells W1 _ 3 ty _ Tryd.underlying26 Tryd.zeroValue3 b _ _ _ (by omega) _ hz (fun v hv => by rw [List.eq_of_mem_replicate hv]; rfl) (fun t ht => ?_) (fun t ht => ?_)
    · rw [List.length_replicate] at ht
      rw [Nat.add_assoc]; exact hW1c _ (by omega)
    · rw [List.length_replicate] at ht
      rw [Nat.add_assoc]; exact hW1f _ (by omega)
  have hW : Hid (W1 = w.drew.setCells b (off + i * 1) news) := by rw [Nat.mul_one]; exact hW1
  have hic : i ≤ cap := by omega
  have hjc : j ≤ cap := by omega
  clear hW1 hget hnews hlen hc hf h1 hvl
  go_enter Tryd.func27, Tryd.ntmps27
  go_wp2_with fail
  go_region_law (refine step_append_room rfl (.tmp 22) (.tmp 25) 26 rfl 3 i0 1 Tryd.underlying26 hi0 hz1 b off i cap (by simp [Act.eval, Act.put]) A (n - j) (cap - j) news (by simp [Act.eval, Act.put]) s1.out hsrc.out s2.out (by omega) s3.out ?_; rw [← hW.out])
  go_wp2
  go_ret
  exact ⟨rfl, rfl⟩
theorem delInt_cs (l : List Int) (i j : Nat) (h : Heap) (id nx : Nat) (hg : hget h id = some (.slice 1 (ints l))) (hij : i < j) (hj : j ≤ l.length) : CS Tryd.prog G1 27 [.ref id none 1 0 l.length, .int .i64 i, .int .i64 j] h nx fun v h' n' => v = .ref id none 1 0 (i + (l.length - j)) ∧ h' = hset h id (.slice 1 (ints (l.take i ++ l.drop j ++ List.replicate (j - i) 0))) ∧ n' = nx := by
  have e := del_cs (G := G1) ⟨_, Tryd.func27, by simp [Tryd.f27], by simp [Tryd.f27]⟩ delInt_walk hg (ints_scD l) hij (by rw [ints_length]; exact hj) (nx := nx)
  rw [ints_length] at e
  have e2 : (ints l).take i ++ (ints l).drop j ++ List.replicate (j - i) (zeroE 1) = ints (l.take i ++ l.drop j ++ List.replicate (j - i) 0) := by
    simp only [ints, List.map_append, List.map_take, List.map_drop, List.map_replicate]; rfl
  rwa [e2] at e
end Go.Proofs.YtehkpnfehfcphaaDoor.X
