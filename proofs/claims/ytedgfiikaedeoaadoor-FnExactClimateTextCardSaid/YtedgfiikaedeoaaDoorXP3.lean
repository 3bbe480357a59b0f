/- A part of the proof: lemmas on the machine or on the functions that the law reaches. No condition of its own. -/
import Derived.Test.YtedgfiikaedeoaaDoorXP2
set_option maxHeartbeats 4000000
set_option maxRecDepth 8000
set_option linter.unusedVariables false
set_option linter.unusedSimpArgs false
open Nat renaming reduceBEq → N1, reduceAdd → N2, reduceSub → N3, reduceMul → N4, reduceEqDiff → N5, reduceLeDiff → N6, reduceLT → N7
open Int renaming reduceLE → I1, reduceLT → I2, reduceToNat → I3
namespace Go.Proofs.YtedgfiikaedeoaaDoor.X
open Go
attribute [local irreducible] Ev
def numB (n : Nat) : ByteArray := ⟨(Lib.decDigits n).toArray⟩
def spB : ByteArray := ⟨⟨[32]⟩⟩
def txB (l : List Nat) : ByteArray := ⟨(Lib.join (l.map Lib.decDigits) [32]).toArray⟩
theorem ba_app (a b : List UInt8) : (⟨a.toArray⟩ : ByteArray) ++ ⟨b.toArray⟩ = ⟨(a ++ b).toArray⟩ := by
  apply ByteArray.ext
  simp [ByteArray.data_append]
theorem ba_size (a : List UInt8) : (⟨a.toArray⟩ : ByteArray).size = a.length := rfl
theorem join_snoc (sep : List UInt8) : ∀ (xs : List (List UInt8)) (y : List UInt8), xs ≠ [] → Lib.join (xs ++ [y]) sep = Lib.join xs sep ++ sep ++ y
  | [], _, h => absurd rfl h
  | x :: r, y, _ => by
    rw [List.cons_append, Lib.join_cons, Lib.join_cons]
    simp [Lib.joinTail]
theorem txB_zero (l : List Nat) : txB (l.take 0) = ⟨⟨[]⟩⟩ := rfl
theorem txB_one {l : List Nat} (h : 0 < l.length) : txB (l.take 1) = ⟨⟨[]⟩⟩ ++ numB (l.getD 0 0) := by
  cases l with
  | nil => simp at h
  | cons x r =>
    simp only [txB, numB, List.take_succ_cons, List.take_zero, List.map_cons, List.map_nil, Lib.join_one]
    rw [show (⟨⟨[]⟩⟩ : ByteArray) = ⟨([] : List UInt8).toArray⟩ from rfl, ba_app]; rfl
theorem txB_succ {l : List Nat} {m : Nat} (h : m < l.length) (h0 : m ≠ 0) : txB (l.take (m + 1)) = txB (l.take m) ++ spB ++ numB (l.getD m 0) := by
  have e : l.getD m 0 = l[m] := by simp [List.getD, h]
  have hne : (l.take m).map Lib.decDigits ≠ [] := by
    intro hz
    have := congrArg List.length hz
    simp only [List.length_map, List.length_take, List.length_nil] at this; omega
  rw [e, txB, txB, List.take_succ_eq_append_getElem h, List.map_append, List.map_cons, List.map_nil, join_snoc _ _ _ hne, numB, show spB = ⟨([32] : List UInt8).toArray⟩ from rfl, ba_app, ba_app]
theorem dec_len {n : Nat} (h : n < 100) : (Lib.decDigits n).length ≤ 2 := by
  by_cases h1 : n < 10
  · rw [Lib.decDigits_one h1]; simp
  · rw [Lib.decDigits_two h1 h]; simp
theorem txB_size {l : List Nat} (hl : ∀ m, m < l.length → l.getD m 0 < 100) : ∀ m, m ≤ l.length → (txB (l.take m)).size ≤ 3 * m
  | 0, _ => Nat.le_of_eq rfl
  | m + 1, hm => by
    have ih := txB_size hl m (by omega)
    have hd := dec_len (hl m (by omega))
    by_cases h0 : m = 0
    · subst h0
      rw [txB_one (by omega), numB, show (⟨⟨[]⟩⟩ : ByteArray) = ⟨([] : List UInt8).toArray⟩ from rfl, ba_app, ba_size]
      simp only [List.nil_append]; omega
    · rw [txB_succ (by omega) h0]
      simp only [txB, spB, numB] at ih ⊢
      rw [show (⟨⟨[32]⟩⟩ : ByteArray) = ⟨([32] : List UInt8).toArray⟩ from rfl, ba_app, ba_app, ba_size]
      rw [ba_size] at ih
      simp only [List.length_append, List.length_cons, List.length_nil]; omega
structure Nine (W : List (List Int)) (l : List Nat) : Prop where
  len : l.length = 9
  lt : ∀ m, m < 9 → l.getD m 0 < 37
  wl : W.length = 3
  row : ∀ i, i < 3 → ∃ r : List Int, W[i]? = some r ∧ r.length = 3 ∧ (∀ k, k < 3 → r[k]? = some ((l.getD (3 * i + k) 0 : Nat) : Int))
theorem nine {W : List (List Int)} (h : goodW W = true) : ∃ l, Nine W l := by
  simp only [goodW, Bool.and_eq_true, decide_eq_true_eq, List.all_eq_true] at h
  obtain ⟨hl, hr⟩ := h
  match W, hl with
  | [r0, r1, r2], _ =>
    have q0 := hr r0 (by simp); have q1 := hr r1 (by simp); have q2 := hr r2 (by simp)
    simp only [rowOk, Bool.and_eq_true, decide_eq_true_eq, List.all_eq_true] at q0 q1 q2
    match r0, r1, r2, q0, q1, q2 with
    | [a, b, c], [d, e, f], [g, h, i], q0, q1, q2 =>
      have k0 : (0 ≤ a ∧ a ≤ 36) ∧ (0 ≤ b ∧ b ≤ 36) ∧ (0 ≤ c ∧ c ≤ 36) := by simpa [inR] using q0.1.2
      have k1 : (0 ≤ d ∧ d ≤ 36) ∧ (0 ≤ e ∧ e ≤ 36) ∧ (0 ≤ f ∧ f ≤ 36) := by simpa [inR] using q1.1.2
      have k2 : (0 ≤ g ∧ g ≤ 36) ∧ (0 ≤ h ∧ h ≤ 36) ∧ (0 ≤ i ∧ i ≤ 36) := by simpa [inR] using q2.1.2
      refine ⟨[a.toNat, b.toNat, c.toNat, d.toNat, e.toNat, f.toNat, g.toNat, h.toNat, i.toNat], rfl, ?_, rfl, ?_⟩
      · intro m hm
        match m, hm with
        | 0, _ | 1, _ | 2, _ | 3, _ | 4, _ | 5, _ | 6, _ | 7, _ | 8, _ => simp [List.getD]; omega
      · intro j hj
        match j, hj with
        | 0, _ => refine ⟨[a, b, c], rfl, rfl, fun k hk => ?_⟩; match k, hk with | 0, _ | 1, _ | 2, _ => simp [List.getD]; omega
        | 1, _ => refine ⟨[d, e, f], rfl, rfl, fun k hk => ?_⟩; match k, hk with | 0, _ | 1, _ | 2, _ => simp [List.getD]; omega
        | 2, _ => refine ⟨[g, h, i], rfl, rfl, fun k hk => ?_⟩; match k, hk with | 0, _ | 1, _ | 2, _ => simp [List.getD]; omega
section
variable {C : CT} (hC : Closed Tryd.prog G0 md0 C)
include hC
theorem tNum1 (n : Nat) (h : n < 10) : Ev C 29 [.int .i64 n] (.str (numB n)) := by
  have e : decide ((n : Int) < 10) = true := decide_eq_true (by omega)
  have w1 : IntKind.i64.wrap (48 + (n : Int)) = 48 + (n : Int) := wrap64 (by omega) (by omega)
  have w2 : IntKind.u8.wrap (48 + (n : Int)) = 48 + (n : Int) := by simp [IntKind.wrap, IntKind.bits, IntKind.signed]; omega
  have e2 : (48 + (n : Int)).toNat = 48 + n := by omega
  rw [numB, Lib.decDigits_one h]
  refine rT hC Q29 ?_
  simp only [c29, e, w1, w2, e2, push_cast, ↓J1, ↓J2, N1, N2, N3, reduceCtorEq, N4, N5, N6, reduceIte, N7, I1, I2, I3]
theorem t29 (n : Nat) (h : n < 100) : Ev C 29 [.int .i64 n] (.str (numB n)) := by
  by_cases h1 : n < 10
  · exact tNum1 hC n h1
  have e : decide ((n : Int) < 10) = false := decide_eq_false (by omega)
  have q1 : Int.tdiv (n : Int) 10 = ((n / 10 : Nat) : Int) := rfl
  have q2 : Int.tmod (n : Int) 10 = ((n % 10 : Nat) : Int) := rfl
  have c1 := tNum1 hC (n / 10) (by omega)
  have hm : n % 10 < 10 := by omega
  have hd : n / 10 < 10 := by omega
  rw [numB, Lib.decDigits_one hd] at c1
  rw [numB, Lib.decDigits_two h1 h, show [UInt8.ofNat (48 + n / 10), UInt8.ofNat (48 + n % 10)] = [UInt8.ofNat (48 + n / 10)] ++ [UInt8.ofNat (48 + n % 10)] from rfl, ← ba_app]
  generalize n / 10 = d at *
  generalize n % 10 = m at *
  have w0 : IntKind.i64.wrap (d : Int) = (d : Int) := wrap64 (by omega) (by omega)
  have w1 : IntKind.i64.wrap (48 + (m : Int)) = 48 + (m : Int) := wrap64 (by omega) (by omega)
  have w2 : IntKind.u8.wrap (48 + (m : Int)) = 48 + (m : Int) := by simp [IntKind.wrap, IntKind.bits, IntKind.signed]; omega
  have e2 : (48 + (m : Int)).toNat = 48 + m := by omega
  refine rT hC Q29 ?_
  simp only [c29, e, q1, q2, w0, w1, w2, e2, push_cast, ↓J1, ↓J2, N1, N2, N3, reduceCtorEq, N4, N5, N6, reduceIte, N7, I1, I2, I3]
  repeat' (first | refine ⟨_, c1, ?_⟩ | simp only [e, q1, q2, w0, w1, w2, e2, push_cast, ↓J1, ↓J2, N1, N2, N3, reduceCtorEq, N4, N5, N6, reduceIte, N7, I1, I2, I3] | refine And.intro ?_ ?_)
  all_goals first | decide | (simp only [ByteArray.size, List.size_toArray, List.length_cons, List.length_nil]; omega) | trace_state
end
end Go.Proofs.YtedgfiikaedeoaaDoor.X
set_option maxHeartbeats 4000000
set_option maxRecDepth 8000
set_option linter.unusedVariables false
set_option linter.unusedSimpArgs false
open Nat renaming reduceBEq → N1, reduceAdd → N2, reduceSub → N3, reduceMul → N4, reduceEqDiff → N5, reduceLeDiff → N6, reduceLT → N7
open Int renaming reduceLE → I1, reduceLT → I2, reduceToNat → I3
namespace Go.Proofs.YtedgfiikaedeoaaDoor.X
open Go
attribute [local irreducible] Ev
theorem nine_row {W : List (List Int)} {l : List Nat} (h : Nine W l) {i : Nat} (hi : i < 3) : ∃ r : List Int, (intss W)[i]? = some [.sl (ints r)] ∧ r.length = 3 ∧ (∀ k, k < 3 → (ints r)[k]? = some [.int .i64 ((l.getD (3 * i + k) 0 : Nat) : Int)]) ∧ ∀ k, k < 3 → r[k]? = some ((l.getD (3 * i + k) 0 : Nat) : Int) := by
  obtain ⟨r, h1, h2, h3⟩ := h.row i hi
  exact ⟨r, by simp [intss, h1], h2, fun k hk => by simp [ints, h3 k hk], h3⟩
theorem txB_len {W : List (List Int)} {l : List Nat} (h : Nine W l) {m : Nat} (hm : m ≤ 9) : (txB (l.take m)).size ≤ 27 := by
  have := txB_size (l := l) (fun m hm => by have := h.lt m (by rw [h.len] at hm; exact hm); omega) m (by rw [h.len]; exact hm)
  omega
theorem strs_snoc {l : List ByteArray} {x : ByteArray} : strs l ++ [[.str x]] = strs (l ++ [x]) := by simp [strs]
theorem strs_length {l : List ByteArray} : (strs l).length = l.length := by simp [strs]
theorem strs_sc (l : List ByteArray) : allScs (strs l) = true := by
  unfold strs
  induction l with
  | nil => rfl
  | cons x l ih => simp only [List.map_cons, allScs, allSc, isSc, Bool.and_true, Bool.true_and]; exact ih
theorem frzLL_strs (l : List ByteArray) : frzLL (strs l) = strs l := by
  unfold strs
  induction l with
  | nil => rfl
  | cons x l ih => simp only [List.map_cons, frzLL, frzL, frzT, ih]
theorem ba_tail (r : List UInt8) : (⟨(32 :: r).toArray⟩ : ByteArray).extract 0 1 = ⟨⟨[32]⟩⟩ ∧ (⟨(32 :: r).toArray⟩ : ByteArray).extract 1 (r.length + 1) = ⟨r.toArray⟩ := by
  constructor
  · apply ByteArray.ext
    simp [ByteArray.data_extract]
  · apply ByteArray.ext
    simp [ByteArray.data_extract]
section
variable {C : CT} (hC : Closed Tryd.prog G0 md0 C)
include hC
theorem t16 (W : List (List Int)) (l : List Nat) (h : Nine W l) : Ev C 16 [clA W] (.str (txB l)) := by
  have hwl := h.wl
  have hll := h.len
  have hs : (intss W).length = 3 := by rw [intss_length, hwl]
  have et : txB l = txB (l.take 9) := by rw [List.take_of_length_le (by omega)]
  rw [et]
  simp only [clA]
  refine rT hC Q16 ?_
  simp only [c16, hs, push_cast, ↓J1, ↓J2, N1, N2, N3, reduceCtorEq, N4, N5, N6, reduceIte, N7, I1, I2, I3]
  refine RL_count (fun i => ⟨tb 36 .any [(3, .str (txB (l.take (3 * i)))), (9, .sl (intss W)), (10, .int .i64 3), (11, .int .i64 (i : Int))], [], 0⟩) (fun _ => True) 3 0 (hdA []) (by omega) trivial fun i hi _ J hJ => ?_
  by_cases h1 : i < 3
  rotate_left
  · have hlt : decide ((i : Int) < 3) = false := decide_eq_false (by omega)
    rw [show 3 * i = 9 by omega]
    simp only [hlt, push_cast, ↓J1, ↓J2, N1, N2, N3, reduceCtorEq, N4, N5, N6, reduceIte, N7, I1, I2, I3]
    all_goals first | rfl | trivial | exact rtA
  have hK := hJ h1 trivial
  clear hJ
  have hlt : decide ((i : Int) < 3) = true := decide_eq_true (by omega)
  obtain ⟨r, e1, e2, e3, e9⟩ := nine_row h h1
  have hrl : (ints r).length = 3 := by rw [ints_length, e2]
  have w3 : IntKind.i64.wrap ((i : Int) + 1) = (i : Int) + 1 := wrap64 (by omega) (by omega)
  simp only [hlt, Int.toNat_natCast, e1, hrl, w3, push_cast, ↓J1, ↓J2, N1, N2, N3, reduceCtorEq, N4, N5, N6, reduceIte, N7, I1, I2, I3]
  repeat (refine ⟨by omega, ?_⟩)
  refine RL_count (fun k => ⟨tb 36 .any [(3, .str (txB (l.take (3 * i + k)))), (4, .int .i64 (i : Int)), (9, .sl (intss W)), (10, .int .i64 3), (11, .int .i64 (i : Int)), (16, .sl (ints r)), (17, .int .i64 3), (18, .int .i64 (k : Int))], [], 0⟩) (fun _ => True) 3 0 (hdA []) (by omega) trivial fun k hk _ Jb hJb => ?_
  by_cases h2 : k < 3
  rotate_left
  · have hltk : decide ((k : Int) < 3) = false := decide_eq_false (by omega)
    rw [show 3 * (i + 1) = 3 * i + k by omega] at hK
    simp only [hltk, w3, push_cast, ↓J1, ↓J2, N1, N2, N3, reduceCtorEq, N4, N5, N6, reduceIte, N7, I1, I2, I3]
    exact hK _ (hdA [])
  have hK2 := hJb h2 trivial
  clear hJb hK
  have hlt2 : decide ((k : Int) < 3) = true := decide_eq_true (by omega)
  have e4 := e3 k h2
  have w4 : IntKind.i64.wrap ((k : Int) + 1) = (k : Int) + 1 := wrap64 (by omega) (by omega)
  have w5 : IntKind.i64.wrap ((i : Int) + (k : Int)) = (i : Int) + (k : Int) := wrap64 (by omega) (by omega)
  have hn := h.lt (3 * i + k) (by omega)
  have c1 := t29 hC (l.getD (3 * i + k) 0) (by omega)
  have s1 := txB_len h (m := 3 * i + k) (by omega)
  have s2 := txB_len h (m := 3 * i + k + 1) (by omega)
  rw [show 3 * i + (k + 1) = 3 * i + k + 1 by omega] at hK2
  simp only [hlt2, Int.toNat_natCast, e4, w4, w5, push_cast, ↓J1, ↓J2, N1, N2, N3, reduceCtorEq, N4, N5, N6, reduceIte, N7, I1, I2, I3]
  repeat (refine ⟨by omega, ?_⟩)
  by_cases h0 : 3 * i + k = 0
  · have d0 : decide (0 < (i : Int) + (k : Int)) = false := decide_eq_false (by omega)
    rw [h0] at c1 s1 s2 hK2 ⊢
    rw [txB_one (by omega)] at s2 hK2
    rw [txB_zero] at s1 ⊢
    simp only [d0, push_cast, ↓J1, ↓J2, N1, N2, N3, reduceCtorEq, N4, N5, N6, reduceIte, N7, I1, I2, I3]
    refine ⟨_, c1, ?_⟩
    simp only [w4, push_cast, ↓J1, ↓J2, N1, N2, N3, reduceCtorEq, N4, N5, N6, reduceIte, N7, I1, I2, I3]
    rw [ByteArray.size_append] at s2
    refine ⟨by omega, ?_⟩
    exact hK2 _ (hdA [])
  · have d0 : decide (0 < (i : Int) + (k : Int)) = true := decide_eq_true (by omega)
    rw [txB_succ (by omega) h0] at s2 hK2
    rw [ByteArray.size_append, ByteArray.size_append] at s2
    rw [show spB = ⟨⟨[32]⟩⟩ from rfl] at s2 hK2
    simp only [d0, push_cast, ↓J1, ↓J2, N1, N2, N3, reduceCtorEq, N4, N5, N6, reduceIte, N7, I1, I2, I3]
    refine ⟨by omega, ?_⟩
    refine ⟨_, c1, ?_⟩
    simp only [w4, ByteArray.size_append, push_cast, ↓J1, ↓J2, N1, N2, N3, reduceCtorEq, N4, N5, N6, reduceIte, N7, I1, I2, I3]
    refine ⟨by omega, ?_⟩
    exact hK2 _ (hdA [])
theorem t6 (W : List (List Int)) (hW : W.length < 2^50) (hr : ∀ r ∈ W, r.length < 2^50) (l : List Nat) (hl : goodW W = true → Nine W l) : Ev C 6 [clA W] (.tup [.str (if goodW W then txB l else ⟨⟨[]⟩⟩), .bool (goodW W)]) := by
  have c1 := t15 hC W hW hr
  have c2 := fun g => t16 hC W l (hl g)
  simp only [clA] at *
  refine rT hC Q6 ?_
  simp only [c6, push_cast, ↓J1, ↓J2, N1, N2, N3, reduceCtorEq, N4, N5, N6, reduceIte, N7, I1, I2, I3]
  refine ⟨_, c1, ?_⟩
  cases g : goodW W
  · simp only [Bool.false_eq_true, if_false, Bool.not_false, push_cast, ↓J1, ↓J2, N1, N2, N3, reduceCtorEq, N4, N5, N6, reduceIte, N7, I1, I2, I3]
    all_goals first | rfl | trivial | exact ⟨rfl, rfl⟩ | exact rtA
  · simp only [Bool.not_true, push_cast, ↓J1, ↓J2, N1, N2, N3, reduceCtorEq, N4, N5, N6, reduceIte, N7, I1, I2, I3]
    refine ⟨_, c2 g, ?_⟩
    simp only [if_true, push_cast, ↓J1, ↓J2, N1, N2, N3, reduceCtorEq, N4, N5, N6, reduceIte, N7, I1, I2, I3]
    all_goals first | rfl | trivial | exact ⟨rfl, rfl⟩ | exact rtA
theorem tHas (r : List UInt8) (h : r.length < 2^40) : Ev C 48 [.str ⟨(32 :: r).toArray⟩, .str ⟨⟨[32]⟩⟩] (.bool true) := by
  have e1 : ((⟨(32 :: r).toArray⟩ : ByteArray).size : Int) = (r.length : Int) + 1 := rfl
  have e2 : ((⟨⟨[32]⟩⟩ : ByteArray).size : Int) = 1 := rfl
  have e3 : (⟨(32 :: r).toArray⟩ : ByteArray).extract 0 1 = ⟨⟨[32]⟩⟩ := (ba_tail r).1
  have e4 : decide ((1 : Int) ≤ (r.length : Int) + 1) = true := decide_eq_true (by omega)
  refine rT hC Q48 ?_
  simp only [c48, e1, e2, e3, e4, push_cast, ↓J1, ↓J2, N1, N2, N3, reduceCtorEq, N4, N5, N6, reduceIte, N7, I1, I2, I3]
  all_goals (and_intros <;> first | rfl | omega | trivial)
theorem tTrimI (r : List UInt8) (h : r.length < 2^40) : Ev C 42 [.str ⟨(32 :: r).toArray⟩, .str ⟨⟨[32]⟩⟩] (.str ⟨r.toArray⟩) := by
  have e1 : ((⟨(32 :: r).toArray⟩ : ByteArray).size : Int) = (r.length : Int) + 1 := rfl
  have e2 : ((⟨⟨[32]⟩⟩ : ByteArray).size : Int) = 1 := rfl
  have e3 : (⟨(32 :: r).toArray⟩ : ByteArray).extract 1 (r.length + 1) = ⟨r.toArray⟩ := (ba_tail r).2
  have e5 : ((r.length : Int) + 1).toNat = r.length + 1 := by omega
  have c1 := tHas hC r h
  refine rT hC Q42 ?_
  simp only [c42, push_cast, ↓J1, ↓J2, N1, N2, N3, reduceCtorEq, N4, N5, N6, reduceIte, N7, I1, I2, I3]
  refine ⟨_, c1, ?_⟩
  simp only [e1, e2, e3, e5, push_cast, ↓J1, ↓J2, N1, N2, N3, reduceCtorEq, N4, N5, N6, reduceIte, N7, I1, I2, I3]
  repeat (refine ⟨by omega, ?_⟩)
  all_goals first | omega | rfl | trivial | exact rtA
theorem t33 (r : List UInt8) (h : r.length < 2^40) : Ev C 33 [.str ⟨(32 :: r).toArray⟩, .str ⟨⟨[32]⟩⟩] (.str ⟨r.toArray⟩) := by
  have c1 := tTrimI hC r h
  refine rT hC Q33 ?_
  simp only [c33, push_cast, ↓J1, ↓J2, N1, N2, N3, reduceCtorEq, N4, N5, N6, reduceIte, N7, I1, I2, I3]
  refine ⟨_, c1, ?_⟩
  simp only [push_cast, ↓J1, ↓J2, N1, N2, N3, reduceCtorEq, N4, N5, N6, reduceIte, N7, I1, I2, I3]
  all_goals first | rfl | trivial | exact rtA
theorem t35 (hB : LibT C) (W : List (List Int)) (l : List Nat) (h : Nine W l) : Ev C 35 [.sl (intss W)] (.ow 1 (ints (l.map fun n : Nat => Int.ofNat n))) := by
  have hwl := h.wl
  have hll := h.len
  have hs : (intss W).length = 3 := by rw [intss_length, hwl]
  have hlm : (l.map fun n : Nat => Int.ofNat n).length = 9 := by simp [hll]
  refine rT hC Q35 ?_ (own_ints _)
  simp only [c35, hs, push_cast, ↓J1, ↓J2, N1, N2, N3, reduceCtorEq, N4, N5, N6, reduceIte, N7, I1, I2, I3]
  refine RL_count (fun i => ⟨tb 36 .any [(0, .sl (intss W)), (3, .int .i64 (3 * (i : Int))), (9, .sl (intss W)), (10, .int .i64 3), (11, .int .i64 (i : Int))], [], 0⟩) (fun _ => True) 3 0 (hdA []) (by omega) trivial fun i hi _ J hJ => ?_
  by_cases h1 : i < 3
  · have hK := hJ h1 trivial
    have hlt : decide ((i : Int) < 3) = true := decide_eq_true (by omega)
    obtain ⟨r, e1, e2, e3, e9⟩ := nine_row h h1
    have hrl : ((ints r).length : Int) = 3 := by rw [ints_length, e2]; rfl
    have w3 : IntKind.i64.wrap ((i : Int) + 1) = (i : Int) + 1 := wrap64 (by omega) (by omega)
    have w4 : IntKind.i64.wrap (3 * (i : Int) + 3) = 3 * (i : Int) + 3 := wrap64 (by omega) (by omega)
    have d1 : decide (3 * (i : Int) + 3 < 0) = false := decide_eq_false (by omega)
    simp only [hlt, Int.toNat_natCast, e1, hrl, w3, w4, d1, push_cast, ↓J1, ↓J2, N1, N2, N3, reduceCtorEq, N4, N5, N6, reduceIte, N7, I1, I2, I3]
    repeat (refine ⟨by omega, ?_⟩)
    refine hK _ (head_tb [] (by simp [rhoOk, objIds]) ?_ ?_)
    · simp only [keptV_cons, keptV_nil, tb_get, lk_same, lk_ne, lk_nil, ren, renL, lkp, N7, N1, N5, reduceIte, and_true, true_and, Nat.not_lt_zero, if_false, if_true, Nat.add_zero, Nat.zero_add]
      rw [show 3 * ((i + 1 : Nat) : Int) = 3 * (i : Int) + 3 by omega]
      and_intros <;> first | rfl | simp
    · simp [canR, canB]
  have hlt : decide ((i : Int) < 3) = false := decide_eq_false (by omega)
  have i3 : 3 * (i : Int) = 9 := by omega
  have c1 := hB.grow 9 (by omega) (by omega)
  clear hJ
  simp only [hlt, i3, push_cast, ↓J1, ↓J2, N1, N2, N3, reduceCtorEq, N4, N5, N6, reduceIte, N7, I1, I2, I3]
  refine ⟨_, c1, ?_⟩
  simp only [hs, push_cast, ↓J1, ↓J2, N1, N2, N3, reduceCtorEq, N4, N5, N6, reduceIte, N7, I1, I2, I3]
  refine RL_count (fun i => ⟨tb 36 .any [(6, .ref 0 none 1 0 (3 * i)), (25, .sl (intss W)), (26, .int .i64 3), (27, .int .i64 (i : Int))], [(0, .slice 1 (ints ((l.take (3 * i)).map fun n : Nat => Int.ofNat n)))], 1⟩) (fun _ => True) 3 0 (hdA [(0, 0)]) (by omega) trivial fun i hi _ J hJ => ?_
  have hln : ((l.take (3 * i)).map fun n : Nat => Int.ofNat n).length = 3 * i := by simp [hll]; omega
  by_cases h1 : i < 3
  rotate_left
  · have hlt : decide ((i : Int) < 3) = false := decide_eq_false (by omega)
    rw [show 3 * i = 9 by omega, List.take_of_length_le (by omega)]
    simp only [hlt, push_cast, ↓J1, ↓J2, N1, N2, N3, reduceCtorEq, N4, N5, N6, reduceIte, N7, I1, I2, I3]
    exact RetTo_ow rfl (by rw [ints_length]; exact hlm.symm)
  have hK := hJ h1 trivial
  have hlt : decide ((i : Int) < 3) = true := decide_eq_true (by omega)
  obtain ⟨r, e1, e2, e3, e9⟩ := nine_row h h1
  have hrl : (ints r).length = 3 := by rw [ints_length, e2]
  have hra : (ints r).all (fun e => e.length == 1) = true := by simp [ints]
  have w3 : IntKind.i64.wrap ((i : Int) + 1) = (i : Int) + 1 := wrap64 (by omega) (by omega)
  have tk : List.take (3 * i) (ints ((l.take (3 * i)).map fun n : Nat => Int.ofNat n)) = ints ((l.take (3 * i)).map fun n : Nat => Int.ofNat n) := List.take_of_length_le (by rw [ints_length, hln]; omega)
  have hap : ints ((l.take (3 * i)).map fun n : Nat => Int.ofNat n) ++ ints r = ints ((l.take (3 * (i + 1))).map fun n : Nat => Int.ofNat n) := by
    have e10 : r = (List.drop (3 * i) (l.take (3 * (i + 1)))).map fun n : Nat => Int.ofNat n := by
      refine List.ext_getElem? fun k => ?_
      by_cases hk : k < 3
      · rw [e9 k hk, List.getElem?_map, List.getElem?_drop, List.getElem?_take, if_pos (by omega), List.getElem?_eq_getElem (by omega)]
        simp [List.getD, show 3 * i + k < l.length by omega]
      · rw [List.getElem?_eq_none (by omega), List.getElem?_eq_none (by simp; omega)]
    rw [← List.take_append_drop (3 * i) (l.take (3 * (i + 1))), List.take_take, Nat.min_eq_left (by omega), List.map_append, ← e10]
    simp only [ints, List.map_append]
  simp only [hlt, Int.toNat_natCast, e1, hrl, hra, w3, tk, ints_length, hln, if_true, push_cast, ↓J1, ↓J2, N1, N2, N3, reduceCtorEq, N4, N5, N6, reduceIte, N7, I1, I2, I3]
  repeat (refine ⟨by omega, ?_⟩)
  refine hK _ (hdA [(1, 0)] (hh := ?_))
  simp only [canR, canB, renO, renL, ren, lkp, hget, N7, N5, Nat.not_lt_zero, if_false, if_true, reduceIte, List.append_nil, List.nil_append, hap]
  all_goals rfl
end
end Go.Proofs.YtedgfiikaedeoaaDoor.X
set_option maxHeartbeats 1000000
set_option maxRecDepth 8000
set_option linter.unusedSimpArgs false
set_option linter.unusedVariables false
open Nat renaming reduceBEq → N1, reduceAdd → N2, reduceSub → N3, reduceMul → N4, reduceEqDiff → N5, reduceLeDiff → N6, reduceLT → N7
open Int renaming reduceLE → I1, reduceLT → I2, reduceToNat → I3
namespace Go.Proofs.YtedgfiikaedeoaaDoor.X
open Go
def w64 (n : Int) : Int := IntKind.i64.wrap n
theorem w64_id {n : Int} (h1 : -9223372036854775808 ≤ n) (h2 : n ≤ 9223372036854775807) : w64 n = n := wrap64 h1 h2
def dmod (x m : Int) : Int := (w64 (x.tmod m + m)).tmod m
def mixA (a b x : Int) : Int := (w64 (w64 (w64 (16807 * a) + dmod x 2147483647) + b)).tmod 2147483647
def mixB (a' b x : Int) : Int := (w64 (w64 (w64 (39373 * b) + dmod x 2147483629) + a')).tmod 2147483629
def mixS (ab : Int × Int) (x : Int) : Int × Int := (mixA ab.1 ab.2 x, mixB (mixA ab.1 ab.2 x) ab.2 x)
def mixF (l : List Int) (n : Int) : Int × Int := l.foldl mixS (7, w64 (n + 1))
def mixL (l : List Int) : Int × Int := mixF (l ++ [1, 1, 1]) l.length
theorem mixF_succ {l : List Int} {n : Int} {i : Nat} (h : i < l.length) : mixF (l.take (i + 1)) n = mixS (mixF (l.take i) n) l[i] := by
  simp only [mixF, List.take_succ_eq_append_getElem h, List.foldl_append, List.foldl_cons, List.foldl_nil]
section
variable {C : CT} (hC : Closed Tryd.prog G0 md0 C)
include hC
end
end Go.Proofs.YtedgfiikaedeoaaDoor.X
set_option maxHeartbeats 1000000
set_option maxRecDepth 8000
set_option linter.unusedSimpArgs false
set_option linter.unusedVariables false
open Nat renaming reduceBEq → N1, reduceAdd → N2, reduceSub → N3, reduceMul → N4, reduceEqDiff → N5, reduceLeDiff → N6, reduceLT → N7
open Int renaming reduceLE → I1, reduceLT → I2, reduceToNat → I3
namespace Go.Proofs.YtedgfiikaedeoaaDoor.X
open Go
attribute [local irreducible] Ev szSS szRows
def nextS : List Int → Int → Int → Int
  | [], _, _ => 0
  | y :: ys, x, k => if x < y then k else nextS ys (w64 (x - y)) (k + 1)
def nextI : List Int → Int → Int → Int → Int
  | [], _, _, _ => 2
  | y :: ys, s, x, k => if x < w64 (s + y) then k else nextI ys (w64 (s + y)) x (k + 1)
def belowOf (seed i n : Int) : Int := (mixL [seed, i, n]).1.tmod n
def rowAt (W : List (List Int)) (w : Int) : List Int := W.getD w.toNat []
theorem rowAt_some {W : List (List Int)} {w : Int} (hg : goodW W = true) (hw : inR 0 2 w = true) : w.toNat < W.length ∧ W[w.toNat]? = some (rowAt W w) ∧ ∃ a b c, rowAt W w = [a, b, c] ∧ inR 0 36 a = true ∧ inR 0 36 b = true ∧ inR 0 36 c = true ∧ a + b + c = 36 := by
  simp only [goodW, Bool.and_eq_true, decide_eq_true_eq] at hg
  simp only [inR, Bool.and_eq_true, decide_eq_true_eq] at hw
  have hl : w.toNat < W.length := by omega
  have e : rowAt W w = W[w.toNat] := by simp [rowAt, List.getD, hl]
  have hr := List.all_eq_true.1 hg.2 _ (List.getElem_mem hl)
  rw [← e] at hr
  refine ⟨hl, by rw [e]; exact List.getElem?_eq_getElem hl, ?_⟩
  generalize rowAt W w = r at hr
  simp only [rowOk, Bool.and_eq_true, decide_eq_true_eq] at hr
  obtain ⟨⟨h1, h2⟩, h3⟩ := hr
  match r, h1 with
  | [a, b, c], _ =>
    simp only [List.all_cons, List.all_nil, Bool.and_true, Bool.and_eq_true] at h2
    rw [sum3 h2.1 h2.2.1 h2.2.2] at h3
    exact ⟨a, b, c, rfl, h2.1, h2.2.1, h2.2.2, h3⟩
theorem next_eq {a b c x : Int} (ha : inR 0 36 a = true) (hb : inR 0 36 b = true) (hc : inR 0 36 c = true) (hs : a + b + c = 36) (hx : -36 < x ∧ x < 36) : nextS [a, b, c] x 0 = nextI [a, b, c] 0 x 0 := by
  simp only [inR, Bool.and_eq_true, decide_eq_true_eq] at ha hb hc
  simp only [nextS, nextI]
  rw [w64_id (n := x - a) (by omega) (by omega), w64_id (n := x - a - b) (by omega) (by omega), show (0 : Int) + a = a from Int.zero_add a, w64_id (n := a) (by omega) (by omega), w64_id (n := a + b) (by omega) (by omega), w64_id (n := a + b + c) (by omega) (by omega)]
  split
  · rfl
  · by_cases n2 : x - a < b
    · rw [if_pos n2, if_pos (by omega)]
    · rw [if_neg n2, if_pos (show x - a - b < c by omega), if_neg (by omega), if_pos (by omega)]
theorem below36 (a b : Int) : -36 < belowOf a b 36 ∧ belowOf a b 36 < 36 := by
  have h1 := Int.lt_tmod_of_pos (mixL [a, b, 36]).1 (show (0 : Int) < 36 by omega)
  have h2 := Int.tmod_lt_of_pos (mixL [a, b, 36]).1 (show (0 : Int) < 36 by omega)
  exact ⟨h1, h2⟩
section
variable {C : CT} (hC : Closed Tryd.prog G0 md0 C)
include hC
def askNext (W : List (List Int)) (w seed turn : Int) : Bool := goodW W && inR 0 2 w && inR 0 4611686016279904236 seed && inR 0 30 turn
def resNext (W : List (List Int)) (w seed turn : Int) : Int := if askNext W w seed turn then nextS (rowAt W w) (belowOf seed turn 36) 0 else 0
end
end Go.Proofs.YtedgfiikaedeoaaDoor.X
set_option maxHeartbeats 1000000
set_option maxRecDepth 8000
set_option linter.unusedSimpArgs false
set_option linter.unusedVariables false
open Nat renaming reduceBEq → N1, reduceAdd → N2, reduceSub → N3, reduceMul → N4, reduceEqDiff → N5, reduceLeDiff → N6, reduceLT → N7
open Int renaming reduceLE → I1, reduceLT → I2, reduceToNat → I3
namespace Go.Proofs.YtedgfiikaedeoaaDoor.X
open Go
theorem has_ints {k : Nat} {xs : List AV} (h : Has Tryd.prog (k + 2) 44 xs) : ∃ l, xs = [.sl (ints l)] ∧ l.length < 2 ^ 50 := by
  obtain ⟨es, rfl, _, hb, he⟩ := has_slice tk_44 h
  rw [bo_3] at hb
  obtain ⟨l, rfl⟩ := all_map (f := fun n : Int => [AV.int .i64 n]) (es := es) fun e hx => by
    obtain ⟨n, hn, _⟩ := has_int tk_3 (he e hx).2
    exact ⟨n, hn⟩
  simp only [reachBytes, List.length_map] at hb
  exact ⟨l, rfl, by omega⟩
theorem has_intss {k : Nat} {xs : List AV} (h : Has Tryd.prog (k + 3) 22 xs) : ∃ W, xs = [.sl (intss W)] ∧ W.length < 2 ^ 50 ∧ ∀ r ∈ W, r.length < 2 ^ 50 := by
  obtain ⟨es, rfl, _, hb, he⟩ := has_slice tk_22 h
  rw [bo_44] at hb
  obtain ⟨W, rfl⟩ := all_map (f := fun r : { r : List Int // r.length < 2 ^ 50 } => [AV.sl (ints r.1)]) (es := es) fun e hx => by
    obtain ⟨l, hl, hn⟩ := has_ints (he e hx).2
    exact ⟨⟨l, hn⟩, hl⟩
  simp only [reachBytes, List.length_map] at hb
  refine ⟨W.map (·.1), by simp only [intss, List.map_map]; rfl, by simp; omega, fun r hr => ?_⟩
  obtain ⟨x, _, rfl⟩ := List.mem_map.1 hr
  exact x.2
theorem has_clim {x : AV} (h0 : HasV Tryd.prog 14 24 x) : ∃ W, x = clA W ∧ W.length < 2 ^ 50 ∧ ∀ r ∈ W, r.length < 2 ^ 50 := by
  obtain ⟨ys, rfl, h⟩ := hasV_struct sty_24 h0
  obtain ⟨x1, r, rfl, _, h1, h⟩ := hasE_cons h
  obtain rfl := hasE_nil h
  obtain ⟨W, rfl, hW, hr⟩ := has_intss h1
  exact ⟨W, rfl, hW, hr⟩
end Go.Proofs.YtedgfiikaedeoaaDoor.X
set_option maxHeartbeats 4000000
set_option maxRecDepth 8000
set_option linter.unusedVariables false
set_option linter.unusedSimpArgs false
open Nat renaming reduceBEq → N1, reduceAdd → N2, reduceSub → N3, reduceMul → N4, reduceEqDiff → N5, reduceLeDiff → N6, reduceLT → N7
open Int renaming reduceLE → I1, reduceLT → I2, reduceToNat → I3
namespace Go.Proofs.YtedgfiikaedeoaaDoor.X
open Go
attribute [local irreducible] Ev
def wds (l : List Nat) (k : Nat) : List ByteArray := ⟨⟨[]⟩⟩ :: (l.take k).map numB
theorem wds_succ {l : List Nat} {k : Nat} (h : k < l.length) : wds l (k + 1) = wds l k ++ [numB (l.getD k 0)] := by
  have e : l.getD k 0 = l[k] := by simp [List.getD, h]
  rw [e, wds, wds, List.take_succ_eq_append_getElem h, List.map_append, List.map_cons, List.map_nil, List.cons_append]
theorem wds_len {l : List Nat} {k : Nat} (h : k ≤ l.length) : (wds l k).length = k + 1 := by simp [wds]; omega
theorem wds_join {l : List Nat} (h : l ≠ []) : Lib.join ((wds l l.length).map (·.data.toList)) [32] = 32 :: Lib.join (l.map Lib.decDigits) [32] := by
  have e : (wds l l.length).map (·.data.toList) = [] :: l.map Lib.decDigits := by
    simp [wds, numB, Function.comp_def]
  cases l with
  | nil => exact absurd rfl h
  | cons x r =>
    rw [e, Lib.join_cons, List.map_cons, Lib.join_cons]
    simp [Lib.joinTail]
section
variable {C : CT} (hC : Closed Tryd.prog G0 md0 C)
include hC
theorem t34 (hB : LibT C) (W : List (List Int)) (l : List Nat) (h : Nine W l) : Ev C 34 [.str ⟨⟨[]⟩⟩, .sl (ints (l.map fun n : Nat => Int.ofNat n))] (.str ⟨(32 :: Lib.join (l.map Lib.decDigits) [32]).toArray⟩) := by
  have hll := h.len
  have hne : l ≠ [] := fun e => by rw [e] at hll; simp at hll
  have hlm : (ints (l.map fun n : Nat => Int.ofNat n)).length = 9 := by simp [ints, hll]
  have hlm2 : ((ints (l.map fun n : Nat => Int.ofNat n)).length : Int) = 9 := by rw [hlm]; rfl
  have hjl : (Lib.join ((wds l 9).map (·.data.toList)) [32]).length < 2^40 := by
    have := txB_len h (m := 9) (by omega)
    rw [List.take_of_length_le (by omega), txB, ba_size] at this
    rw [← hll, wds_join hne, List.length_cons]; omega
  have cj := hB.join (wds l 9) ⟨⟨[32]⟩⟩ (by simp [wds]) (by rw [wds_len (by omega)]; omega) hjl
  rw [show (⟨⟨[32]⟩⟩ : ByteArray).data.toList = [32] from rfl] at cj
  rw [show Lib.join ((wds l 9).map (·.data.toList)) [32] = 32 :: Lib.join (l.map Lib.decDigits) [32] by rw [← wds_join hne, hll]] at cj
  refine rT hC Q34 ?_
  simp only [c34, hlm2, push_cast, ↓J1, ↓J2, N1, N2, N3, reduceCtorEq, N4, N5, N6, reduceIte, N7, I1, I2, I3]
  refine RL_count (fun k => ⟨tb 24 .any [(5, .ref 0 none 1 0 (k + 1)), (10, .sl (ints (l.map fun n : Nat => Int.ofNat n))), (11, .int .i64 9), (12, .int .i64 (k : Int))], [(0, .slice 1 (strs (wds l k)))], 1⟩) (fun _ => True) 9 0 (hdA [(0, 0)]) (by omega) trivial fun k hk _ J hJ => ?_
  have hwl := wds_len (l := l) (k := k) (by omega)
  have tk : List.take (k + 1) (strs (wds l k)) = strs (wds l k) := List.take_of_length_le (by rw [strs_length, hwl]; omega)
  by_cases h1 : k < 9
  rotate_left
  · have hlt : decide ((k : Int) < 9) = false := decide_eq_false (by omega)
    have hk9 : k = 9 := by omega
    rw [← hk9] at cj
    simp only [hlt, tk, frzLL_strs, push_cast, ↓J1, ↓J2, N1, N2, N3, reduceCtorEq, N4, N5, N6, reduceIte, N7, I1, I2, I3]
    refine ⟨_, cj, ?_⟩
    simp only [push_cast, ↓J1, ↓J2, N1, N2, N3, reduceCtorEq, N4, N5, N6, reduceIte, N7, I1, I2, I3]
    all_goals first | rfl | trivial | exact rtA
  have hK := hJ h1 trivial
  have hlt : decide ((k : Int) < 9) = true := decide_eq_true (by omega)
  have e1 : (ints (l.map fun n : Nat => Int.ofNat n))[k]? = some [.int .i64 ((l.getD k 0 : Nat) : Int)] := by
    simp [ints, List.getD, show k < l.length by omega]
  have w3 : IntKind.i64.wrap ((k : Int) + 1) = (k : Int) + 1 := wrap64 (by omega) (by omega)
  have c1 := hB.itoa (l.getD k 0) (by have := h.lt k h1; omega)
  rw [show (⟨(Lib.decDigits (l.getD k 0)).toArray⟩ : ByteArray) = numB (l.getD k 0) from rfl] at c1
  rw [wds_succ (by omega)] at hK
  simp only [hlt, Int.toNat_natCast, e1, w3, push_cast, ↓J1, ↓J2, N1, N2, N3, reduceCtorEq, N4, N5, N6, reduceIte, N7, I1, I2, I3]
  repeat (refine ⟨by omega, ?_⟩)
  refine ⟨_, c1, ?_⟩
  simp only [w3, tk, strs_sc, strs_length, hwl, allScs, apYR_sc, push_cast, ↓J1, ↓J2, N1, N2, N3, reduceCtorEq, N4, N5, N6, reduceIte, N7, I1, I2, I3]
  repeat (refine ⟨by omega, ?_⟩)
  refine hK _ (hdA [(2, 0)] (hh := ?_))
  simp only [canR, canB, renO, renL, ren, lkp, hget, N7, N5, Nat.not_lt_zero, if_false, if_true, reduceIte, List.append_nil, List.nil_append, strs_snoc]
  all_goals rfl
theorem t19 (hB : LibT C) (W : List (List Int)) (l : List Nat) (h : Nine W l) : Ev C 19 [clA W] (.str (txB l)) := by
  have c1 := t35 hC hB W l h
  have c2 := t34 hC hB W l h
  have hjl : (Lib.join (l.map Lib.decDigits) [32]).length < 2^40 := by
    have := txB_len h (m := 9) (by omega)
    rw [List.take_of_length_le (by have := h.len; omega), txB, ba_size] at this
    omega
  have c3 := t33 hC (Lib.join (l.map Lib.decDigits) [32]) hjl
  have hlm : (l.map fun n : Nat => Int.ofNat n).length = 9 := by simp [h.len]
  have tk : List.take 9 (ints (l.map fun n : Nat => Int.ofNat n)) = ints (l.map fun n : Nat => Int.ofNat n) := List.take_of_length_le (by rw [ints_length, hlm]; omega)
  simp only [clA] at *
  refine rT hC Q19 ?_
  simp only [c19, push_cast, ↓J1, ↓J2, N1, N2, N3, reduceCtorEq, N4, N5, N6, reduceIte, N7, I1, I2, I3]
  refine ⟨_, c1, ?_⟩
  simp only [ints_length, hlm, tk, frzLL_ints, push_cast, ↓J1, ↓J2, N1, N2, N3, reduceCtorEq, N4, N5, N6, reduceIte, N7, I1, I2, I3]
  refine ⟨_, c2, ?_⟩
  simp only [push_cast, ↓J1, ↓J2, N1, N2, N3, reduceCtorEq, N4, N5, N6, reduceIte, N7, I1, I2, I3]
  refine ⟨_, c3, ?_⟩
  simp only [push_cast, ↓J1, ↓J2, N1, N2, N3, reduceCtorEq, N4, N5, N6, reduceIte, N7, I1, I2, I3]
  all_goals first | rfl | trivial | exact rtA
theorem t8 (hB : LibT C) (W : List (List Int)) (hW : W.length < 2^50) (hr : ∀ r ∈ W, r.length < 2^50) (l : List Nat) (hl : goodW W = true → Nine W l) : Ev C 8 [clA W] (.tup [.str (if goodW W then txB l else ⟨⟨[]⟩⟩), .bool (goodW W)]) := by
  have c1 := t18 hC W hW hr
  have c2 := fun g => t19 hC hB W l (hl g)
  simp only [clA] at *
  refine rT hC Q8 ?_
  simp only [c8, push_cast, ↓J1, ↓J2, N1, N2, N3, reduceCtorEq, N4, N5, N6, reduceIte, N7, I1, I2, I3]
  refine ⟨_, c1, ?_⟩
  cases g : goodW W
  · simp only [Bool.false_eq_true, if_false, Bool.not_false, push_cast, ↓J1, ↓J2, N1, N2, N3, reduceCtorEq, N4, N5, N6, reduceIte, N7, I1, I2, I3]
    all_goals first | rfl | trivial | exact ⟨rfl, rfl⟩ | exact rtA
  · simp only [Bool.not_true, push_cast, ↓J1, ↓J2, N1, N2, N3, reduceCtorEq, N4, N5, N6, reduceIte, N7, I1, I2, I3]
    refine ⟨_, c2 g, ?_⟩
    simp only [if_true, push_cast, ↓J1, ↓J2, N1, N2, N3, reduceCtorEq, N4, N5, N6, reduceIte, N7, I1, I2, I3]
    all_goals first | rfl | trivial | exact ⟨rfl, rfl⟩ | exact rtA
theorem t3 (hB : LibT C) (W : List (List Int)) (hW : W.length < 2^50) (hr : ∀ r ∈ W, r.length < 2^50) : Ev C 3 [clA W] (.bool true) := by
  obtain ⟨l, hl⟩ : ∃ l, goodW W = true → Nine W l := by
    by_cases g : goodW W = true
    · obtain ⟨l, h⟩ := nine g
      exact ⟨l, fun _ => h⟩
    · exact ⟨[], fun h => absurd h g⟩
  have h1 := t5 hC W 1048576 (by omega) hW hr
  have h3 := t6 hC W hW hr l hl
  have h4 := t8 hC hB W hW hr l hl
  have h5 := t9 hC W W hW hW hr hr
  have er : decide (W = W) = true := decide_eq_true rfl
  generalize (if goodW W then txB l else ⟨⟨[]⟩⟩) = s at *
  generalize goodW W = ok at *
  have es : decide (s = s) = true := decide_eq_true rfl
  simp only [clA] at *
  refine rT hC Q3 ?_
  simp only [X.c3, push_cast, ↓J1, ↓J2, N1, N2, N3, reduceCtorEq, N4, N5, N6, reduceIte, N7, I1, I2, I3]
  refine ⟨_, h1, ?_⟩
  simp only [push_cast, ↓J1, ↓J2, N1, N2, N3, reduceCtorEq, N4, N5, N6, reduceIte, N7, I1, I2, I3]
  refine ifB_intro (fun h => trivial) (fun h => ?_)
  have g : 0 ≤ szSS W 1048576 := by
    simp only [decide_eq_false_iff_not] at h
    split at h
    · omega
    · omega
  have g1 := szSS_le (by omega) g
  have gW : W.length < 2^30 := by omega
  have gr : ∀ r ∈ W, r.length < 2^30 := fun r h => by have := g1.2 r h; omega
  have h2 := t7 hC W gW gr
  simp only [clA, clO] at *
  refine ⟨_, h2, ?_⟩
  simp only [frzLL_owss, es, er, push_cast, ↓J1, ↓J2, N1, N2, N3, reduceCtorEq, N4, N5, N6, reduceIte, N7, I1, I2, I3]
  refine ⟨_, h3, ?_⟩
  simp only [frzLL_owss, es, er, push_cast, ↓J1, ↓J2, N1, N2, N3, reduceCtorEq, N4, N5, N6, reduceIte, N7, I1, I2, I3]
  refine ⟨_, h2, ?_⟩
  simp only [frzLL_owss, es, er, push_cast, ↓J1, ↓J2, N1, N2, N3, reduceCtorEq, N4, N5, N6, reduceIte, N7, I1, I2, I3]
  refine ⟨_, h4, ?_⟩
  simp only [frzLL_owss, es, er, push_cast, ↓J1, ↓J2, N1, N2, N3, reduceCtorEq, N4, N5, N6, reduceIte, N7, I1, I2, I3]
  refine ⟨_, h2, ?_⟩
  simp only [frzLL_owss, es, er, push_cast, ↓J1, ↓J2, N1, N2, N3, reduceCtorEq, N4, N5, N6, reduceIte, N7, I1, I2, I3]
  refine ⟨_, h5, ?_⟩
  simp only [frzLL_owss, es, er, push_cast, ↓J1, ↓J2, N1, N2, N3, reduceCtorEq, N4, N5, N6, reduceIte, N7, I1, I2, I3]
end
end Go.Proofs.YtedgfiikaedeoaaDoor.X
set_option maxHeartbeats 1000000
set_option maxRecDepth 8000
set_option linter.unusedSimpArgs false
set_option linter.unusedVariables false
open Nat renaming reduceBEq → N1, reduceAdd → N2, reduceSub → N3, reduceMul → N4, reduceEqDiff → N5, reduceLeDiff → N6, reduceLT → N7
open Int renaming reduceLE → I1, reduceLT → I2, reduceToNat → I3
namespace Go.Proofs.YtedgfiikaedeoaaDoor.X
open Go
theorem lawClimateText_C {C : CT} (hC : Closed Tryd.prog G0 md0 C) (hB : LibT C) : ∀ xs, HasVs Tryd.prog 14 [24] xs → Ev C 3 xs (.bool true) := by
  rintro xs ⟨x0, r0, rfl, h0, rfl⟩
  obtain ⟨W, rfl, hW, hr⟩ := has_clim h0
  exact t3 hC hB W hW hr
theorem libT_CS : LibT (CS Tryd.prog G0) := ⟨lib_itoa G0, lib_join G0, lib_grow G0⟩
theorem lawClimateText : ∀ xs, HasVs Tryd.prog 14 [24] xs → Ev (CS Tryd.prog G0) 3 xs (.bool true) := lawClimateText_C (CS_closed (by kernel_rfl)) libT_CS
end Go.Proofs.YtedgfiikaedeoaaDoor.X
