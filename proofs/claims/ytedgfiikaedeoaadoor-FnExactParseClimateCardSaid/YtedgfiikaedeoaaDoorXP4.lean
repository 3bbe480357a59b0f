/- A part of the proof: lemmas on the machine or on the functions that the law reaches. No condition of its own. -/
import Derived.Test.YtedgfiikaedeoaaDoorXM5
import Derived.Test.YtedgfiikaedeoaaDoorXP3
set_option maxHeartbeats 1000000
set_option maxRecDepth 8000
set_option linter.unusedSimpArgs false
set_option linter.unusedVariables false
open Nat renaming reduceBEq → N1, reduceAdd → N2, reduceSub → N3, reduceMul → N4, reduceEqDiff → N5, reduceLeDiff → N6, reduceLT → N7
open Int renaming reduceLE → I1, reduceLT → I2, reduceToNat → I3
namespace Go.Proofs.YtedgfiikaedeoaaDoor.X
open Go
variable {mx : Int} {ev1 ev2 : Value}
attribute [local irreducible] Ev szSS szRows
def nextS : List Int → Int → Int → Int
  | [], _, _ => 0
  | y :: ys, x, k => if x < y then k else nextS ys (w64 (x - y)) (k + 1)
def nextI : List Int → Int → Int → Int → Int
  | [], _, _, _ => 2
  | y :: ys, s, x, k => if x < w64 (s + y) then k else nextI ys (w64 (s + y)) x (k + 1)
def belowOf (seed i n : Int) : Int := (mixL [seed, i, n]).1.tmod n
def rowAt (W : List (List Int)) (w : Int) : List Int := W.getD w.toNat []
theorem rowAt_some {W : List (List Int)} {w : Int} (hg : goodW W = true) (hw : inR 0 2 w = true) : w.toNat < W.length ∧ W[w.toNat]? = some (rowAt W w) ∧ ∃ a b c, rowAt W w = [a, b, c] ∧ inR 0 36 a = true ∧ inR 0 36 b = true ∧ inR 0 36 c = true ∧ a + b + c = 36 := by
  simp only [goodW, Bool.and_eq_true, decide_eq_true_eq] at hg
  simp only [inR, Bool.and_eq_true, decide_eq_true_eq] at hw
  have hl : w.toNat < W.length := by omega
  have e : rowAt W w = W[w.toNat] := by simp [rowAt, List.getD, hl]
  have hr := List.all_eq_true.1 hg.2 _ (List.getElem_mem hl)
  rw [← e] at hr
  refine ⟨hl, by rw [e]; exact List.getElem?_eq_getElem hl, ?_⟩
  generalize rowAt W w = r at hr
  simp only [rowOk, Bool.and_eq_true, decide_eq_true_eq] at hr
  obtain ⟨⟨h1, h2⟩, h3⟩ := hr
  match r, h1 with
  | [a, b, c], _ =>
    simp only [List.all_cons, List.all_nil, Bool.and_true, Bool.and_eq_true] at h2
    rw [sum3 h2.1 h2.2.1 h2.2.2] at h3
    exact ⟨a, b, c, rfl, h2.1, h2.2.1, h2.2.2, h3⟩
theorem next_eq {a b c x : Int} (ha : inR 0 36 a = true) (hb : inR 0 36 b = true) (hc : inR 0 36 c = true) (hs : a + b + c = 36) (hx : -36 < x ∧ x < 36) : nextS [a, b, c] x 0 = nextI [a, b, c] 0 x 0 := by
  simp only [inR, Bool.and_eq_true, decide_eq_true_eq] at ha hb hc
  simp only [nextS, nextI]
  rw [w64_id (n := x - a) (by omega) (by omega), w64_id (n := x - a - b) (by omega) (by omega), show (0 : Int) + a = a from Int.zero_add a, w64_id (n := a) (by omega) (by omega), w64_id (n := a + b) (by omega) (by omega), w64_id (n := a + b + c) (by omega) (by omega)]
  split
  · rfl
  · by_cases n2 : x - a < b
    · rw [if_pos n2, if_pos (by omega)]
    · rw [if_neg n2, if_pos (show x - a - b < c by omega), if_neg (by omega), if_pos (by omega)]
theorem below36 (a b : Int) : -36 < belowOf a b 36 ∧ belowOf a b 36 < 36 := by
  have h1 := Int.lt_tmod_of_pos (mixL [a, b, 36]).1 (show (0 : Int) < 36 by omega)
  have h2 := Int.tmod_lt_of_pos (mixL [a, b, 36]).1 (show (0 : Int) < 36 by omega)
  exact ⟨h1, h2⟩
section
variable {C : CT} (hC : Closed Tryd.prog (Gp mx ev1 ev2) md0 C)
include hC
def askNext (W : List (List Int)) (w seed turn : Int) : Bool := goodW W && inR 0 2 w && inR 0 4611686016279904236 seed && inR 0 30 turn
def resNext (W : List (List Int)) (w seed turn : Int) : Int := if askNext W w seed turn then nextS (rowAt W w) (belowOf seed turn 36) 0 else 0
end
end Go.Proofs.YtedgfiikaedeoaaDoor.X
set_option maxHeartbeats 1000000
set_option maxRecDepth 8000
set_option linter.unusedSimpArgs false
set_option linter.unusedVariables false
open Nat renaming reduceBEq → N1, reduceAdd → N2, reduceSub → N3, reduceMul → N4, reduceEqDiff → N5, reduceLeDiff → N6, reduceLT → N7
open Int renaming reduceLE → I1, reduceLT → I2, reduceToNat → I3
namespace Go.Proofs.YtedgfiikaedeoaaDoor.X
open Go
theorem has_ints {k : Nat} {xs : List AV} (h : Has Tryd.prog (k + 2) 44 xs) : ∃ l, xs = [.sl (ints l)] ∧ l.length < 2 ^ 50 := by
  obtain ⟨es, rfl, _, hb, he⟩ := has_slice tk_44 h
  rw [bo_3] at hb
  obtain ⟨l, rfl⟩ := all_map (f := fun n : Int => [AV.int .i64 n]) (es := es) fun e hx => by
    obtain ⟨n, hn, _⟩ := has_int tk_3 (he e hx).2
    exact ⟨n, hn⟩
  simp only [reachBytes, List.length_map] at hb
  exact ⟨l, rfl, by omega⟩
theorem has_intss {k : Nat} {xs : List AV} (h : Has Tryd.prog (k + 3) 22 xs) : ∃ W, xs = [.sl (intss W)] ∧ W.length < 2 ^ 50 ∧ ∀ r ∈ W, r.length < 2 ^ 50 := by
  obtain ⟨es, rfl, _, hb, he⟩ := has_slice tk_22 h
  rw [bo_44] at hb
  obtain ⟨W, rfl⟩ := all_map (f := fun r : { r : List Int // r.length < 2 ^ 50 } => [AV.sl (ints r.1)]) (es := es) fun e hx => by
    obtain ⟨l, hl, hn⟩ := has_ints (he e hx).2
    exact ⟨⟨l, hn⟩, hl⟩
  simp only [reachBytes, List.length_map] at hb
  refine ⟨W.map (·.1), by simp only [intss, List.map_map]; rfl, by simp; omega, fun r hr => ?_⟩
  obtain ⟨x, _, rfl⟩ := List.mem_map.1 hr
  exact x.2
theorem has_clim {x : AV} (h0 : HasV Tryd.prog 14 24 x) : ∃ W, x = clA W ∧ W.length < 2 ^ 50 ∧ ∀ r ∈ W, r.length < 2 ^ 50 := by
  obtain ⟨ys, rfl, h⟩ := hasV_struct sty_24 h0
  obtain ⟨x1, r, rfl, _, h1, h⟩ := hasE_cons h
  obtain rfl := hasE_nil h
  obtain ⟨W, rfl, hW, hr⟩ := has_intss h1
  exact ⟨W, rfl, hW, hr⟩
end Go.Proofs.YtedgfiikaedeoaaDoor.X
set_option maxHeartbeats 4000000
set_option maxRecDepth 8000
set_option linter.unusedVariables false
set_option linter.unusedSimpArgs false
open Nat renaming reduceBEq → N1, reduceAdd → N2, reduceSub → N3, reduceMul → N4, reduceEqDiff → N5, reduceLeDiff → N6, reduceLT → N7
open Int renaming reduceLE → I1, reduceLT → I2, reduceToNat → I3
namespace Go.Proofs.YtedgfiikaedeoaaDoor.X
open Go
variable {mx : Int} {ev1 ev2 : Value}
attribute [local irreducible] Ev
def wds (l : List Nat) (k : Nat) : List ByteArray := ⟨⟨[]⟩⟩ :: (l.take k).map numB
theorem wds_succ {l : List Nat} {k : Nat} (h : k < l.length) : wds l (k + 1) = wds l k ++ [numB (l.getD k 0)] := by
  have e : l.getD k 0 = l[k] := by simp [List.getD, h]
  rw [e, wds, wds, List.take_succ_eq_append_getElem h, List.map_append, List.map_cons, List.map_nil, List.cons_append]
theorem wds_len {l : List Nat} {k : Nat} (h : k ≤ l.length) : (wds l k).length = k + 1 := by simp [wds]; omega
theorem wds_join {l : List Nat} (h : l ≠ []) : Lib.join ((wds l l.length).map (·.data.toList)) [32] = 32 :: Lib.join (l.map Lib.decDigits) [32] := by
  have e : (wds l l.length).map (·.data.toList) = [] :: l.map Lib.decDigits := by
    simp [wds, numB, Function.comp_def]
  cases l with
  | nil => exact absurd rfl h
  | cons x r =>
    rw [e, Lib.join_cons, List.map_cons, Lib.join_cons]
    simp [Lib.joinTail]
section
variable {C : CT} (hC : Closed Tryd.prog (Gp mx ev1 ev2) md0 C)
include hC
theorem t34 (hB : LibT C) (W : List (List Int)) (l : List Nat) (h : Nine W l) : Ev C 34 [.str ⟨⟨[]⟩⟩, .sl (ints (l.map fun n : Nat => Int.ofNat n))] (.str ⟨(32 :: Lib.join (l.map Lib.decDigits) [32]).toArray⟩) := by
  have hll := h.len
  have hne : l ≠ [] := fun e => by rw [e] at hll; simp at hll
  have hlm : (ints (l.map fun n : Nat => Int.ofNat n)).length = 9 := by simp [ints, hll]
  have hlm2 : ((ints (l.map fun n : Nat => Int.ofNat n)).length : Int) = 9 := by rw [hlm]; rfl
  have hjl : (Lib.join ((wds l 9).map (·.data.toList)) [32]).length < 2^40 := by
    have := txB_len h (m := 9) (by omega)
    rw [List.take_of_length_le (by omega), txB, ba_size] at this
    rw [← hll, wds_join hne, List.length_cons]; omega
  have cj := hB.join (wds l 9) ⟨⟨[32]⟩⟩ (by simp [wds]) (by rw [wds_len (by omega)]; omega) hjl
  rw [show (⟨⟨[32]⟩⟩ : ByteArray).data.toList = [32] from rfl] at cj
  rw [show Lib.join ((wds l 9).map (·.data.toList)) [32] = 32 :: Lib.join (l.map Lib.decDigits) [32] by rw [← wds_join hne, hll]] at cj
  refine rT hC Q34 ?_
  simp only [c34, hlm2, push_cast, ↓J1, ↓J2, N1, N2, N3, reduceCtorEq, N4, N5, N6, reduceIte, N7, I1, I2, I3]
  refine RL_count (fun k => ⟨tb 24 .any [(5, .ref 0 none 1 0 (k + 1)), (10, .sl (ints (l.map fun n : Nat => Int.ofNat n))), (11, .int .i64 9), (12, .int .i64 (k : Int))], [(0, .slice 1 (strs (wds l k)))], 1⟩) (fun _ => True) 9 0 (hdA [(0, 0)]) (by omega) trivial fun k hk _ J hJ => ?_
  have hwl := wds_len (l := l) (k := k) (by omega)
  have tk : List.take (k + 1) (strs (wds l k)) = strs (wds l k) := List.take_of_length_le (by rw [strs_length, hwl]; omega)
  by_cases h1 : k < 9
  rotate_left
  · have hlt : decide ((k : Int) < 9) = false := decide_eq_false (by omega)
    have hk9 : k = 9 := by omega
    rw [← hk9] at cj
    simp only [hlt, tk, frzLL_strs, push_cast, ↓J1, ↓J2, N1, N2, N3, reduceCtorEq, N4, N5, N6, reduceIte, N7, I1, I2, I3]
    refine ⟨_, cj, ?_⟩
    simp only [push_cast, ↓J1, ↓J2, N1, N2, N3, reduceCtorEq, N4, N5, N6, reduceIte, N7, I1, I2, I3]
    all_goals first | rfl | trivial | exact rtA
  have hK := hJ h1 trivial
  have hlt : decide ((k : Int) < 9) = true := decide_eq_true (by omega)
  have e1 : (ints (l.map fun n : Nat => Int.ofNat n))[k]? = some [.int .i64 ((l.getD k 0 : Nat) : Int)] := by
    simp [ints, List.getD, show k < l.length by omega]
  have w3 : IntKind.i64.wrap ((k : Int) + 1) = (k : Int) + 1 := wrap64 (by omega) (by omega)
  have c1 := hB.itoa (l.getD k 0) (by have := h.lt k h1; omega)
  rw [show (⟨(Lib.decDigits (l.getD k 0)).toArray⟩ : ByteArray) = numB (l.getD k 0) from rfl] at c1
  rw [wds_succ (by omega)] at hK
  simp only [hlt, Int.toNat_natCast, e1, w3, push_cast, ↓J1, ↓J2, N1, N2, N3, reduceCtorEq, N4, N5, N6, reduceIte, N7, I1, I2, I3]
  repeat (refine ⟨by omega, ?_⟩)
  refine ⟨_, c1, ?_⟩
  simp only [w3, tk, strs_sc, strs_length, hwl, allScs, apYR_sc, push_cast, ↓J1, ↓J2, N1, N2, N3, reduceCtorEq, N4, N5, N6, reduceIte, N7, I1, I2, I3]
  repeat (refine ⟨by omega, ?_⟩)
  refine hK _ (hdA [(2, 0)] (hh := ?_))
  simp only [canR, canB, renO, renL, ren, lkp, hget, N7, N5, Nat.not_lt_zero, if_false, if_true, reduceIte, List.append_nil, List.nil_append, strs_snoc]
  all_goals rfl
theorem t19 (hB : LibT C) (W : List (List Int)) (l : List Nat) (h : Nine W l) : Ev C 19 [clA W] (.str (txB l)) := by
  have c1 := t35 hC hB W l h
  have c2 := t34 hC hB W l h
  have hjl : (Lib.join (l.map Lib.decDigits) [32]).length < 2^40 := by
    have := txB_len h (m := 9) (by omega)
    rw [List.take_of_length_le (by have := h.len; omega), txB, ba_size] at this
    omega
  have c3 := t33 hC (Lib.join (l.map Lib.decDigits) [32]) hjl
  have hlm : (l.map fun n : Nat => Int.ofNat n).length = 9 := by simp [h.len]
  have tk : List.take 9 (ints (l.map fun n : Nat => Int.ofNat n)) = ints (l.map fun n : Nat => Int.ofNat n) := List.take_of_length_le (by rw [ints_length, hlm]; omega)
  simp only [clA] at *
  refine rT hC Q19 ?_
  simp only [c19, push_cast, ↓J1, ↓J2, N1, N2, N3, reduceCtorEq, N4, N5, N6, reduceIte, N7, I1, I2, I3]
  refine ⟨_, c1, ?_⟩
  simp only [ints_length, hlm, tk, frzLL_ints, push_cast, ↓J1, ↓J2, N1, N2, N3, reduceCtorEq, N4, N5, N6, reduceIte, N7, I1, I2, I3]
  refine ⟨_, c2, ?_⟩
  simp only [push_cast, ↓J1, ↓J2, N1, N2, N3, reduceCtorEq, N4, N5, N6, reduceIte, N7, I1, I2, I3]
  refine ⟨_, c3, ?_⟩
  simp only [push_cast, ↓J1, ↓J2, N1, N2, N3, reduceCtorEq, N4, N5, N6, reduceIte, N7, I1, I2, I3]
  all_goals first | rfl | trivial | exact rtA
theorem t8 (hB : LibT C) (W : List (List Int)) (hW : W.length < 2^50) (hr : ∀ r ∈ W, r.length < 2^50) (l : List Nat) (hl : goodW W = true → Nine W l) : Ev C 8 [clA W] (.tup [.str (if goodW W then txB l else ⟨⟨[]⟩⟩), .bool (goodW W)]) := by
  have c1 := t18 hC W hW hr
  have c2 := fun g => t19 hC hB W l (hl g)
  simp only [clA] at *
  refine rT hC Q8 ?_
  simp only [c8, push_cast, ↓J1, ↓J2, N1, N2, N3, reduceCtorEq, N4, N5, N6, reduceIte, N7, I1, I2, I3]
  refine ⟨_, c1, ?_⟩
  cases g : goodW W
  · simp only [Bool.false_eq_true, if_false, Bool.not_false, push_cast, ↓J1, ↓J2, N1, N2, N3, reduceCtorEq, N4, N5, N6, reduceIte, N7, I1, I2, I3]
    all_goals first | rfl | trivial | exact ⟨rfl, rfl⟩ | exact rtA
  · simp only [Bool.not_true, push_cast, ↓J1, ↓J2, N1, N2, N3, reduceCtorEq, N4, N5, N6, reduceIte, N7, I1, I2, I3]
    refine ⟨_, c2 g, ?_⟩
    simp only [if_true, push_cast, ↓J1, ↓J2, N1, N2, N3, reduceCtorEq, N4, N5, N6, reduceIte, N7, I1, I2, I3]
    all_goals first | rfl | trivial | exact ⟨rfl, rfl⟩ | exact rtA
theorem t3 (hB : LibT C) (W : List (List Int)) (hW : W.length < 2^50) (hr : ∀ r ∈ W, r.length < 2^50) : Ev C 3 [clA W] (.bool true) := by
  obtain ⟨l, hl⟩ : ∃ l, goodW W = true → Nine W l := by
    by_cases g : goodW W = true
    · obtain ⟨l, h⟩ := nine g
      exact ⟨l, fun _ => h⟩
    · exact ⟨[], fun h => absurd h g⟩
  have h1 := t5 hC W 1048576 (by omega) hW hr
  have h3 := t6 hC W hW hr l hl
  have h4 := t8 hC hB W hW hr l hl
  have h5 := t9 hC W W hW hW hr hr
  have er : decide (W = W) = true := decide_eq_true rfl
  generalize (if goodW W then txB l else ⟨⟨[]⟩⟩) = s at *
  generalize goodW W = ok at *
  have es : decide (s = s) = true := decide_eq_true rfl
  simp only [clA] at *
  refine rT hC Q3 ?_
  simp only [X.c3, push_cast, ↓J1, ↓J2, N1, N2, N3, reduceCtorEq, N4, N5, N6, reduceIte, N7, I1, I2, I3]
  refine ⟨_, h1, ?_⟩
  simp only [push_cast, ↓J1, ↓J2, N1, N2, N3, reduceCtorEq, N4, N5, N6, reduceIte, N7, I1, I2, I3]
  refine ifB_intro (fun h => trivial) (fun h => ?_)
  have g : 0 ≤ szSS W 1048576 := by
    simp only [decide_eq_false_iff_not] at h
    split at h
    · omega
    · omega
  have g1 := szSS_le (by omega) g
  have gW : W.length < 2^30 := by omega
  have gr : ∀ r ∈ W, r.length < 2^30 := fun r h => by have := g1.2 r h; omega
  have h2 := t7 hC W gW gr
  simp only [clA, clO] at *
  refine ⟨_, h2, ?_⟩
  simp only [frzLL_owss, es, er, push_cast, ↓J1, ↓J2, N1, N2, N3, reduceCtorEq, N4, N5, N6, reduceIte, N7, I1, I2, I3]
  refine ⟨_, h3, ?_⟩
  simp only [frzLL_owss, es, er, push_cast, ↓J1, ↓J2, N1, N2, N3, reduceCtorEq, N4, N5, N6, reduceIte, N7, I1, I2, I3]
  refine ⟨_, h2, ?_⟩
  simp only [frzLL_owss, es, er, push_cast, ↓J1, ↓J2, N1, N2, N3, reduceCtorEq, N4, N5, N6, reduceIte, N7, I1, I2, I3]
  refine ⟨_, h4, ?_⟩
  simp only [frzLL_owss, es, er, push_cast, ↓J1, ↓J2, N1, N2, N3, reduceCtorEq, N4, N5, N6, reduceIte, N7, I1, I2, I3]
  refine ⟨_, h2, ?_⟩
  simp only [frzLL_owss, es, er, push_cast, ↓J1, ↓J2, N1, N2, N3, reduceCtorEq, N4, N5, N6, reduceIte, N7, I1, I2, I3]
  refine ⟨_, h5, ?_⟩
  simp only [frzLL_owss, es, er, push_cast, ↓J1, ↓J2, N1, N2, N3, reduceCtorEq, N4, N5, N6, reduceIte, N7, I1, I2, I3]
end
end Go.Proofs.YtedgfiikaedeoaaDoor.X
set_option maxHeartbeats 4000000
set_option maxRecDepth 8000
set_option linter.unusedVariables false
set_option linter.unusedSimpArgs false
open Nat renaming reduceBEq → N1, reduceAdd → N2, reduceSub → N3, reduceMul → N4, reduceEqDiff → N5, reduceLeDiff → N6, reduceLT → N7
open Int renaming reduceLE → I1, reduceLT → I2, reduceToNat → I3
namespace Go.Proofs.YtedgfiikaedeoaaDoor.X
open Go
variable {mx : Int} {ev1 ev2 : Value}
attribute [local irreducible] Ev
def prt (s : ByteArray) : List ByteArray := (spl s.data.toList).map fun l => ⟨l.toArray⟩
def rwV (l : List ByteArray) : List Int := l.map fun p => (rdI p).getD 0
def rwO (l : List ByteArray) : Bool := l.all fun p => (rdI p).isSome
theorem spl_len : ∀ l, (spl l).length ≤ l.length + 1 ∧ ∀ p ∈ spl l, p.length ≤ l.length
  | [] => ⟨Nat.le_refl _, fun p h => by simp [spl] at h; simp [h]⟩
  | b :: r => by
    have ih := spl_len r
    rw [spl]
    split
    · refine ⟨by simp only [List.length_cons]; omega, fun p h => ?_⟩
      rcases List.mem_cons.1 h with rfl | h
      · simp
      · have := ih.2 p h; simp only [List.length_cons]; omega
    · split
      · exact ⟨by simp, fun p h => by simp at h; simp [h]⟩
      · rename_i q qs e
        rw [e] at ih
        refine ⟨by have := ih.1; simp only [List.length_cons] at this ⊢; omega, fun p h => ?_⟩
        rcases List.mem_cons.1 h with rfl | h
        · have := ih.2 q (by simp); simp only [List.length_cons]; omega
        · have := ih.2 p (by simp [h]); simp only [List.length_cons]; omega
theorem prt_len (s : ByteArray) : (prt s).length ≤ s.size + 1 := by
  have := (spl_len s.data.toList).1
  simp only [prt, List.length_map]
  exact this
theorem prt_size {s p : ByteArray} (h : p ∈ prt s) : p.size ≤ s.size := by
  obtain ⟨l, hl, rfl⟩ := List.mem_map.1 h
  exact (spl_len s.data.toList).2 l hl
theorem prt_cons (s : ByteArray) : ((spl ((⟨⟨[32]⟩⟩ : ByteArray) ++ s).data.toList).map fun l => (⟨l.toArray⟩ : ByteArray)) = ⟨⟨[]⟩⟩ :: prt s := by
  have e : ((⟨⟨[32]⟩⟩ : ByteArray) ++ s).data.toList = 32 :: s.data.toList := by simp [ByteArray.data_append]
  rw [e, spl, if_pos rfl]; rfl
section
variable {C : CT} (hC : Closed Tryd.prog (Gp mx ev1 ev2) md0 C)
include hC
theorem t23 (hB : LibP C) (s : ByteArray) (hs : s.size < 2^21) : Ev C 23 [.str (⟨⟨[32]⟩⟩ ++ s), .str ⟨⟨[]⟩⟩] (.tup [.ow 1 (ints (if rwO (prt s) then rwV (prt s) else [])), .bool (rwO (prt s))]) := by
  have c0 := hB.split (⟨⟨[32]⟩⟩ ++ s) (by rw [ByteArray.size_append]; show 1 + s.size < 2^30; omega)
  rw [prt_cons] at c0
  have hl := prt_len s
  have hz := fun p (h : p ∈ prt s) => prt_size h
  generalize prt s = ps at *
  obtain ⟨n, hn⟩ : ∃ n, n = ps.length := ⟨_, rfl⟩
  have hsl : (strs (⟨⟨[]⟩⟩ :: ps)).length = n + 1 := by simp [strs, hn]
  have tk : List.take (n + 1) (strs (⟨⟨[]⟩⟩ :: ps)) = strs (⟨⟨[]⟩⟩ :: ps) := List.take_of_length_le (by omega)
  have e0 : (strs (⟨⟨[]⟩⟩ :: ps))[0]? = some [.str ⟨⟨[]⟩⟩] := rfl
  have d0 : decide ((⟨⟨[]⟩⟩ : ByteArray) = ⟨⟨[]⟩⟩) = true := decide_eq_true rfl
  have nt : ((n : Int) + 1).toNat = n + 1 := by omega
  refine rT hC Q23 ?_ (by simp only [ownR, ownRL, own_ints1, Bool.and_true])
  simp only [c23, push_cast, ↓J1, ↓J2, N1, N2, N3, reduceCtorEq, N4, N5, N6, reduceIte, N7, I1, I2, I3]
  refine ⟨_, c0, ?_⟩
  simp only [hsl, tk, e0, d0, nt, push_cast, ↓J1, ↓J2, N1, N2, N3, reduceCtorEq, N4, N5, N6, reduceIte, N7, I1, I2, I3]
  repeat (refine ⟨by omega, ?_⟩)
  refine RL_count (fun k => ⟨tb 40 .any [(7, .ref 0 none 1 0 k), (21, .ref 1 none 1 1 n), (22, .int .i64 (n : Int)), (23, .int .i64 (k : Int))], [(0, .slice 1 (ints (rwV (ps.take k)))), (1, .slice 1 (strs (⟨⟨[]⟩⟩ :: ps)))], 2⟩) (fun k => ∀ j, j < k → ∃ v, rdI (ps.getD j default) = some v) n 0 (hdA [(1, 0), (0, 1)]) (by omega) (fun j hj => absurd hj (by omega)) fun k hk hg J hJ => ?_
  have hvl : (rwV (ps.take k)).length = k := by simp [rwV]; omega
  have hil : (ints (rwV (ps.take k))).length = k := by rw [ints_length, hvl]
  by_cases h1 : k < n
  rotate_left
  · have hlt : decide ((k : Int) < (n : Int)) = false := decide_eq_false (by omega)
    have hkn : k = n := by omega
    have htk : ps.take k = ps := List.take_of_length_le (by omega)
    have hok : rwO ps = true := by
      simp only [rwO, List.all_eq_true]
      intro p hp
      obtain ⟨j, hj, e⟩ := List.mem_iff_getElem.1 hp
      obtain ⟨v, hv⟩ := hg j (by omega)
      have e2 : ps.getD j default = p := by simp [List.getD, hj, e]
      rw [e2] at hv
      rw [hv]; rfl
    rw [htk] at hil ⊢
    have tk2 : List.take k (ints (rwV ps)) = ints (rwV ps) := List.take_of_length_le (by omega)
    simp only [hlt, hok, if_true, push_cast, ↓J1, ↓J2, N1, N2, N3, reduceCtorEq, N4, N5, N6, reduceIte, N7, I1, I2, I3]
    exact ⟨.tup [.ow 1 (ints (rwV ps)), .bool true], _, by simp only [conR, conRL, isF, hget, hdel, if_true, if_false, reduceIte, Nat.reduceEqDiff, reduceCtorEq, Nat.zero_add, hil, List.drop_zero, tk2, Option.map_some, Option.bind_some]; rfl, NilTo.refl _⟩
  have hK := hJ h1
  have hlt : decide ((k : Int) < (n : Int)) = true := decide_eq_true (by omega)
  have hps : k < ps.length := by omega
  have e1 : (strs (⟨⟨[]⟩⟩ :: ps))[1 + k]? = some [.str (ps.getD k default)] := by
    rw [Nat.add_comm]; simp [strs, List.getD, hps]
  have hmem : ps.getD k default ∈ ps := by simp [List.getD, hps]
  have w3 : IntKind.i64.wrap ((k : Int) + 1) = (k : Int) + 1 := wrap64 (by omega) (by omega)
  have nt2 : (1 + (k : Int)).toNat = k + 1 := by omega
  have nt3 : ((k : Int) + 1).toNat = k + 1 := by omega
  have c1 := hB.rdi (ps.getD k default) (by have := hz _ hmem; omega)
  generalize hp : ps.getD k default = p at *
  simp only [hlt, Int.toNat_natCast, e1, w3, nt2, nt3, hsl, push_cast, ↓J1, ↓J2, N1, N2, N3, reduceCtorEq, N4, N5, N6, reduceIte, N7, I1, I2, I3]
  repeat (refine ⟨by omega, ?_⟩)
  refine ⟨_, c1, ?_⟩
  cases hr : rdI p with
  | none =>
    have hok : rwO ps = false := by
      rw [← Bool.not_eq_true]
      intro h
      simp only [rwO, List.all_eq_true] at h
      have := h p hmem
      rw [hr] at this; cases this
    simp only [hok, Option.getD_none, Option.isSome_none, Bool.not_false, Bool.false_eq_true, if_false, push_cast, ↓J1, ↓J2, N1, N2, N3, reduceCtorEq, N4, N5, N6, reduceIte, N7, I1, I2, I3]
    exact ⟨.tup [.nil, .bool false], _, by simp only [conR, conRL, isF, Option.map_some, Option.bind_some]; rfl, by simp [NilTo, NilToL, ints]⟩
  | some v =>
    have hvs : ints (rwV (ps.take (k + 1))) = ints (rwV (ps.take k)) ++ [[.int .i64 v]] := by
      have e : ps.getD k default = ps[k] := by simp [List.getD, hps]
      rw [List.take_succ_eq_append_getElem hps, ← e, hp]
      simp [rwV, ints, hr]
    have tk3 : List.take k (ints (rwV (ps.take k))) = ints (rwV (ps.take k)) := List.take_of_length_le (by omega)
    have hg2 : ∀ j, j < k + 1 → ∃ v, rdI (ps.getD j default) = some v := by
      intro j hj
      by_cases e : j = k
      · subst e; rw [hp]; exact ⟨v, hr⟩
      · exact hg j (by omega)
    have hK := hK hg2
    rw [hvs] at hK
    simp only [Option.getD_some, Option.isSome_some, Bool.not_true, w3, tk3, hil, push_cast, ↓J1, ↓J2, N1, N2, N3, reduceCtorEq, N4, N5, N6, reduceIte, N7, I1, I2, I3]
    repeat (refine ⟨by omega, ?_⟩)
    refine hK _ (hdA [(3, 0), (1, 1)] (hh := ?_))
    simp only [canR, canB, renO, renL, ren, lkp, hget, N7, N5, Nat.not_lt_zero, if_false, if_true, reduceIte, List.append_nil, List.nil_append]
    all_goals rfl
end
end Go.Proofs.YtedgfiikaedeoaaDoor.X
set_option maxHeartbeats 4000000
set_option maxRecDepth 8000
set_option linter.unusedVariables false
set_option linter.unusedSimpArgs false
open Nat renaming reduceBEq → N1, reduceAdd → N2, reduceSub → N3, reduceMul → N4, reduceEqDiff → N5, reduceLeDiff → N6, reduceLT → N7
open Int renaming reduceLE → I1, reduceLT → I2, reduceToNat → I3
namespace Go.Proofs.YtedgfiikaedeoaaDoor.X
open Go
variable {mx : Int} {ev1 ev2 : Value}
attribute [local irreducible] Ev
def chk (V : List Int) (k : Nat) : List (List Int) := (List.range k).map fun w => (V.drop (3 * w)).take 3
theorem chk_succ (V : List Int) (k : Nat) : chk V (k + 1) = chk V k ++ [(V.drop (3 * k)).take 3] := by simp [chk, List.range_succ]
theorem chk_len (V : List Int) (k : Nat) : (chk V k).length = k := by simp [chk]
def pcOk (s : ByteArray) : Bool := rwO (prt s) && decide ((rwV (prt s)).length = 9) && goodW (chk (rwV (prt s)) 3)
section
variable {C : CT} (hC : Closed Tryd.prog (Gp mx ev1 ev2) md0 C)
include hC
theorem t24 (l : List Int) (hl : l.length < 2^30) : Ev C 24 [.sl (ints l)] (.ow 1 (ints l)) := by
  refine rT hC Q24 ?_ (own_ints l)
  simp only [c24, push_cast, ↓J1, ↓J2, N1, N2, N3, reduceCtorEq, N4, N5, N6, reduceIte, N7, I1, I2, I3]
  intro b hb
  have e : ((ints l).all fun e => e.length == 1) = true := by simp [ints]
  cases b
  · simp only [e, if_true, ints_length, push_cast, ↓J1, ↓J2, N1, N2, N3, reduceCtorEq, N4, N5, N6, reduceIte, N7, I1, I2, I3]
    repeat (refine ⟨by omega, ?_⟩)
    exact RetTo_ow rfl (by rw [ints_length])
  · have := hb rfl
    simp only [push_cast, ↓J1, ↓J2, N1, N2, N3, reduceCtorEq, N4, N5, N6, reduceIte, N7, I1, I2, I3]
    rw [this]
    exact ⟨.nil, _, by simp only [conR, isF]; rfl, by simp [NilTo, ints]⟩
theorem t11 (hB : LibP C) (s : ByteArray) (hs : s.size < 2^21) : Ev C 11 [.str s] (.tup [clO (if pcOk s then chk (rwV (prt s)) 3 else []), .bool (pcOk s)]) := by
  have c1 := t23 hC hB s hs
  have hl := prt_len s
  have hvl : (rwV (prt s)).length = (prt s).length := by simp [rwV]
  have hsz : ((1 : Nat) : Int) + (s.size : Int) ≤ 9223372036854775807 := by omega
  have hz1 : (((⟨⟨[32]⟩⟩ : ByteArray).size + s.size : Nat) : Int) ≤ 9223372036854775807 := by show ((1 + s.size : Nat) : Int) ≤ _; omega
  unfold pcOk
  generalize rwV (prt s) = V at *
  generalize rwO (prt s) = ok at *
  have c3 := fun W hW hr => t18 hC W hW hr
  simp only [clA, clO] at *
  obtain ⟨D, hD⟩ : ∃ D, D = chk V 3 := ⟨_, rfl⟩
  rw [← hD]
  have hown := own_cl (if (ok && decide (V.length = 9) && goodW D) = true then D else [])
  simp only [clO, ownR, ownRL, Bool.and_true] at hown
  have hnil : NilTo (.tup [.agg [.nil], .bool false]) (.tup [.agg [.ow 1 (owss [])], .bool false]) := by simp [NilTo, NilToL, owss]
  refine rT hC Q11 ?_ (by simp only [ownR, ownRL, hown, Bool.and_true])
  simp only [c11, push_cast, ↓J1, ↓J2, N1, N2, N3, reduceCtorEq, N4, N5, N6, reduceIte, N7, I1, I2, I3]
  refine ⟨by omega, ?_⟩
  refine ⟨_, c1, ?_⟩
  cases ok with
  | false =>
    simp only [Bool.false_and, Bool.false_eq_true, if_false, Bool.not_false, push_cast, ↓J1, ↓J2, N1, N2, N3, reduceCtorEq, N4, N5, N6, reduceIte, N7, I1, I2, I3]
    exact ⟨.tup [.agg [.nil], .bool false], _, by simp only [conR, conRL, isF, Option.map_some, Option.bind_some]; rfl, hnil⟩
  | true =>
    by_cases h9 : V.length = 9
    rotate_left
    · have d9 : decide ((((ints V).length : Nat) : Int) = 9) = false := decide_eq_false (by rw [ints_length]; omega)
      have d9' : decide (V.length = 9) = false := decide_eq_false h9
      simp only [d9, d9', Bool.true_and, Bool.false_and, Bool.false_eq_true, if_false, if_true, Bool.not_true, Bool.not_false, push_cast, ↓J1, ↓J2, N1, N2, N3, reduceCtorEq, N4, N5, N6, reduceIte, N7, I1, I2, I3]
      exact ⟨.tup [.agg [.nil], .bool false], _, by simp only [conR, conRL, isF, Option.map_some, Option.bind_some]; rfl, hnil⟩
    obtain ⟨N, hN⟩ : ∃ N : Nat, N = 9 := ⟨9, rfl⟩
    have il : (ints V).length = N := by rw [ints_length, h9, hN]
    have hNI : (N : Int) = 9 := by rw [hN]; rfl
    have d9 : decide (V.length = 9) = true := decide_eq_true h9
    have d8 : decide ((9 : Int) = 9) = true := decide_eq_true rfl
    have c2 := fun (l : List Int) (h : l.length < 2^30) => t24 hC l h
    simp only [il, hNI, d8, d9, Bool.true_and, if_true, Bool.not_true, push_cast, ↓J1, ↓J2, N1, N2, N3, reduceCtorEq, N4, N5, N6, reduceIte, N7, I1, I2, I3]
    refine RL_count (fun k => match k with
      | 0 => ⟨tb 45 .any [(2, .ptr 0 none 0 0 0), (4, .ref 1 none 1 0 N), (6, .ptr 2 none 0 0 0), (23, .int .i64 0)], [(0, .var [.nil]), (1, .slice 1 (ints V)), (2, .var [.nil])], 3⟩
      | j + 1 => ⟨tb 45 .any [(2, .ptr 0 none 0 0 0), (4, .ref 1 none 1 0 N), (6, .ptr 2 none 0 0 0), (23, .int .i64 ((j + 1 : Nat) : Int))], [(0, .var [.nil]), (1, .slice 1 (ints V)), (2, .var [.ref 3 none 1 0 (j + 1)]), (3, .slice 1 (owss (chk V (j + 1))))], 4⟩) (fun _ => True) 3 0 (hdA [(0, 0), (1, 1), (2, 2)]) (by omega) trivial fun k hk _ J hJ => ?_
    have hns : ∀ l : List (List AV), allScs [[AV.ow 1 l]] = false := fun _ => rfl
    rcases k with _ | j
    · have hK := hJ (by omega) trivial
      obtain ⟨a, ha⟩ : ∃ a : Nat, (a : Int) = 3 * 0 := ⟨0, rfl⟩
      have hd : decide ((0 : Int) < 3) = true := decide_eq_true (by omega)
      have w3 : IntKind.i64.wrap (3 * 0) = (a : Int) := by rw [ha]; exact wrap64 (by omega) (by omega)
      have w4 : IntKind.i64.wrap ((a : Int) + 3) = (a : Int) + 3 := wrap64 (by omega) (by omega)
      have w5 : IntKind.i64.wrap (0 + 1) = 0 + 1 := wrap64 (by omega) (by omega)
      have nt : ((a : Int) + 3 - a).toNat = 3 := by omega
      have ew : List.take 3 (List.drop a (ints V)) = ints ((V.drop a).take 3) := by simp [ints]
      have ev3 : ((V.drop a).take 3).length = 3 := by simp; omega
      have ew2 : List.take 3 (ints ((V.drop a).take 3)) = ints ((V.drop a).take 3) := List.take_of_length_le (by rw [ints_length]; omega)
      have c2' := c2 ((V.drop a).take 3) (by omega)
      simp only [hd, w3, w4, w5, nt, Int.toNat_natCast, ew, frzLL_ints, push_cast, ↓J1, ↓J2, N1, N2, N3, reduceCtorEq, N4, N5, N6, reduceIte, N7, I1, I2, I3]
      have ec : owss (chk V (0 + 1)) = [[.ow 1 (ints ((V.drop a).take 3))]] := by
        have a0 : a = 0 := by omega
        rw [chk_succ, a0]; rfl
      dsimp only at hK
      rw [ec] at hK
      refine ⟨⟨by omega, by omega, by omega, _, c2', ?_⟩, ⟨by omega, by omega, by omega, _, c2', ?_⟩⟩
      all_goals simp only [w3, w4, w5, nt, Int.toNat_natCast, ew, ew2, frzLL_ints, ints_length, ev3, hns, apYR_ns, List.drop_zero, List.take_succ_cons, List.take_zero, push_cast, ↓J1, ↓J2, N1, N2, N3, reduceCtorEq, N4, N5, N6, reduceIte, N7, I1, I2, I3]
      all_goals first | done | (refine hK _ (hdA [(0, 0), (1, 1), (2, 2), (5, 3)] (hh := ?_)))
      all_goals simp only [canR, canB, renO, renL, ren, lkp, hget, N7, N5, Nat.not_lt_zero, if_false, if_true, reduceIte, List.append_nil, List.nil_append]
    have hcl := chk_len V (j + 1)
    have hwl : (owss (chk V (j + 1))).length = j + 1 := by rw [owss_length, hcl]
    have tkw : List.take (j + 1) (owss (chk V (j + 1))) = owss (chk V (j + 1)) := List.take_of_length_le (by omega)
    have nj : ((j : Int) + 1).toNat = j + 1 := by omega
    by_cases h1 : j + 1 < 3
    · have hK := hJ h1 trivial
      obtain ⟨a, ha⟩ : ∃ a : Nat, (a : Int) = 3 * ((j : Int) + 1) := ⟨3 * (j + 1), by omega⟩
      have hd : decide ((j : Int) + 1 < 3) = true := decide_eq_true (by omega)
      have w3 : IntKind.i64.wrap (3 * ((j : Int) + 1)) = (a : Int) := by rw [ha]; exact wrap64 (by omega) (by omega)
      have w4 : IntKind.i64.wrap ((a : Int) + 3) = (a : Int) + 3 := wrap64 (by omega) (by omega)
      have w5 : IntKind.i64.wrap (((j : Int) + 1) + 1) = ((j : Int) + 1) + 1 := wrap64 (by omega) (by omega)
      have nt : ((a : Int) + 3 - a).toNat = 3 := by omega
      have ew : List.take 3 (List.drop a (ints V)) = ints ((V.drop a).take 3) := by simp [ints]
      have ev3 : ((V.drop a).take 3).length = 3 := by simp; omega
      have ew2 : List.take 3 (ints ((V.drop a).take 3)) = ints ((V.drop a).take 3) := List.take_of_length_le (by rw [ints_length]; omega)
      have c2' := c2 ((V.drop a).take 3) (by omega)
      simp only [hd, w3, w4, w5, nt, Int.toNat_natCast, ew, frzLL_ints, push_cast, ↓J1, ↓J2, N1, N2, N3, reduceCtorEq, N4, N5, N6, reduceIte, N7, I1, I2, I3]
      have ec : owss (chk V (j + 1 + 1)) = owss (chk V (j + 1)) ++ [[.ow 1 (ints ((V.drop a).take 3))]] := by
        have a0 : a = 3 * (j + 1) := by omega
        rw [chk_succ, a0]; simp [owss]
      dsimp only at hK
      rw [ec] at hK
      refine ⟨⟨by omega, by omega, by omega, _, c2', ?_⟩, ⟨by omega, by omega, by omega, _, c2', ?_⟩⟩
      all_goals simp only [tkw, hwl, w3, w4, w5, nt, Int.toNat_natCast, ew, ew2, frzLL_ints, ints_length, ev3, hns, apYR_ns, List.drop_zero, List.take_succ_cons, List.take_zero, push_cast, ↓J1, ↓J2, N1, N2, N3, reduceCtorEq, N4, N5, N6, reduceIte, N7, I1, I2, I3]
      all_goals refine ⟨by omega, ?_⟩
      all_goals refine hK _ (hdA [(0, 0), (1, 1), (2, 2), (6, 3)] (hh := ?_))
      all_goals simp only [canR, canB, renO, renL, ren, lkp, hget, N7, N5, Nat.not_lt_zero, if_false, if_true, reduceIte, List.append_nil, List.nil_append]
    · have hd : decide ((j : Int) + 1 < 3) = false := decide_eq_false (by omega)
      have hj : j = 2 := by omega
      have hDj : chk V (j + 1) = D := by rw [hj, hD]
      rw [hDj] at hwl tkw hcl
      have cI := c3 D (by omega) (fun r hr => by
        rw [hD] at hr
        simp only [chk, List.mem_map] at hr
        obtain ⟨w, _, rfl⟩ := hr
        simp only [List.length_take]; omega)
      simp only [hDj, hd, tkw, frzLL_owss, push_cast, ↓J1, ↓J2, N1, N2, N3, reduceCtorEq, N4, N5, N6, reduceIte, N7, I1, I2, I3]
      refine ⟨_, cI, ?_⟩
      cases hg : goodW D
      · simp only [Bool.not_false, Bool.false_eq_true, if_false, push_cast, ↓J1, ↓J2, N1, N2, N3, reduceCtorEq, N4, N5, N6, reduceIte, N7, I1, I2, I3]
        exact ⟨.tup [.agg [.nil], .bool false], _, by simp only [conR, conRL, isF, Option.map_some, Option.bind_some]; rfl, hnil⟩
      · simp only [Bool.not_true, if_true, push_cast, ↓J1, ↓J2, N1, N2, N3, reduceCtorEq, N4, N5, N6, reduceIte, N7, I1, I2, I3]
        exact ⟨.tup [.agg [.ow 1 (owss D)], .bool true], _, by simp only [conR, conRL, isF, hget, hdel, if_true, if_false, reduceIte, Nat.reduceEqDiff, reduceCtorEq, Nat.zero_add, hwl, List.drop_zero, tkw, Option.map_some, Option.bind_some]; rfl, NilTo.refl _⟩
end
end Go.Proofs.YtedgfiikaedeoaaDoor.X
set_option maxHeartbeats 4000000
set_option maxRecDepth 8000
set_option linter.unusedVariables false
set_option linter.unusedSimpArgs false
open Nat renaming reduceBEq → N1, reduceAdd → N2, reduceSub → N3, reduceMul → N4, reduceEqDiff → N5, reduceLeDiff → N6, reduceLT → N7
open Int renaming reduceLE → I1, reduceLT → I2, reduceToNat → I3
namespace Go.Proofs.YtedgfiikaedeoaaDoor.X
open Go
variable {mx : Int} {ev1 ev2 : Value}
attribute [local irreducible] Ev
def lst (l : List UInt8) : List UInt8 := (spl l).getLastD []
def fro (l : List UInt8) : Nat := l.length - (lst l).length
def ini (l : List UInt8) : List ByteArray := (spl l).dropLast.map fun l => ⟨l.toArray⟩
theorem spl_parts (l : List UInt8) : spl l = (spl l).dropLast ++ [lst l] := by
  have h := spl_ne l
  rw [lst, List.getLastD_eq_getLast?, List.getLast?_eq_some_getLast h, Option.getD_some, List.dropLast_concat_getLast]
theorem lst_suffix : ∀ l, lst l <:+ l
  | [] => by simp [lst, spl]
  | b :: r => by
    have ih := lst_suffix r
    have hn := spl_ne r
    have hj := join_spl r
    rw [lst, spl]
    cases hs : spl r with
    | nil => exact absurd hs hn
    | cons p ps =>
      rw [lst, hs] at ih
      rw [hs, Lib.join_cons] at hj
      by_cases h1 : b = 32
      · simp only [h1, if_true]
        have e : ([] :: p :: ps : List (List UInt8)).getLastD [] = (p :: ps).getLastD [] := by simp [List.getLastD]
        rw [e]
        exact ih.trans (List.suffix_cons _ _)
      · simp only [h1, if_false]
        cases ps with
        | nil =>
          have hp : p = r := by simpa [Lib.joinTail] using hj
          rw [hp]; simp [List.getLastD]
        | cons q qs =>
          have e : ((b :: p) :: q :: qs : List (List UInt8)).getLastD [] = (p :: q :: qs).getLastD [] := by simp [List.getLastD]
          rw [e]
          exact ih.trans (List.suffix_cons _ _)
theorem lst_drop (l : List UInt8) : lst l = l.drop (fro l) := by
  have h := lst_suffix l
  rw [List.suffix_iff_eq_drop] at h
  exact h
theorem fro_le (l : List UInt8) : fro l ≤ l.length := by unfold fro; omega
theorem lst_len (l : List UInt8) : (lst l).length ≤ l.length := (lst_suffix l).length_le
theorem spl_snoc32 (l : List UInt8) : ini (l ++ [32]) = ini l ++ [⟨(l.drop (fro l)).toArray⟩] ∧ fro (l ++ [32]) = l.length + 1 := by
  have h := spl_snoc 32 l
  rw [if_pos rfl] at h
  have e := spl_parts l
  refine ⟨?_, ?_⟩
  · rw [ini, h, List.dropLast_concat, ini, ← lst_drop]
    conv => lhs; rw [e]
    simp
  · rw [fro, lst, h, List.getLastD_concat]; simp
theorem spl_snocne (l : List UInt8) {b : UInt8} (hb : b ≠ 32) : ini (l ++ [b]) = ini l ∧ fro (l ++ [b]) = fro l := by
  have h := spl_snoc b l
  rw [if_neg hb] at h
  have hl := lst_len l
  refine ⟨?_, ?_⟩
  · rw [ini, h, List.dropLast_concat, ini]
  · rw [fro, lst, h, fro]
    have : (spl l).getLastD [] = lst l := rfl
    rw [List.getLastD_concat, this, List.length_append, List.length_append, List.length_singleton]
    omega
theorem ext_list (s : ByteArray) (a i : Nat) : s.extract a i = ⟨((s.data.toList.take i).drop a).toArray⟩ := by
  apply ByteArray.ext
  apply Array.toList_inj.1
  rw [Lib.extract_data]
  simp [List.drop_take]
theorem prt_parts (s : ByteArray) : prt s = ini s.data.toList ++ [s.extract (fro s.data.toList) s.size] := by
  rw [prt, spl_parts, List.map_append, ini, ext_list, List.map_cons, List.map_nil, lst_drop, List.take_of_length_le (show s.data.toList.length ≤ s.size from Nat.le_refl _)]
def slA (l : List UInt8) (o : List ByteArray) (f i : Nat) (x : AV) : St :=
  match o with
  | [] => ⟨tb 34 .any [(0, x), (1, .int .u8 32), (5, .nil), (6, .int .i64 (f : Int)), (7, .int .i64 (i : Int))], [], 0⟩
  | y :: r => ⟨tb 34 .any [(0, x), (1, .int .u8 32), (5, .ref 0 none 1 0 (r.length + 1)), (6, .int .i64 (f : Int)), (7, .int .i64 (i : Int))], [(0, .slice 1 (strs (y :: r)))], 1⟩
section
variable {C : CT} (hC : Closed Tryd.prog (Gp mx ev1 ev2) md0 C)
include hC
theorem t21 (s : ByteArray) (hs : s.size < 2^21) : Ev C 21 [.str s, .int .u8 32] (.ow 1 (strs (prt s))) := by
  have hpl := prt_len s
  have hpp := prt_parts s
  obtain ⟨l, hl⟩ : ∃ l, l = s.data.toList := ⟨_, rfl⟩
  have hll : l.length = s.size := by rw [hl]; rfl
  rw [← hl] at hpp
  refine rT hC Q21 ?_ (own_strs _)
  simp only [c21, push_cast, ↓J1, ↓J2, N1, N2, N3, reduceCtorEq, N4, N5, N6, reduceIte, N7, I1, I2, I3]
  refine RL_count (fun i => slA l (ini (l.take i)) (fro (l.take i)) i (.str s)) (fun _ => True) s.size 0 (hdA []) (by omega) trivial fun i hi _ J hJ => ?_
  have hfl : fro (l.take i) ≤ i := Nat.le_trans (fro_le _) (by simp; omega)
  have hex : s.extract (fro (l.take i)) i = ⟨((l.take i).drop (fro (l.take i))).toArray⟩ := by rw [ext_list, hl]
  have hil : (ini (l.take i)).length ≤ i := by
    have := (spl_len (l.take i)).1
    simp only [ini, List.length_map, List.length_dropLast, List.length_take] at this ⊢; omega
  by_cases h1 : i < s.size
  · have hK := hJ h1 trivial
    have hil2 : i < l.length := by omega
    obtain ⟨b, hb⟩ : ∃ b, b = l[i] := ⟨_, rfl⟩
    have htk : l.take (i + 1) = l.take i ++ [b] := by rw [List.take_succ_eq_append_getElem hil2, hb]
    have hlt : decide ((i : Int) < (s.size : Int)) = true := decide_eq_true (by omega)
    have w5 : IntKind.i64.wrap ((i : Int) + 1) = (i : Int) + 1 := wrap64 (by omega) (by omega)
    rw [htk] at hK
    have hbt : bt s (i : Int) = (b.toNat : Int) := by simp [bt, ← hl, List.getD, hil2, hb]
    have hti : (l.take i).length = i := by simp; omega
    by_cases h32 : b = 32
    · subst h32
      have hd : decide ((((32 : UInt8).toNat : Nat) : Int) = 32) = true := rfl
      rw [(spl_snoc32 _).1, (spl_snoc32 _).2, hti, ← hex] at hK
      generalize hf : fro (l.take i) = f at *
      cases ho : ini (l.take i) with
      | nil =>
        rw [ho] at hK
        simp only [List.nil_append, slA] at hK
        simp only [slA, hlt, hbt, hd, w5, Int.toNat_natCast, push_cast, ↓J1, ↓J2, N1, N2, N3, reduceCtorEq, N4, N5, N6, reduceIte, N7, I1, I2, I3]
        repeat (refine ⟨by omega, ?_⟩)
        refine hK _ (hdA [(1, 0)] (hh := ?_))
        simp only [canR, canB, renO, renL, ren, lkp, hget, N7, N5, Nat.not_lt_zero, if_false, if_true, reduceIte, List.append_nil, List.nil_append]
        all_goals rfl
      | cons y r =>
        rw [ho] at hK hil
        simp only [List.cons_append, slA] at hK
        simp only [List.length_cons] at hil
        have hsl : (strs (y :: r)).length = r.length + 1 := by rw [strs_length]; rfl
        have tk : List.take (r.length + 1) (strs (y :: r)) = strs (y :: r) := List.take_of_length_le (by omega)
        have esn : strs (y :: (r ++ [s.extract f i])) = strs (y :: r) ++ [[.str (s.extract f i)]] := by rw [← List.cons_append, strs_snoc]
        rw [esn, List.length_append, List.length_singleton] at hK
        simp only [slA, hlt, hbt, hd, w5, tk, hsl, strs_sc, allScs, apYR_sc, Int.toNat_natCast, push_cast, ↓J1, ↓J2, N1, N2, N3, reduceCtorEq, N4, N5, N6, reduceIte, N7, I1, I2, I3]
        repeat (refine ⟨by omega, ?_⟩)
        refine hK _ (hdA [(2, 0)] (hh := ?_))
        simp only [canR, canB, renO, renL, ren, lkp, hget, N7, N5, Nat.not_lt_zero, if_false, if_true, reduceIte, List.append_nil, List.nil_append]
        all_goals rfl
    · have hd : decide ((b.toNat : Int) = 32) = false := by
        refine decide_eq_false fun h => h32 ?_
        have : b.toNat = 32 := by omega
        exact UInt8.toNat_inj.1 this
      rw [(spl_snocne _ h32).1, (spl_snocne _ h32).2] at hK
      generalize hf : fro (l.take i) = f at *
      cases ho : ini (l.take i) with
      | nil =>
        rw [ho] at hK
        simp only [slA, hlt, hbt, hd, w5, push_cast, ↓J1, ↓J2, N1, N2, N3, reduceCtorEq, N4, N5, N6, reduceIte, N7, I1, I2, I3]
        repeat (refine ⟨by omega, ?_⟩)
        refine hK _ (hdA [] (hh := ?_))
        simp only [canR, canB, renO, renL, ren, lkp, hget, N7, N5, Nat.not_lt_zero, if_false, if_true, reduceIte, List.append_nil, List.nil_append]
      | cons y r =>
        rw [ho] at hK
        simp only [slA, hlt, hbt, hd, w5, push_cast, ↓J1, ↓J2, N1, N2, N3, reduceCtorEq, N4, N5, N6, reduceIte, N7, I1, I2, I3]
        repeat (refine ⟨by omega, ?_⟩)
        refine hK _ (hdA [(0, 0)] (hh := ?_))
        simp only [canR, canB, renO, renL, ren, lkp, hget, N7, N5, Nat.not_lt_zero, if_false, if_true, reduceIte, List.append_nil, List.nil_append]
  · have hkn : i = s.size := by omega
    have htl : l.take i = l := List.take_of_length_le (by omega)
    have hlt : decide ((i : Int) < (s.size : Int)) = false := decide_eq_false (by omega)
    rw [htl] at hil hfl ⊢
    rw [hpp]
    generalize hf : fro l = f at *
    cases ho : ini l with
    | nil =>
      simp only [slA, hlt, Int.toNat_natCast, push_cast, ↓J1, ↓J2, N1, N2, N3, reduceCtorEq, N4, N5, N6, reduceIte, N7, I1, I2, I3]
      repeat (refine ⟨by omega, ?_⟩)
      exact RetTo_ow rfl rfl
    | cons y r =>
      rw [ho] at hil
      simp only [List.length_cons] at hil
      have hsl : (strs (y :: r)).length = r.length + 1 := by rw [strs_length]; rfl
      have tk : List.take (r.length + 1) (strs (y :: r)) = strs (y :: r) := List.take_of_length_le (by omega)
      simp only [slA, hlt, tk, hsl, strs_sc, allScs, apYR_sc, Int.toNat_natCast, push_cast, ↓J1, ↓J2, N1, N2, N3, reduceCtorEq, N4, N5, N6, reduceIte, N7, I1, I2, I3]
      repeat (refine ⟨by omega, ?_⟩)
      rw [show strs (y :: (r ++ [s.extract f s.size])) = strs (y :: r) ++ [[.str (s.extract f s.size)]] by rw [← List.cons_append, strs_snoc]]
      exact RetTo_ow rfl (by rw [List.length_append, hsl]; rfl)
end
end Go.Proofs.YtedgfiikaedeoaaDoor.X
set_option maxHeartbeats 4000000
set_option maxRecDepth 8000
set_option linter.unusedVariables false
set_option linter.unusedSimpArgs false
open Nat renaming reduceBEq → N1, reduceAdd → N2, reduceSub → N3, reduceMul → N4, reduceEqDiff → N5, reduceLeDiff → N6, reduceLT → N7
open Int renaming reduceLE → I1, reduceLT → I2, reduceToNat → I3
namespace Go.Proofs.YtedgfiikaedeoaaDoor.X
open Go
variable {mx : Int} {ev1 ev2 : Value}
attribute [local irreducible] Ev
def dgv (n : Nat) : List UInt8 → Option Nat
  | [] => some n
  | b :: r => if 48 ≤ b.toNat ∧ b.toNat ≤ 57 then dgv (10 * n + (b.toNat - 48)) r else none
def rdS (l : List UInt8) : Int :=
  if l.length < 1 ∨ 6 < l.length ∨ (l.getD 0 0).toNat = 48 ∧ 1 < l.length then -1 else match dgv 0 l with | some n => (n : Int) | none => -1
theorem dgv_snoc : ∀ (l : List UInt8) (n : Nat) (b : UInt8), dgv n (l ++ [b]) = (dgv n l).bind fun m => if 48 ≤ b.toNat ∧ b.toNat ≤ 57 then some (10 * m + (b.toNat - 48)) else none
  | [], n, b => by simp [dgv]
  | c :: r, n, b => by
    rw [List.cons_append, dgv, dgv]
    split
    · exact dgv_snoc r _ b
    · rfl
theorem dgv_lt : ∀ (l : List UInt8) (n m : Nat), dgv n l = some m → m < (n + 1) * 10 ^ l.length
  | [], n, m, h => by simp [dgv] at h; subst h; simp
  | b :: r, n, m, h => by
    rw [dgv] at h
    split at h
    · have := dgv_lt r _ m h
      rw [List.length_cons, Nat.pow_succ, Nat.mul_comm (10 ^ r.length) 10, ← Nat.mul_assoc]
      exact Nat.lt_of_lt_of_le this (Nat.mul_le_mul_right _ (by omega))
    · cases h
theorem dgv_none : ∀ (l r : List UInt8) (n : Nat), dgv n l = none → dgv n (l ++ r) = none
  | [], r, n, h => by simp [dgv] at h
  | b :: l, r, n, h => by
    rw [dgv] at h
    rw [List.cons_append, dgv]
    split
    · rename_i g; rw [if_pos g] at h; exact dgv_none l r _ h
    · rfl
section
variable {C : CT} (hC : Closed Tryd.prog (Gp mx ev1 ev2) md0 C)
include hC
theorem tRdA (s : ByteArray) (hsz : ¬ (1 ≤ s.size ∧ s.size ≤ 6)) : Ev C 22 [.str s] (.int .i64 (-1)) := by
  have c1 := t37 hC (s.size : Int) 1 6
  have hin : (decide (1 ≤ (s.size : Int)) && decide ((s.size : Int) ≤ 6)) = false := by rw [← Bool.not_eq_true]; intro h; simp only [Bool.and_eq_true, decide_eq_true_eq] at h; omega
  rw [hin] at c1
  refine rT hC Q22 ?_
  simp only [c22, push_cast, ↓J1, ↓J2, N1, N2, N3, reduceCtorEq, N4, N5, N6, reduceIte, N7, I1, I2, I3]
  refine ⟨_, c1, ?_⟩
  simp only [Bool.not_false, push_cast, ↓J1, ↓J2, N1, N2, N3, reduceCtorEq, N4, N5, N6, reduceIte, N7, I1, I2, I3]
  all_goals first | rfl | trivial | exact rtA
theorem tRdB (s : ByteArray) (hsz : 1 ≤ s.size ∧ s.size ≤ 6) (h48 : (s.data.toList.getD 0 0).toNat = 48 ∧ 1 < s.size) : Ev C 22 [.str s] (.int .i64 (-1)) := by
  have c1 := t37 hC (s.size : Int) 1 6
  have hin : (decide (1 ≤ (s.size : Int)) && decide ((s.size : Int) ≤ 6)) = true := by simp only [Bool.and_eq_true, decide_eq_true_eq]; omega
  rw [hin] at c1
  have hb0 : bt s 0 = ((s.data.toList.getD 0 0).toNat : Int) := rfl
  have hd : decide ((((s.data.toList.getD 0 0).toNat : Nat) : Int) = 48) = true := decide_eq_true (by omega)
  have hd2 : decide ((1 : Int) < (s.size : Int)) = true := decide_eq_true (by omega)
  refine rT hC Q22 ?_
  simp only [c22, push_cast, ↓J1, ↓J2, N1, N2, N3, reduceCtorEq, N4, N5, N6, reduceIte, N7, I1, I2, I3]
  refine ⟨_, c1, ?_⟩
  simp only [Bool.not_true, hb0, hd, hd2, push_cast, ↓J1, ↓J2, N1, N2, N3, reduceCtorEq, N4, N5, N6, reduceIte, N7, I1, I2, I3]
  omega
theorem t22 (s : ByteArray) : Ev C 22 [.str s] (.int .i64 (rdS s.data.toList)) := by
  have c1 := t37 hC (s.size : Int) 1 6
  have hb0 : bt s 0 = ((s.data.toList.getD 0 0).toNat : Int) := rfl
  obtain ⟨l, hl⟩ : ∃ l, l = s.data.toList := ⟨_, rfl⟩
  have hll : l.length = s.size := by rw [hl]; rfl
  by_cases hsz : 1 ≤ s.size ∧ s.size ≤ 6
  rotate_left
  · rw [← hl, show rdS l = -1 by rw [rdS, if_pos (by omega)]]
    exact tRdA hC s hsz
  by_cases h48 : (l.getD 0 0).toNat = 48 ∧ 1 < s.size
  · rw [← hl, show rdS l = -1 by rw [rdS, if_pos (by omega)]]
    exact tRdB hC s hsz (by rw [← hl]; exact h48)
  have hin : (decide (1 ≤ (s.size : Int)) && decide ((s.size : Int) ≤ 6)) = true := by simp only [Bool.and_eq_true, decide_eq_true_eq]; omega
  rw [hin] at c1
  rw [← hl] at hb0 ⊢
  have hr : rdS l = match dgv 0 l with | some n => (n : Int) | none => -1 := by rw [rdS, if_neg (by omega)]
  rw [hr]
  obtain ⟨q, hq⟩ : ∃ q, q = decide ((((l.getD 0 0).toNat : Nat) : Int) = 48) := ⟨_, rfl⟩
  have hd2 : q = true → decide ((1 : Int) < (s.size : Int)) = false := fun h => decide_eq_false (by
    rw [hq] at h
    have := of_decide_eq_true h
    omega)
  refine rT hC Q22 ?_
  simp only [c22, push_cast, ↓J1, ↓J2, N1, N2, N3, reduceCtorEq, N4, N5, N6, reduceIte, N7, I1, I2, I3]
  refine ⟨_, c1, ?_⟩
  simp only [Bool.not_true, hb0, ← hq, push_cast, ↓J1, ↓J2, N1, N2, N3, reduceCtorEq, N4, N5, N6, reduceIte, N7, I1, I2, I3]
  repeat (refine ⟨by omega, ?_⟩)
  refine ifB_intro (fun h => ?_) (fun h => ?_)
  all_goals try simp only [hd2 h, push_cast, ↓J1, ↓J2, N1, N2, N3, reduceCtorEq, N4, N5, N6, reduceIte, N7, I1, I2, I3]
  all_goals refine RL_count (fun i => ⟨tb 44 .any [(0, .str s), (3, .int .i64 (((dgv 0 (l.take i)).getD 0 : Nat) : Int)), (4, .int .i64 (i : Int))], [], 0⟩) (fun i => ∃ n, dgv 0 (l.take i) = some n) s.size 0 (hdA []) (by omega) ⟨0, rfl⟩ fun i hi hg J hJ => ?_
  all_goals clear h hd2 hq c1 hin
  all_goals
    obtain ⟨n, hn⟩ := hg
    have hnl := dgv_lt _ _ _ hn
    have hpow : (0 + 1) * 10 ^ (l.take i).length ≤ 1000000 := by
      rw [Nat.zero_add, Nat.one_mul]
      exact Nat.le_trans (Nat.pow_le_pow_right (by omega) (show (l.take i).length ≤ 6 by rw [List.length_take]; omega)) (by decide)
    have hK := hJ
    rw [hn, Option.getD_some]
    by_cases h1 : i < s.size
    · have hil : i < l.length := by omega
      have hK := hJ h1
      obtain ⟨b, hb⟩ : ∃ b, b = l[i] := ⟨_, rfl⟩
      have htk : l.take (i + 1) = l.take i ++ [b] := by rw [List.take_succ_eq_append_getElem hil, hb]
      have hbt : bt s (i : Int) = (b.toNat : Int) := by simp [bt, ← hl, List.getD, hil, hb]
      have hb8 : b.toNat < 256 := b.toNat_lt
      have hsn := dgv_snoc (l.take i) 0 b
      rw [← htk, hn, Option.bind_some] at hsn
      have hlt : decide ((i : Int) < (s.size : Int)) = true := decide_eq_true (by omega)
      have w5 : IntKind.i64.wrap ((i : Int) + 1) = (i : Int) + 1 := wrap64 (by omega) (by omega)
      have hno : ¬ (48 ≤ b.toNat ∧ b.toNat ≤ 57) → (match dgv 0 l with | some n => (n : Int) | none => -1) = -1 := fun g => by
        rw [if_neg g] at hsn
        have := dgv_none _ (l.drop (i + 1)) 0 hsn
        rw [List.take_append_drop] at this
        rw [this]
      by_cases a1 : b.toNat < 48
      · have d1 : decide (((b.toNat : Nat) : Int) < 48) = true := decide_eq_true (by omega)
        rw [hno (by omega)]
        simp only [hlt, hbt, d1, push_cast, ↓J1, ↓J2, N1, N2, N3, reduceCtorEq, N4, N5, N6, reduceIte, N7, I1, I2, I3]
        omega
      have d1 : decide (((b.toNat : Nat) : Int) < 48) = false := decide_eq_false (by omega)
      by_cases a2 : 57 < b.toNat
      · have d2 : decide ((57 : Int) < ((b.toNat : Nat) : Int)) = true := decide_eq_true (by omega)
        rw [hno (by omega)]
        simp only [hlt, hbt, d1, d2, push_cast, ↓J1, ↓J2, N1, N2, N3, reduceCtorEq, N4, N5, N6, reduceIte, N7, I1, I2, I3]
        omega
      have d2 : decide ((57 : Int) < ((b.toNat : Nat) : Int)) = false := decide_eq_false (by omega)
      rw [if_pos (by omega)] at hsn
      have hK := hK ⟨_, hsn⟩
      rw [hsn, Option.getD_some] at hK
      have u1 : IntKind.u8.wrap (((b.toNat : Nat) : Int) - 48) = ((b.toNat - 48 : Nat) : Int) := by simp [IntKind.wrap, IntKind.bits, IntKind.signed]; omega
      have u2 : IntKind.i64.wrap (((b.toNat - 48 : Nat) : Int)) = ((b.toNat - 48 : Nat) : Int) := wrap64 (by omega) (by omega)
      have u3 : IntKind.i64.wrap (10 * (n : Int)) = ((10 * n : Nat) : Int) := by rw [wrap64 (by omega) (by omega)]; omega
      have u4 : IntKind.i64.wrap (((10 * n : Nat) : Int) + ((b.toNat - 48 : Nat) : Int)) = ((10 * n + (b.toNat - 48) : Nat) : Int) := by rw [wrap64 (by omega) (by omega)]; omega
      generalize hx : 10 * n + (b.toNat - 48) = x at *
      generalize 10 * n = x1 at *
      generalize hy : b.toNat - 48 = y at *
      simp only [hlt, hbt, d1, d2, w5, u1, u2, u3, u4, push_cast, ↓J1, ↓J2, N1, N2, N3, reduceCtorEq, N4, N5, N6, reduceIte, N7, I1, I2, I3]
      repeat (refine ⟨by omega, ?_⟩)
      refine hK _ (hdA [] (hh := ?_))
      simp only [canR, canB, renO, renL, ren, lkp, hget, N7, N5, Nat.not_lt_zero, if_false, if_true, reduceIte, List.append_nil, List.nil_append]
    · have hlt : decide ((i : Int) < (s.size : Int)) = false := decide_eq_false (by omega)
      have htl : l.take i = l := List.take_of_length_le (by omega)
      rw [htl] at hn
      rw [hn]
      simp only [hlt, push_cast, ↓J1, ↓J2, N1, N2, N3, reduceCtorEq, N4, N5, N6, reduceIte, N7, I1, I2, I3]
end
end Go.Proofs.YtedgfiikaedeoaaDoor.X
