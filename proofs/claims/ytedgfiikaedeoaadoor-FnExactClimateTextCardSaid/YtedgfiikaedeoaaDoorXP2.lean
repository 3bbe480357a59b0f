/- A part of the proof: lemmas on the machine or on the functions that the law reaches. No condition of its own. -/
import Derived.Test.YtedgfiikaedeoaaDoorXM5
import Derived.Test.YtedgfiikaedeoaaDoorXP1
import Derived.Shelf.Strings.OnBuilder
import Derived.Shelf.Strconv.Itoa3
import Derived.Lib.AppendZerosOnto
import Derived.WalkKit
import Derived.Lib.Walk
set_option linter.unusedVariables false
set_option linter.unusedSimpArgs false
open Nat renaming reduceBEq → N1, reduceAdd → N2, reduceSub → N3, reduceMul → N4, reduceEqDiff → N5, reduceLeDiff → N6, reduceLT → N7
open Int renaming reduceLE → I1, reduceLT → I2, reduceToNat → I3
namespace Go.Proofs.YtedgfiikaedeoaaDoor.X
open Go
section
open Go.Shelf Go.Proofs
def lays156_ren : Go.Shelf.Ren := ⟨fun | 156 => 44 | 165 => 50 | 166 => 51 | 169 => 52 | 240 => 59 | 241 => 60 | 276 => 74 | 277 => 75 | n => n, fun | 31 => 41 | 9 => 9 | 3 => 3 | 4 => 4 | 0 => 0 | 20 => 20 | 72 => 71 | 76 => 66 | 70 => 69 | 37 => 60 | 75 => 65 | 127 => 78 | 164 => 94 | 5 => 5 | 80 => 73 | n => n, fun | n => n⟩
theorem lays156 : Go.Proofs.Lays.n156 Tryd.prog lays156_ren := {
  mixed := by kernel_rfl
  f156 := Tryd.func44.trans (congrArg some (by kernel_rfl))
  f165 := Tryd.func50.trans (congrArg some (by kernel_rfl))
  f166 := Tryd.func51.trans (congrArg some (by kernel_rfl))
  f169 := Tryd.func52.trans (congrArg some (by kernel_rfl))
  f240 := Tryd.func59.trans (congrArg some (by kernel_rfl))
  f241 := Tryd.func60.trans (congrArg some (by kernel_rfl))
  f276 := Tryd.func74.trans (congrArg some (by kernel_rfl))
  f277 := Tryd.func75.trans (congrArg some (by kernel_rfl))
  t0 := Tryd.underlying0
  a0 := Tryd.isAgg0
  z0 := Tryd.sizeOf0
  v0 := Tryd.zeroValue0
  t3 := Tryd.underlying3
  a3 := Tryd.isAgg3
  z3 := Tryd.sizeOf3
  v3 := Tryd.zeroValue3
  t4 := Tryd.underlying4
  a4 := Tryd.isAgg4
  z4 := Tryd.sizeOf4
  v4 := Tryd.zeroValue4
  t9 := Tryd.underlying9
  a9 := Tryd.isAgg9
  z9 := Tryd.sizeOf9
  v9 := Tryd.zeroValue9
  t20 := Tryd.underlying20
  a20 := Tryd.isAgg20
  z20 := Tryd.sizeOf20
  v20 := Tryd.zeroValue20
  t31 := Tryd.underlying41
  a31 := Tryd.isAgg41
  z31 := Tryd.sizeOf41
  v31 := Tryd.zeroValue41
  t37 := Tryd.underlying60
  a37 := Tryd.isAgg60
  z37 := Tryd.sizeOf60
  v37 := Tryd.zeroValue60
  t70 := Tryd.underlying69
  a70 := Tryd.isAgg69
  z70 := Tryd.sizeOf69
  v70 := Tryd.zeroValue69
  t72 := Tryd.underlying71
  a72 := Tryd.isAgg71
  z72 := Tryd.sizeOf71
  v72 := Tryd.zeroValue71
  t75 := Tryd.underlying65
  a75 := Tryd.isAgg65
  z75 := Tryd.sizeOf65
  v75 := Tryd.zeroValue65
  t76 := Tryd.underlying66
  a76 := Tryd.isAgg66
  z76 := Tryd.sizeOf66
  v76 := Tryd.zeroValue66
  t127 := Tryd.underlying78
  a127 := Tryd.isAgg78
  z127 := Tryd.sizeOf78
  v127 := Tryd.zeroValue78
  t164 := Tryd.underlying94
  a164 := Tryd.isAgg94
  z164 := Tryd.sizeOf94
  v164 := Tryd.zeroValue94 }
theorem builderX : Builder.Extra Tryd.prog lays156_ren := {
  sizeBuilder := by kernel_rfl
  liesBuilder := by kernel_rfl
  t5 := Tryd.underlying5
  a5 := Tryd.isAgg5
  z5 := Tryd.sizeOf5
  v5 := Tryd.zeroValue5
  infoByte := by kernel_rfl
  cellsByte := by kernel_rfl
  sizeByte := by kernel_rfl
  neB5 := by decide }
open Go.RowKit in
theorem shJoin0 (a : Option Addr) (c : Nat) (sep : ByteArray) (w : World) :
    Calls Tryd.prog 44 #[.slice a 0 c, .string sep] w fun e w' => e = .returned (.string ⟨#[]⟩) ∧ w' = w := Any.strings_Join_none lays156 builderX a c sep w
open Go.RowKit in
theorem shJoin (bk o c : Nat) (xs : List ByteArray) (sep : ByteArray) (w : World) (hcells : ∀ (j : Nat) x, xs[j]? = some x → w.cell? ⟨bk, o + j, none⟩ = some (.string x)) (hbk : bk < w.heap.size) (hN : xs.length ≤ 140737488355328) (hcap : xs.length ≤ c) (hlen : (Lib.join (xs.map (·.data.toList)) sep.data.toList).length ≤ 140737488355328) :
    Calls Tryd.prog 44 #[.slice (some ⟨bk, o, none⟩) xs.length c, .string sep] w fun e w' => e = .returned (.string ⟨(Lib.join (xs.map (·.data.toList)) sep.data.toList).toArray⟩) ∧ Below w.heap.size w w' := Any.strings_Join lays156 builderX bk o c xs sep w hcells hbk hN hcap hlen
def lays171_ren : Go.Shelf.Ren := ⟨fun | 171 => 43 | 243 => 49 | 246 => 58 | 283 => 70 | 284 => 71 | 285 => 72 | 286 => 73 | 129 => 85 | 317 => 84 | 318 => 86 | 319 => 87 | 320 => 88 | 337 => 93 | 338 => 94 | n => n, fun | 3 => 3 | 9 => 9 | 2 => 2 | 4 => 4 | 171 => 88 | 0 => 0 | 53 => 89 | 37 => 60 | 5 => 5 | 173 => 92 | 212 => 106 | 51 => 107 | 20 => 20 | 213 => 108 | 46 => 98 | 232 => 122 | 233 => 123 | n => n, fun | 17 => 3 | 18 => 6 | 19 => 7 | n => n⟩
theorem lays171 : Go.Proofs.Lays.n171 Tryd.prog lays171_ren := {
  mixed := by kernel_rfl
  f129 := Tryd.func85.trans (congrArg some (by kernel_rfl))
  f171 := Tryd.func43.trans (congrArg some (by kernel_rfl))
  f243 := Tryd.func49.trans (congrArg some (by kernel_rfl))
  f246 := Tryd.func58.trans (congrArg some (by kernel_rfl))
  f283 := Tryd.func70.trans (congrArg some (by kernel_rfl))
  f284 := Tryd.func71.trans (congrArg some (by kernel_rfl))
  f285 := Tryd.func72.trans (congrArg some (by kernel_rfl))
  f286 := Tryd.func73.trans (congrArg some (by kernel_rfl))
  f317 := Tryd.func84.trans (congrArg some (by kernel_rfl))
  f318 := Tryd.func86.trans (congrArg some (by kernel_rfl))
  f319 := Tryd.func87.trans (congrArg some (by kernel_rfl))
  f320 := Tryd.func88.trans (congrArg some (by kernel_rfl))
  f337 := Tryd.func93.trans (congrArg some (by kernel_rfl))
  f338 := Tryd.func94.trans (congrArg some (by kernel_rfl))
  t0 := Tryd.underlying0
  a0 := Tryd.isAgg0
  z0 := Tryd.sizeOf0
  v0 := Tryd.zeroValue0
  t2 := Tryd.underlying2
  a2 := Tryd.isAgg2
  z2 := Tryd.sizeOf2
  v2 := Tryd.zeroValue2
  t3 := Tryd.underlying3
  a3 := Tryd.isAgg3
  z3 := Tryd.sizeOf3
  v3 := Tryd.zeroValue3
  t4 := Tryd.underlying4
  a4 := Tryd.isAgg4
  z4 := Tryd.sizeOf4
  v4 := Tryd.zeroValue4
  t5 := Tryd.underlying5
  a5 := Tryd.isAgg5
  z5 := Tryd.sizeOf5
  v5 := Tryd.zeroValue5
  t9 := Tryd.underlying9
  a9 := Tryd.isAgg9
  z9 := Tryd.sizeOf9
  v9 := Tryd.zeroValue9
  t20 := Tryd.underlying20
  a20 := Tryd.isAgg20
  z20 := Tryd.sizeOf20
  v20 := Tryd.zeroValue20
  t37 := Tryd.underlying60
  a37 := Tryd.isAgg60
  z37 := Tryd.sizeOf60
  v37 := Tryd.zeroValue60
  t46 := Tryd.underlying98
  a46 := Tryd.isAgg98
  z46 := Tryd.sizeOf98
  v46 := Tryd.zeroValue98
  t51 := Tryd.underlying107
  a51 := Tryd.isAgg107
  z51 := Tryd.sizeOf107
  v51 := Tryd.zeroValue107
  t53 := Tryd.underlying89
  a53 := Tryd.isAgg89
  z53 := Tryd.sizeOf89
  v53 := Tryd.zeroValue89
  t171 := Tryd.underlying88
  a171 := Tryd.isAgg88
  z171 := Tryd.sizeOf88
  v171 := Tryd.zeroValue88
  t173 := Tryd.underlying92
  a173 := Tryd.isAgg92
  z173 := Tryd.sizeOf92
  v173 := Tryd.zeroValue92
  t212 := Tryd.underlying106
  a212 := Tryd.isAgg106
  z212 := Tryd.sizeOf106
  v212 := Tryd.zeroValue106
  t213 := Tryd.underlying108
  a213 := Tryd.isAgg108
  z213 := Tryd.sizeOf108
  t232 := Tryd.underlying122
  a232 := Tryd.isAgg122
  z232 := Tryd.sizeOf122
  v232 := Tryd.zeroValue122
  t233 := Tryd.underlying123
  a233 := Tryd.isAgg123
  z233 := Tryd.sizeOf123
  v233 := Tryd.zeroValue123
  g17 := by kernel_rfl
  g18 := by kernel_rfl
  g19 := by kernel_rfl }
open Go.RowKit Go.Sort Go.Lib in
theorem shItoa (i : Nat) (hi : i < 100) (w : World) :
    Calls Tryd.prog 43 #[.int .i64 i] w fun e w' => e = .returned (.string ⟨(Lib.decDigits i).toArray⟩) ∧ w' = w := Any.strconv_Itoa_small lays171 i hi w
end
section
open Go.RowKit Go.Lib
set_option maxHeartbeats 4000000 in
set_option maxRecDepth 100000 in
theorem grow_walk (n : Nat) (hn : 0 < n) (hb : n ≤ 1000) (w : World) :
    Calls Tryd.prog 45 #[.slice none 0 0, .int .i64 n] w fun e w' =>
      e = .returned (.slice (some ⟨w.heap.size, 0, none⟩) 0 (grownCap w n 0 3)) ∧
      w' = w.drew.alloc (.cells (Builtin.zeroCells (Value.int .i64 0).cells n ++ Builtin.zeroCells (Value.int .i64 0).cells (grownCap w n 0 3 - n)) 3) := by
  have hinf : ∃ i0, Tryd.prog.info? 3 = some i0 ∧ i0.zero = some (.int .i64 0) ∧ i0.size = 1 ∧ i0.bytes = 8 := ⟨_, rfl, rfl, rfl, rfl⟩
  obtain ⟨i0, hi0, hz0, hs0, hb0⟩ := hinf
  have h1 : ¬ ((n : Int) < 0) := by omega
  have h3 : Go.RowKit.wrap64 ((n : Int) - 0) = (n : Int) := by unfold Go.RowKit.wrap64; omega
  have h2 : Go.RowKit.wrap64 (0 - 0) = 0 := by unfold Go.RowKit.wrap64; omega
  have h5 : Go.RowKit.wrap64 (n : Int) = (n : Int) := by unfold Go.RowKit.wrap64; omega
  have h4 : (n : Int) > 0 := by omega
  have hold : (Builtin.firstCells i0.size 0 (.slice none 0 0)).run Tryd.prog w.drew = .ok #[] w.drew := run_firstCells_none w.drew i0.size 0 0 0
  have hrz : ∀ ty, (Builtin.append_ #[44, 3] ty #[.slice none 0 0, .int .i64 (n : Int)]).run Tryd.prog w =
      .ok (.slice (some ⟨w.heap.size, 0, none⟩) n (grownCap w n 0 3)) (w.drew.alloc (.cells (Builtin.zeroCells (Value.int .i64 0).cells n ++ Builtin.zeroCells (Value.int .i64 0).cells (grownCap w n 0 3 - n)) 3)) := fun ty => by
    have h := Lib.run_append_grow_zeros w 44 3 ty 3 i0 (.int .i64 0) .i64 .i64 Tryd.underlying44 Tryd.underlying3 hi0 hz0 none 0 0 [] hold n (by omega) (by omega) (by omega) (by omega) (by rw [hb0]; omega)
      (by rw [Nat.zero_add]; exact growslice_fits (by omega) (by rw [hb0]; omega))
    simpa using h
  have hGn : n ≤ grownCap w n 0 3 := grownCap_ge w _ _ _
  obtain ⟨G, hG⟩ : ∃ G, G = grownCap w n 0 3 := ⟨_, rfl⟩
  rw [← hG] at hrz hGn ⊢
  have hG63 : G ≤ 9223372036854775807 := by
    have := grownCap_le_maxLen w n 0 3 (by unfold maxLen; omega)
    rw [← hG] at this
    unfold maxLen at this
    omega
  clear hG
  go_enter Tryd.func45, Tryd.ntmps45
  go_wp2_with (at_builtin; refine Lib.wpList_append_run _ rfl _ _ _ _ rfl _ _ rfl rfl _ _ (hrz _) ?_)
  all_goals (go_ret; exact ⟨rfl, rfl⟩)
end
end Go.Proofs.YtedgfiikaedeoaaDoor.X
set_option linter.unusedVariables false
open Nat renaming reduceBEq → N1, reduceAdd → N2, reduceSub → N3, reduceMul → N4, reduceEqDiff → N5, reduceLeDiff → N6, reduceLT → N7
open Int renaming reduceLE → I1, reduceLT → I2, reduceToNat → I3
namespace Go.Proofs.YtedgfiikaedeoaaDoor.X
open Go
def dirs : List AV := [.int .i64 1, .int .i64 0, .int .i64 1, .int .i64 (-1), .int .i64 0, .int .i64 (-1), .int .i64 (-1), .int .i64 0, .int .i64 (-1), .int .i64 1, .int .i64 0, .int .i64 1]
def G1 : Glo := fun g => if g = 0 then some dirs else none
theorem ev_dirs {s : St} : ev G1 s (.global 0) = .pf dirs := _root_.id rfl
attribute [push_cast] ev_dirs
end Go.Proofs.YtedgfiikaedeoaaDoor.X
set_option maxHeartbeats 1000000
set_option maxRecDepth 8000
set_option linter.unusedSimpArgs false
set_option linter.unusedSectionVars false
set_option linter.unusedVariables false
open Nat renaming reduceBEq → N1, reduceAdd → N2, reduceSub → N3, reduceMul → N4, reduceEqDiff → N5, reduceLeDiff → N6, reduceLT → N7
open Int renaming reduceLE → I1, reduceLT → I2, reduceToNat → I3
namespace Go.Proofs.YtedgfiikaedeoaaDoor.X
open Go
def ints (l : List Int) : List (List AV) := l.map fun n => [.int .i64 n]
theorem own_ints (l : List Int) : ownR (.ow 1 (ints l)) = true := by
  simp only [ownR]
  unfold ints
  induction l with
  | nil => rfl
  | cons x l ih => simp only [List.map_cons, ownRLL, ownRL, ownR, Bool.and_true, Bool.true_and]; exact ih
section
variable {C : CT} (hC : Closed Tryd.prog G0 md0 C)
include hC
theorem t37 (a b c : Int) : Ev C 37 [.int .i64 a, .int .i64 b, .int .i64 c] (.bool (decide (b ≤ a) && decide (a ≤ c))) := by
  refine rT hC Q37 ?_
  simp only [c37, push_cast, ↓J1, ↓J2, N1, N2, N3, reduceCtorEq, N4, N5, N6, reduceIte, N7, I1, I2, I3]
  grind [ifB]
theorem t32 (a b c : Int) : Ev C 32 [.int .i64 a, .int .i64 b, .int .i64 c] (.bool (decide (b ≤ a) && decide (a ≤ c))) := by
  refine rT hC Q32 ?_
  simp only [c32, push_cast, ↓J1, ↓J2, N1, N2, N3, reduceCtorEq, N4, N5, N6, reduceIte, N7, I1, I2, I3]
  grind [ifB]
theorem t27 (es : List (List AV)) (v : Int) (hv : -1 ≤ v ∧ v < 2^50) (he : es.length < 2^50) : Ev C 27 [.sl es, .int .i64 v] (.int .i64 (if v < es.length then -1 else v - es.length)) := by
  refine rT hC Q27 ?_
  simp only [c27, push_cast, ↓J1, ↓J2, N1, N2, N3, reduceCtorEq, N4, N5, N6, reduceIte, N7, I1, I2, I3]
  rw [wrap64 (by omega) (by omega)]
  grind [ifB]
theorem t36 (l m : List Int) (hl : l.length < 2^50) (hm : m.length < 2^50) : Ev C 36 [.sl (ints l), .sl (ints m)] (.bool (l == m)) := by
  refine rT hC Q36 ?_
  simp only [c36, ints, List.length_map, push_cast, ↓J1, ↓J2, N1, N2, N3, reduceCtorEq, N4, N5, N6, reduceIte, N7, I1, I2, I3]
  refine ifB_intro (fun h => ?_) (fun h => ?_)
  · have hlm : l.length = m.length := by simp at h; omega
    refine RL_count (fun i => ⟨tb 26 .any [(0, .sl (l.map fun n => [.int .i64 n])), (1, .sl (m.map fun n => [.int .i64 n])), (5, .int .i64 (i : Int))], [], 0⟩) (fun i => l.take i = m.take i) l.length 0 (hdA []) (by omega) rfl fun i hi ht J hJ => ?_
    by_cases h1 : i < l.length
    · have h2 : i < m.length := by omega
      simp only [List.length_map, Int.toNat_natCast, List.getElem?_map, List.getElem?_eq_getElem h1, List.getElem?_eq_getElem h2, push_cast, ↓J1, ↓J2, N1, N2, N3, reduceCtorEq, N4, N5, N6, reduceIte, N7, I1, I2, I3]
      refine ifB_intro (fun _ => ⟨by omega, by omega, ifB_intro (fun h => ?_) (fun h => ?_)⟩) (fun h => by simp at h; omega)
      · refine hJ h1 ?_ _ (hdA [])
        · rw [List.take_succ_eq_append_getElem h1, List.take_succ_eq_append_getElem h2, ht]
          have h' : l[i] = m[i] := by simpa using h
          rw [h']
      · have : ¬ l = m := by rintro rfl; simp at h
        simp [this]
    · simp only [List.length_map, Int.toNat_natCast, List.getElem?_map, push_cast, ↓J1, ↓J2, N1, N2, N3, reduceCtorEq, N4, N5, N6, reduceIte, N7, I1, I2, I3]
      refine ifB_intro (fun h => by simp at h; omega) (fun h => ?_)
      rw [List.take_of_length_le (by omega), List.take_of_length_le (by omega)] at ht
      simp [ht]
  · have : ¬ l = m := by rintro rfl; simp at h
    simp [this]
theorem t30 (l : List Int) (hl : l.length < 2^30) : Ev C 30 [.sl (ints l)] (.ow 1 (ints l)) := by
  refine rT hC Q30 ?_ (own_ints l)
  simp only [c30, ints, List.length_map, push_cast, ↓J1, ↓J2, N1, N2, N3, reduceCtorEq, N4, N5, N6, reduceIte, N7, I1, I2, I3]
  refine ⟨by omega, by omega, by omega, by omega, ?_⟩
  refine RL_count (fun i => ⟨tb 22 .any [(0, .sl (l.map fun n => [.int .i64 n])), (3, .ref 0 none 1 0 l.length), (4, .int .i64 (i : Int))], [(0, .slice 1 ((l.take i).map (fun n => [.int .i64 n]) ++ List.replicate (l.length - i) [.int .i64 0]))], 1⟩) (fun _ => True) l.length 0 (hdA [(0, 0)]) (by omega) trivial fun i hi _ J hJ => ?_
  by_cases h1 : i < l.length
  · rw [show l.length - i = (l.length - (i + 1)) + 1 by omega, List.replicate_succ]
    simp only [List.length_map, Int.toNat_natCast, List.getElem?_map, List.getElem?_eq_getElem h1, mid_get (show ((l.take i).map fun n => [AV.int .i64 n]).length = i by simp; omega), mid_set (show ((l.take i).map fun n => [AV.int .i64 n]).length = i by simp; omega), push_cast, ↓J1, ↓J2, N1, N2, N3, reduceCtorEq, N4, N5, N6, reduceIte, N7, I1, I2, I3]
    refine ifB_intro (fun _ => ⟨by omega, by omega, by omega, ?_⟩) (fun h => by simp at h; omega)
    refine hJ h1 trivial _ (hdA [(0, 0)] (hh := ?_))
    rw [List.take_succ_eq_append_getElem h1, List.map_append, List.append_assoc]
    simp only [canR, canB, renO, renL, ren, lkp, hget, N7, N5, Nat.not_lt_zero, if_false, if_true, reduceIte, List.append_nil, List.nil_append]
    rfl
  · simp only [List.length_map, Int.toNat_natCast, List.getElem?_map, push_cast, ↓J1, ↓J2, N1, N2, N3, reduceCtorEq, N4, N5, N6, reduceIte, N7, I1, I2, I3]
    refine ifB_intro (fun h => by simp at h; omega) (fun h => ?_)
    rw [List.take_of_length_le (by omega), show l.length - i = 0 by omega]
    exact RetTo_ow (by simp [hget]) (by simp)
end
end Go.Proofs.YtedgfiikaedeoaaDoor.X
set_option maxHeartbeats 1000000
set_option maxRecDepth 8000
set_option linter.unusedSimpArgs false
set_option linter.unusedSectionVars false
set_option linter.unusedVariables false
open Nat renaming reduceBEq → N1, reduceAdd → N2, reduceSub → N3, reduceMul → N4, reduceEqDiff → N5, reduceLeDiff → N6, reduceLT → N7
open Int renaming reduceLE → I1, reduceLT → I2, reduceToNat → I3
namespace Go.Proofs.YtedgfiikaedeoaaDoor.X
open Go
structure Ln where
  a : Int
  b : Int
  c : Int
  deriving DecidableEq
def lnA (p : Ln) : List AV := [.int .i64 p.a, .int .i64 p.b, .int .i64 p.c]
def lns (l : List Ln) : List (List AV) := l.map lnA
def inR (lo hi n : Int) : Bool := decide (lo ≤ n) && decide (n ≤ hi)
theorem own_lns (l : List Ln) : ownR (.ow 3 (lns l)) = true := by
  simp only [ownR]
  unfold lns
  induction l with
  | nil => rfl
  | cons x l ih => simp only [List.map_cons, lnA, ownRLL, ownRL, ownR, Bool.and_true, Bool.true_and]; exact ih
def fidx (p : Int → Bool) (l : List Int) : Int := if l.findIdx p < l.length then (l.findIdx p : Int) else -1
theorem fidx_at {p : Int → Bool} {l : List Int} {i : Nat} (h : i < l.length) (hp : p l[i] = true) (hn : ∀ j (h : j < l.length), j < i → p l[j] = false) : fidx p l = i := by
  have : l.findIdx p = i := (List.findIdx_eq h).2 ⟨hp, fun j hj => hn j (by omega) hj⟩
  simp [fidx, this, h]
theorem fidx_no {p : Int → Bool} {l : List Int} (hn : ∀ j (h : j < l.length), p l[j] = false) : fidx p l = -1 := by
  have : ¬ l.findIdx p < l.length := fun h => by
    have := hn _ h
    rw [List.findIdx_getElem (w := h)] at this
    cases this
  simp only [fidx, this, if_false]
theorem fidx_any (p : Int → Bool) (l : List Int) : decide (0 ≤ fidx p l) = l.any p := by
  by_cases h : l.findIdx p < l.length
  · have h1 : fidx p l = l.findIdx p := if_pos h
    have h2 : l.any p = true := by
      obtain ⟨x, hx, hp⟩ := List.findIdx_lt_length.1 h
      exact List.any_eq_true.2 ⟨x, hx, hp⟩
    rw [h1, h2]
    exact decide_eq_true (by omega)
  · have h1 : fidx p l = -1 := if_neg h
    have h2 : l.any p = false := by
      rw [List.any_eq_false]
      intro x hx hp
      exact h (List.findIdx_lt_length.2 ⟨x, hx, hp⟩)
    rw [h1, h2]
    rfl
theorem frzA_F {h : Heap} {k : Nat} {x : AV} (hx : isF x = true) : frzA h k x = some x := by
  cases x <;> simp [isF] at hx <;> cases k <;> simp [frzA, isF]
theorem frzAL_F {h : Heap} {k : Nat} : ∀ {xs : List AV}, allF xs = true → frzAL h k xs = some xs
  | [], _ => by cases k <;> simp [frzAL]
  | x :: xs, hx => by
    simp only [allF, Bool.and_eq_true] at hx
    cases k <;> simp [frzAL, frzA_F hx.1, frzAL_F hx.2]
theorem ren_F {B : Nat} {ρ : List (Nat × Nat)} {x : AV} (hx : isF x = true) : ren B ρ x = x := by
  cases x <;> simp [isF] at hx <;> simp [ren]
theorem renL_F {B : Nat} {ρ : List (Nat × Nat)} : ∀ {xs : List AV}, allF xs = true → renL B ρ xs = xs
  | [], _ => by simp [renL]
  | x :: xs, hx => by
    simp only [allF, Bool.and_eq_true] at hx
    simp [renL, ren_F hx.1, renL_F hx.2]
theorem frzOkL_F : ∀ {xs : List AV}, allF xs = true → frzOkL xs = true
  | [], _ => by simp [frzOkL]
  | x :: xs, hx => by
    simp only [allF, Bool.and_eq_true] at hx
    simp only [frzOkL, frzOkL_F hx.2, Bool.and_true]
    have := hx.1
    cases x <;> simp [isF] at this <;> simp [frzOk]
section
variable {C : CT} (hC : Closed Tryd.prog G0 md0 C)
include hC
theorem t28 (l : List Int) (lo hi : Int) (hl : l.length < 2^50) : Ev C 28 [.sl (ints l), .int .i64 lo, .int .i64 hi] (.bool (l.all (inR lo hi))) := by
  refine rT hC Q28 ?_
  simp only [c28, ints, List.length_map, push_cast, ↓J1, ↓J2, N1, N2, N3, reduceCtorEq, N4, N5, N6, reduceIte, N7, I1, I2, I3]
  refine RL_count (fun i => ⟨tb 21 .any [(1, .int .i64 lo), (2, .int .i64 hi), (9, .sl (l.map fun n => [.int .i64 n])), (10, .int .i64 (l.length : Int)), (11, .int .i64 (i : Int))], [], 0⟩) (fun i => l.all (inR lo hi) = (l.drop i).all (inR lo hi)) l.length 0 (hdA []) (by omega) rfl fun i hi' ht J hJ => ?_
  by_cases h1 : i < l.length
  · simp only [List.length_map, Int.toNat_natCast, List.getElem?_map, List.getElem?_eq_getElem h1, push_cast, ↓J1, ↓J2, N1, N2, N3, reduceCtorEq, N4, N5, N6, reduceIte, N7, I1, I2, I3]
    refine ifB_intro (fun _ => ⟨by omega, _, t37 hC _ _ _, ?_⟩) (fun h => by simp at h; omega)
    rw [List.drop_eq_getElem_cons h1, List.all_cons] at ht
    simp only [push_cast, ↓J1, ↓J2, N1, N2, N3, reduceCtorEq, N4, N5, N6, reduceIte, N7, I1, I2, I3]
    refine ifB_intro (fun h => ?_) (fun h => ?_)
    · refine hJ h1 ?_ _ (hdA [])
      · rw [ht]; simp only [inR] at h ⊢; rw [h]; rfl
    · rw [ht]; simp only [inR] at h ⊢; rw [h]; rfl
  · simp only [List.length_map, Int.toNat_natCast, List.getElem?_map, push_cast, ↓J1, ↓J2, N1, N2, N3, reduceCtorEq, N4, N5, N6, reduceIte, N7, I1, I2, I3]
    refine ifB_intro (fun h => by simp at h; omega) (fun h => ?_)
    rw [ht, List.drop_eq_nil_of_le (by omega)]
    rfl
end
end Go.Proofs.YtedgfiikaedeoaaDoor.X
set_option maxHeartbeats 2000000
set_option maxRecDepth 8000
set_option linter.unusedSimpArgs false
set_option linter.unusedVariables false
open Nat renaming reduceBEq → N1, reduceAdd → N2, reduceSub → N3, reduceMul → N4, reduceEqDiff → N5, reduceLeDiff → N6, reduceLT → N7
open Int renaming reduceLE → I1, reduceLT → I2, reduceToNat → I3
namespace Go.Proofs.YtedgfiikaedeoaaDoor.X
open Go
theorem ints_length (l : List Int) : (ints l).length = l.length := by simp [ints]
theorem frzLL_ints (l : List Int) : frzLL (ints l) = ints l := by
  unfold ints
  induction l with
  | nil => rfl
  | cons x l ih => simp only [List.map_cons, frzLL, frzL, frzT, ih]
theorem ints_get {v : List Int} {k : Nat} (h : k < v.length) : (ints v)[k]? = some [.int .i64 (v.getD k 0)] := by
  simp [ints, List.getD, h]
theorem ints_set {v : List Int} {k : Nat} {y : Int} : (ints v).set k [.int .i64 y] = ints (v.set k y) := by
  simp [ints, List.map_set]
/-! ### Sizes: what is left of a limit -/
def sub1 (v : Int) (n : Nat) : Int := if v < n then -1 else v - n
structure SzOk {α : Type} (f : α → Int → Int) (B : Int) (x : α) : Prop where
  le : ∀ v, 0 ≤ v → v ≤ B → -1 ≤ f x v ∧ f x v ≤ v
def szAll {α : Type} (f : α → Int → Int) : List α → Int → Int
  | [], v => v
  | x :: xs, v => if f x v < 0 then -1 else szAll f xs (f x v)
def leftAt {α : Type} (f : α → Int → Int) (l : List α) (v : Int) : Nat → Int
  | 0 => v
  | i + 1 => match l[i]? with | some x => f x (leftAt f l v i) | none => 0
theorem leftAt_succ {α : Type} {f : α → Int → Int} {l : List α} {v : Int} {i : Nat} (h : i < l.length) : leftAt f l v (i + 1) = f l[i] (leftAt f l v i) := by
  simp only [leftAt, List.getElem?_eq_getElem h]
theorem szAll_le {α : Type} {f : α → Int → Int} {B : Int} : ∀ {l : List α}, (∀ x ∈ l, SzOk f B x) → ∀ v, 0 ≤ v → v ≤ B → -1 ≤ szAll f l v ∧ szAll f l v ≤ v
  | [], _, v, h0, _ => ⟨by simp [szAll]; omega, by simp [szAll]⟩
  | x :: xs, h, v, h0, hB => by
    have hx := (h x (by simp)).le v h0 hB
    simp only [szAll]
    split
    · omega
    · have := szAll_le (l := xs) (fun y hy => h y (by simp [hy])) (f x v) (by omega) (by omega)
      omega
theorem szAll_each {α : Type} {f : α → Int → Int} {B : Int} : ∀ {l : List α}, (∀ x ∈ l, SzOk f B x) → ∀ v, 0 ≤ v → v ≤ B → 0 ≤ szAll f l v → ∀ x ∈ l, ∃ u, 0 ≤ u ∧ u ≤ v ∧ 0 ≤ f x u
  | [], _, v, _, _, _, x, hx => by simp at hx
  | y :: ys, h, v, h0, hB, hs, x, hx => by
    have hy := (h y (by simp)).le v h0 hB
    simp only [szAll] at hs
    split at hs
    · omega
    · rename_i hn
      rcases List.mem_cons.1 hx with rfl | hx
      · exact ⟨v, h0, by omega, by omega⟩
      · obtain ⟨u, h1, h2, h3⟩ := szAll_each (fun z hz => h z (by simp [hz])) (f y v) (by omega) (by omega) hs x hx
        exact ⟨u, h1, by omega, h3⟩
theorem sub1_le {v : Int} {n : Nat} (h : 0 ≤ v) : -1 ≤ sub1 v n ∧ sub1 v n ≤ v := by
  simp only [sub1]; split <;> omega
theorem sub1_pos {v : Int} {n : Nat} (h : 0 ≤ sub1 v n) : (n : Int) ≤ v := by
  simp only [sub1] at h; split at h <;> omega
/-! ### The parts of a board -/
structure Ter where
  n : ByteArray
  c : List Int
  s : Int
  h : Int
  b : Bool
  deriving DecidableEq
structure Kin where
  n : ByteArray
  st : Int
  mv : Int
  sp : Int
  z : Bool
  v : Int
  deriving DecidableEq
structure Rul where
  ts : List Ter
  ks : List Kin
  stack : Int
  river : Int
  road : Int
  supply : Int
  turns : Int
  deriving DecidableEq
structure Mp where
  w : Int
  h : Int
  t : List Int
  ri : List Int
  ro : List Int
  deriving DecidableEq
structure Brd where
  r : Rul
  m : Mp
  deriving DecidableEq
def terF (t : Ter) : List AV := [.str t.n, .sl (ints t.c), .int .i64 t.s, .int .i64 t.h, .bool t.b]
def terO (t : Ter) : List AV := [.str t.n, .ow 1 (ints t.c), .int .i64 t.s, .int .i64 t.h, .bool t.b]
def kinA (k : Kin) : List AV := [.str k.n, .int .i64 k.st, .int .i64 k.mv, .int .i64 k.sp, .bool k.z, .int .i64 k.v]
def tersF (l : List Ter) : List (List AV) := l.map terF
def tersO (l : List Ter) : List (List AV) := l.map terO
def kins (l : List Kin) : List (List AV) := l.map kinA
def rulF (r : Rul) : List AV := [.sl (tersF r.ts), .sl (kins r.ks), .int .i64 r.stack, .int .i64 r.river, .int .i64 r.road, .int .i64 r.supply, .int .i64 r.turns]
def rulO (r : Rul) : List AV := [.ow 5 (tersO r.ts), .ow 6 (kins r.ks), .int .i64 r.stack, .int .i64 r.river, .int .i64 r.road, .int .i64 r.supply, .int .i64 r.turns]
def mpF (m : Mp) : List AV := [.int .i64 m.w, .int .i64 m.h, .sl (ints m.t), .sl (ints m.ri), .sl (ints m.ro)]
def mpO (m : Mp) : List AV := [.int .i64 m.w, .int .i64 m.h, .ow 1 (ints m.t), .ow 1 (ints m.ri), .ow 1 (ints m.ro)]
theorem tersF_length (l : List Ter) : (tersF l).length = l.length := by simp [tersF]
theorem tersO_length (l : List Ter) : (tersO l).length = l.length := by simp [tersO]
theorem kins_length (l : List Kin) : (kins l).length = l.length := by simp [kins]
theorem frzLL_ters (l : List Ter) : frzLL (tersO l) = tersF l := by
  unfold tersO tersF
  induction l with
  | nil => rfl
  | cons x l ih => simp only [List.map_cons, frzLL, terO, terF, frzL, frzT, frzLL_ints, ih]
theorem frzLL_kins (l : List Kin) : frzLL (kins l) = kins l := by
  unfold kins
  induction l with
  | nil => rfl
  | cons x l ih => simp only [List.map_cons, frzLL, kinA, frzL, frzT, ih]
theorem own_ints1 (l : List Int) : ownRLL (ints l) = true := by have := own_ints l; simpa only [ownR] using this
theorem own_ters (l : List Ter) : ownRLL (tersO l) = true := by
  unfold tersO
  induction l with
  | nil => rfl
  | cons x l ih => simp only [List.map_cons, ownRLL, terO, ownRL, ownR, own_ints1, Bool.and_true, Bool.true_and]; exact ih
theorem own_kins (l : List Kin) : ownRLL (kins l) = true := by
  unfold kins
  induction l with
  | nil => rfl
  | cons x l ih => simp only [List.map_cons, ownRLL, kinA, ownRL, ownR, Bool.and_true, Bool.true_and]; exact ih
def szTer (t : Ter) (v : Int) : Int := if sub1 v t.n.size < 0 then -1 else sub1 (sub1 v t.n.size) t.c.length
def szTers (l : List Ter) (v : Int) : Int := if sub1 v l.length < 0 then -1 else szAll szTer l (sub1 v l.length)
def szKin (k : Kin) (v : Int) : Int := sub1 v k.n.size
def szKins (l : List Kin) (v : Int) : Int := if sub1 v l.length < 0 then -1 else szAll szKin l (sub1 v l.length)
theorem szTer_ok (B : Int) (t : Ter) : SzOk szTer B t := ⟨fun v h0 hB => by
  have h1 := sub1_le (n := t.n.size) h0
  simp only [szTer]
  split
  · omega
  · have h2 := sub1_le (v := sub1 v t.n.size) (n := t.c.length) (by omega); omega⟩
theorem szKin_ok (B : Int) (t : Kin) : SzOk szKin B t := ⟨fun v h0 hB => sub1_le h0⟩
theorem szTers_le {l : List Ter} {v : Int} (h0 : 0 ≤ v) (hB : v ≤ 2 ^ 50) : -1 ≤ szTers l v ∧ szTers l v ≤ v := by
  have h1 := sub1_le (n := l.length) h0
  simp only [szTers]
  split
  · omega
  · have := szAll_le (l := l) (fun x _ => szTer_ok (2 ^ 50) x) (sub1 v l.length) (by omega) (by omega); omega
theorem szKins_le {l : List Kin} {v : Int} (h0 : 0 ≤ v) (hB : v ≤ 2 ^ 50) : -1 ≤ szKins l v ∧ szKins l v ≤ v := by
  have h1 := sub1_le (n := l.length) h0
  simp only [szKins]
  split
  · omega
  · have := szAll_le (l := l) (fun x _ => szKin_ok (2 ^ 50) x) (sub1 v l.length) (by omega) (by omega); omega
theorem szTers_pos {l : List Ter} {v : Int} (h0 : 0 ≤ v) (hB : v ≤ 2 ^ 50) (h : 0 ≤ szTers l v) : (l.length : Int) ≤ v ∧ ∀ x ∈ l, (x.n.size : Int) ≤ v ∧ (x.c.length : Int) ≤ v := by
  have h1 := sub1_le (n := l.length) h0
  simp only [szTers] at h
  split at h
  · omega
  · have h2 := sub1_pos (v := v) (n := l.length) (by omega)
    refine ⟨h2, fun x hx => ?_⟩
    obtain ⟨u, u0, u1, u2⟩ := szAll_each (fun x _ => szTer_ok (2 ^ 50) x) (sub1 v l.length) (by omega) (by omega) h x hx
    have k1 := sub1_le (n := x.n.size) u0
    simp only [szTer] at u2
    split at u2
    · omega
    · have k2 := sub1_pos (v := u) (n := x.n.size) (by omega)
      have k3 := sub1_pos u2
      omega
theorem szKins_pos {l : List Kin} {v : Int} (h0 : 0 ≤ v) (hB : v ≤ 2 ^ 50) (h : 0 ≤ szKins l v) : (l.length : Int) ≤ v ∧ ∀ x ∈ l, (x.n.size : Int) ≤ v := by
  have h1 := sub1_le (n := l.length) h0
  simp only [szKins] at h
  split at h
  · omega
  · have h2 := sub1_pos (v := v) (n := l.length) (by omega)
    refine ⟨h2, fun x hx => ?_⟩
    obtain ⟨u, u0, u1, u2⟩ := szAll_each (fun x _ => szKin_ok (2 ^ 50) x) (sub1 v l.length) (by omega) (by omega) h x hx
    have k2 := sub1_pos u2
    omega
def andThen (f g : Int → Int) (v : Int) : Int := if f v < 0 then -1 else if g (f v) < 0 then -1 else g (f v)
def szRul (r : Rul) : Int → Int := andThen (szTers r.ts) (szKins r.ks)
def szMp (m : Mp) (v : Int) : Int := if sub1 v m.t.length < 0 then -1 else if sub1 (sub1 v m.t.length) m.ri.length < 0 then -1 else if sub1 (sub1 (sub1 v m.t.length) m.ri.length) m.ro.length < 0 then -1 else sub1 (sub1 (sub1 v m.t.length) m.ri.length) m.ro.length
def szBrd (b : Brd) : Int → Int := andThen (szRul b.r) (szMp b.m)
structure RulB (B : Nat) (r : Rul) : Prop where
  ts : r.ts.length < B
  ks : r.ks.length < B
  t : ∀ x ∈ r.ts, x.n.size < B ∧ x.c.length < B
  k : ∀ x ∈ r.ks, x.n.size < B
structure MpB (B : Nat) (m : Mp) : Prop where
  t : m.t.length < B
  ri : m.ri.length < B
  ro : m.ro.length < B
structure BrdB (B : Nat) (b : Brd) : Prop where
  r : RulB B b.r
  m : MpB B b.m
theorem szRul_le {r : Rul} {v : Int} (h0 : 0 ≤ v) (hB : v ≤ 2 ^ 50) : -1 ≤ szRul r v ∧ szRul r v ≤ v := by
  have h1 := szTers_le (l := r.ts) h0 hB
  simp only [szRul, andThen]
  split
  · omega
  · have h2 := szKins_le (l := r.ks) (v := szTers r.ts v) (by omega) (by omega)
    split <;> omega
theorem szMp_le {m : Mp} {v : Int} (h0 : 0 ≤ v) : -1 ≤ szMp m v ∧ szMp m v ≤ v := by
  have h1 := sub1_le (n := m.t.length) h0
  simp only [szMp]
  split
  · omega
  · have h2 := sub1_le (v := sub1 v m.t.length) (n := m.ri.length) (by omega)
    split
    · omega
    · have h3 := sub1_le (v := sub1 (sub1 v m.t.length) m.ri.length) (n := m.ro.length) (by omega)
      split <;> omega
theorem szBrd_pos {b : Brd} (h : 0 ≤ szBrd b 1048576) : BrdB (2 ^ 21) b := by
  have h1 := szRul_le (r := b.r) (v := 1048576) (by omega) (by omega)
  simp only [szBrd, andThen] at h
  split at h
  · omega
  rename_i n1
  split at h
  · omega
  have k1 := szTers_le (l := b.r.ts) (v := 1048576) (by omega) (by omega)
  have hr : 0 ≤ szTers b.r.ts 1048576 ∧ 0 ≤ szKins b.r.ks (szTers b.r.ts 1048576) := by
    simp only [szRul, andThen] at n1
    split at n1
    · omega
    · split at n1 <;> omega
  have p1 := szTers_pos (by omega) (by omega) hr.1
  have p2 := szKins_pos (by omega) (by omega) hr.2
  refine ⟨⟨by omega, by omega, fun x hx => ?_, fun x hx => ?_⟩, ?_⟩
  · have := p1.2 x hx; omega
  · have := p2.2 x hx; omega
  · generalize szRul b.r 1048576 = v at *
    have q1 := sub1_le (v := v) (n := b.m.t.length) (by omega)
    simp only [szMp] at h
    split at h
    · omega
    · have q2 := sub1_le (v := sub1 v b.m.t.length) (n := b.m.ri.length) (by omega)
      split at h
      · omega
      · split at h
        · omega
        · have r1 := sub1_pos (v := v) (n := b.m.t.length) (by omega)
          have r2 := sub1_pos (v := sub1 v b.m.t.length) (n := b.m.ri.length) (by omega)
          have r3 := sub1_pos h
          exact ⟨by omega, by omega, by omega⟩
def brdF (b : Brd) : AV := .agg (rulF b.r ++ mpF b.m)
def brdO (b : Brd) : AV := .agg (rulO b.r ++ mpO b.m)
end Go.Proofs.YtedgfiikaedeoaaDoor.X
set_option maxHeartbeats 1000000
set_option maxRecDepth 8000
set_option linter.unusedSimpArgs false
set_option linter.unusedSectionVars false
set_option linter.unusedVariables false
open Nat renaming reduceBEq → N1, reduceAdd → N2, reduceSub → N3, reduceMul → N4, reduceEqDiff → N5, reduceLeDiff → N6, reduceLT → N7
open Int renaming reduceLE → I1, reduceLT → I2, reduceToNat → I3
namespace Go.Proofs.YtedgfiikaedeoaaDoor.X
open Go
def intss (W : List (List Int)) : List (List AV) := W.map fun r => [.sl (ints r)]
def owss (W : List (List Int)) : List (List AV) := W.map fun r => [.ow 1 (ints r)]
theorem intss_length (W : List (List Int)) : (intss W).length = W.length := by simp [intss]
theorem owss_length (W : List (List Int)) : (owss W).length = W.length := by simp [owss]
theorem frzLL_owss (W : List (List Int)) : frzLL (owss W) = intss W := by
  unfold owss intss
  induction W with
  | nil => rfl
  | cons x l ih => simp only [List.map_cons, frzLL, frzL, frzT, frzLL_ints, ih]
theorem own_intss (W : List (List Int)) : ownR (.ow 1 (owss W)) = true := by
  simp only [ownR]
  unfold owss
  induction W with
  | nil => rfl
  | cons x l ih =>
    have e2 := own_ints x
    simp only [ownR] at e2
    simp only [List.map_cons, ownRLL, ownRL, ownR, e2, Bool.and_true, Bool.true_and]; exact ih
def lens (W : List (List Int)) : Nat := (W.map List.length).sum
def szRows : List (List Int) → Int → Int
  | [], v => v
  | r :: W, v => if v < r.length then -1 else szRows W (v - r.length)
def szSS (W : List (List Int)) (v : Int) : Int := if v < W.length then -1 else szRows W (v - W.length)
theorem szRows_le {B : Int} : ∀ (W : List (List Int)) (v : Int), 0 ≤ v → v ≤ B → 0 ≤ szRows W v → ∀ r ∈ W, (r.length : Int) ≤ B
  | [], v, _, _, _, r, hr => by simp at hr
  | s :: W, v, h0, hB, h, r, hr => by
    simp only [szRows] at h
    split at h
    · omega
    · rename_i hs
      rcases List.mem_cons.1 hr with rfl | hr
      · omega
      · exact szRows_le W (v - s.length) (by omega) (by omega) h r hr
theorem szSS_le {W : List (List Int)} {v : Int} (h0 : 0 ≤ v) (h : 0 ≤ szSS W v) : (W.length : Int) ≤ v ∧ ∀ r ∈ W, (r.length : Int) ≤ v := by
  simp only [szSS] at h
  split at h
  · omega
  · rename_i hs
    exact ⟨by omega, szRows_le W _ (by omega) (by omega) h⟩
theorem lens_succ {W : List (List Int)} {i : Nat} (h : i < W.length) : lens (W.take (i + 1)) = lens (W.take i) + W[i].length := by
  rw [lens, List.take_succ_eq_append_getElem h, List.map_append, List.sum_append]; simp only [lens, List.map_cons, List.map_nil, List.sum_cons, List.sum_nil, Nat.add_zero]
def sumW (r : List Int) : Int := r.foldl (fun a x => IntKind.i64.wrap (a + x)) 0
theorem sumW_succ {r : List Int} {i : Nat} (h : i < r.length) : sumW (r.take (i + 1)) = IntKind.i64.wrap (sumW (r.take i) + r[i]) := by
  rw [sumW, List.take_succ_eq_append_getElem h, List.foldl_append]; rfl
def rowOk (r : List Int) : Bool := decide (r.length = 3) && r.all (inR 0 36) && decide (sumW r = 36)
def goodW (W : List (List Int)) : Bool := decide (W.length = 3) && W.all rowOk
def clA (W : List (List Int)) : AV := .agg [.sl (intss W)]
def clO (W : List (List Int)) : AV := .agg [.ow 1 (owss W)]
theorem own_cl (W : List (List Int)) : ownR (clO W) = true := by
  have e1 := own_intss W
  simp only [ownR] at e1
  simp only [clO, ownR, ownRL, e1, Bool.and_true]
section
variable {C : CT} (hC : Closed Tryd.prog G0 md0 C)
include hC
theorem t14 (W : List (List Int)) (v : Int) (hv : 0 ≤ v ∧ v < 2^50) (hW : W.length < 2^50) (hr : ∀ r ∈ W, r.length < 2^50) : Ev C 14 [.sl (intss W), .int .i64 v] (.int .i64 (szSS W v)) := by
  refine rT hC Q14 ?_
  simp only [c14, intss, List.length_map, push_cast, ↓J1, ↓J2, N1, N2, N3, reduceCtorEq, N4, N5, N6, reduceIte, N7, I1, I2, I3]
  rw [wrap64 (by omega) (by omega)]
  refine ifB_intro (fun h => ?_) (fun h => ?_)
  · simp only [szSS]; simp at h; rw [if_pos (by omega)]
  · simp only [decide_eq_false_iff_not, Int.not_lt] at h
    refine RL_count (fun i => ⟨tb 27 .any [(0, .sl (W.map fun r => [.sl (ints r)])), (1, .int .i64 (v - W.length - lens (W.take i))), (5, .int .i64 (i : Int))], [], 0⟩) (fun i => 0 ≤ v - W.length - lens (W.take i) ∧ szSS W v = szRows (W.drop i) (v - W.length - lens (W.take i))) W.length 0 (head_tb [] rfl (by simp only [keptV_cons, keptV_nil, tb_get, lk_same, lk_ne, lk_nil, ren, renL, lkp, N7, N1, N5, reduceIte, and_true, true_and, Nat.not_lt_zero, if_false, if_true, Nat.add_zero, Nat.zero_add]; simp [lens]) rfl) (by omega) (by simp [lens, szSS]; omega) fun i hi ⟨ht0, ht⟩ J hJ => ?_
    by_cases h1 : i < W.length
    · have hri := hr _ (List.getElem_mem h1)
      simp only [List.length_map, Int.toNat_natCast, List.getElem?_map, List.getElem?_eq_getElem h1, push_cast, ↓J1, ↓J2, N1, N2, N3, reduceCtorEq, N4, N5, N6, reduceIte, N7, I1, I2, I3]
      refine ifB_intro (fun _ => ⟨by omega, _, t27 hC _ _ (by omega) (by rw [ints_length]; exact hri), ?_⟩) (fun h => by simp at h; omega)
      rw [List.drop_eq_getElem_cons h1, szRows] at ht
      simp only [ints_length, push_cast, ↓J1, ↓J2, N1, N2, N3, reduceCtorEq, N4, N5, N6, reduceIte, N7, I1, I2, I3]
      refine ifB_intro (fun h => ?_) (fun h => ?_)
      · rw [ht]
        simp only [decide_eq_true_eq] at h
        split at h <;> rename_i hh
        · rw [if_pos hh]
        · omega
      · simp only [decide_eq_false_iff_not] at h
        have hh : ¬ (v - W.length - lens (W.take i) < W[i].length) := fun hh => h (by rw [if_pos hh]; omega)
        rw [if_neg hh] at ht
        have el : v - (W.length : Int) - lens (W.take (i + 1)) = v - W.length - lens (W.take i) - W[i].length := by
          rw [lens_succ h1]; omega
        refine hJ h1 ⟨by omega, by rw [el]; exact ht⟩ _ (hdA [] (hV := ?_))
        simp only [keptV_cons, keptV_nil, tb_get, lk_same, lk_ne, lk_nil, ren, renL, lkp, N7, N1, N5, reduceIte, and_true, true_and, Nat.not_lt_zero, if_false, if_true, Nat.add_zero, Nat.zero_add]
        rw [wrap64 (by omega) (by omega), if_neg hh, el]
        exact ⟨rfl, rfl⟩
    · simp only [List.length_map, Int.toNat_natCast, List.getElem?_map, push_cast, ↓J1, ↓J2, N1, N2, N3, reduceCtorEq, N4, N5, N6, reduceIte, N7, I1, I2, I3]
      refine ifB_intro (fun h => by simp at h; omega) (fun h => ?_)
      rw [ht, List.drop_eq_nil_of_le (by omega)]
      rfl
theorem t17 (W : List (List Int)) (hW : W.length < 2^30) (hr : ∀ r ∈ W, r.length < 2^30) : Ev C 17 [.sl (intss W)] (.ow 1 (owss W)) := by
  refine rT hC Q17 ?_ (own_intss W)
  simp only [c17, intss, List.length_map, push_cast, ↓J1, ↓J2, N1, N2, N3, reduceCtorEq, N4, N5, N6, reduceIte, N7, I1, I2, I3]
  refine ⟨by omega, by omega, by omega, by omega, ?_⟩
  refine RL_count (fun i => ⟨tb 23 .any [(0, .sl (W.map fun r => [.sl (ints r)])), (3, .ref 0 none 1 0 W.length), (4, .int .i64 (i : Int))], [(0, .slice 1 ((W.take i).map (fun r => [.ow 1 (ints r)]) ++ List.replicate (W.length - i) [.nil]))], 1⟩) (fun _ => True) W.length 0 (hdA [(0, 0)]) (by omega) trivial fun i hi _ J hJ => ?_
  by_cases h1 : i < W.length
  · rw [show W.length - i = (W.length - (i + 1)) + 1 by omega, List.replicate_succ]
    simp only [List.length_map, Int.toNat_natCast, List.getElem?_map, List.getElem?_eq_getElem h1, push_cast, ↓J1, ↓J2, N1, N2, N3, reduceCtorEq, N4, N5, N6, reduceIte, N7, I1, I2, I3]
    refine ifB_intro (fun _ => ⟨by omega, _, t30 hC _ (hr _ (List.getElem_mem h1)), ?_⟩) (fun h => by simp at h; omega)
    simp only [Int.toNat_natCast, mid_get (show ((W.take i).map fun r => [AV.ow 1 (ints r)]).length = i by simp; omega), mid_set (show ((W.take i).map fun r => [AV.ow 1 (ints r)]).length = i by simp; omega), push_cast, ↓J1, ↓J2, N1, N2, N3, reduceCtorEq, N4, N5, N6, reduceIte, N7, I1, I2, I3]
    refine ⟨by omega, by omega, ?_⟩
    refine hJ h1 trivial _ (hdA [(0, 0)] (hh := ?_))
    rw [List.take_succ_eq_append_getElem h1, List.map_append, List.append_assoc]
    simp only [hdel, canR, canB, renO, renL, ren, lkp, hget, N7, N5, Nat.not_lt_zero, if_false, if_true, reduceIte, List.append_nil, List.nil_append]
    rfl
  · simp only [List.length_map, Int.toNat_natCast, List.getElem?_map, push_cast, ↓J1, ↓J2, N1, N2, N3, reduceCtorEq, N4, N5, N6, reduceIte, N7, I1, I2, I3]
    refine ifB_intro (fun h => by simp at h; omega) (fun h => ?_)
    rw [List.take_of_length_le (by omega), show W.length - i = 0 by omega]
    exact RetTo_ow (by simp [hget, owss]) (by simp [owss])
theorem t20 (W V : List (List Int)) (hW : W.length < 2^50) (hV : V.length < 2^50) (hr : ∀ r ∈ W, r.length < 2^50) (hs : ∀ r ∈ V, r.length < 2^50) : Ev C 20 [.sl (intss W), .sl (intss V)] (.bool (decide (W = V))) := by
  refine rT hC Q20 ?_
  simp only [c20, intss, List.length_map, push_cast, ↓J1, ↓J2, N1, N2, N3, reduceCtorEq, N4, N5, N6, reduceIte, N7, I1, I2, I3]
  refine ifB_intro (fun h => ?_) (fun h => ?_)
  · have hlm : W.length = V.length := by simp at h; omega
    refine RL_count (fun i => ⟨tb 27 .any [(0, .sl (W.map fun r => [.sl (ints r)])), (1, .sl (V.map fun r => [.sl (ints r)])), (5, .int .i64 (i : Int))], [], 0⟩) (fun i => W.take i = V.take i) W.length 0 (hdA []) (by omega) rfl fun i hi ht J hJ => ?_
    by_cases h1 : i < W.length
    · have h2 : i < V.length := by omega
      simp only [List.length_map, Int.toNat_natCast, List.getElem?_map, List.getElem?_eq_getElem h1, List.getElem?_eq_getElem h2, push_cast, ↓J1, ↓J2, N1, N2, N3, reduceCtorEq, N4, N5, N6, reduceIte, N7, I1, I2, I3]
      refine ifB_intro (fun _ => ⟨by omega, by omega, _, t36 hC _ _ (hr _ (List.getElem_mem h1)) (hs _ (List.getElem_mem h2)), ?_⟩) (fun h => by simp at h; omega)
      simp only [push_cast, ↓J1, ↓J2, N1, N2, N3, reduceCtorEq, N4, N5, N6, reduceIte, N7, I1, I2, I3]
      refine ifB_intro (fun h => ?_) (fun h => ?_)
      · refine hJ h1 ?_ _ (hdA [])
        rw [List.take_succ_eq_append_getElem h1, List.take_succ_eq_append_getElem h2, ht]
        have h' : W[i] = V[i] := by simpa using h
        rw [h']
      · have : ¬ W = V := by rintro rfl; simp at h
        simp [this]
    · simp only [List.length_map, Int.toNat_natCast, List.getElem?_map, push_cast, ↓J1, ↓J2, N1, N2, N3, reduceCtorEq, N4, N5, N6, reduceIte, N7, I1, I2, I3]
      refine ifB_intro (fun h => by simp at h; omega) (fun h => ?_)
      rw [List.take_of_length_le (by omega), List.take_of_length_le (by omega)] at ht
      simp [ht]
  · have : ¬ W = V := by rintro rfl; simp at h
    simp [this]
theorem t5 (W : List (List Int)) (v : Int) (hv : 0 ≤ v ∧ v < 2^50) (hW : W.length < 2^50) (hr : ∀ r ∈ W, r.length < 2^50) : Ev C 5 [clA W, .int .i64 v] (.int .i64 (if szSS W v < 0 then -1 else szSS W v)) := by
  simp only [clA]
  refine rT hC Q5 ?_
  simp only [c5, push_cast, ↓J1, ↓J2, N1, N2, N3, reduceCtorEq, N4, N5, N6, reduceIte, N7, I1, I2, I3]
  repeat' (first
    | simp only [push_cast, ↓J1, ↓J2, N1, N2, N3, reduceCtorEq, N4, N5, N6, reduceIte, N7, I1, I2, I3]
    | refine ⟨_, t14 hC W v hv hW hr, ?_⟩
    | refine ifB_intro (fun h => ?_) (fun h => ?_))
  all_goals simp_all
  all_goals omega
theorem t7 (W : List (List Int)) (hW : W.length < 2^30) (hr : ∀ r ∈ W, r.length < 2^30) : Ev C 7 [clA W] (clO W) := by
  simp only [clA]
  refine rT hC Q7 ?_ (own_cl W)
  simp only [c7, push_cast, ↓J1, ↓J2, N1, N2, N3, reduceCtorEq, N4, N5, N6, reduceIte, N7, I1, I2, I3]
  refine ⟨_, t17 hC _ hW hr, ?_⟩
  simp only [push_cast, ↓J1, ↓J2, N1, N2, N3, reduceCtorEq, N4, N5, N6, reduceIte, N7, I1, I2, I3]
  simp only [clO]
  exact rtA
theorem t9 (W V : List (List Int)) (hW : W.length < 2^50) (hV : V.length < 2^50) (hr : ∀ r ∈ W, r.length < 2^50) (hs : ∀ r ∈ V, r.length < 2^50) : Ev C 9 [clA W, clA V] (.bool (decide (W = V))) := by
  simp only [clA]
  refine rT hC Q9 ?_
  simp only [c9, push_cast, ↓J1, ↓J2, N1, N2, N3, reduceCtorEq, N4, N5, N6, reduceIte, N7, I1, I2, I3]
  repeat' (first
    | simp only [push_cast, ↓J1, ↓J2, N1, N2, N3, reduceCtorEq, N4, N5, N6, reduceIte, N7, I1, I2, I3]
    | refine ⟨_, t20 hC W V hW hV hr hs, ?_⟩
    | refine ifB_intro (fun h => ?_) (fun h => ?_))
  all_goals simp_all
end
end Go.Proofs.YtedgfiikaedeoaaDoor.X
set_option maxHeartbeats 1000000
set_option maxRecDepth 8000
set_option linter.unusedSimpArgs false
set_option linter.unusedVariables false
open Nat renaming reduceBEq → N1, reduceAdd → N2, reduceSub → N3, reduceMul → N4, reduceEqDiff → N5, reduceLeDiff → N6, reduceLT → N7
open Int renaming reduceLE → I1, reduceLT → I2, reduceToNat → I3
namespace Go.Proofs.YtedgfiikaedeoaaDoor.X
open Go
theorem sum3 {a b c : Int} (ha : inR 0 36 a = true) (hb : inR 0 36 b = true) (hc : inR 0 36 c = true) : sumW [a, b, c] = a + b + c := by
  simp only [inR, Bool.and_eq_true, decide_eq_true_eq] at ha hb hc
  simp only [sumW, List.foldl]
  rw [Int.zero_add, wrap64 (n := a) (by omega) (by omega), wrap64 (n := a + b) (by omega) (by omega), wrap64 (by omega) (by omega)]
section
variable {C : CT} (hC : Closed Tryd.prog G0 md0 C)
include hC
theorem t31 (r : List Int) (hr : r.length < 2^50) : Ev C 31 [.sl (ints r)] (.int .i64 (sumW r)) := by
  refine rT hC Q31 ?_
  simp only [c31, ints, List.length_map, push_cast, ↓J1, ↓J2, N1, N2, N3, reduceCtorEq, N4, N5, N6, reduceIte, N7, I1, I2, I3]
  refine RL_count (fun i => ⟨tb 17 .any [(3, .int .i64 (sumW (r.take i))), (6, .sl (r.map fun n => [.int .i64 n])), (7, .int .i64 (r.length : Int)), (8, .int .i64 (i : Int))], [], 0⟩) (fun _ => True) r.length 0 (head_tb [] rfl (by simp only [keptV_cons, keptV_nil, tb_get, lk_same, lk_ne, lk_nil, ren, renL, lkp, N7, N1, N5, reduceIte, and_true, true_and, Nat.not_lt_zero, if_false, if_true, Nat.add_zero, Nat.zero_add]; simp [sumW]) rfl) (by omega) trivial fun i hi _ J hJ => ?_
  by_cases h1 : i < r.length
  · simp only [List.length_map, Int.toNat_natCast, List.getElem?_map, List.getElem?_eq_getElem h1, push_cast, ↓J1, ↓J2, N1, N2, N3, reduceCtorEq, N4, N5, N6, reduceIte, N7, I1, I2, I3]
    refine ifB_intro (fun _ => ⟨by omega, ?_⟩) (fun h => by simp at h; omega)
    refine hJ h1 trivial _ (hdA [] (hV := ?_))
    simp only [keptV_cons, keptV_nil, tb_get, lk_same, lk_ne, lk_nil, ren, renL, lkp, N7, N1, N5, reduceIte, and_true, true_and, Nat.not_lt_zero, if_false, if_true, Nat.add_zero, Nat.zero_add]
    rw [wrap64 (n := (i : Int) + 1) (by omega) (by omega), sumW_succ h1]
    simp
  · simp only [List.length_map, Int.toNat_natCast, List.getElem?_map, push_cast, ↓J1, ↓J2, N1, N2, N3, reduceCtorEq, N4, N5, N6, reduceIte, N7, I1, I2, I3]
    refine ifB_intro (fun h => by simp at h; omega) (fun h => ?_)
    rw [List.take_of_length_le (by omega)]
theorem t15 (W : List (List Int)) (hW : W.length < 2^50) (hr : ∀ r ∈ W, r.length < 2^50) : Ev C 15 [clA W] (.bool (goodW W)) := by
  simp only [clA, goodW]
  refine rT hC Q15 ?_
  simp only [c15, intss, List.length_map, push_cast, ↓J1, ↓J2, N1, N2, N3, reduceCtorEq, N4, N5, N6, reduceIte, N7, I1, I2, I3]
  refine ifB_intro (fun h => ?_) (fun h => ?_)
  · have h3 : W.length = 3 := by simp at h; omega
    rw [show (decide (W.length = 3) && W.all rowOk) = W.all rowOk by simp [h3]]
    refine RL_count (fun i => ⟨tb 39 .any [(10, .sl (W.map fun r => [.sl (ints r)])), (11, .int .i64 (W.length : Int)), (12, .int .i64 (i : Int))], [], 0⟩) (fun i => W.all rowOk = (W.drop i).all rowOk) W.length 0 (hdA []) (by omega) rfl fun i hi ht J hJ => ?_
    by_cases h1 : i < W.length
    · have hri := hr _ (List.getElem_mem h1)
      rw [List.drop_eq_getElem_cons h1, List.all_cons] at ht
      simp only [List.length_map, Int.toNat_natCast, List.getElem?_map, List.getElem?_eq_getElem h1, push_cast, ↓J1, ↓J2, N1, N2, N3, reduceCtorEq, N4, N5, N6, reduceIte, N7, I1, I2, I3]
      generalize W[i] = r at *
      refine ifB_intro (fun _ => ⟨by omega, ?_⟩) (fun h => by simp at h; omega)
      rw [ints_length]
      refine ifB_intro (fun h => ?_) (fun h => ?_)
      · refine ⟨_, t28 hC r _ _ hri, ?_⟩
        simp only [push_cast, ↓J1, ↓J2, N1, N2, N3, reduceCtorEq, N4, N5, N6, reduceIte, N7, I1, I2, I3]
        have h5 : r.length = 3 := by simp at h; omega
        refine ifB_intro (fun h => ?_) (fun h => ?_)
        · obtain ⟨a, b, c, rfl⟩ : ∃ a b c, r = [a, b, c] := by
            match r, h5 with
            | [a, b, c], _ => exact ⟨a, b, c, rfl⟩
          simp only [ints, push_cast, ↓J1, ↓J2, N1, N2, N3, reduceCtorEq, N4, N5, N6, reduceIte, N7, I1, I2, I3]
          simp only [List.all_cons, List.all_nil, Bool.and_true, Bool.and_eq_true] at h
          have e3 := sum3 h.1 h.2.1 h.2.2
          have e4 : rowOk [a, b, c] = decide (a + b + c = 36) := by
            simp [rowOk, e3, h.1, h.2.1, h.2.2]
          have b1 := h.1; have b2 := h.2.1; have b3 := h.2.2
          simp only [inR, Bool.and_eq_true, decide_eq_true_eq] at b1 b2 b3
          rw [wrap64 (n := a + b) (by omega) (by omega), wrap64 (n := a + b + c) (by omega) (by omega)]
          refine ifB_intro (fun hh => ?_) (fun hh => ?_)
          · refine hJ h1 ?_ _ (hdA [])
            rw [ht, e4, hh]; rfl
          · rw [ht, e4, hh]; rfl
        · rw [ht]; simp only [rowOk, h, Bool.and_false, Bool.false_and]
      · have h5 : ¬ r.length = 3 := by simp at h; omega
        rw [ht]; simp [rowOk, h5]
    · simp only [List.length_map, Int.toNat_natCast, List.getElem?_map, push_cast, ↓J1, ↓J2, N1, N2, N3, reduceCtorEq, N4, N5, N6, reduceIte, N7, I1, I2, I3]
      refine ifB_intro (fun h => by simp at h; omega) (fun h => ?_)
      rw [ht, List.drop_eq_nil_of_le (by omega)]
      rfl
  · have h3 : ¬ W.length = 3 := by simp at h; omega
    simp [h3]
theorem t18 (W : List (List Int)) (hW : W.length < 2^50) (hr : ∀ r ∈ W, r.length < 2^50) : Ev C 18 [clA W] (.bool (goodW W)) := by
  simp only [clA, goodW]
  refine rT hC Q18 ?_
  simp only [c18, intss, List.length_map, push_cast, ↓J1, ↓J2, N1, N2, N3, reduceCtorEq, N4, N5, N6, reduceIte, N7, I1, I2, I3]
  refine ifB_intro (fun h => ?_) (fun h => ?_)
  · have h3 : W.length = 3 := by simp at h; omega
    rw [show (decide (W.length = 3) && W.all rowOk) = W.all rowOk by simp [h3]]
    refine RL_count (fun i => ⟨tb 37 .any [(12, .sl (W.map fun r => [.sl (ints r)])), (13, .int .i64 (W.length : Int)), (14, .int .i64 (i : Int))], [], 0⟩) (fun i => W.all rowOk = (W.drop i).all rowOk) W.length 0 (hdA []) (by omega) rfl fun i hi ht J hJ => ?_
    by_cases h1 : i < W.length
    · have hri := hr _ (List.getElem_mem h1)
      rw [List.drop_eq_getElem_cons h1, List.all_cons] at ht
      simp only [List.length_map, Int.toNat_natCast, List.getElem?_map, List.getElem?_eq_getElem h1, push_cast, ↓J1, ↓J2, N1, N2, N3, reduceCtorEq, N4, N5, N6, reduceIte, N7, I1, I2, I3]
      generalize W[i] = r at *
      refine ifB_intro (fun _ => ⟨by omega, ?_⟩) (fun h => by simp at h; omega)
      rw [ints_length]
      refine ifB_intro (fun h => ?_) (fun h => ?_)
      · refine ⟨_, t31 hC r hri, ?_⟩
        simp only [push_cast, ↓J1, ↓J2, N1, N2, N3, reduceCtorEq, N4, N5, N6, reduceIte, N7, I1, I2, I3]
        have h5 : r.length = 3 := by simp at h; omega
        refine ifB_intro (fun h => ?_) (fun h => ?_)
        · have e4 : rowOk r = r.all (inR 0 36) := by
            simp only [rowOk, h5, h, decide_true, Bool.true_and, Bool.and_true]
          refine RL_count (fun k => ⟨tb 37 .any [(12, .sl (W.map fun r => [.sl (ints r)])), (13, .int .i64 (W.length : Int)), (14, .int .i64 (i : Int)), (26, .sl (r.map fun n => [.int .i64 n])), (27, .int .i64 (r.length : Int)), (28, .int .i64 (k : Int))], [], 0⟩) (fun k => r.all (inR 0 36) = (r.drop k).all (inR 0 36)) r.length 0 (head_tb [] rfl (by simp only [ints, List.length_map, keptV_cons, keptV_nil, tb_get, lk_same, lk_ne, lk_nil, ren, renL, lkp, N7, N1, N5, reduceIte, and_true, true_and, Nat.not_lt_zero, if_false, if_true, Nat.add_zero, Nat.zero_add]; simp) rfl) (by omega) rfl fun k hk hkt J' hJ' => ?_
          by_cases h6 : k < r.length
          · rw [List.drop_eq_getElem_cons h6, List.all_cons] at hkt
            simp only [List.length_map, Int.toNat_natCast, List.getElem?_map, List.getElem?_eq_getElem h6, push_cast, ↓J1, ↓J2, N1, N2, N3, reduceCtorEq, N4, N5, N6, reduceIte, N7, I1, I2, I3]
            refine ifB_intro (fun _ => ⟨by omega, _, t32 hC _ _ _, ?_⟩) (fun h => by simp at h; omega)
            simp only [push_cast, ↓J1, ↓J2, N1, N2, N3, reduceCtorEq, N4, N5, N6, reduceIte, N7, I1, I2, I3]
            refine ifB_intro (fun hh => ?_) (fun hh => ?_)
            · refine hJ' h6 ?_ _ (hdA [])
              rw [hkt]; simp only [inR] at hh ⊢; rw [hh]; rfl
            · rw [ht, e4, hkt]; simp only [inR] at hh ⊢; rw [hh]; rfl
          · simp only [List.length_map, Int.toNat_natCast, List.getElem?_map, push_cast, ↓J1, ↓J2, N1, N2, N3, reduceCtorEq, N4, N5, N6, reduceIte, N7, I1, I2, I3]
            refine ifB_intro (fun h => by simp at h; omega) (fun h => ?_)
            rw [List.drop_eq_nil_of_le (by omega)] at hkt
            refine hJ h1 ?_ _ (hdA [])
            rw [ht, e4, hkt]; rfl
        · rw [ht]; simp only [rowOk, h, Bool.and_false, Bool.false_and]
      · have h5 : ¬ r.length = 3 := by simp at h; omega
        rw [ht]; simp [rowOk, h5]
    · simp only [List.length_map, Int.toNat_natCast, List.getElem?_map, push_cast, ↓J1, ↓J2, N1, N2, N3, reduceCtorEq, N4, N5, N6, reduceIte, N7, I1, I2, I3]
      refine ifB_intro (fun h => by simp at h; omega) (fun h => ?_)
      rw [ht, List.drop_eq_nil_of_le (by omega)]
      rfl
  · have h3 : ¬ W.length = 3 := by simp at h; omega
    simp [h3]
end
end Go.Proofs.YtedgfiikaedeoaaDoor.X
set_option maxHeartbeats 4000000
set_option maxRecDepth 8000
set_option linter.unusedVariables false
set_option linter.unusedSimpArgs false
open Nat renaming reduceBEq → N1, reduceAdd → N2, reduceSub → N3, reduceMul → N4, reduceEqDiff → N5, reduceLeDiff → N6, reduceLT → N7
open Int renaming reduceLE → I1, reduceLT → I2, reduceToNat → I3
namespace Go.Proofs.YtedgfiikaedeoaaDoor.X
open Go Go.RowKit
structure LibT (C : CT) : Prop where
  itoa : ∀ i : Nat, i < 100 → Ev C 43 [.int .i64 i] (.str ⟨(Lib.decDigits i).toArray⟩)
  join : ∀ (l : List ByteArray) (sep : ByteArray), l ≠ [] → l.length < 2^40 → (Lib.join (l.map (·.data.toList)) sep.data.toList).length < 2^40 → Ev C 44 [.sl (strs l), .str sep] (.str ⟨(Lib.join (l.map (·.data.toList)) sep.data.toList).toArray⟩)
  grow : ∀ n : Nat, 0 < n → n ≤ 1000 → Ev C 45 [.nil, .int .i64 n] (.ow 1 [])
theorem lib_itoa (G : Glo) (i : Nat) (hi : i < 100) : Ev (CS Tryd.prog G) 43 [.int .i64 i] (.str ⟨(Lib.decDigits i).toArray⟩) := by
  refine ev_below ⟨_, Tryd.func43, by simp [Tryd.f43], by simp [Tryd.f43]⟩ rfl fun w vals h => ?_
  simp only [TV, T] at h
  obtain ⟨v, vs, F1, F2, rfl, hF, ⟨rfl, rfl⟩, rfl, rfl⟩ := h
  refine (shItoa i hi w).mono ?_
  rintro e w' ⟨rfl, rfl⟩
  exact ⟨rfl, Below.refl _ _⟩
theorem lib_join (G : Glo) (l : List ByteArray) (sep : ByteArray) (hne : l ≠ []) (h1 : l.length < 2^40) (h2 : (Lib.join (l.map (·.data.toList)) sep.data.toList).length < 2^40) : Ev (CS Tryd.prog G) 44 [.sl (strs l), .str sep] (.str ⟨(Lib.join (l.map (·.data.toList)) sep.data.toList).toArray⟩) := by
  refine ev_below ⟨_, Tryd.func44, by simp [Tryd.f44], by simp [Tryd.f44]⟩ rfl fun w vals h => ?_
  simp only [TV] at h
  obtain ⟨v, vs, F1, F2, rfl, hF, ht, v2, vs2, F3, F4, rfl, rfl, ht2, rfl, rfl⟩ := h
  simp only [T] at ht2
  obtain ⟨rfl, rfl⟩ := ht2
  obtain rfl : F1 = [] := by cases F1 with
    | nil => rfl
    | cons a b => simp at hF
  obtain ⟨b, o, c, rfl, hc, hb, hcell⟩ := strs_at ht hne (fun _ h => h)
  exact shJoin b o c l sep w hcell hb (by omega) hc (by omega)
theorem lib_grow (G : Glo) (n : Nat) (hn : 0 < n) (hb : n ≤ 1000) : Ev (CS Tryd.prog G) 45 [.nil, .int .i64 n] (.ow 1 []) := by
  refine ⟨fun v h' n' => v = .ref 0 none 1 0 0 ∧ h' = [(0, .slice 1 [])] ∧ n' = 1, ⟨⟨_, Tryd.func45, by simp [Tryd.f45], by simp [Tryd.f45]⟩, fun M I hd Fp w vals hr hv => ?_⟩, rfl, ?_⟩
  · simp only [SV, S] at hv
    obtain ⟨v1, _, rfl, rfl, v2, _, rfl, rfl, rfl⟩ := hv
    refine (grow_walk n hn hb w).mono ?_
    rintro e w' ⟨rfl, rfl⟩
    have hGn : n ≤ grownCap w n 0 3 := grownCap_ge w _ _ _
    have hGm := grownCap_le_maxLen w n 0 3 (by unfold maxLen; omega)
    generalize grownCap w n 0 3 = c at *
    have hsz : (Builtin.zeroCells (Value.int .i64 0).cells n ++ Builtin.zeroCells (Value.int .i64 0).cells (c - n)).size = c := by
      simp [Builtin.zeroCells, Value.cells]; omega
    generalize Builtin.zeroCells (Value.int .i64 0).cells n ++ Builtin.zeroCells (Value.int .i64 0).cells (c - n) = cur at *
    have hold : ∀ b, b < w.heap.size → (w.drew.alloc (.cells cur 3)).heap[b]? = w.heap[b]? := fun b hb => heap_alloc_old w.drew _ hb
    have hnew : (w.drew.alloc (.cells cur 3)).heap[w.heap.size]? = some (.cells cur 3 (0, 0)) := heap_alloc_new w.drew _
    have hs : w.heap.size ≤ (w.drew.alloc (.cells cur 3)).heap.size := by
      show w.heap.size ≤ (w.heap.push _).size
      rw [Array.size_push]; omega
    have hk : Keep M w (w.drew.alloc (.cells cur 3)) := ⟨rfl, rfl, rfl, hs, fun b hb _ => hold b hb⟩
    have hr1 := hr.grown hs hold
    generalize w.drew.alloc (.cells cur 3) = W at *
    have hr2 := hr1.add (.slice 1 []) (.slice (some ⟨w.heap.size, 0, none⟩) 0 c) [w.heap.size] (by simp) (fun b hb => by
        rw [List.mem_singleton.1 hb]; exact hr.news _ (Nat.le_refl _)) (fun b hb hI => by
        have := (hr.imm b hI).1
        rw [List.mem_singleton.1 hb] at this; omega) (fun id u hu => by simp [hget] at hu) (fun hd' _ => by
        simp only [ObjR, T]
        exact .inr ⟨w.heap.size, 0, c, cur, 3, [], [], rfl, hnew, Nat.zero_le _, hGm, by omega, trivial, by simp, by simp [TLL], rfl⟩)
    refine ⟨_, .ref 0 none 1 0 0, _, 1, I, _, _, rfl, ⟨rfl, rfl, rfl⟩, hr2, ?_, ⟨hk, fun b hb => ⟨hb, hold b (hr.imm b hb).1⟩, fun id hid => by omega⟩, by omega⟩
    simp only [S, HdOf]
    exact ⟨by omega, _, rfl, .inl ⟨w.heap.size, 0, 0, c, c, by rw [upd_same], by simp, by omega, by omega, by omega⟩⟩
  · rintro v h' n' ⟨rfl, rfl, rfl⟩
    exact ⟨.ow 1 [], [], by simp [conR, hget, hdel], NilTo.refl _⟩
end Go.Proofs.YtedgfiikaedeoaaDoor.X
