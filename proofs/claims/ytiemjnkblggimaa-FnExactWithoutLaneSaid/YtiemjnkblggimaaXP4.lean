/- A part of the proof: lemmas on the machine or on the functions that the law reaches. No condition of its own. -/
import Derived.Test.YtiemjnkblggimaaXP3
import Derived.Test.YtiemjnkblggimaaXP2
set_option maxHeartbeats 4000000
set_option maxRecDepth 8000
set_option linter.unusedSimpArgs false
set_option linter.unusedVariables false
open Nat renaming reduceBEq → N1, reduceAdd → N2, reduceSub → N3, reduceMul → N4, reduceEqDiff → N5, reduceLeDiff → N6, reduceLT → N7
open Int renaming reduceLE → I1, reduceLT → I2, reduceToNat → I3
namespace Go.Proofs.Ytiemjnkblggimaa.X
open Go
attribute [local irreducible] Ev
def ncT (x : AV) (K : AV → Prop) : Prop :=
  match x with
  | .ptr id sub sz i c => K (.ptr id sub sz i c)
  | .pf cs => K (.pf cs)
  | _ => False
theorem p_nilc {P : Program} {G : Glo} {C : CT} {md : FuncId → Bool} {s : St} {K : AV → St → Prop} {x : Operand} : opK P G C md (.nilCheck x) s K = ncT (ev G s x) (fun v => K v s) := by
  simp only [opK, ncT]
  cases ev G s x <;> rfl
theorem nc_ptr {id : Nat} {sub : Option (Nat × Nat × Nat)} {sz i c : Nat} {K : AV → Prop} : ncT (.ptr id sub sz i c) K = K (.ptr id sub sz i c) := _root_.id rfl
attribute [push_cast] p_nilc nc_ptr
theorem cut_ints_get {v : List Int} {k : Nat} (h : k < v.length) : (ints v)[k]? = some [.int .i64 (v.getD k 0)] := by
  simp [ints, List.getD, h]
theorem ev_pnil {G : Glo} {s : St} : ev G s (.const (.pointer none)) = .con (.pointer none) := _root_.id rfl
attribute [push_cast] ev_pnil
structure Arc where
  f : Int
  t : Int
  m : Int
def ar4 (l : List Arc) : List (List AV) := l.map fun a => [.int .i64 a.f, .int .i64 a.t, .int .i64 a.m, .int .i64 0]
def ar5 (l : List Arc) : List (List AV) := l.map fun a => [.int .i64 a.f, .int .i64 a.t, .int .i64 a.m, .int .i64 0, .bool false]
theorem ar4_length (l : List Arc) : (ar4 l).length = l.length := by simp [ar4]
theorem ar5_length (l : List Arc) : (ar5 l).length = l.length := by simp [ar5]
theorem ar4_snoc {l : List Arc} {a : Arc} : ar4 l ++ [[.int .i64 a.f, .int .i64 a.t, .int .i64 a.m, .int .i64 0]] = ar4 (l ++ [a]) := by simp [ar4]
theorem ar5_snoc {l : List Arc} {a : Arc} : ar5 l ++ [[.int .i64 a.f, .int .i64 a.t, .int .i64 a.m, .int .i64 0, .bool false]] = ar5 (l ++ [a]) := by simp [ar5]
theorem ar4_take {l : List Arc} : (ar4 l).take l.length = ar4 l := List.take_of_length_le (by rw [ar4_length]; omega)
theorem ar5_take {l : List Arc} : (ar5 l).take l.length = ar5 l := List.take_of_length_le (by rw [ar5_length]; omega)
theorem ar4_take1 {a : Arc} {r : List Arc} : (ar4 (a :: r)).take (r.length + 1) = ar4 (a :: r) := ar4_take (l := a :: r)
theorem ar5_take1 {a : Arc} {r : List Arc} : (ar5 (a :: r)).take (r.length + 1) = ar5 (a :: r) := ar5_take (l := a :: r)
theorem ar4_cells (l : List Arc) : allScs (ar4 l) = true := by
  unfold ar4
  induction l with
  | nil => rfl
  | cons x l ih => simp only [List.map_cons, allScs, allSc, isSc, Bool.and_true, Bool.true_and]; exact ih
theorem ar5_cells (l : List Arc) : allScs (ar5 l) = true := by
  unfold ar5
  induction l with
  | nil => rfl
  | cons x l ih => simp only [List.map_cons, allScs, allSc, isSc, Bool.and_true, Bool.true_and]; exact ih
theorem own_ar4 (l : List Arc) : ownRLL (ar4 l) = true := by
  unfold ar4
  induction l with
  | nil => rfl
  | cons x l ih => simp only [List.map_cons, ownRLL, ownRL, ownR, Bool.and_true, Bool.true_and]; exact ih
theorem own_ar5 (l : List Arc) : ownRLL (ar5 l) = true := by
  unfold ar5
  induction l with
  | nil => rfl
  | cons x l ih => simp only [List.map_cons, ownRLL, ownRL, ownR, Bool.and_true, Bool.true_and]; exact ih
def laneArc (dep d : Int) (l : Ln) : Arc := ⟨d * dep + l.a, (d + 1) * dep + l.b, l.c⟩
def storeArc (F T B dep d : Int) (st : List Int) (k : Nat) : Arc := ⟨d * dep + k, (d + 1) * dep + k, if decide ((k : Int) = F) || decide ((k : Int) = T) then B else st.getD k 0⟩
def laneArcs (L : Lanes) (d : Nat) (k : Nat) : List Arc := (L.ls.take k).map (laneArc L.d d)
def storeArcs (F T B : Int) (L : Lanes) (d : Nat) (k : Nat) : List Arc := (List.range k).map (storeArc F T B L.d d L.st)
theorem laneArcs_succ {L : Lanes} {d k : Nat} (h : k < L.ls.length) : laneArcs L d (k + 1) = laneArcs L d k ++ [laneArc L.d d L.ls[k]] := by
  rw [laneArcs, List.take_succ_eq_append_getElem h, List.map_append]; rfl
theorem storeArcs_succ {F T B : Int} {L : Lanes} {d k : Nat} : storeArcs F T B L d (k + 1) = storeArcs F T B L d k ++ [storeArc F T B L.d d L.st k] := by
  rw [storeArcs, List.range_succ, List.map_append]; rfl
structure LOk (L : Lanes) : Prop where
  d : 2 ≤ L.d ∧ L.d ≤ 6
  n : L.ls.length ≤ 15
  s : (L.st.length : Int) = L.d
  st : ∀ k, k < L.st.length → 0 ≤ L.st.getD k 0 ∧ L.st.getD k 0 ≤ 1000
  ls : ∀ l ∈ L.ls, 0 ≤ l.a ∧ l.a ≤ 5 ∧ 0 ≤ l.b ∧ l.b ≤ 5 ∧ 0 ≤ l.c ∧ l.c ≤ 1000
theorem lanesOk_LOk {L : Lanes} (h : lanesOk L = true) : LOk L := by
  simp only [lanesOk, Bool.and_eq_true, decide_eq_true_eq, List.all_eq_true] at h
  obtain ⟨⟨⟨⟨h1, h2⟩, h3⟩, h4⟩, h5⟩ := h
  simp only [inR, Bool.and_eq_true, decide_eq_true_eq] at h1 h4
  refine ⟨h1, h2, h3, fun k hk => ?_, fun l hl => ?_⟩
  · have := h4 _ (List.getElem_mem hk)
    simpa [List.getD, hk] using this
  · have := h5 l hl
    simp only [laneOk, inR, Bool.and_eq_true, decide_eq_true_eq] at this
    omega
theorem mul_ok {d dep : Int} (hd : 0 ≤ d ∧ d ≤ 7) (h : 2 ≤ dep ∧ dep ≤ 6) : 0 ≤ d * dep ∧ d * dep ≤ 42 := ⟨Int.mul_nonneg hd.1 (by omega), by
  have := Int.mul_le_mul hd.2 h.2 (by omega) (by omega); omega⟩
def net4 (n : Nat) (V : List (Nat × AV)) (p : Int) (L0 : Ob) : List Arc → St
  | [] => ⟨tb n .any V, [(1, .var [.nil, .int .i64 p]), (0, L0)], 2⟩
  | a :: r => ⟨tb n .any V, [(2, .slice 4 (ar4 (a :: r))), (1, .var [.ref 2 none 4 0 (r.length + 1), .int .i64 p]), (0, L0)], 3⟩
theorem net4_snoc {n : Nat} {V : List (Nat × AV)} {p : Int} {L0 : Ob} {l : List Arc} {a : Arc} : net4 n V p L0 (l ++ [a]) = ⟨tb n .any V, [(2, .slice 4 (ar4 (l ++ [a]))), (1, .var [.ref 2 none 4 0 (l.length + 1), .int .i64 p]), (0, L0)], 3⟩ := by
  cases l with
  | nil => rfl
  | cons x l => simp only [List.cons_append, net4, List.length_append, List.length_cons, List.length_nil]
def net5 (n : Nat) (V : List (Nat × AV)) (p : Int) (L0 : Ob) : List Arc → St
  | [] => ⟨tb n .any V, [(1, .var [.int .i64 p, .nil]), (0, L0)], 2⟩
  | a :: r => ⟨tb n .any V, [(2, .slice 5 (ar5 (a :: r))), (1, .var [.int .i64 p, .ref 2 none 5 0 (r.length + 1)]), (0, L0)], 3⟩
theorem net5_snoc {n : Nat} {V : List (Nat × AV)} {p : Int} {L0 : Ob} {l : List Arc} {a : Arc} : net5 n V p L0 (l ++ [a]) = ⟨tb n .any V, [(2, .slice 5 (ar5 (l ++ [a]))), (1, .var [.int .i64 p, .ref 2 none 5 0 (l.length + 1)]), (0, L0)], 3⟩ := by
  cases l with
  | nil => rfl
  | cons x l => simp only [List.cons_append, net5, List.length_append, List.length_cons, List.length_nil]
def arcsS (F T B : Int) (L : Lanes) : Nat → List Arc
  | 0 => []
  | d + 1 => arcsS F T B L d ++ laneArcs L d L.ls.length ++ storeArcs F T B L d L.st.length
def arcsL (L : Lanes) : Nat → List Arc
  | 0 => []
  | d + 1 => arcsL L d ++ laneArcs L d L.ls.length
def arcsT (F T B : Int) (L : Lanes) : Nat → List Arc
  | 0 => []
  | d + 1 => arcsT F T B L d ++ storeArcs F T B L d L.st.length
theorem laneArcs_len (L : Lanes) (d k : Nat) : (laneArcs L d k).length ≤ L.ls.length := by simp [laneArcs]; omega
theorem storeArcs_len {F T B : Int} (L : Lanes) (d k : Nat) : (storeArcs F T B L d k).length = k := by simp [storeArcs]
theorem arcsS_len {F T B : Int} {L : Lanes} (h : LOk L) : ∀ d, (arcsS F T B L d).length ≤ 21 * d
  | 0 => by simp [arcsS]
  | d + 1 => by
    have := arcsS_len (F := F) (T := T) (B := B) h d
    have h1 := laneArcs_len L d L.ls.length
    have h2 := storeArcs_len (F := F) (T := T) (B := B) L d L.st.length
    have := h.n; have := h.s; have := h.d
    simp only [arcsS, List.length_append]; omega
section
variable {C : CT} (hC : Closed Try.prog G0 md0 C)
include hC

theorem t54 (L : Lanes) (F T : Int) (D : Nat) (hD : D ≤ 6) (hL : LOk L) : Ev C 54 [L.av, .int .i64 F, .int .i64 T, .int .i64 D] (.op [.ow 4 (ar4 (arcsS F T 1000000 L D)), .int .i64 (((D : Int) + 1) * L.d)]) := by
  have hd := hL.d
  have hdD := mul_ok (d := (D : Int) + 1) ⟨by omega, by omega⟩ hd
  simp only [Lanes.av]
  refine rT hC Q54 ?_ (by simp only [ownR, ownRL, own_ar4, Bool.and_true])
  simp only [c54, push_cast, ↓J1, ↓J2, N1, N2, N3, reduceCtorEq, N4, N5, N6, reduceIte, N7, I1, I2, I3]
  rw [wrap64 (n := (D : Int) + 1) (by omega) (by omega), wrap64 (by omega) (by omega)]
  generalize ((D : Int) + 1) * L.d = P0
  refine RL_count (fun d => net4 101 [(1, .int .i64 F), (2, .int .i64 T), (3, .int .i64 (D : Int)), (4, .ptr 0 none 0 0 0), (9, .ptr 1 none 0 0 0), (10, .int .i64 (d : Int))] P0 (.var [.int .i64 L.d, .sl (lns L.ls), .sl (ints L.st)]) (arcsS F T 1000000 L d)) (fun _ => True) D 0 (by rw [show arcsS F T 1000000 L 0 = [] from rfl]; exact (hdA [(1, 1), (0, 0)])) (by omega) trivial fun d hdl _ J hJ => ?_
  by_cases hdD2 : d < D
  · have hm0 := mul_ok (d := (d : Int)) ⟨by omega, by omega⟩ hd
    have hm1 := mul_ok (d := (d : Int) + 1) ⟨by omega, by omega⟩ hd
    have w1 : IntKind.i64.wrap ((d : Int) * L.d) = (d : Int) * L.d := wrap64 (by omega) (by omega)
    have w2 : IntKind.i64.wrap ((d : Int) + 1) = (d : Int) + 1 := wrap64 (by omega) (by omega)
    have w3 : IntKind.i64.wrap (((d : Int) + 1) * L.d) = ((d : Int) + 1) * L.d := wrap64 (by omega) (by omega)
    have hal := arcsS_len (F := F) (T := T) (B := 1000000) hL d
    have hn15 := hL.n
    have hsn := hL.s
    rcases hA : arcsS F T 1000000 L d with _ | ⟨a, r0⟩
    all_goals
      simp only [net4, decide_false, w1, w2, w3, lns_length, ints_length, ar4_take1, ar4_length, ar4_cells, push_cast, ↓J1, ↓J2, N1, N2, N3, reduceCtorEq, N4, N5, N6, reduceIte, N7, I1, I2, I3]
      refine ifB_intro (fun _ => ?_) (fun h => by simp at h; omega)
      refine RL_count (fun k => net4 101 [(1, .int .i64 F), (2, .int .i64 T), (3, .int .i64 (D : Int)), (4, .ptr 0 none 0 0 0), (9, .ptr 1 none 0 0 0), (10, .int .i64 (d : Int)), (11, .int .i64 ((d : Int) * L.d)), (12, .int .i64 (((d : Int) + 1) * L.d)), (39, .sl (lns L.ls)), (40, .int .i64 (L.ls.length : Int)), (41, .int .i64 (k : Int))] P0 (.var [.int .i64 L.d, .sl (lns L.ls), .sl (ints L.st)]) (arcsS F T 1000000 L d ++ laneArcs L d k)) (fun _ => True) L.ls.length 0 (by rw [show laneArcs L d 0 = [] from rfl, List.append_nil, hA]; (first | exact head_tb [(1, 1), (0, 0)] rfl (by simp only [keptV_cons, keptV_nil, tb_get, lk_same, lk_ne, lk_nil, ren, renL, lkp, N7, N1, N5, reduceIte, and_true, true_and, Nat.not_lt_zero, if_false, if_true, Nat.add_zero, Nat.zero_add]; (try rw [wrap64 (by omega) (by omega)]); (first | done | (simp; done) | (and_intros <;> rfl))) (by simp only [net4, canR, canB, renO, renL, ren, lkp, hget, N7, N5, Nat.not_lt_zero, if_false, if_true, reduceIte, List.append_nil, List.nil_append]; (first | done | rfl | (rw [← ar4_snoc]; rfl))) | exact head_tb [(2, 2), (1, 1), (0, 0)] rfl (by simp only [keptV_cons, keptV_nil, tb_get, lk_same, lk_ne, lk_nil, ren, renL, lkp, N7, N1, N5, reduceIte, and_true, true_and, Nat.not_lt_zero, if_false, if_true, Nat.add_zero, Nat.zero_add]; (try rw [wrap64 (by omega) (by omega)]); (first | done | (simp; done) | (and_intros <;> rfl))) (by simp only [net4, canR, canB, renO, renL, ren, lkp, hget, N7, N5, Nat.not_lt_zero, if_false, if_true, reduceIte, List.append_nil, List.nil_append]; (first | done | rfl | (rw [← ar4_snoc]; rfl))))) (by omega) trivial fun k hk _ Jx1 hJx1 => ?_
      have hkl : (arcsS F T 1000000 L d ++ laneArcs L d k).length ≤ 1000 := by
        have h1 := laneArcs_len L d k
        have := hL.n
        simp only [List.length_append]; omega
      by_cases h1 : k < L.ls.length
      · have hlk := hL.ls _ (List.getElem_mem h1)
        have w4 : IntKind.i64.wrap ((d : Int) * L.d + L.ls[k].a) = (d : Int) * L.d + L.ls[k].a := wrap64 (by omega) (by omega)
        have w5 : IntKind.i64.wrap (((d : Int) + 1) * L.d + L.ls[k].b) = ((d : Int) + 1) * L.d + L.ls[k].b := wrap64 (by omega) (by omega)
        have e1 : (lns L.ls)[k]? = some [.int .i64 L.ls[k].a, .int .i64 L.ls[k].b, .int .i64 L.ls[k].c] := by simp [lns, lnA, h1]
        rcases hB : arcsS F T 1000000 L d ++ laneArcs L d k with _ | ⟨b, r⟩
        all_goals
          rw [hB] at hkl
          simp only [List.length_cons, List.length_nil] at hkl
          simp only [net4, Int.toNat_natCast, e1, w4, w5, decide_false, w1, w2, w3, lns_length, ints_length, ar4_take1, ar4_length, ar4_cells, push_cast, ↓J1, ↓J2, N1, N2, N3, reduceCtorEq, N4, N5, N6, reduceIte, N7, I1, I2, I3]
          refine ifB_intro (fun _ => ?_) (fun h => by simp at h; omega)
          repeat (refine ⟨by omega, ?_⟩)
          refine hJx1 h1 trivial _ ?_
          rw [laneArcs_succ h1, ← List.append_assoc, hB, net4_snoc]
          (first | exact head_tb [(4, 2), (1, 1), (0, 0)] rfl (by simp only [keptV_cons, keptV_nil, tb_get, lk_same, lk_ne, lk_nil, ren, renL, lkp, N7, N1, N5, reduceIte, and_true, true_and, Nat.not_lt_zero, if_false, if_true, Nat.add_zero, Nat.zero_add]; (try rw [wrap64 (n := (k : Int) + 1) (by omega) (by omega)]); (first | done | (simp; done) | (and_intros <;> rfl))) (by simp only [net4, canR, canB, renO, renL, ren, lkp, hget, N7, N5, Nat.not_lt_zero, if_false, if_true, reduceIte, List.append_nil, List.nil_append]; (first | done | rfl | (rw [← ar4_snoc]; rfl))) | exact head_tb [(5, 2), (1, 1), (0, 0)] rfl (by simp only [keptV_cons, keptV_nil, tb_get, lk_same, lk_ne, lk_nil, ren, renL, lkp, N7, N1, N5, reduceIte, and_true, true_and, Nat.not_lt_zero, if_false, if_true, Nat.add_zero, Nat.zero_add]; (try rw [wrap64 (n := (k : Int) + 1) (by omega) (by omega)]); (first | done | (simp; done) | (and_intros <;> rfl))) (by simp only [net4, canR, canB, renO, renL, ren, lkp, hget, N7, N5, Nat.not_lt_zero, if_false, if_true, reduceIte, List.append_nil, List.nil_append]; (first | done | rfl | (rw [← ar4_snoc]; rfl))))
      · obtain rfl : k = L.ls.length := by omega
        rcases hB : arcsS F T 1000000 L d ++ laneArcs L d L.ls.length with _ | ⟨b, r⟩
        all_goals
          simp only [net4, decide_false, w1, w2, w3, lns_length, ints_length, ar4_take1, ar4_length, ar4_cells, push_cast, ↓J1, ↓J2, N1, N2, N3, reduceCtorEq, N4, N5, N6, reduceIte, N7, I1, I2, I3]
          refine ifB_intro (fun h => by simp at h) (fun h => ?_)
          refine RL_count (fun k => net4 101 [(1, .int .i64 F), (2, .int .i64 T), (3, .int .i64 (D : Int)), (4, .ptr 0 none 0 0 0), (9, .ptr 1 none 0 0 0), (10, .int .i64 (d : Int)), (11, .int .i64 ((d : Int) * L.d)), (12, .int .i64 (((d : Int) + 1) * L.d)), (67, .sl (ints L.st)), (68, .int .i64 (L.st.length : Int)), (69, .int .i64 (k : Int))] P0 (.var [.int .i64 L.d, .sl (lns L.ls), .sl (ints L.st)]) (arcsS F T 1000000 L d ++ laneArcs L d L.ls.length ++ storeArcs F T 1000000 L d k)) (fun _ => True) L.st.length 0 (by rw [show storeArcs F T 1000000 L d 0 = [] from rfl, List.append_nil, hB]; (first | exact head_tb [(1, 1), (0, 0)] rfl (by simp only [keptV_cons, keptV_nil, tb_get, lk_same, lk_ne, lk_nil, ren, renL, lkp, N7, N1, N5, reduceIte, and_true, true_and, Nat.not_lt_zero, if_false, if_true, Nat.add_zero, Nat.zero_add]; (try rw [wrap64 (by omega) (by omega)]); (first | done | (simp; done) | (and_intros <;> rfl))) (by simp only [net4, canR, canB, renO, renL, ren, lkp, hget, N7, N5, Nat.not_lt_zero, if_false, if_true, reduceIte, List.append_nil, List.nil_append]; (first | done | rfl | (rw [← ar4_snoc]; rfl))) | exact head_tb [(2, 2), (1, 1), (0, 0)] rfl (by simp only [keptV_cons, keptV_nil, tb_get, lk_same, lk_ne, lk_nil, ren, renL, lkp, N7, N1, N5, reduceIte, and_true, true_and, Nat.not_lt_zero, if_false, if_true, Nat.add_zero, Nat.zero_add]; (try rw [wrap64 (by omega) (by omega)]); (first | done | (simp; done) | (and_intros <;> rfl))) (by simp only [net4, canR, canB, renO, renL, ren, lkp, hget, N7, N5, Nat.not_lt_zero, if_false, if_true, reduceIte, List.append_nil, List.nil_append]; (first | done | rfl | (rw [← ar4_snoc]; rfl))))) (by omega) trivial fun k hk _ Jx2 hJx2 => ?_
          have hkl : (arcsS F T 1000000 L d ++ laneArcs L d L.ls.length ++ storeArcs F T 1000000 L d k).length ≤ 1000 := by
            have h1 := laneArcs_len L d L.ls.length
            have h2 := storeArcs_len (F := F) (T := T) (B := 1000000) L d k
            have := hL.n; have := hL.s
            simp only [List.length_append]; omega
          by_cases h2 : k < L.st.length
          · have hst := hL.st k h2
            have hs := hL.s
            have w4 : IntKind.i64.wrap ((d : Int) * L.d + k) = (d : Int) * L.d + k := wrap64 (by omega) (by omega)
            have w5 : IntKind.i64.wrap (((d : Int) + 1) * L.d + k) = ((d : Int) + 1) * L.d + k := wrap64 (by omega) (by omega)
            have e1 : (ints L.st)[k]? = some [.int .i64 (L.st.getD k 0)] := cut_ints_get h2
            rcases hC2 : arcsS F T 1000000 L d ++ laneArcs L d L.ls.length ++ storeArcs F T 1000000 L d k with _ | ⟨c, r2⟩
            all_goals
              rw [hC2] at hkl
              simp only [List.length_cons, List.length_nil] at hkl
              cases g1 : decide ((k : Int) = F) <;> cases g2 : decide ((k : Int) = T)
              all_goals
                have e9 : storeArc F T 1000000 L.d d L.st k = ⟨(d : Int) * L.d + k, ((d : Int) + 1) * L.d + k, if decide ((k : Int) = F) || decide ((k : Int) = T) then 1000000 else L.st.getD k 0⟩ := rfl
                simp only [g1, g2, Bool.or_self, Bool.or_true, Bool.true_or, Bool.or_false, Bool.false_or, Bool.false_eq_true, if_true, if_false] at e9
                simp only [net4, Int.toNat_natCast, e1, w4, w5, g1, g2, decide_false, w1, w2, w3, lns_length, ints_length, ar4_take1, ar4_length, ar4_cells, push_cast, ↓J1, ↓J2, N1, N2, N3, reduceCtorEq, N4, N5, N6, reduceIte, N7, I1, I2, I3]
                refine ifB_intro (fun _ => ?_) (fun h => by simp at h; omega)
                repeat (refine ⟨by omega, ?_⟩)
                refine hJx2 h2 trivial _ ?_
                rw [storeArcs_succ, e9, ← List.append_assoc, hC2, net4_snoc]
                (first | exact head_tb [(3, 2), (1, 1), (0, 0)] rfl (by simp only [keptV_cons, keptV_nil, tb_get, lk_same, lk_ne, lk_nil, ren, renL, lkp, N7, N1, N5, reduceIte, and_true, true_and, Nat.not_lt_zero, if_false, if_true, Nat.add_zero, Nat.zero_add]; (try rw [wrap64 (n := (k : Int) + 1) (by omega) (by omega)]); (first | done | (simp; done) | (and_intros <;> rfl))) (by simp only [net4, canR, canB, renO, renL, ren, lkp, hget, N7, N5, Nat.not_lt_zero, if_false, if_true, reduceIte, List.append_nil, List.nil_append]; (first | done | rfl | (rw [← ar4_snoc]; rfl))) | exact head_tb [(4, 2), (1, 1), (0, 0)] rfl (by simp only [keptV_cons, keptV_nil, tb_get, lk_same, lk_ne, lk_nil, ren, renL, lkp, N7, N1, N5, reduceIte, and_true, true_and, Nat.not_lt_zero, if_false, if_true, Nat.add_zero, Nat.zero_add]; (try rw [wrap64 (n := (k : Int) + 1) (by omega) (by omega)]); (first | done | (simp; done) | (and_intros <;> rfl))) (by simp only [net4, canR, canB, renO, renL, ren, lkp, hget, N7, N5, Nat.not_lt_zero, if_false, if_true, reduceIte, List.append_nil, List.nil_append]; (first | done | rfl | (rw [← ar4_snoc]; rfl))))
          · obtain rfl : k = L.st.length := by omega
            rcases hC2 : arcsS F T 1000000 L d ++ laneArcs L d L.ls.length ++ storeArcs F T 1000000 L d L.st.length with _ | ⟨c, r2⟩
            all_goals
              simp only [net4, push_cast, ↓J1, ↓J2, N1, N2, N3, reduceCtorEq, N4, N5, N6, reduceIte, N7, I1, I2, I3]
              refine ifB_intro (fun h => by simp at h) (fun h => ?_)
              refine hJ hdD2 trivial _ ?_
              rw [show arcsS F T 1000000 L (d + 1) = arcsS F T 1000000 L d ++ laneArcs L d L.ls.length ++ storeArcs F T 1000000 L d L.st.length from rfl, hC2]
              (first | exact head_tb [(1, 1), (0, 0)] rfl (by simp only [keptV_cons, keptV_nil, tb_get, lk_same, lk_ne, lk_nil, ren, renL, lkp, N7, N1, N5, reduceIte, and_true, true_and, Nat.not_lt_zero, if_false, if_true, Nat.add_zero, Nat.zero_add]; (try rw [wrap64 (n := (d : Int) + 1) (by omega) (by omega)]); (first | done | (simp; done) | (and_intros <;> rfl))) (by simp only [net4, canR, canB, renO, renL, ren, lkp, hget, N7, N5, Nat.not_lt_zero, if_false, if_true, reduceIte, List.append_nil, List.nil_append]; (first | done | rfl | (rw [← ar4_snoc]; rfl))) | exact head_tb [(2, 2), (1, 1), (0, 0)] rfl (by simp only [keptV_cons, keptV_nil, tb_get, lk_same, lk_ne, lk_nil, ren, renL, lkp, N7, N1, N5, reduceIte, and_true, true_and, Nat.not_lt_zero, if_false, if_true, Nat.add_zero, Nat.zero_add]; (try rw [wrap64 (n := (d : Int) + 1) (by omega) (by omega)]); (first | done | (simp; done) | (and_intros <;> rfl))) (by simp only [net4, canR, canB, renO, renL, ren, lkp, hget, N7, N5, Nat.not_lt_zero, if_false, if_true, reduceIte, List.append_nil, List.nil_append]; (first | done | rfl | (rw [← ar4_snoc]; rfl))))
  · obtain rfl : d = D := by omega
    rcases hA : arcsS F T 1000000 L d with _ | ⟨a, r0⟩
    · simp only [net4, push_cast, ↓J1, ↓J2, N1, N2, N3, reduceCtorEq, N4, N5, N6, reduceIte, N7, I1, I2, I3]
      refine ifB_intro (fun h => by simp at h) (fun h => ?_)
      exact ⟨.op [.nil, .int .i64 P0], _, by simp only [conR, conRL, isF, hget, hdel, if_true, if_false, reduceIte, Nat.reduceEqDiff, reduceCtorEq]; rfl, by simp [NilTo, NilToL, ar4]⟩
    · simp only [net4, push_cast, ↓J1, ↓J2, N1, N2, N3, reduceCtorEq, N4, N5, N6, reduceIte, N7, I1, I2, I3]
      refine ifB_intro (fun h => by simp at h) (fun h => ?_)
      exact RetTo_of (by simp only [conR, conRL, isF, hget, hdel, List.drop_zero, ar4_take1, if_true, if_false, reduceIte, Nat.reduceEqDiff, reduceCtorEq]; rfl)

end
end Go.Proofs.Ytiemjnkblggimaa.X
set_option maxHeartbeats 4000000
set_option maxRecDepth 8000
set_option linter.unusedSimpArgs false
set_option linter.unusedVariables false
open Nat renaming reduceBEq → N1, reduceAdd → N2, reduceSub → N3, reduceMul → N4, reduceEqDiff → N5, reduceLeDiff → N6, reduceLT → N7
open Int renaming reduceLE → I1, reduceLT → I2, reduceToNat → I3
namespace Go.Proofs.Ytiemjnkblggimaa.X
open Go
attribute [local irreducible] Ev
section
variable {C : CT} (hC : Closed Try.prog G0 md0 C)
include hC
omit hC in
theorem arcsL_len {L : Lanes} (h : LOk L) : ∀ d, (arcsL L d).length ≤ 15 * d
  | 0 => by simp [arcsL]
  | d + 1 => by
    have := arcsL_len h d
    have h1 := laneArcs_len L d L.ls.length
    have := h.n
    simp only [arcsL, List.length_append]; omega
omit hC in
theorem arcsT_len {F T B : Int} (L : Lanes) : ∀ d, (arcsT F T B L d).length ≤ L.st.length * d
  | 0 => by simp [arcsT]
  | d + 1 => by
    have := arcsT_len (F := F) (T := T) (B := B) L d
    have h2 := storeArcs_len (F := F) (T := T) (B := B) L d L.st.length
    simp only [arcsT, List.length_append, Nat.mul_add]; omega
theorem t56 (L : Lanes) (F T : Int) (D : Nat) (hD : D ≤ 6) (hL : LOk L) : Ev C 56 [L.av, .int .i64 F, .int .i64 T, .int .i64 D] (.op [.int .i64 (((D : Int) + 1) * L.d), .ow 5 (ar5 (arcsL L D ++ arcsT F T 1000000000 L D))]) := by
  have hd := hL.d
  have hn15 := hL.n
  have hsn := hL.s
  have hdD := mul_ok (d := (D : Int) + 1) ⟨by omega, by omega⟩ hd
  simp only [Lanes.av]
  refine rT hC Q56 ?_ (by simp only [ownR, ownRL, own_ar5, Bool.and_true])
  simp only [c56, push_cast, ↓J1, ↓J2, N1, N2, N3, reduceCtorEq, N4, N5, N6, reduceIte, N7, I1, I2, I3]
  rw [wrap64 (n := (D : Int) + 1) (by omega) (by omega), wrap64 (by omega) (by omega)]
  generalize ((D : Int) + 1) * L.d = P0
  generalize hR : arcsL L D ++ arcsT F T 1000000000 L D = Rr
  refine RL_count (fun d => net5 110 [(1, .int .i64 F), (2, .int .i64 T), (3, .int .i64 (D : Int)), (4, .ptr 0 none 0 0 0), (9, .ptr 1 none 0 0 0), (23, .int .i64 (D : Int)), (24, .int .i64 (d : Int))] P0 (.var [.int .i64 L.d, .sl (lns L.ls), .sl (ints L.st)]) (arcsL L d)) (fun _ => True) D 0 (by rw [show arcsL L 0 = [] from rfl]; exact (hdA [(1, 1), (0, 0)])) (by omega) trivial fun d hdl _ J hJ => ?_
  by_cases hdD2 : d < D
  · have hm0 := mul_ok (d := (d : Int)) ⟨by omega, by omega⟩ hd
    have hm1 := mul_ok (d := (d : Int) + 1) ⟨by omega, by omega⟩ hd
    have w1 : IntKind.i64.wrap ((d : Int) * L.d) = (d : Int) * L.d := wrap64 (by omega) (by omega)
    have w2 : IntKind.i64.wrap ((d : Int) + 1) = (d : Int) + 1 := wrap64 (by omega) (by omega)
    have w3 : IntKind.i64.wrap (((d : Int) + 1) * L.d) = ((d : Int) + 1) * L.d := wrap64 (by omega) (by omega)
    have hal := arcsL_len hL d
    rcases hA : arcsL L d with _ | ⟨a, r0⟩
    all_goals
      simp only [net5, decide_false, w1, w2, w3, lns_length, ints_length, ar5_take1, ar5_length, ar5_cells, push_cast, ↓J1, ↓J2, N1, N2, N3, reduceCtorEq, N4, N5, N6, reduceIte, N7, I1, I2, I3]
      refine ifB_intro (fun _ => ?_) (fun h => by simp at h; omega)
      refine RL_count (fun k => net5 110 [(1, .int .i64 F), (2, .int .i64 T), (3, .int .i64 (D : Int)), (4, .ptr 0 none 0 0 0), (9, .ptr 1 none 0 0 0), (23, .int .i64 (D : Int)), (24, .int .i64 (d : Int)), (10, .int .i64 (d : Int)), (28, .sl (lns L.ls)), (29, .int .i64 (L.ls.length : Int)), (30, .int .i64 (k : Int))] P0 (.var [.int .i64 L.d, .sl (lns L.ls), .sl (ints L.st)]) (arcsL L d ++ laneArcs L d k)) (fun _ => True) L.ls.length 0 (by rw [show laneArcs L d 0 = [] from rfl, List.append_nil, hA]; (first | exact head_tb [(1, 1), (0, 0)] rfl (by simp only [keptV_cons, keptV_nil, tb_get, lk_same, lk_ne, lk_nil, ren, renL, lkp, N7, N1, N5, reduceIte, and_true, true_and, Nat.not_lt_zero, if_false, if_true, Nat.add_zero, Nat.zero_add]; (try rw [wrap64 (by omega) (by omega)]); (first | done | (simp; done) | (and_intros <;> rfl))) (by simp only [net5, canR, canB, renO, renL, ren, lkp, hget, N7, N5, Nat.not_lt_zero, if_false, if_true, reduceIte, List.append_nil, List.nil_append]; (first | done | rfl | (rw [← ar5_snoc]; rfl))) | exact head_tb [(2, 2), (1, 1), (0, 0)] rfl (by simp only [keptV_cons, keptV_nil, tb_get, lk_same, lk_ne, lk_nil, ren, renL, lkp, N7, N1, N5, reduceIte, and_true, true_and, Nat.not_lt_zero, if_false, if_true, Nat.add_zero, Nat.zero_add]; (try rw [wrap64 (by omega) (by omega)]); (first | done | (simp; done) | (and_intros <;> rfl))) (by simp only [net5, canR, canB, renO, renL, ren, lkp, hget, N7, N5, Nat.not_lt_zero, if_false, if_true, reduceIte, List.append_nil, List.nil_append]; (first | done | rfl | (rw [← ar5_snoc]; rfl))))) (by omega) trivial fun k hk _ Jx1 hJx1 => ?_
      have hkl : (arcsL L d ++ laneArcs L d k).length ≤ 1000 := by
        have h1 := laneArcs_len L d k
        simp only [List.length_append]; omega
      by_cases h1 : k < L.ls.length
      · have hlk := hL.ls _ (List.getElem_mem h1)
        have w4 : IntKind.i64.wrap ((d : Int) * L.d + L.ls[k].a) = (d : Int) * L.d + L.ls[k].a := wrap64 (by omega) (by omega)
        have w5 : IntKind.i64.wrap (((d : Int) + 1) * L.d + L.ls[k].b) = ((d : Int) + 1) * L.d + L.ls[k].b := wrap64 (by omega) (by omega)
        have e1 : (lns L.ls)[k]? = some [.int .i64 L.ls[k].a, .int .i64 L.ls[k].b, .int .i64 L.ls[k].c] := by simp [lns, lnA, h1]
        rcases hB : arcsL L d ++ laneArcs L d k with _ | ⟨b, r⟩
        all_goals
          rw [hB] at hkl
          simp only [List.length_cons, List.length_nil] at hkl
          simp only [net5, Int.toNat_natCast, e1, w4, w5, decide_false, w1, w2, w3, lns_length, ints_length, ar5_take1, ar5_length, ar5_cells, push_cast, ↓J1, ↓J2, N1, N2, N3, reduceCtorEq, N4, N5, N6, reduceIte, N7, I1, I2, I3]
          refine ifB_intro (fun _ => ?_) (fun h => by simp at h; omega)
          repeat (refine ⟨by omega, ?_⟩)
          refine hJx1 h1 trivial _ ?_
          rw [laneArcs_succ h1, ← List.append_assoc, hB, net5_snoc]
          (first | exact head_tb [(4, 2), (1, 1), (0, 0)] rfl (by simp only [keptV_cons, keptV_nil, tb_get, lk_same, lk_ne, lk_nil, ren, renL, lkp, N7, N1, N5, reduceIte, and_true, true_and, Nat.not_lt_zero, if_false, if_true, Nat.add_zero, Nat.zero_add]; (try rw [wrap64 (n := (k : Int) + 1) (by omega) (by omega)]); (first | done | (simp; done) | (and_intros <;> rfl))) (by simp only [net5, canR, canB, renO, renL, ren, lkp, hget, N7, N5, Nat.not_lt_zero, if_false, if_true, reduceIte, List.append_nil, List.nil_append]; (first | done | rfl | (rw [← ar5_snoc]; rfl))) | exact head_tb [(5, 2), (1, 1), (0, 0)] rfl (by simp only [keptV_cons, keptV_nil, tb_get, lk_same, lk_ne, lk_nil, ren, renL, lkp, N7, N1, N5, reduceIte, and_true, true_and, Nat.not_lt_zero, if_false, if_true, Nat.add_zero, Nat.zero_add]; (try rw [wrap64 (n := (k : Int) + 1) (by omega) (by omega)]); (first | done | (simp; done) | (and_intros <;> rfl))) (by simp only [net5, canR, canB, renO, renL, ren, lkp, hget, N7, N5, Nat.not_lt_zero, if_false, if_true, reduceIte, List.append_nil, List.nil_append]; (first | done | rfl | (rw [← ar5_snoc]; rfl))))
      · obtain rfl : k = L.ls.length := by omega
        rcases hB : arcsL L d ++ laneArcs L d L.ls.length with _ | ⟨b, r⟩
        all_goals
          simp only [net5, decide_false, w1, w2, w3, lns_length, ints_length, ar5_take1, ar5_length, ar5_cells, push_cast, ↓J1, ↓J2, N1, N2, N3, reduceCtorEq, N4, N5, N6, reduceIte, N7, I1, I2, I3]
          refine ifB_intro (fun h => by simp at h) (fun h => ?_)
          refine hJ hdD2 trivial _ ?_
          rw [show arcsL L (d + 1) = arcsL L d ++ laneArcs L d L.ls.length from rfl, hB]
          (first | exact head_tb [(1, 1), (0, 0)] rfl (by simp only [keptV_cons, keptV_nil, tb_get, lk_same, lk_ne, lk_nil, ren, renL, lkp, N7, N1, N5, reduceIte, and_true, true_and, Nat.not_lt_zero, if_false, if_true, Nat.add_zero, Nat.zero_add]; (try rw [wrap64 (n := (d : Int) + 1) (by omega) (by omega)]); (first | done | (simp; done) | (and_intros <;> rfl))) (by simp only [net5, canR, canB, renO, renL, ren, lkp, hget, N7, N5, Nat.not_lt_zero, if_false, if_true, reduceIte, List.append_nil, List.nil_append]; (first | done | rfl | (rw [← ar5_snoc]; rfl))) | exact head_tb [(2, 2), (1, 1), (0, 0)] rfl (by simp only [keptV_cons, keptV_nil, tb_get, lk_same, lk_ne, lk_nil, ren, renL, lkp, N7, N1, N5, reduceIte, and_true, true_and, Nat.not_lt_zero, if_false, if_true, Nat.add_zero, Nat.zero_add]; (try rw [wrap64 (n := (d : Int) + 1) (by omega) (by omega)]); (first | done | (simp; done) | (and_intros <;> rfl))) (by simp only [net5, canR, canB, renO, renL, ren, lkp, hget, N7, N5, Nat.not_lt_zero, if_false, if_true, reduceIte, List.append_nil, List.nil_append]; (first | done | rfl | (rw [← ar5_snoc]; rfl))))
  · obtain rfl : D = d := by omega
    have hLl := arcsL_len hL D
    rcases hA : arcsL L D with _ | ⟨a, r0⟩
    all_goals
      simp only [net5, push_cast, ↓J1, ↓J2, N1, N2, N3, reduceCtorEq, N4, N5, N6, reduceIte, N7, I1, I2, I3]
      refine ifB_intro (fun h => by simp at h) (fun h => ?_)
      refine RL_count (fun d => net5 110 [(1, .int .i64 F), (2, .int .i64 T), (4, .ptr 0 none 0 0 0), (9, .ptr 1 none 0 0 0), (63, .int .i64 (D : Int)), (64, .int .i64 (d : Int))] P0 (.var [.int .i64 L.d, .sl (lns L.ls), .sl (ints L.st)]) (arcsL L D ++ arcsT F T 1000000000 L d)) (fun _ => True) D 0 (by rw [show arcsT F T 1000000000 L 0 = [] from rfl, List.append_nil, hA]; (first | exact head_tb [(1, 1), (0, 0)] rfl (by simp only [keptV_cons, keptV_nil, tb_get, lk_same, lk_ne, lk_nil, ren, renL, lkp, N7, N1, N5, reduceIte, and_true, true_and, Nat.not_lt_zero, if_false, if_true, Nat.add_zero, Nat.zero_add]; (try rw [wrap64 (by omega) (by omega)]); (first | done | (simp; done) | (and_intros <;> rfl))) (by simp only [net5, canR, canB, renO, renL, ren, lkp, hget, N7, N5, Nat.not_lt_zero, if_false, if_true, reduceIte, List.append_nil, List.nil_append]; (first | done | rfl | (rw [← ar5_snoc]; rfl))) | exact head_tb [(2, 2), (1, 1), (0, 0)] rfl (by simp only [keptV_cons, keptV_nil, tb_get, lk_same, lk_ne, lk_nil, ren, renL, lkp, N7, N1, N5, reduceIte, and_true, true_and, Nat.not_lt_zero, if_false, if_true, Nat.add_zero, Nat.zero_add]; (try rw [wrap64 (by omega) (by omega)]); (first | done | (simp; done) | (and_intros <;> rfl))) (by simp only [net5, canR, canB, renO, renL, ren, lkp, hget, N7, N5, Nat.not_lt_zero, if_false, if_true, reduceIte, List.append_nil, List.nil_append]; (first | done | rfl | (rw [← ar5_snoc]; rfl))))) (by omega) trivial fun d hdl2 _ J hJ => ?_
      by_cases hdD2 : d < D
      · have hm0 := mul_ok (d := (d : Int)) ⟨by omega, by omega⟩ hd
        have hm1 := mul_ok (d := (d : Int) + 1) ⟨by omega, by omega⟩ hd
        have w1 : IntKind.i64.wrap ((d : Int) * L.d) = (d : Int) * L.d := wrap64 (by omega) (by omega)
        have w2 : IntKind.i64.wrap ((d : Int) + 1) = (d : Int) + 1 := wrap64 (by omega) (by omega)
        have w3 : IntKind.i64.wrap (((d : Int) + 1) * L.d) = ((d : Int) + 1) * L.d := wrap64 (by omega) (by omega)
        have hal := arcsT_len (F := F) (T := T) (B := 1000000000) L d
        rcases hA : arcsL L D ++ arcsT F T 1000000000 L d with _ | ⟨a, r0⟩
        all_goals
          simp only [net5, decide_false, w1, w2, w3, lns_length, ints_length, ar5_take1, ar5_length, ar5_cells, push_cast, ↓J1, ↓J2, N1, N2, N3, reduceCtorEq, N4, N5, N6, reduceIte, N7, I1, I2, I3]
          refine ifB_intro (fun _ => ?_) (fun h => by simp at h; omega)
          refine RL_count (fun k => net5 110 [(1, .int .i64 F), (2, .int .i64 T), (4, .ptr 0 none 0 0 0), (9, .ptr 1 none 0 0 0), (63, .int .i64 (D : Int)), (64, .int .i64 (d : Int)), (13, .int .i64 (d : Int)), (68, .sl (ints L.st)), (69, .int .i64 (L.st.length : Int)), (70, .int .i64 (k : Int))] P0 (.var [.int .i64 L.d, .sl (lns L.ls), .sl (ints L.st)]) (arcsL L D ++ arcsT F T 1000000000 L d ++ storeArcs F T 1000000000 L d k)) (fun _ => True) L.st.length 0 (by rw [show storeArcs F T 1000000000 L d 0 = [] from rfl, List.append_nil, hA]; (first | exact head_tb [(1, 1), (0, 0)] rfl (by simp only [keptV_cons, keptV_nil, tb_get, lk_same, lk_ne, lk_nil, ren, renL, lkp, N7, N1, N5, reduceIte, and_true, true_and, Nat.not_lt_zero, if_false, if_true, Nat.add_zero, Nat.zero_add]; (try rw [wrap64 (by omega) (by omega)]); (first | done | (simp; done) | (and_intros <;> rfl))) (by simp only [net5, canR, canB, renO, renL, ren, lkp, hget, N7, N5, Nat.not_lt_zero, if_false, if_true, reduceIte, List.append_nil, List.nil_append]; (first | done | rfl | (rw [← ar5_snoc]; rfl))) | exact head_tb [(2, 2), (1, 1), (0, 0)] rfl (by simp only [keptV_cons, keptV_nil, tb_get, lk_same, lk_ne, lk_nil, ren, renL, lkp, N7, N1, N5, reduceIte, and_true, true_and, Nat.not_lt_zero, if_false, if_true, Nat.add_zero, Nat.zero_add]; (try rw [wrap64 (by omega) (by omega)]); (first | done | (simp; done) | (and_intros <;> rfl))) (by simp only [net5, canR, canB, renO, renL, ren, lkp, hget, N7, N5, Nat.not_lt_zero, if_false, if_true, reduceIte, List.append_nil, List.nil_append]; (first | done | rfl | (rw [← ar5_snoc]; rfl))))) (by omega) trivial fun k hk _ Jx2 hJx2 => ?_
          have hkl : (arcsL L D ++ arcsT F T 1000000000 L d ++ storeArcs F T 1000000000 L d k).length ≤ 1000 := by
            have h2 := storeArcs_len (F := F) (T := T) (B := 1000000000) L d k
            have h6 : L.st.length * d ≤ 6 * 6 := Nat.mul_le_mul (by omega) (by omega)
            simp only [List.length_append]; omega
          by_cases h2 : k < L.st.length
          · have hst := hL.st k h2
            have w4 : IntKind.i64.wrap ((d : Int) * L.d + k) = (d : Int) * L.d + k := wrap64 (by omega) (by omega)
            have w5 : IntKind.i64.wrap (((d : Int) + 1) * L.d + k) = ((d : Int) + 1) * L.d + k := wrap64 (by omega) (by omega)
            have e1 : (ints L.st)[k]? = some [.int .i64 (L.st.getD k 0)] := cut_ints_get h2
            rcases hC2 : arcsL L D ++ arcsT F T 1000000000 L d ++ storeArcs F T 1000000000 L d k with _ | ⟨c, r2⟩
            all_goals
              rw [hC2] at hkl
              simp only [List.length_cons, List.length_nil] at hkl
              cases g1 : decide ((k : Int) = F) <;> cases g2 : decide ((k : Int) = T)
              all_goals
                have e9 : storeArc F T 1000000000 L.d d L.st k = ⟨(d : Int) * L.d + k, ((d : Int) + 1) * L.d + k, if decide ((k : Int) = F) || decide ((k : Int) = T) then 1000000000 else L.st.getD k 0⟩ := rfl
                simp only [g1, g2, Bool.or_self, Bool.or_true, Bool.true_or, Bool.or_false, Bool.false_or, Bool.false_eq_true, if_true, if_false] at e9
                simp only [net5, Int.toNat_natCast, e1, w4, w5, g1, g2, decide_false, w1, w2, w3, lns_length, ints_length, ar5_take1, ar5_length, ar5_cells, push_cast, ↓J1, ↓J2, N1, N2, N3, reduceCtorEq, N4, N5, N6, reduceIte, N7, I1, I2, I3]
                refine ifB_intro (fun _ => ?_) (fun h => by simp at h; omega)
                repeat (refine ⟨by omega, ?_⟩)
                refine hJx2 h2 trivial _ ?_
                rw [storeArcs_succ, e9, ← List.append_assoc, hC2, net5_snoc]
                (first | exact head_tb [(3, 2), (1, 1), (0, 0)] rfl (by simp only [keptV_cons, keptV_nil, tb_get, lk_same, lk_ne, lk_nil, ren, renL, lkp, N7, N1, N5, reduceIte, and_true, true_and, Nat.not_lt_zero, if_false, if_true, Nat.add_zero, Nat.zero_add]; (try rw [wrap64 (n := (k : Int) + 1) (by omega) (by omega)]); (first | done | (simp; done) | (and_intros <;> rfl))) (by simp only [net5, canR, canB, renO, renL, ren, lkp, hget, N7, N5, Nat.not_lt_zero, if_false, if_true, reduceIte, List.append_nil, List.nil_append]; (first | done | rfl | (rw [← ar5_snoc]; rfl))) | exact head_tb [(4, 2), (1, 1), (0, 0)] rfl (by simp only [keptV_cons, keptV_nil, tb_get, lk_same, lk_ne, lk_nil, ren, renL, lkp, N7, N1, N5, reduceIte, and_true, true_and, Nat.not_lt_zero, if_false, if_true, Nat.add_zero, Nat.zero_add]; (try rw [wrap64 (n := (k : Int) + 1) (by omega) (by omega)]); (first | done | (simp; done) | (and_intros <;> rfl))) (by simp only [net5, canR, canB, renO, renL, ren, lkp, hget, N7, N5, Nat.not_lt_zero, if_false, if_true, reduceIte, List.append_nil, List.nil_append]; (first | done | rfl | (rw [← ar5_snoc]; rfl))))
          · obtain rfl : k = L.st.length := by omega
            rcases hC2 : arcsL L D ++ arcsT F T 1000000000 L d ++ storeArcs F T 1000000000 L d L.st.length with _ | ⟨c, r2⟩
            all_goals
              simp only [net5, push_cast, ↓J1, ↓J2, N1, N2, N3, reduceCtorEq, N4, N5, N6, reduceIte, N7, I1, I2, I3]
              refine ifB_intro (fun h => by simp at h) (fun h => ?_)
              refine hJ hdD2 trivial _ ?_
              rw [show arcsT F T 1000000000 L (d + 1) = arcsT F T 1000000000 L d ++ storeArcs F T 1000000000 L d L.st.length from rfl, ← List.append_assoc, hC2]
              (first | exact head_tb [(1, 1), (0, 0)] rfl (by simp only [keptV_cons, keptV_nil, tb_get, lk_same, lk_ne, lk_nil, ren, renL, lkp, N7, N1, N5, reduceIte, and_true, true_and, Nat.not_lt_zero, if_false, if_true, Nat.add_zero, Nat.zero_add]; (try rw [wrap64 (n := (d : Int) + 1) (by omega) (by omega)]); (first | done | (simp; done) | (and_intros <;> rfl))) (by simp only [net5, canR, canB, renO, renL, ren, lkp, hget, N7, N5, Nat.not_lt_zero, if_false, if_true, reduceIte, List.append_nil, List.nil_append]; (first | done | rfl | (rw [← ar5_snoc]; rfl))) | exact head_tb [(2, 2), (1, 1), (0, 0)] rfl (by simp only [keptV_cons, keptV_nil, tb_get, lk_same, lk_ne, lk_nil, ren, renL, lkp, N7, N1, N5, reduceIte, and_true, true_and, Nat.not_lt_zero, if_false, if_true, Nat.add_zero, Nat.zero_add]; (try rw [wrap64 (n := (d : Int) + 1) (by omega) (by omega)]); (first | done | (simp; done) | (and_intros <;> rfl))) (by simp only [net5, canR, canB, renO, renL, ren, lkp, hget, N7, N5, Nat.not_lt_zero, if_false, if_true, reduceIte, List.append_nil, List.nil_append]; (first | done | rfl | (rw [← ar5_snoc]; rfl))))
      · obtain rfl : D = d := by omega
        rcases hB : arcsL L D ++ arcsT F T 1000000000 L D with _ | ⟨a, r0⟩
        · rw [hB] at hR; subst hR
          simp only [net5, push_cast, ↓J1, ↓J2, N1, N2, N3, reduceCtorEq, N4, N5, N6, reduceIte, N7, I1, I2, I3]
          refine ifB_intro (fun h => by simp at h) (fun h => ?_)
          exact ⟨.op [.int .i64 P0, .nil], _, by simp only [conR, conRL, isF, hget, hdel, if_true, if_false, reduceIte, Nat.reduceEqDiff, reduceCtorEq]; rfl, by simp only [NilTo, NilToL]; exact ⟨_, rfl, _, _, rfl, rfl, _, _, rfl, .inr ⟨5, rfl⟩, rfl⟩⟩
        · rw [hB] at hR; subst hR
          simp only [net5, push_cast, ↓J1, ↓J2, N1, N2, N3, reduceCtorEq, N4, N5, N6, reduceIte, N7, I1, I2, I3]
          refine ifB_intro (fun h => by simp at h) (fun h => ?_)
          exact RetTo_of (by simp only [conR, conRL, isF, hget, hdel, List.drop_zero, ar5_take1, if_true, if_false, reduceIte, Nat.reduceEqDiff, reduceCtorEq]; rfl)
end
end Go.Proofs.Ytiemjnkblggimaa.X
