/- A part of the proof: lemmas on the machine or on the functions that the law reaches. No condition of its own. -/
import Derived.Test.YtiemjnkblggimaaXM5
import Derived.Test.YtiemjnkblggimaaXP3
import Derived.WalkKit
import Derived.Deep.RegionLaw
import Derived.Test.YtiemjnkblggimaaXP6
set_option linter.unusedVariables false
set_option linter.unusedSimpArgs false
open Nat renaming reduceBEq → N1, reduceAdd → N2, reduceSub → N3, reduceMul → N4, reduceEqDiff → N5, reduceLeDiff → N6, reduceLT → N7
open Int renaming reduceLE → I1, reduceLT → I2, reduceToNat → I3
namespace Go.Proofs.Ytiemjnkblggimaa.X
open Go Go.RowKit
theorem zeroCells_rep {zero : Array Value} {sz n : Nat} {z : Value} (h : zero = Array.replicate sz z) (hs : 0 < sz) : (Builtin.zeroCells zero n).toList = List.replicate (n * sz) z := by
  subst h
  simp only [Builtin.zeroCells, Array.size_replicate, Array.toList_map, Array.toList_range]
  refine List.ext_getElem (by simp) fun k h1 h2 => ?_
  simp only [List.getElem_map, List.getElem_range, List.getElem_replicate]
  rw [getElem!_pos _ _ (by simp only [Array.size_replicate]; exact Nat.mod_lt _ hs), Array.getElem_replicate]
theorem run_clear_cells {P : Program} (w : World) (t e ty : TypeId) (z : Value) (ht : P.underlying t = some (.slice e)) (hv : ∀ w, (zeroValue e).run P w = .ok z w) (b o n c : Nat) (hn : 0 < n) (zs : List Value) (hzs : (Builtin.zeroCells z.cells n).toList = zs) (h1 : ∀ v ∈ zs, v.oneCell' = true)
    (hc : ∀ j, j < zs.length → (w.cell? ⟨b, o + j, none⟩).isSome = true) (hf : ∀ j, j < zs.length → w.frozen? ⟨b, o + j, none⟩ = false) :
    (Builtin.clear_ #[t] ty #[.slice (some ⟨b, o, none⟩) n c]).run P w = .ok (.tuple #[]) (w.setCells b o zs) := by
  have hst := run_storeCells_cells (P := P) b o zs 0 w (by simpa using hc) (by simpa using hf) h1
  simp only [Nat.add_zero] at hst
  obtain ⟨m, rfl⟩ : ∃ m, n = m + 1 := ⟨n - 1, by omega⟩
  simp [Builtin.clear_, run_underlying ht, hv, hzs, hst]
theorem ints_scD (l : List Int) : allScs (ints l) = true := by
  unfold ints
  induction l with
  | nil => rfl
  | cons x l ih => simp only [List.map_cons, allScs, allSc, isSc, Bool.and_true, Bool.true_and]; exact ih
theorem lns_scD (l : List Ln) : allScs (lns l) = true := by
  unfold lns
  induction l with
  | nil => rfl
  | cons x l ih => simp only [List.map_cons, lnA, allScs, allSc, isSc, Bool.and_true, Bool.true_and]; exact ih
theorem delLaneInfo : (Try.prog.info? 75).map (fun i => (i.zero, i.size, i.bytes)) = some (some (Value.agg #[Value.int .i64 0, Value.int .i64 0, Value.int .i64 0]), 3, 24) := by kernel_rfl
set_option maxHeartbeats 4000000 in
set_option maxRecDepth 1000000 in
theorem delLane_walk : DelW Try.prog 50 3 := by
  intro b off cap i j n vs w hvl h1 hc hf hcap hm hij hj
  obtain ⟨i0, hi0, hz0, hz1, hz2⟩ := info_parts delLaneInfo
  obtain ⟨news, hnews⟩ : ∃ news, news = vs.drop (j * 3) := ⟨_, rfl⟩
  have hlen : news.length = (n - j) * 3 := by rw [hnews, List.length_drop, hvl, ← Nat.sub_mul]
  have hget : ∀ t u, news[t]? = some u → vs[j * 3 + t]? = some u := by
    intro t u hu
    rw [hnews, List.getElem?_drop] at hu
    exact hu
  obtain ⟨A, hA, hsrc⟩ : ∃ A : Addr, (if cap = j then some (⟨b, off, none⟩ : Addr) else some ⟨b, off + j * 3, none⟩) = some A ∧ Hid (∀ t u, news[t]? = some u → w.drew.cell? (A.add t) = some u) := by
    by_cases h : cap = j
    · refine ⟨⟨b, off, none⟩, by simp [h], fun t u hu => ?_⟩
      have h0 : news.length = 0 := by rw [hlen]; omega
      rw [List.length_eq_zero_iff.1 h0] at hu
      simp at hu
    · refine ⟨⟨b, off + j * 3, none⟩, by simp [h], fun t u hu => ?_⟩
      rw [Addr.add_lit, Nat.add_assoc]
      exact hc _ _ (hget t u hu)
  have s2 : Hid (∀ u ∈ news, u.oneCell' = true) := fun u hu => h1 u (List.mem_of_mem_drop (hnews ▸ hu))
  have s1 : Hid (news.length = (n - j) * 3) := hlen
  have s3 : Hid (∀ t, t < news.length → (w.drew.cell? ⟨b, off + i * 3 + t, none⟩).isSome = true ∧ w.drew.frozen? ⟨b, off + i * 3 + t, none⟩ = false) := by
    intro t ht
    rw [hlen] at ht
    have hlt : i * 3 + t < vs.length := by omega
    rw [Nat.add_assoc]
    exact ⟨by show (w.cell? _).isSome = true; rw [hc _ _ (List.getElem?_eq_getElem hlt)]; rfl, hf _ hlt⟩
  obtain ⟨W1, hW1⟩ : ∃ W1, W1 = w.drew.setCells b (off + i * 3) news := ⟨_, rfl⟩
  rw [← hnews, ← hW1]
  have hcl : ∀ ty, (Builtin.clear_ #[27] ty #[.slice (some ⟨b, off + (i + (n - j)) * 3, none⟩) (n - (i + (n - j))) (cap - (i + (n - j)))]).run Try.prog W1 = .ok (.tuple #[]) (W1.setCells b (off + (i + (n - j)) * 3) (List.replicate ((j - i) * 3) (.int .i64 0))) := by
    intro ty
    have hz : (Builtin.zeroCells (Value.agg #[Value.int .i64 0, Value.int .i64 0, Value.int .i64 0]).cells (n - (i + (n - j)))).toList = List.replicate ((j - i) * 3) (.int .i64 0) := by
      rw [show n - (i + (n - j)) = j - i by omega]
      exact zeroCells_rep (n := j - i) (show (Value.agg #[Value.int .i64 0, Value.int .i64 0, Value.int .i64 0]).cells = Array.replicate 3 (.int .i64 0) from rfl) (by omega)
    have hW1c : ∀ t, t < n * 3 → (W1.cell? ⟨b, off + t, none⟩).isSome = true := by
      intro t ht
      rw [hW1]
      by_cases h : t < i * 3 ∨ i * 3 + (n - j) * 3 ≤ t
      · rw [World.cell?_setCells_out b news (off + i * 3) w.drew ⟨b, off + t, none⟩ (fun _ _ => by simp only; omega)]
        show (w.cell? _).isSome = true
        rw [hc _ _ (List.getElem?_eq_getElem (show t < vs.length by omega))]; rfl
      · obtain ⟨q, rfl⟩ : ∃ q, t = i * 3 + q := ⟨t - i * 3, by omega⟩
        rw [← Nat.add_assoc, World.cell?_setCells_in b news (off + i * 3) w.drew (fun t ht => (s3.out t ht).1) q (by omega)]; rfl
    have hW1f : ∀ t, t < n * 3 → W1.frozen? ⟨b, off + t, none⟩ = false := by
      intro t ht
      rw [hW1, World.frozen?_setCells]
      exact hf t (by omega)
    refine run_clear_cells W1 _ 75 ty _ Try.underlying27 Try.zeroValue75 b _ _ _ (by omega) _ hz (fun v hv => by rw [List.eq_of_mem_replicate hv]; rfl) (fun t ht => ?_) (fun t ht => ?_)
    · rw [List.length_replicate] at ht
      rw [Nat.add_assoc]; exact hW1c _ (by omega)
    · rw [List.length_replicate] at ht
      rw [Nat.add_assoc]; exact hW1f _ (by omega)
  have hW : Hid (W1 = w.drew.setCells b (off + i * 3) news) := hW1
  have hic : i ≤ cap := by omega
  have hjc : j ≤ cap := by omega
  clear hW1 hget hnews hlen hc hf h1 hvl
  go_enter Try.func50, Try.ntmps50
  go_wp2_with fail
  go_region_law (refine step_append_room rfl (.tmp 22) (.tmp 25) 27 rfl 75 i0 3 Try.underlying27 hi0 hz1 b off i cap (by simp [Act.eval, Act.put]) A (n - j) (cap - j) news (by simp [Act.eval, Act.put]) s1.out hsrc.out s2.out (by omega) s3.out ?_; rw [← hW.out])
  go_wp2
  go_ret
  exact ⟨rfl, rfl⟩
theorem delLane_cs (l : List Ln) (i j : Nat) (h : Heap) (id nx : Nat) (hg : hget h id = some (.slice 3 (lns l))) (hij : i < j) (hj : j ≤ l.length) : CS Try.prog G0 50 [.ref id none 3 0 l.length, .int .i64 i, .int .i64 j] h nx fun v h' n' => v = .ref id none 3 0 (i + (l.length - j)) ∧ h' = hset h id (.slice 3 (lns (l.take i ++ l.drop j ++ List.replicate (j - i) ⟨0, 0, 0⟩))) ∧ n' = nx := by
  have e := del_cs (G := G0) ⟨_, Try.func50, by simp [Try.f50], by simp [Try.f50]⟩ delLane_walk hg (lns_scD l) hij (by rw [lns_length]; exact hj) (nx := nx)
  rw [lns_length] at e
  have e2 : (lns l).take i ++ (lns l).drop j ++ List.replicate (j - i) (zeroE 3) = lns (l.take i ++ l.drop j ++ List.replicate (j - i) ⟨0, 0, 0⟩) := by
    simp only [lns, List.map_append, List.map_take, List.map_drop, List.map_replicate]; rfl
  rwa [e2] at e
end Go.Proofs.Ytiemjnkblggimaa.X
set_option maxHeartbeats 4000000
set_option maxRecDepth 8000
set_option linter.unusedSimpArgs false
set_option linter.unusedSectionVars false
set_option linter.unusedVariables false
open Nat renaming reduceBEq → N1, reduceAdd → N2, reduceSub → N3, reduceMul → N4, reduceEqDiff → N5, reduceLeDiff → N6, reduceLT → N7
open Int renaming reduceLE → I1, reduceLT → I2, reduceToNat → I3
namespace Go.Proofs.Ytiemjnkblggimaa.X
open Go
attribute [local irreducible] Ev fE
def Lanes.wo (L : Lanes) (i : Nat) : Lanes := ⟨L.d, L.ls.eraseIdx i, L.st⟩
def DelL (C : CT) : Prop := ∀ (l : List Ln) (i j : Nat) (h : Heap) (id nx : Nat), hget h id = some (.slice 3 (lns l)) → i < j → j ≤ l.length → C 50 [.ref id none 3 0 l.length, .int .i64 i, .int .i64 j] h nx fun v h' n' => v = .ref id none 3 0 (i + (l.length - j)) ∧ h' = hset h id (.slice 3 (lns (l.take i ++ l.drop j ++ List.replicate (j - i) ⟨0, 0, 0⟩))) ∧ n' = nx
theorem lns_all (l : List Ln) : (lns l).all (fun e => e.length == 3) = true := List.all_eq_true.2 (by simp [lns, lnA])
theorem wo_take {l : List Ln} {i : Nat} (h : i < l.length) : List.take (i + (l.length - (i + 1))) (lns (l.take i ++ l.drop (i + 1) ++ List.replicate (i + 1 - i) ⟨0, 0, 0⟩)) = lns (l.eraseIdx i) := by
  rw [List.eraseIdx_eq_take_drop_succ]
  simp only [lns, ← List.map_take]
  rw [List.take_append_of_le_length (by simp; omega), List.take_of_length_le (by simp; omega)]
theorem RetTo_nil {h h2 : Heap} {v r0 r : AV} (hc : conR 8 h v = some (r0, h2)) (hn : NilTo r0 r) : RetTo h v r := ⟨r0, h2, hc, hn⟩
theorem NilTo_nl {sz : Nat} : NilTo .nil (.ow sz []) := by
  simp only [NilTo]; exact .inr ⟨sz, rfl⟩
theorem NilToL_nil : NilToL [] [] := by simp [NilToL]
theorem NilToL_cons {x y : AV} {xs ys : List AV} (h : NilTo x y) (hs : NilToL xs ys) : NilToL (x :: xs) (y :: ys) := by simp only [NilToL]; exact ⟨y, ys, rfl, h, hs⟩
theorem NilTo_tup {xs ys : List AV} (h : NilToL xs ys) : NilTo (.tup xs) (.tup ys) := by
  simp only [NilTo]; exact ⟨ys, rfl, h⟩
theorem NilTo_agg {xs ys : List AV} (h : NilToL xs ys) : NilTo (.agg xs) (.agg ys) := by
  simp only [NilTo]; exact ⟨ys, rfl, h⟩
def woF (l : List Ln) (i k : Nat) : List Ln := (l.take k).eraseIdx i
theorem woF_zero {l : List Ln} {i : Nat} : woF l i 0 = [] := by simp [woF]
theorem woF_end {l : List Ln} {i : Nat} : woF l i l.length = l.eraseIdx i := by simp [woF]
theorem woF_le {l : List Ln} {i k : Nat} : (woF l i k).length ≤ k := by
  have := List.length_eraseIdx_le (l.take k) i
  simp only [List.length_take] at this
  simp only [woF]; omega
theorem woF_same {l : List Ln} {i : Nat} (h : i < l.length) : woF l i (i + 1) = woF l i i := by
  simp only [woF]
  rw [List.eraseIdx_eq_take_drop_succ, List.eraseIdx_of_length_le (by simp; omega), List.take_take, List.drop_eq_nil_of_le (by simp; omega), List.append_nil, Nat.min_eq_left (by omega)]
theorem woF_succ {l : List Ln} {i k : Nat} (h : k < l.length) (hn : k ≠ i) : woF l i (k + 1) = woF l i k ++ [l[k]] := by
  simp only [woF]
  rw [List.take_succ_eq_append_getElem h]
  rcases Nat.lt_or_ge i k with h1 | h1
  · rw [List.eraseIdx_append_of_lt_length (by simp; omega)]
  · rw [List.eraseIdx_of_length_le (by simp; omega), List.eraseIdx_of_length_le (by simp; omega)]
def woS (V : List (Nat × AV)) (d : Int) (st : List Int) (L0 R0 : Ob) : List Ln → St
  | [] => ⟨tb 33 .any V, [(3, .slice 1 (ints st)), (2, .var [.int .i64 d, .nil, .ref 3 none 1 0 st.length]), (1, R0), (0, L0)], 4⟩
  | a :: r => ⟨tb 33 .any V, [(4, .slice 3 (lns (a :: r))), (3, .slice 1 (ints st)), (2, .var [.int .i64 d, .ref 4 none 3 0 (r.length + 1), .ref 3 none 1 0 st.length]), (1, R0), (0, L0)], 5⟩
theorem woS_snoc {V : List (Nat × AV)} {d : Int} {st : List Int} {L0 R0 : Ob} {l : List Ln} {a : Ln} : woS V d st L0 R0 (l ++ [a]) = ⟨tb 33 .any V, [(4, .slice 3 (lns (l ++ [a]))), (3, .slice 1 (ints st)), (2, .var [.int .i64 d, .ref 4 none 3 0 (l.length + 1), .ref 3 none 1 0 st.length]), (1, R0), (0, L0)], 5⟩ := by
  cases l with
  | nil => rfl
  | cons x l => simp only [List.cons_append, woS, List.length_append, List.length_cons, List.length_nil]
theorem lns_sn (l : List Ln) (a : Ln) : lns l ++ [[.int .i64 a.a, .int .i64 a.b, .int .i64 a.c]] = lns (l ++ [a]) := by simp [lns, lnA]
theorem lns_take1 (a : Ln) (r : List Ln) : List.take (r.length + 1) (lns (a :: r)) = lns (a :: r) := List.take_of_length_le (by simp [lns])
section
variable {C : CT} (hC : Closed Try.prog G0 md0 C)
include hC
theorem t51 (l : List Ln) (hl : l.length < 2^40) : Ev C 51 [.sl (lns l)] (.ow 3 (lns l)) := by
  refine rT hC Q51 ?_ (own_lns _)
  simp only [c51, lns_length, push_cast, ↓J1, ↓J2, N1, N2, N3, reduceCtorEq, N4, N5, N6, reduceIte, N7, I1, I2, I3]
  intro b hb0
  cases b
  · simp only [lns_all, if_true, lns_length, push_cast, ↓J1, ↓J2, N1, N2, N3, reduceCtorEq, N4, N5, N6, reduceIte, N7, I1, I2, I3]
    repeat (refine ⟨by omega, ?_⟩)
    exact RetTo_ow rfl (by rw [lns_length])
  · have := hb0 rfl
    simp only [push_cast, ↓J1, ↓J2, N1, N2, N3, reduceCtorEq, N4, N5, N6, reduceIte, N7, I1, I2, I3]
    exact RetTo_nil (r0 := .nil) (h2 := []) (by simp [conR, isF]) (by rw [this]; exact NilTo_nl)
theorem t52 (l : List Int) (hl : l.length < 2^40) : Ev C 52 [.sl (ints l)] (.ow 1 (ints l)) := by
  refine rT hC Q52 ?_ (own_ints l)
  simp only [c52, push_cast, ↓J1, ↓J2, N1, N2, N3, reduceCtorEq, N4, N5, N6, reduceIte, N7, I1, I2, I3]
  intro b hb
  have e : ((ints l).all fun e => e.length == 1) = true := by simp [ints]
  cases b
  · simp only [e, if_true, ints_length, push_cast, ↓J1, ↓J2, N1, N2, N3, reduceCtorEq, N4, N5, N6, reduceIte, N7, I1, I2, I3]
    repeat (refine ⟨by omega, ?_⟩)
    exact RetTo_ow rfl (by rw [ints_length])
  · have := hb rfl
    simp only [push_cast, ↓J1, ↓J2, N1, N2, N3, reduceCtorEq, N4, N5, N6, reduceIte, N7, I1, I2, I3]
    exact RetTo_nil (r0 := .nil) (h2 := []) (by simp [conR, isF]) (by rw [this]; exact NilTo_nl)
omit hC in
theorem wo_own (L : Lanes) (i : Nat) : ownR (L.wo i).ow = true := by
  have e1 := own_lns (L.wo i).ls
  have e2 := own_ints (L.wo i).st
  simp only [ownR] at e1 e2
  simp only [Lanes.ow, ownR, ownRL, e1, e2, Bool.and_true]
theorem t32 (hD : DelL C) (L : Lanes) (i : Nat) (hi : i < L.ls.length) (h1 : L.ls.length < 2^40) (h2 : L.st.length < 2^40) : Ev C 32 [L.av, .int .i64 i] (L.wo i).ow := by
  have c1 := t51 hC L.ls h1
  have c2 := t52 hC L.st h2
  have c3 : ∀ h id nx, hget h id = some (.slice 3 (lns L.ls)) → _ := fun h id nx hg => hD L.ls i (i + 1) h id nx hg (by omega) (by omega)
  simp only [Int.natCast_add, Int.cast_ofNat_Int] at c3
  have w1 : IntKind.i64.wrap ((i : Int) + 1) = (i : Int) + 1 := wrap64 (by omega) (by omega)
  have tk := wo_take hi
  have tk2 : List.take L.st.length (ints L.st) = ints L.st := List.take_of_length_le (by rw [ints_length]; omega)
  have ho := wo_own L i
  simp only [Lanes.av, Lanes.ow, Lanes.wo] at *
  refine rT hC Q32 ?_ (ho)
  simp only [c32, w1, push_cast, ↓J1, ↓J2, N1, N2, N3, reduceCtorEq, N4, N5, N6, reduceIte, N7, I1, I2, I3]
  repeat' (first
    | refine ⟨_, c1, ?_⟩
    | refine ⟨_, c2, ?_⟩
    | (refine ⟨_, c3 _ _ _ rfl, ?_⟩; rintro v h' n' ⟨rfl, rfl, rfl⟩ _)
    | simp only [lns_length, ints_length, w1, push_cast, ↓J1, ↓J2, N1, N2, N3, reduceCtorEq, N4, N5, N6, reduceIte, N7, I1, I2, I3]
    | refine And.intro ?_ ?_)
  all_goals exact RetTo_of (by simp only [conR, conRL, isF, hget, hdel, List.drop_zero, List.take_length, if_true, if_false, reduceIte, N5, reduceCtorEq, tk, tk2]; rfl)
theorem t45 (q : List Int) (hq : q.length < 2^40) : Ev C 45 [.sl (ints q)] (.ow 1 (ints q)) := by
  have hb : (ints q).all (fun e => e.length == 1) = true := List.all_eq_true.2 (by simp [ints])
  refine rT hC Q45 ?_ (by simp only [own_ints])
  simp only [c45, ints_length, hb, push_cast, ↓J1, ↓J2, N1, N2, N3, reduceCtorEq, N4, N5, N6, reduceIte, N7, I1, I2, I3]
  have tku : List.take q.length (ints q) = ints q := List.take_of_length_le (by rw [ints_length]; omega)
  and_intros
  all_goals first
    | omega
    | skip
  all_goals exact RetTo_of (by simp only [conR, conRL, isF, hget, hdel, List.drop_zero, List.take_length, if_true, if_false, reduceIte, N5, reduceCtorEq, tku]; rfl)
theorem t27 (L : Lanes) (i : Nat) (hi : i < L.ls.length) (h1 : L.ls.length < 2^40) (h2 : L.st.length < 2^40) : Ev C 27 [L.av, .int .i64 i] (L.wo i).ow := by
  have c2 := t45 hC L.st h2
  have ho := wo_own L i
  have tk2 : List.take L.st.length (ints L.st) = ints L.st := List.take_of_length_le (by rw [ints_length]; omega)
  simp only [Lanes.av, Lanes.ow, Lanes.wo] at *
  refine rT hC Q27 ?_ (ho)
  simp only [c27, lns_length, ints_length, push_cast, ↓J1, ↓J2, N1, N2, N3, reduceCtorEq, N4, N5, N6, reduceIte, N7, I1, I2, I3]
  repeat' (first
    | refine ⟨_, c2, ?_⟩
    | simp only [lns_length, ints_length, push_cast, ↓J1, ↓J2, N1, N2, N3, reduceCtorEq, N4, N5, N6, reduceIte, N7, I1, I2, I3]
    | refine And.intro ?_ ?_)
  all_goals
    refine RL_count (fun k => woS [(1, .int .i64 (i : Int)), (4, .ptr 1 none 0 0 0), (5, .ptr 2 none 0 0 0), (15, .sl (lns L.ls)), (16, .int .i64 (L.ls.length : Int)), (17, .int .i64 (k : Int))] L.d L.st (.var [.int .i64 L.d, .sl (lns L.ls), .sl (ints L.st)]) (.var [.int .i64 0, .nil, .nil]) (woF L.ls i k)) (fun _ => True) L.ls.length 0 (by rw [woF_zero]; (first | exact (hdA [(2, 3), (3, 2), (1, 1), (0, 0)]) | exact (hdA [(3, 3), (2, 2), (1, 1), (0, 0)]))) (by omega) trivial fun k hk _ J hJ => ?_
    have hkl : (woF L.ls i k).length ≤ k := woF_le
    by_cases h3 : k < L.ls.length
    · have e1 : (lns L.ls)[k]? = some [.int .i64 L.ls[k].a, .int .i64 L.ls[k].b, .int .i64 L.ls[k].c] := by simp [lns, lnA, h3]
      have w3 : IntKind.i64.wrap ((k : Int) + 1) = (k : Int) + 1 := wrap64 (by omega) (by omega)
      rcases hA : woF L.ls i k with _ | ⟨a, r⟩
      all_goals
        rw [hA] at hkl
        simp only [List.length_cons, List.length_nil] at hkl
        simp only [woS, e1, Int.toNat_natCast, w3, lns_take1, lns_length, lns_scD, List.length_cons, push_cast, ↓J1, ↓J2, N1, N2, N3, reduceCtorEq, N4, N5, N6, reduceIte, N7, I1, I2, I3]
        refine ifB_intro (fun _ => ?_) (fun h => by simp at h; omega)
        cases g : decide ((k : Int) = (i : Int))
        · have hn : k ≠ i := by have := of_decide_eq_false g; omega
          simp only [Bool.not_false, push_cast, ↓J1, ↓J2, N1, N2, N3, reduceCtorEq, N4, N5, N6, reduceIte, N7, I1, I2, I3]
          repeat (refine ⟨by omega, ?_⟩)
          refine hJ h3 trivial _ ?_
          rw [woF_succ h3 hn, hA, woS_snoc]
          (first | exact head_tb [(6, 4), (3, 3), (2, 2), (1, 1), (0, 0)] rfl (by simp only [keptV_cons, keptV_nil, tb_get, lk_same, lk_ne, lk_nil, ren, renL, lkp, N7, N1, N5, reduceIte, and_true, true_and, Nat.not_lt_zero, if_false, if_true, Nat.add_zero, Nat.zero_add]; (first | done | (simp; done) | (and_intros <;> rfl))) (by simp only [canR, canB, renO, renL, ren, lkp, hget, N7, N5, Nat.not_lt_zero, if_false, if_true, reduceIte, List.append_nil, List.nil_append]; (first | done | rfl | (rw [← lns_sn]; rfl))) | exact head_tb [(7, 4), (3, 3), (2, 2), (1, 1), (0, 0)] rfl (by simp only [keptV_cons, keptV_nil, tb_get, lk_same, lk_ne, lk_nil, ren, renL, lkp, N7, N1, N5, reduceIte, and_true, true_and, Nat.not_lt_zero, if_false, if_true, Nat.add_zero, Nat.zero_add]; (first | done | (simp; done) | (and_intros <;> rfl))) (by simp only [canR, canB, renO, renL, ren, lkp, hget, N7, N5, Nat.not_lt_zero, if_false, if_true, reduceIte, List.append_nil, List.nil_append]; (first | done | rfl | (rw [← lns_sn]; rfl))))
        · obtain rfl : k = i := by have := of_decide_eq_true g; omega
          simp only [Bool.not_true, push_cast, ↓J1, ↓J2, N1, N2, N3, reduceCtorEq, N4, N5, N6, reduceIte, N7, I1, I2, I3]
          repeat (refine ⟨by omega, ?_⟩)
          refine hJ h3 trivial _ ?_
          rw [woF_same hi, hA]
          (first | exact (hdA [(3, 3), (2, 2), (1, 1), (0, 0)]) | exact (hdA [(4, 4), (3, 3), (2, 2), (1, 1), (0, 0)]))
    · obtain rfl : k = L.ls.length := by omega
      rw [woF_end] at hkl ⊢
      rcases hA : L.ls.eraseIdx i with _ | ⟨a, r⟩
      · simp only [woS, lns_length, push_cast, ↓J1, ↓J2, N1, N2, N3, reduceCtorEq, N4, N5, N6, reduceIte, N7, I1, I2, I3]
        refine ifB_intro (fun h => by simp at h) (fun h => ?_)
        exact RetTo_nil (r0 := .agg [.int .i64 L.d, .nil, .ow 1 (ints L.st)]) (by simp only [conR, conRL, isF, hget, hdel, List.drop_zero, tk2, if_true, if_false, reduceIte, N5, reduceCtorEq]; rfl) (NilTo_agg (NilToL_cons (NilTo.refl _) (NilToL_cons NilTo_nl (NilToL_cons (NilTo.refl _) NilToL_nil))))
      · simp only [woS, lns_take1, lns_length, push_cast, ↓J1, ↓J2, N1, N2, N3, reduceCtorEq, N4, N5, N6, reduceIte, N7, I1, I2, I3]
        refine ifB_intro (fun h => by simp at h) (fun h => ?_)
        have tk3 : List.take (r.length + 1) (lns (a :: r)) = lns (a :: r) := lns_take1 a r
        exact RetTo_of (by simp only [conR, conRL, isF, hget, hdel, List.drop_zero, List.take_length, if_true, if_false, reduceIte, N5, reduceCtorEq, tk2, tk3]; rfl)
end
end Go.Proofs.Ytiemjnkblggimaa.X
set_option maxHeartbeats 4000000
set_option maxRecDepth 8000
set_option linter.unusedSimpArgs false
set_option linter.unusedSectionVars false
set_option linter.unusedVariables false
open Nat renaming reduceBEq → N1, reduceAdd → N2, reduceSub → N3, reduceMul → N4, reduceEqDiff → N5, reduceLeDiff → N6, reduceLT → N7
open Int renaming reduceLE → I1, reduceLT → I2, reduceToNat → I3
namespace Go.Proofs.Ytiemjnkblggimaa.X
open Go
attribute [local irreducible] Ev fE
def wlOk (L : Lanes) (x : Int) : Bool := lanesOk L && inR 0 ((L.ls.length : Int) - 1) x
def wlR (L : Lanes) (x : Int) : Lanes := if wlOk L x then L.wo x.toNat else ⟨0, [], []⟩
theorem own_wl (L : Lanes) (b : Bool) : ownR (.tup [L.ow, .bool b]) = true := by
  have e1 := own_lns L.ls
  have e2 := own_ints L.st
  simp only [ownR] at e1 e2
  simp only [Lanes.ow, ownR, ownRL, e1, e2, Bool.and_true]
theorem mkL_get {k : Int} {n i : Nat} (h : i < n) : (lns (mkL k n))[i]? = some [.int .i64 (k + 3 * (i : Int)), .int .i64 (k + 3 * (i : Int) + 1), .int .i64 (k + 3 * (i : Int) + 2)] := by
  simp [lns, lnA, mkL, h]
theorem wo_ok {L : Lanes} (i : Nat) (h : lanesOk L = true) : lanesOk (L.wo i) = true := by
  simp only [lanesOk, Bool.and_eq_true, decide_eq_true_eq, List.all_eq_true, Lanes.wo] at h ⊢
  have := List.length_eraseIdx_le L.ls i
  exact ⟨⟨⟨⟨h.1.1.1.1, decide_eq_true (by omega)⟩, decide_eq_true h.1.1.2⟩, h.1.2⟩, fun x hx => h.2 x (List.mem_of_mem_eraseIdx hx)⟩
theorem wo_ask {L : Lanes} {F T D : Int} (i : Nat) (h : askT L F T D = true) : askT (L.wo i) F T D = true := by
  simp only [askT, Bool.and_eq_true] at h ⊢
  exact ⟨⟨⟨⟨wo_ok i h.1.1.1.1, h.1.1.1.2⟩, h.1.1.2⟩, h.1.2⟩, h.2⟩
def crP (lim : Int) (L : Lanes) (F T D : Int) (i : Nat) : Bool := decide (gvN lim (L.wo i) F T D < gvN lim L F T D)
def crR (lim : Int) (L : Lanes) (F T D : Int) : List Int := if askT L F T D then ni (cuF (crP lim L F T D) L.ls.length) else []
section
variable {C : CT} (hC : Closed Try.prog G0 md0 C)
include hC
theorem t35 (k : Int) (n : Nat) (hk : 0 ≤ k ∧ k < 2^50) (hn : n < 2^40) : Ev C 35 [.sl (lns (mkL k n)), .int .i64 k] (.int .i64 (k + 3 * n)) := by
  refine rT hC Q35 ?_
  simp only [c35, push_cast, ↓J1, ↓J2, N1, N2, N3, reduceCtorEq, N4, N5, N6, reduceIte, N7, I1, I2, I3]
  refine RL_count (fun i => ⟨tb 40 .any [(0, .sl (lns (mkL k n))), (1, .int .i64 (k + 3 * (i : Int))), (5, .int .i64 (i : Int))], [], 0⟩) (fun _ => True) n 0 (hdA []) (by omega) trivial fun i hi _ J hJ => ?_
  by_cases h1 : i < n
  · have e1 := mkL_get (k := k) h1
    have w0 : IntKind.i64.wrap (k + 3 * (i : Int) + 1) = k + 3 * (i : Int) + 1 := wrap64 (by omega) (by omega)
    have w1 : IntKind.i64.wrap (k + 3 * (i : Int) + 1 + 1) = k + 3 * (i : Int) + 1 + 1 := wrap64 (by omega) (by omega)
    have w2 : IntKind.i64.wrap (k + 3 * (i : Int) + 1 + 1 + 1) = k + 3 * (i : Int) + 1 + 1 + 1 := wrap64 (by omega) (by omega)
    have w3 : IntKind.i64.wrap ((i : Int) + 1) = (i : Int) + 1 := wrap64 (by omega) (by omega)
    have ea : k + 3 * (i : Int) + 2 = k + 3 * (i : Int) + 1 + 1 := by omega
    simp only [ea, Int.toNat_natCast, e1, lns_length, mkL_length, w0, w1, w2, w3, push_cast, ↓J1, ↓J2, N1, N2, N3, reduceCtorEq, N4, N5, N6, reduceIte, N7, I1, I2, I3]
    refine ifB_intro (fun _ => ?_) (fun h => by simp at h; omega)
    repeat (refine ⟨by omega, ?_⟩)
    refine hJ h1 trivial _ (hdA [] (hV := ?_))
    simp only [keptV_cons, keptV_nil, tb_get, lk_same, lk_ne, lk_nil, ren, renL, lkp, N7, N1, N5, reduceIte, and_true, true_and, Nat.not_lt_zero, if_false, if_true, Nat.add_zero, Nat.zero_add]
    rw [show k + 3 * ((i + 1 : Nat) : Int) = k + 3 * (i : Int) + 1 + 1 + 1 by omega]
    and_intros <;> first | rfl | simp
  · obtain rfl : i = n := by omega
    simp only [lns_length, mkL_length, push_cast, ↓J1, ↓J2, N1, N2, N3, reduceCtorEq, N4, N5, N6, reduceIte, N7, I1, I2, I3]
    exact ifB_intro (fun h => by simp at h) (fun h => trivial)
theorem t12 (d k : Int) (n m : Nat) (hk : 0 ≤ k ∧ k < 2^47) (hn : n < 2^40) (hm : m < 2^40) : Ev C 12 [.agg [.int .i64 d, .sl (lns (mkL k n)), .sl (ints (run (k + 3 * (n : Int)) m))], .int .i64 k] (.int .i64 (k + 3 * (n : Int) + m)) := by
  have c1 := t35 hC k n (by omega) hn
  have c2 := t17 hC (k + 3 * (n : Int)) m (by omega) (by omega)
  have d1 : decide (k + 3 * (n : Int) < 0) = false := decide_eq_false (by omega)
  have d2 : decide (k + 3 * (n : Int) + (m : Int) < 0) = false := decide_eq_false (by omega)
  refine rT hC Q12 ?_
  simp only [c12, push_cast, ↓J1, ↓J2, N1, N2, N3, reduceCtorEq, N4, N5, N6, reduceIte, N7, I1, I2, I3]
  refine ⟨_, c1, ?_⟩
  simp only [d1, push_cast, ↓J1, ↓J2, N1, N2, N3, reduceCtorEq, N4, N5, N6, reduceIte, N7, I1, I2, I3]
  refine ⟨_, c2, ?_⟩
  simp only [d2, push_cast, ↓J1, ↓J2, N1, N2, N3, reduceCtorEq, N4, N5, N6, reduceIte, N7, I1, I2, I3]
theorem t7 (L : Lanes) (x : Int) (h1 : L.ls.length < 2^40) (h2 : L.st.length < 2^40) : Ev C 7 [L.av, .int .i64 x] (.tup [(wlR L x).ow, .bool (wlOk L x)]) := by
  have c1 := t25 hC L (by omega) (by omega)
  have ho := own_wl (wlR L x) (wlOk L x)
  have c3 := fun i hi => t27 hC L i hi h1 h2
  have w1 : IntKind.i64.wrap ((L.ls.length : Int) - 1) = (L.ls.length : Int) - 1 := wrap64 (by omega) (by omega)
  simp only [Lanes.av] at *
  refine rT hC Q7 ?_ (ho)
  simp only [X.c7, push_cast, ↓J1, ↓J2, N1, N2, N3, reduceCtorEq, N4, N5, N6, reduceIte, N7, I1, I2, I3]
  refine ⟨_, c1, ?_⟩
  cases g1 : lanesOk L
  · simp only [wlR, wlOk, g1, Bool.false_and, Bool.false_eq_true, if_false, Bool.not_false, Lanes.ow, push_cast, ↓J1, ↓J2, N1, N2, N3, reduceCtorEq, N4, N5, N6, reduceIte, N7, I1, I2, I3]
    exact RetTo_nil (r0 := .tup [.agg [.int .i64 0, .nil, .nil], .bool false]) (by simp only [conR, conRL, isF, hget, hdel, List.drop_zero, if_true, if_false, reduceIte, N5, reduceCtorEq]; rfl) (NilTo_tup (NilToL_cons (NilTo_agg (NilToL_cons (NilTo.refl _) (NilToL_cons NilTo_nl (NilToL_cons NilTo_nl NilToL_nil)))) (NilToL_cons (NilTo.refl _) NilToL_nil)))
  simp only [lns_length, w1, Bool.not_true, push_cast, ↓J1, ↓J2, N1, N2, N3, reduceCtorEq, N4, N5, N6, reduceIte, N7, I1, I2, I3]
  refine ⟨_, t26 hC _ _ _, ?_⟩
  rw [show (decide (0 ≤ x) && decide (x ≤ (L.ls.length : Int) - 1)) = inR 0 ((L.ls.length : Int) - 1) x from rfl]
  cases g2 : inR 0 ((L.ls.length : Int) - 1) x
  · simp only [wlR, wlOk, g1, g2, Bool.and_false, Bool.false_eq_true, if_false, Bool.not_false, Lanes.ow, push_cast, ↓J1, ↓J2, N1, N2, N3, reduceCtorEq, N4, N5, N6, reduceIte, N7, I1, I2, I3]
    exact RetTo_nil (r0 := .tup [.agg [.int .i64 0, .nil, .nil], .bool false]) (by simp only [conR, conRL, isF, hget, hdel, List.drop_zero, if_true, if_false, reduceIte, N5, reduceCtorEq]; rfl) (NilTo_tup (NilToL_cons (NilTo_agg (NilToL_cons (NilTo.refl _) (NilToL_cons NilTo_nl (NilToL_cons NilTo_nl NilToL_nil)))) (NilToL_cons (NilTo.refl _) NilToL_nil)))
  have g3 := g2
  simp only [inR, Bool.and_eq_true, decide_eq_true_eq] at g3
  obtain ⟨i, rfl⟩ : ∃ i : Nat, x = i := ⟨x.toNat, by omega⟩
  simp only [wlR, wlOk, g1, g2, Bool.and_true, if_true, Int.toNat_natCast, push_cast, ↓J1, ↓J2, N1, N2, N3, reduceCtorEq, N4, N5, N6, reduceIte, N7, I1, I2, I3]
  refine ⟨_, c3 i (by omega), ?_⟩
  have tk2 : List.take L.st.length (ints L.st) = ints L.st := List.take_of_length_le (by rw [ints_length]; omega)
  have tk3 : List.take (L.ls.eraseIdx i).length (lns (L.ls.eraseIdx i)) = lns (L.ls.eraseIdx i) := List.take_of_length_le (by rw [lns_length]; omega)
  simp only [Lanes.ow, Lanes.wo, lns_length, ints_length, push_cast, ↓J1, ↓J2, N1, N2, N3, reduceCtorEq, N4, N5, N6, reduceIte, N7, I1, I2, I3]
  exact RetTo_of (by simp only [conR, conRL, isF, hget, hdel, List.drop_zero, List.take_length, if_true, if_false, reduceIte, N5, reduceCtorEq, tk2, tk3]; rfl)
theorem t9 (hD : DelL C) (L : Lanes) (x : Int) (h1 : L.ls.length < 2^40) (h2 : L.st.length < 2^40) : Ev C 9 [L.av, .int .i64 x] (.tup [(wlR L x).ow, .bool (wlOk L x)]) := by
  have c1 := t30 hC L (by omega) (by omega)
  have ho := own_wl (wlR L x) (wlOk L x)
  have c3 := fun i hi => t32 hC hD L i hi h1 h2
  simp only [Lanes.av] at *
  refine rT hC Q9 ?_ (ho)
  simp only [c9, push_cast, ↓J1, ↓J2, N1, N2, N3, reduceCtorEq, N4, N5, N6, reduceIte, N7, I1, I2, I3]
  refine ⟨_, c1, ?_⟩
  cases g1 : lanesOk L
  · simp only [wlR, wlOk, g1, Bool.false_and, Bool.false_eq_true, if_false, Bool.not_false, Lanes.ow, push_cast, ↓J1, ↓J2, N1, N2, N3, reduceCtorEq, N4, N5, N6, reduceIte, N7, I1, I2, I3]
    exact RetTo_nil (r0 := .tup [.agg [.int .i64 0, .nil, .nil], .bool false]) (by simp only [conR, conRL, isF, hget, hdel, List.drop_zero, if_true, if_false, reduceIte, N5, reduceCtorEq]; rfl) (NilTo_tup (NilToL_cons (NilTo_agg (NilToL_cons (NilTo.refl _) (NilToL_cons NilTo_nl (NilToL_cons NilTo_nl NilToL_nil)))) (NilToL_cons (NilTo.refl _) NilToL_nil)))
  simp only [lns_length, Bool.not_true, push_cast, ↓J1, ↓J2, N1, N2, N3, reduceCtorEq, N4, N5, N6, reduceIte, N7, I1, I2, I3]
  refine ⟨_, t31 hC _ _ ⟨by omega, by omega⟩, ?_⟩
  rw [show (decide (0 ≤ x) && decide (x ≤ (L.ls.length : Int) - 1)) = inR 0 ((L.ls.length : Int) - 1) x from rfl]
  cases g2 : inR 0 ((L.ls.length : Int) - 1) x
  · simp only [wlR, wlOk, g1, g2, Bool.and_false, Bool.false_eq_true, if_false, Bool.not_false, Lanes.ow, push_cast, ↓J1, ↓J2, N1, N2, N3, reduceCtorEq, N4, N5, N6, reduceIte, N7, I1, I2, I3]
    exact RetTo_nil (r0 := .tup [.agg [.int .i64 0, .nil, .nil], .bool false]) (by simp only [conR, conRL, isF, hget, hdel, List.drop_zero, if_true, if_false, reduceIte, N5, reduceCtorEq]; rfl) (NilTo_tup (NilToL_cons (NilTo_agg (NilToL_cons (NilTo.refl _) (NilToL_cons NilTo_nl (NilToL_cons NilTo_nl NilToL_nil)))) (NilToL_cons (NilTo.refl _) NilToL_nil)))
  have g3 := g2
  simp only [inR, Bool.and_eq_true, decide_eq_true_eq] at g3
  obtain ⟨i, rfl⟩ : ∃ i : Nat, x = i := ⟨x.toNat, by omega⟩
  simp only [wlR, wlOk, g1, g2, Bool.and_true, if_true, Int.toNat_natCast, push_cast, ↓J1, ↓J2, N1, N2, N3, reduceCtorEq, N4, N5, N6, reduceIte, N7, I1, I2, I3]
  refine ⟨_, c3 i (by omega), ?_⟩
  have tk2 : List.take L.st.length (ints L.st) = ints L.st := List.take_of_length_le (by rw [ints_length]; omega)
  have tk3 : List.take (L.ls.eraseIdx i).length (lns (L.ls.eraseIdx i)) = lns (L.ls.eraseIdx i) := List.take_of_length_le (by rw [lns_length]; omega)
  simp only [Lanes.ow, Lanes.wo, lns_length, ints_length, push_cast, ↓J1, ↓J2, N1, N2, N3, reduceCtorEq, N4, N5, N6, reduceIte, N7, I1, I2, I3]
  exact RetTo_of (by simp only [conR, conRL, isF, hget, hdel, List.drop_zero, List.take_length, if_true, if_false, reduceIte, N5, reduceCtorEq, tk2, tk3]; rfl)
theorem t13 {lim : Int} (r1 : 10000000 = lim) (L : Lanes) (F T D : Int) (h1 : L.ls.length < 2^40) (h2 : L.st.length < 2^40) : Ev C 13 [L.av, .int .i64 F, .int .i64 T, .int .i64 D] (.tup [.ow 1 (ints (crR lim L F T D)), .bool (askT L F T D)]) := by
  have c1 := t36 hC L F T D (by omega) (by omega)
  have c3 := fun i hi => t27 hC L i hi h1 h2
  simp only [Lanes.av] at c1 c3 ⊢
  refine rT hC Q13 ?_ (own_lb _ _)
  simp only [c13, push_cast, ↓J1, ↓J2, N1, N2, N3, reduceCtorEq, N4, N5, N6, reduceIte, N7, I1, I2, I3]
  refine ⟨_, c1, ?_⟩
  cases g : askT L F T D
  · simp only [crR, g, Bool.false_eq_true, if_false, Bool.not_false, push_cast, ↓J1, ↓J2, N1, N2, N3, reduceCtorEq, N4, N5, N6, reduceIte, N7, I1, I2, I3]
    exact ⟨.tup [.nil, .bool false], _, by simp only [conR, conRL, isF, Option.map_some, Option.bind_some]; rfl, by simp [NilTo, NilToL, ints]⟩
  have c2 := qG_at hC r1 L F T D g
  have c4 := fun i => qG_at hC r1 (L.wo i) F T D (wo_ask i g)
  have hp : ∀ i, decide (gvN lim ⟨L.d, L.ls.eraseIdx i, L.st⟩ F T D < gvN lim L F T D) = crP lim L F T D i := fun i => rfl
  simp only [crR, g, if_true]
  generalize crP lim L F T D = pp at *
  generalize gvN lim L F T D = want at *
  have tk2 : List.take L.st.length (ints L.st) = ints L.st := List.take_of_length_le (by rw [ints_length]; omega)
  have tk3 : ∀ i, List.take (L.ls.eraseIdx i).length (lns (L.ls.eraseIdx i)) = lns (L.ls.eraseIdx i) := fun i => List.take_of_length_le (by rw [lns_length]; omega)
  simp only [Lanes.av, Lanes.wo] at c2 c4
  simp only [Lanes.ow, Lanes.wo] at c3
  simp only [Lanes.av, Bool.not_true, push_cast, ↓J1, ↓J2, N1, N2, N3, reduceCtorEq, N4, N5, N6, reduceIte, N7, I1, I2, I3]
  refine ⟨_, c2, ?_⟩
  simp only [lns_length, push_cast, ↓J1, ↓J2, N1, N2, N3, reduceCtorEq, N4, N5, N6, reduceIte, N7, I1, I2, I3]
  refine RL_count (fun k => ⟨tb 45 .any [(11, .ref 1 none 1 0 (cuF pp k).length), (1, .int .i64 F), (2, .int .i64 T), (3, .int .i64 D), (4, .ptr 0 none 0 0 0), (10, .int .i64 want), (26, .int .i64 (L.ls.length : Int)), (27, .int .i64 (k : Int))], [(1, .slice 1 (ints (ni (cuF pp k)))), (0, .var [.int .i64 L.d, .sl (lns L.ls), .sl (ints L.st)])], 2⟩) (fun _ => True) L.ls.length 0 (hdO 11 1 1 [(0, 0)]) (by omega) trivial fun k hk _ J hJ => ?_
  have hle := cuF_le pp k
  have tkc : List.take (cuF pp k).length (ints (ni (cuF pp k))) = ints (ni (cuF pp k)) := List.take_of_length_le (by rw [ints_length, ni_length]; omega)
  by_cases h3 : k < L.ls.length
  rotate_left
  · obtain rfl : k = L.ls.length := by omega
    simp only [push_cast, ↓J1, ↓J2, N1, N2, N3, reduceCtorEq, N4, N5, N6, reduceIte, N7, I1, I2, I3]
    refine ifB_intro (fun h => by simp at h) (fun h => ?_)
    exact RetTo_of (by simp only [conR, conRL, isF, hget, hdel, List.drop_zero, tkc, ints_length, ni_length, if_true, if_false, reduceIte, N5, reduceCtorEq]; rfl)
  have hK := hJ h3 trivial
  clear hJ
  have hlt : decide ((k : Int) < (L.ls.length : Int)) = true := decide_eq_true (by omega)
  rw [cuF_succ] at hK
  have w3 : IntKind.i64.wrap ((k : Int) + 1) = (k : Int) + 1 := wrap64 (by omega) (by omega)
  simp only [hlt, w3, push_cast, ↓J1, ↓J2, N1, N2, N3, reduceCtorEq, N4, N5, N6, reduceIte, N7, I1, I2, I3]
  refine ⟨_, c3 k h3, ?_⟩
  simp only [lns_length, ints_length, frzLL_lns, frzLL_ints, tk2, tk3, w3, push_cast, ↓J1, ↓J2, N1, N2, N3, reduceCtorEq, N4, N5, N6, reduceIte, N7, I1, I2, I3]
  refine ⟨_, c4 k, ?_⟩
  simp only [hp, w3, push_cast, ↓J1, ↓J2, N1, N2, N3, reduceCtorEq, N4, N5, N6, reduceIte, N7, I1, I2, I3]
  cases g2 : pp k
  · simp only [g2, Bool.false_eq_true, if_false, List.append_nil] at hK
    simp only [g2, push_cast, ↓J1, ↓J2, N1, N2, N3, reduceCtorEq, N4, N5, N6, reduceIte, N7, I1, I2, I3]
    exact hK _ (hdA [(1, 1), (0, 0)])
  · simp only [g2, if_true, List.length_append, List.length_singleton] at hK
    simp only [g2, tkc, ints_length, ni_length, allScs, apYR_sc, push_cast, ↓J1, ↓J2, N1, N2, N3, reduceCtorEq, N4, N5, N6, reduceIte, N7, I1, I2, I3]
    repeat (refine ⟨by omega, ?_⟩)
    refine hK _ (hdA [(5, 1), (0, 0)] (hh := ?_))
    simp only [canR, canB, renO, renL, ren, lkp, hget, N7, N5, Nat.not_lt_zero, if_false, if_true, reduceIte, List.append_nil, List.nil_append, ni_sn]
    all_goals rfl
theorem t14 {lim lim' : Int} (r1 : 10000000 = lim) (r2 : 1000000000 = lim') (hD : DelL C) (L : Lanes) (F T D : Int) (h1 : L.ls.length < 2^40) (h2 : L.st.length < 2^40) : Ev C 14 [L.av, .int .i64 F, .int .i64 T, .int .i64 D] (.tup [.ow 1 (ints (crR lim L F T D)), .bool (askT L F T D)]) := by
  have c1 := t38 hC r1 r2 L F T D (by omega) (by omega)
  have c3 := fun i hi => t32 hC hD L i hi h1 h2
  simp only [Lanes.av] at c1 c3 ⊢
  refine rT hC Q14 ?_ (own_lb _ _)
  simp only [c14, push_cast, ↓J1, ↓J2, N1, N2, N3, reduceCtorEq, N4, N5, N6, reduceIte, N7, I1, I2, I3]
  refine ⟨_, c1, ?_⟩
  cases g : askT L F T D
  · simp only [crR, g, Bool.false_eq_true, if_false, Bool.not_false, push_cast, ↓J1, ↓J2, N1, N2, N3, reduceCtorEq, N4, N5, N6, reduceIte, N7, I1, I2, I3]
    exact ⟨.tup [.nil, .bool false], _, by simp only [conR, conRL, isF, Option.map_some, Option.bind_some]; rfl, by simp [NilTo, NilToL, ints]⟩
  have c4 := fun i => dl_at hC r1 r2 (L.wo i) F T D (wo_ask i g)
  have hp : ∀ i, decide (gvN lim ⟨L.d, L.ls.eraseIdx i, L.st⟩ F T D < gvN lim L F T D) = crP lim L F T D i := fun i => rfl
  simp only [crR, g, if_true]
  generalize crP lim L F T D = pp at *
  generalize gvN lim L F T D = want at *
  have tk2 : List.take L.st.length (ints L.st) = ints L.st := List.take_of_length_le (by rw [ints_length]; omega)
  have tk3 : ∀ i, List.take (L.ls.eraseIdx i).length (lns (L.ls.eraseIdx i)) = lns (L.ls.eraseIdx i) := fun i => List.take_of_length_le (by rw [lns_length]; omega)
  simp only [Lanes.av, Lanes.wo] at c4
  simp only [Lanes.ow, Lanes.wo] at c3
  simp only [Lanes.av, Bool.not_true, if_true, push_cast, ↓J1, ↓J2, N1, N2, N3, reduceCtorEq, N4, N5, N6, reduceIte, N7, I1, I2, I3]
  simp only [lns_length, push_cast, ↓J1, ↓J2, N1, N2, N3, reduceCtorEq, N4, N5, N6, reduceIte, N7, I1, I2, I3]
  refine RL_count (fun k => ⟨tb 52 .any [(12, .ref 1 none 1 0 (cuF pp k).length), (1, .int .i64 F), (2, .int .i64 T), (3, .int .i64 D), (4, .ptr 0 none 0 0 0), (10, .int .i64 want), (29, .int .i64 (L.ls.length : Int)), (30, .int .i64 (k : Int))], [(1, .slice 1 (ints (ni (cuF pp k)))), (0, .var [.int .i64 L.d, .sl (lns L.ls), .sl (ints L.st)])], 2⟩) (fun _ => True) L.ls.length 0 (hdA [(1, 1), (0, 0)]) (by omega) trivial fun k hk _ J hJ => ?_
  have hle := cuF_le pp k
  have tkc : List.take (cuF pp k).length (ints (ni (cuF pp k))) = ints (ni (cuF pp k)) := List.take_of_length_le (by rw [ints_length, ni_length]; omega)
  by_cases h3 : k < L.ls.length
  rotate_left
  · obtain rfl : k = L.ls.length := by omega
    simp only [push_cast, ↓J1, ↓J2, N1, N2, N3, reduceCtorEq, N4, N5, N6, reduceIte, N7, I1, I2, I3]
    refine ifB_intro (fun h => by simp at h) (fun h => ?_)
    exact RetTo_of (by simp only [conR, conRL, isF, hget, hdel, List.drop_zero, tkc, ints_length, ni_length, if_true, if_false, reduceIte, N5, reduceCtorEq]; rfl)
  have hK := hJ h3 trivial
  clear hJ
  have hlt : decide ((k : Int) < (L.ls.length : Int)) = true := decide_eq_true (by omega)
  rw [cuF_succ] at hK
  have w3 : IntKind.i64.wrap ((k : Int) + 1) = (k : Int) + 1 := wrap64 (by omega) (by omega)
  simp only [hlt, w3, push_cast, ↓J1, ↓J2, N1, N2, N3, reduceCtorEq, N4, N5, N6, reduceIte, N7, I1, I2, I3]
  refine ⟨_, c3 k h3, ?_⟩
  simp only [lns_length, ints_length, frzLL_lns, frzLL_ints, tk2, tk3, w3, push_cast, ↓J1, ↓J2, N1, N2, N3, reduceCtorEq, N4, N5, N6, reduceIte, N7, I1, I2, I3]
  refine ⟨_, c4 k, ?_⟩
  simp only [hp, w3, push_cast, ↓J1, ↓J2, N1, N2, N3, reduceCtorEq, N4, N5, N6, reduceIte, N7, I1, I2, I3]
  cases g2 : pp k
  · simp only [g2, Bool.false_eq_true, if_false, List.append_nil] at hK
    simp only [g2, push_cast, ↓J1, ↓J2, N1, N2, N3, reduceCtorEq, N4, N5, N6, reduceIte, N7, I1, I2, I3]
    exact hK _ (hdA [(1, 1), (0, 0)])
  · simp only [g2, if_true, List.length_append, List.length_singleton] at hK
    simp only [g2, tkc, ints_length, ni_length, allScs, apYR_sc, push_cast, ↓J1, ↓J2, N1, N2, N3, reduceCtorEq, N4, N5, N6, reduceIte, N7, I1, I2, I3]
    repeat (refine ⟨by omega, ?_⟩)
    refine hK _ (hdA [(7, 1), (0, 0)] (hh := ?_))
    simp only [canR, canB, renO, renL, ren, lkp, hget, N7, N5, Nat.not_lt_zero, if_false, if_true, reduceIte, List.append_nil, List.nil_append, ni_sn]
    all_goals rfl
theorem t4 {lim lim' : Int} (r1 : 10000000 = lim) (r2 : 1000000000 = lim') (hD : DelL C) (L : Lanes) (F T x : Int) (h1 : L.ls.length < 2^50) (h2 : L.st.length < 2^50) : Ev C 4 [L.av, .int .i64 F, .int .i64 T, .int .i64 x] (.bool true) := by
  have c1 := t6 hC L 1048576 (by omega) h1 h2
  have c4 := t13 hC r1 L F T x
  have c5 := t14 hC r1 r2 hD L F T x
  have c6 := t10 hC L L h1 h2 h1 h2
  have hrl : (crR lim L F T x).length ≤ 42 := by
    rw [crR]
    split
    · rename_i g
      obtain ⟨f, t, d, rfl, rfl, rfl, a1, a2, a3, a4, a5⟩ := askT_at g
      have y := (lanesOk_LOk a1).n
      have z := cuF_le (crP lim L f t d) L.ls.length
      rw [ni_length]; omega
    · simp
  generalize crR lim L F T x = res at *
  generalize askT L F T x = ask at *
  have c7 := t15 hC res res (by omega) (by omega)
  have c8 := t17 hC 1 res.length (by omega) (by omega)
  have c2 := fun (g1 : L.ls.length < 2^30 ∧ L.st.length < 2^30) => t8 hC L g1.1 g1.2
  simp only [Lanes.av, Lanes.ow] at *
  refine rT hC Q4 ?_
  simp only [X.c4, ints_length, push_cast, ↓J1, ↓J2, N1, N2, N3, reduceCtorEq, N4, N5, N6, reduceIte, N7, I1, I2, I3]
  refine ⟨_, c1, ?_⟩
  simp only [push_cast, ↓J1, ↓J2, N1, N2, N3, reduceCtorEq, N4, N5, N6, reduceIte, N7, I1, I2, I3]
  refine ifB_intro (fun h => trivial) (fun h => ?_)
  have g1 : L.ls.length < 2^30 ∧ L.st.length < 2^30 := by simp only [szL] at h; grind
  have c2 := c2 g1
  have c4 := c4 (by omega) (by omega)
  have c5 := c5 (by omega) (by omega)
  refine ⟨_, c2, ?_⟩
  simp only [frzLL_ints, frzLL_lns, push_cast, ↓J1, ↓J2, N1, N2, N3, reduceCtorEq, N4, N5, N6, reduceIte, N7, I1, I2, I3]
  refine ⟨_, c4, ?_⟩
  simp only [frzLL_ints, frzLL_lns, push_cast, ↓J1, ↓J2, N1, N2, N3, reduceCtorEq, N4, N5, N6, reduceIte, N7, I1, I2, I3]
  refine ⟨_, c2, ?_⟩
  simp only [frzLL_ints, frzLL_lns, push_cast, ↓J1, ↓J2, N1, N2, N3, reduceCtorEq, N4, N5, N6, reduceIte, N7, I1, I2, I3]
  refine ⟨_, c5, ?_⟩
  simp only [frzLL_ints, frzLL_lns, push_cast, ↓J1, ↓J2, N1, N2, N3, reduceCtorEq, N4, N5, N6, reduceIte, N7, I1, I2, I3]
  refine ⟨_, c7, ?_⟩
  simp only [frzLL_ints, frzLL_lns, push_cast, ↓J1, ↓J2, N1, N2, N3, reduceCtorEq, N4, N5, N6, reduceIte, N7, I1, I2, I3]
  refine ⟨_, c2, ?_⟩
  simp only [frzLL_ints, frzLL_lns, push_cast, ↓J1, ↓J2, N1, N2, N3, reduceCtorEq, N4, N5, N6, reduceIte, N7, I1, I2, I3]
  refine ⟨_, c6, ?_⟩
  simp only [frzLL_ints, frzLL_lns, push_cast, ↓J1, ↓J2, N1, N2, N3, reduceCtorEq, N4, N5, N6, reduceIte, N7, I1, I2, I3]
  rw [lns_length, ints_length]
  have d1 : decide (1 + 3 * (L.ls.length : Int) + (L.st.length : Int) < 0) = false := decide_eq_false (by omega)
  have d2 : decide (1 + (res.length : Int) < 0) = false := decide_eq_false (by omega)
  have tk : List.take res.length (ints (run 1 res.length)) = ints (run 1 res.length) := List.take_of_length_le (by rw [ints_length, run_length]; omega)
  have tk2 : List.take res.length (ints res) = ints res := List.take_of_length_le (by rw [ints_length]; omega)
  refine ⟨_, t11 hC L.d L.ls L.st 1 _ 4 5 10 rfl rfl (by omega) (by simp [below, canB, renO, ren, renL, lkp]) (by simp [solid, killH, killL, killS]) (by omega) (by omega) (by omega), ?_⟩
  rintro v h' n' ⟨rfl, rfl, rfl⟩ _
  simp only [d1, frzLL_ints, tk2, ints_length, push_cast, ↓J1, ↓J2, N1, N2, N3, reduceCtorEq, N4, N5, N6, reduceIte, N7, I1, I2, I3]
  refine ⟨_, c7, ?_⟩
  simp only [frzLL_ints, ints_length, push_cast, ↓J1, ↓J2, N1, N2, N3, reduceCtorEq, N4, N5, N6, reduceIte, N7, I1, I2, I3]
  refine ⟨_, t16 hC res 1 _ 7 11 rfl (by simp [below, canB, renO, ren, renL, lkp]) (by omega) (by omega), ?_⟩
  rintro v h' n' ⟨rfl, rfl, rfl⟩ _
  rw [mk_run (l := res) (k := 1)]
  simp only [frzLL_ints, tk, tk2, push_cast, ↓J1, ↓J2, N1, N2, N3, reduceCtorEq, N4, N5, N6, reduceIte, N7, I1, I2, I3]
  refine ⟨_, c8, ?_⟩
  simp only [frzLL_ints, tk, tk2, d2, push_cast, ↓J1, ↓J2, N1, N2, N3, reduceCtorEq, N4, N5, N6, reduceIte, N7, I1, I2, I3]
  refine ⟨_, c2, ?_⟩
  simp only [frzLL_ints, frzLL_lns, push_cast, ↓J1, ↓J2, N1, N2, N3, reduceCtorEq, N4, N5, N6, reduceIte, N7, I1, I2, I3]
  refine ⟨_, c5, ?_⟩
  simp only [frzLL_ints, tk, tk2, ints_length, push_cast, ↓J1, ↓J2, N1, N2, N3, reduceCtorEq, N4, N5, N6, reduceIte, N7, I1, I2, I3]
  refine ⟨_, c7, ?_⟩
  simp only [frzLL_ints, tk, tk2, push_cast, ↓J1, ↓J2, N1, N2, N3, reduceCtorEq, N4, N5, N6, reduceIte, N7, I1, I2, I3]
  refine ⟨_, c8, ?_⟩
  simp only [frzLL_ints, tk, tk2, d2, push_cast, ↓J1, ↓J2, N1, N2, N3, reduceCtorEq, N4, N5, N6, reduceIte, N7, I1, I2, I3]
theorem t3 (hD : DelL C) (L : Lanes) (x : Int) (h1 : L.ls.length < 2^50) (h2 : L.st.length < 2^50) : Ev C 3 [L.av, .int .i64 x] (.bool true) := by
  have c1 := t6 hC L 1048576 (by omega) h1 h2
  have c4 := t7 hC L x
  have c5 := t9 hC hD L x
  have c6 := t10 hC L L h1 h2 h1 h2
  have hr : (wlR L x).ls.length ≤ L.ls.length ∧ (wlR L x).st.length ≤ L.st.length := by
    rw [wlR]
    split
    · exact ⟨List.length_eraseIdx_le _ _, Nat.le_refl _⟩
    · exact ⟨Nat.zero_le _, Nat.zero_le _⟩
  obtain ⟨hr1, hr2⟩ := hr
  generalize wlR L x = M at *
  generalize wlOk L x = ok at *
  have c7 := t10 hC M M (by omega) (by omega) (by omega) (by omega)
  have c2 := fun (g1 : L.ls.length < 2^30 ∧ L.st.length < 2^30) => t8 hC L g1.1 g1.2
  simp only [Lanes.av, Lanes.ow, decide_true, BEq.rfl, Bool.and_self] at *
  refine rT hC Q3 ?_
  simp only [X.c3, ints_length, push_cast, ↓J1, ↓J2, N1, N2, N3, reduceCtorEq, N4, N5, N6, reduceIte, N7, I1, I2, I3]
  refine ⟨_, c1, ?_⟩
  simp only [push_cast, ↓J1, ↓J2, N1, N2, N3, reduceCtorEq, N4, N5, N6, reduceIte, N7, I1, I2, I3]
  refine ifB_intro (fun h => trivial) (fun h => ?_)
  have g1 : L.ls.length < 2^30 ∧ L.st.length < 2^30 := by simp only [szL] at h; grind
  have c2 := c2 g1
  have c4 := c4 (by omega) (by omega)
  have c5 := c5 (by omega) (by omega)
  have c8 := t12 hC M.d 1 M.ls.length M.st.length (by omega) (by omega) (by omega)
  have tk1 : List.take L.st.length (ints L.st) = ints L.st := List.take_of_length_le (by rw [ints_length]; omega)
  have tk2 : List.take L.ls.length (lns L.ls) = lns L.ls := List.take_of_length_le (by rw [lns_length]; omega)
  have tk3 : List.take M.st.length (ints M.st) = ints M.st := List.take_of_length_le (by rw [ints_length]; omega)
  have tk4 : List.take M.ls.length (lns M.ls) = lns M.ls := List.take_of_length_le (by rw [lns_length]; omega)
  have tk5 : List.take M.ls.length (lns (mkL 1 M.ls.length)) = lns (mkL 1 M.ls.length) := List.take_of_length_le (by rw [lns_length, mkL_length]; omega)
  have tk6 : ∀ k, List.take M.st.length (ints (run k M.st.length)) = ints (run k M.st.length) := fun k => List.take_of_length_le (by rw [ints_length, run_length]; omega)
  have d1 : decide (1 + 3 * (L.ls.length : Int) + (L.st.length : Int) < 0) = false := decide_eq_false (by omega)
  have d2 : decide (1 + 3 * (M.ls.length : Int) + (M.st.length : Int) < 0) = false := decide_eq_false (by omega)
  refine ⟨_, c2, ?_⟩
  simp only [lns_length, ints_length, frzLL_ints, frzLL_lns, tk1, tk2, tk3, tk4, push_cast, ↓J1, ↓J2, N1, N2, N3, reduceCtorEq, N4, N5, N6, reduceIte, N7, I1, I2, I3]
  refine ⟨_, c4, ?_⟩
  simp only [lns_length, ints_length, frzLL_ints, frzLL_lns, tk1, tk2, tk3, tk4, push_cast, ↓J1, ↓J2, N1, N2, N3, reduceCtorEq, N4, N5, N6, reduceIte, N7, I1, I2, I3]
  refine ⟨_, c2, ?_⟩
  simp only [lns_length, ints_length, frzLL_ints, frzLL_lns, tk1, tk2, tk3, tk4, push_cast, ↓J1, ↓J2, N1, N2, N3, reduceCtorEq, N4, N5, N6, reduceIte, N7, I1, I2, I3]
  refine ⟨_, c5, ?_⟩
  simp only [lns_length, ints_length, frzLL_ints, frzLL_lns, tk1, tk2, tk3, tk4, push_cast, ↓J1, ↓J2, N1, N2, N3, reduceCtorEq, N4, N5, N6, reduceIte, N7, I1, I2, I3]
  refine ⟨_, c7, ?_⟩
  simp only [lns_length, ints_length, frzLL_ints, frzLL_lns, tk1, tk2, tk3, tk4, push_cast, ↓J1, ↓J2, N1, N2, N3, reduceCtorEq, N4, N5, N6, reduceIte, N7, I1, I2, I3]
  refine ⟨_, c2, ?_⟩
  simp only [lns_length, ints_length, frzLL_ints, frzLL_lns, tk1, tk2, tk3, tk4, push_cast, ↓J1, ↓J2, N1, N2, N3, reduceCtorEq, N4, N5, N6, reduceIte, N7, I1, I2, I3]
  refine ⟨_, c6, ?_⟩
  simp only [lns_length, ints_length, frzLL_ints, frzLL_lns, tk1, tk2, tk3, tk4, push_cast, ↓J1, ↓J2, N1, N2, N3, reduceCtorEq, N4, N5, N6, reduceIte, N7, I1, I2, I3]
  refine ⟨_, t11 hC L.d L.ls L.st 1 _ 6 7 14 rfl rfl (by omega) (by simp [below, canB, renO, ren, renL, lkp]) (by simp [solid, killH, killL, killS]) (by omega) (by omega) (by omega), ?_⟩
  rintro v h' n' ⟨rfl, rfl, rfl⟩ _
  simp only [frzLL_ints, frzLL_lns, tk1, tk2, tk3, tk4, tk5, tk6, d1, d2, lns_length, ints_length, push_cast, ↓J1, ↓J2, N1, N2, N3, reduceCtorEq, N4, N5, N6, reduceIte, N7, I1, I2, I3]
  refine ⟨_, c7, ?_⟩
  simp only [frzLL_ints, frzLL_lns, tk1, tk2, tk3, tk4, tk5, tk6, d1, d2, lns_length, ints_length, push_cast, ↓J1, ↓J2, N1, N2, N3, reduceCtorEq, N4, N5, N6, reduceIte, N7, I1, I2, I3]
  refine ⟨_, t11 hC M.d M.ls M.st 1 _ 9 10 15 rfl rfl (by omega) (by simp [below, canB, renO, ren, renL, lkp]) (by simp [solid, killH, killL, killS]) (by omega) (by omega) (by omega), ?_⟩
  rintro v h' n' ⟨rfl, rfl, rfl⟩ _
  rw [mk_run (l := M.st) (k := 1 + 3 * (M.ls.length : Int))]
  simp only [frzLL_ints, frzLL_lns, tk1, tk2, tk3, tk4, tk5, tk6, d1, d2, push_cast, ↓J1, ↓J2, N1, N2, N3, reduceCtorEq, N4, N5, N6, reduceIte, N7, I1, I2, I3]
  refine ⟨_, c8, ?_⟩
  simp only [frzLL_ints, frzLL_lns, tk1, tk2, tk3, tk4, tk5, tk6, d1, d2, push_cast, ↓J1, ↓J2, N1, N2, N3, reduceCtorEq, N4, N5, N6, reduceIte, N7, I1, I2, I3]
  refine ⟨_, c2, ?_⟩
  simp only [frzLL_ints, frzLL_lns, tk1, tk2, tk3, tk4, tk5, tk6, d1, d2, push_cast, ↓J1, ↓J2, N1, N2, N3, reduceCtorEq, N4, N5, N6, reduceIte, N7, I1, I2, I3]
  refine ⟨_, c5, ?_⟩
  simp only [frzLL_ints, frzLL_lns, tk1, tk2, tk3, tk4, tk5, tk6, d1, d2, lns_length, ints_length, push_cast, ↓J1, ↓J2, N1, N2, N3, reduceCtorEq, N4, N5, N6, reduceIte, N7, I1, I2, I3]
  refine ⟨_, c7, ?_⟩
  simp only [frzLL_ints, frzLL_lns, tk1, tk2, tk3, tk4, tk5, tk6, d1, d2, push_cast, ↓J1, ↓J2, N1, N2, N3, reduceCtorEq, N4, N5, N6, reduceIte, N7, I1, I2, I3]
  refine ⟨_, c8, ?_⟩
  simp only [frzLL_ints, frzLL_lns, tk1, tk2, tk3, tk4, tk5, tk6, d1, d2, push_cast, ↓J1, ↓J2, N1, N2, N3, reduceCtorEq, N4, N5, N6, reduceIte, N7, I1, I2, I3]
end
end Go.Proofs.Ytiemjnkblggimaa.X
