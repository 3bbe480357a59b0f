/- A part of the proof: lemmas on the machine or on the functions that the law reaches. No condition of its own. -/
import Derived.Test.YtfnphiiopghnpaaDoorXP4
import Derived.Test.YtfnphiiopghnpaaDoorXP6
set_option maxHeartbeats 4000000
set_option maxRecDepth 8000
set_option linter.unusedSimpArgs false
set_option linter.unusedVariables false
open Nat renaming reduceBEq → N1, reduceAdd → N2, reduceSub → N3, reduceMul → N4, reduceEqDiff → N5, reduceLeDiff → N6, reduceLT → N7
open Int renaming reduceLE → I1, reduceLT → I2, reduceToNat → I3
namespace Go.Proofs.YtfnphiiopghnpaaDoor.X
open Go
theorem has_ints {k : Nat} {xs : List AV} (h : Has Tryd.prog (k + 2) 26 xs) : ∃ l, xs = [.sl (ints l)] ∧ l.length < 2 ^ 50 := by
  obtain ⟨es, rfl, _, hb, he⟩ := has_slice tk_26 h
  rw [bo_3] at hb
  obtain ⟨l, rfl⟩ := all_map (f := fun n : Int => [AV.int .i64 n]) (es := es) fun e hx => by
    obtain ⟨n, hn, _⟩ := has_int tk_3 (he e hx).2
    exact ⟨n, hn⟩
  simp only [reachBytes, List.length_map] at hb
  exact ⟨l, rfl, by omega⟩
theorem all_map2 {α : Type} {f : α → List AV} {p : α → Prop} {es : List (List AV)} (h : ∀ e ∈ es, ∃ x, e = f x ∧ p x) : ∃ l : List α, es = l.map f ∧ ∀ x ∈ l, p x := by
  induction es with
  | nil => exact ⟨[], rfl, by simp⟩
  | cons e es ih =>
    obtain ⟨l, hl, hp⟩ := ih fun x hx => h x (by simp [hx])
    obtain ⟨x, hx, px⟩ := h e (by simp)
    exact ⟨x :: l, by rw [hl, hx]; rfl, by simp only [List.mem_cons, forall_eq_or_imp]; exact ⟨px, hp⟩⟩
theorem has_ter {k : Nat} {xs : List AV} (h : Has Tryd.prog (k + 9) 81 xs) : ∃ t : Ter, xs = terF t ∧ t.n.size < 2 ^ 50 ∧ t.c.length < 2 ^ 50 := by
  have h := has_struct sty_81 h
  obtain ⟨x0, r, rfl, _, h0, h⟩ := hasE_cons h
  obtain ⟨x1, r, rfl, _, h1, h⟩ := hasE_cons h
  obtain ⟨x2, r, rfl, _, h2, h⟩ := hasE_cons h
  obtain ⟨x3, r, rfl, _, h3, h⟩ := hasE_cons h
  obtain ⟨x4, r, rfl, _, h4, h⟩ := hasE_cons h
  obtain rfl := hasE_nil h
  obtain ⟨n, rfl, hn⟩ := has_str tk_9 h0
  obtain ⟨c, rfl, hc⟩ := has_ints h1
  obtain ⟨s, rfl, _⟩ := has_int tk_3 h2
  obtain ⟨e, rfl, _⟩ := has_int tk_3 h3
  obtain ⟨b, rfl⟩ := has_bool tk_4 h4
  simp only [reachBytes] at hn
  exact ⟨⟨n, c, s, e, b⟩, rfl, by show n.size < _; omega, hc⟩
theorem has_kin {k : Nat} {xs : List AV} (h : Has Tryd.prog (k + 9) 84 xs) : ∃ t : Kin, xs = kinA t ∧ t.n.size < 2 ^ 50 := by
  have h := has_struct sty_84 h
  obtain ⟨x0, r, rfl, _, h0, h⟩ := hasE_cons h
  obtain ⟨x1, r, rfl, _, h1, h⟩ := hasE_cons h
  obtain ⟨x2, r, rfl, _, h2, h⟩ := hasE_cons h
  obtain ⟨x3, r, rfl, _, h3, h⟩ := hasE_cons h
  obtain ⟨x4, r, rfl, _, h4, h⟩ := hasE_cons h
  obtain ⟨x5, r, rfl, _, h5, h⟩ := hasE_cons h
  obtain rfl := hasE_nil h
  obtain ⟨n, rfl, hn⟩ := has_str tk_9 h0
  obtain ⟨s, rfl, _⟩ := has_int tk_3 h1
  obtain ⟨m, rfl, _⟩ := has_int tk_3 h2
  obtain ⟨p, rfl, _⟩ := has_int tk_3 h3
  obtain ⟨z, rfl⟩ := has_bool tk_4 h4
  obtain ⟨v, rfl, _⟩ := has_int tk_3 h5
  simp only [reachBytes] at hn
  exact ⟨⟨n, s, m, p, z, v⟩, rfl, by show n.size < _; omega⟩
theorem has_rul {k : Nat} {xs : List AV} (h : Has Tryd.prog (k + 16) 25 xs) : ∃ r : Rul, xs = rulF r ∧ RulB (2 ^ 50) r := by
  have h := has_struct sty_25 h
  obtain ⟨x0, r, rfl, _, h0, h⟩ := hasE_cons h
  obtain ⟨x1, r, rfl, _, h1, h⟩ := hasE_cons h
  obtain ⟨x2, r, rfl, _, h2, h⟩ := hasE_cons h
  obtain ⟨x3, r, rfl, _, h3, h⟩ := hasE_cons h
  obtain ⟨x4, r, rfl, _, h4, h⟩ := hasE_cons h
  obtain ⟨x5, r, rfl, _, h5, h⟩ := hasE_cons h
  obtain ⟨x6, r, rfl, _, h6, h⟩ := hasE_cons h
  obtain rfl := hasE_nil h
  obtain ⟨es, rfl, _, hb, he⟩ := has_slice tk_22 h0
  obtain ⟨ts, rfl, ht⟩ := all_map2 (f := terF) (es := es) fun e hx => has_ter (he e hx).2
  obtain ⟨fs, rfl, _, hc, hf⟩ := has_slice tk_23 h1
  obtain ⟨ks, rfl, hk⟩ := all_map2 (f := kinA) (es := fs) fun e hx => has_kin (hf e hx).2
  obtain ⟨a, rfl, _⟩ := has_int tk_3 h2
  obtain ⟨b, rfl, _⟩ := has_int tk_3 h3
  obtain ⟨c, rfl, _⟩ := has_int tk_3 h4
  obtain ⟨d, rfl, _⟩ := has_int tk_3 h5
  obtain ⟨e, rfl, _⟩ := has_int tk_3 h6
  rw [bo_81] at hb
  rw [bo_84] at hc
  simp only [reachBytes, List.length_map] at hb hc
  exact ⟨⟨ts, ks, a, b, c, d, e⟩, rfl, ⟨by show ts.length < _; omega, by show ks.length < _; omega, ht, hk⟩⟩
theorem has_mp {k : Nat} {xs : List AV} (h : Has Tryd.prog (k + 16) 28 xs) : ∃ m : Mp, xs = mpF m ∧ MpB (2 ^ 50) m := by
  have h := has_struct sty_28 h
  obtain ⟨x0, r, rfl, _, h0, h⟩ := hasE_cons h
  obtain ⟨x1, r, rfl, _, h1, h⟩ := hasE_cons h
  obtain ⟨x2, r, rfl, _, h2, h⟩ := hasE_cons h
  obtain ⟨x3, r, rfl, _, h3, h⟩ := hasE_cons h
  obtain ⟨x4, r, rfl, _, h4, h⟩ := hasE_cons h
  obtain rfl := hasE_nil h
  obtain ⟨w, rfl, _⟩ := has_int tk_3 h0
  obtain ⟨e, rfl, _⟩ := has_int tk_3 h1
  obtain ⟨t, rfl, ht⟩ := has_ints h2
  obtain ⟨ri, rfl, hri⟩ := has_ints h3
  obtain ⟨ro, rfl, hro⟩ := has_ints h4
  exact ⟨⟨w, e, t, ri, ro⟩, rfl, ⟨ht, hri, hro⟩⟩
theorem has_brd {k : Nat} {xs : List AV} (h : Has Tryd.prog (k + 20) 30 xs) : ∃ b : Brd, xs = rulF b.r ++ mpF b.m ∧ BrdB (2 ^ 50) b := by
  have h := has_struct sty_30 h
  obtain ⟨x0, r, rfl, _, h0, h⟩ := hasE_cons h
  obtain ⟨x1, r, rfl, _, h1, h⟩ := hasE_cons h
  obtain rfl := hasE_nil h
  obtain ⟨r, rfl, hr⟩ := has_rul h0
  obtain ⟨m, rfl, hm⟩ := has_mp h1
  exact ⟨⟨r, m⟩, by simp only [List.append_nil], ⟨hr, hm⟩⟩
theorem hasV_brd {k : Nat} {x : AV} (hv : HasV Tryd.prog (k + 20) 30 x) : ∃ b : Brd, x = brdF b ∧ BrdB (2 ^ 50) b := by
  obtain ⟨ys, rfl, h⟩ := hasV_struct sty_30 hv
  obtain ⟨x0, r, rfl, _, h0, h⟩ := hasE_cons h
  obtain ⟨x1, r, rfl, _, h1, h⟩ := hasE_cons h
  obtain rfl := hasE_nil h
  obtain ⟨r, rfl, hr⟩ := has_rul h0
  obtain ⟨m, rfl, hm⟩ := has_mp h1
  exact ⟨⟨r, m⟩, by simp only [brdF, List.append_nil], ⟨hr, hm⟩⟩
end Go.Proofs.YtfnphiiopghnpaaDoor.X
set_option maxHeartbeats 1000000
set_option maxRecDepth 8000
set_option linter.unusedSimpArgs false
set_option linter.unusedVariables false
open Nat renaming reduceBEq → N1, reduceAdd → N2, reduceSub → N3, reduceMul → N4, reduceEqDiff → N5, reduceLeDiff → N6, reduceLT → N7
open Int renaming reduceLE → I1, reduceLT → I2, reduceToNat → I3
namespace Go.Proofs.YtfnphiiopghnpaaDoor.X
open Go
theorem hasV_wk {k : Nat} {x : AV} (hv : HasV Tryd.prog (k + 20) 32 x) : ∃ w : Wk, x = .agg (wkF w) ∧ w.q.length < 2 ^ 50 := by
  obtain ⟨ys, rfl, h⟩ := hasV_struct sty_32 hv
  obtain ⟨x0, r, rfl, _, h0, h⟩ := hasE_cons h
  obtain ⟨x1, r, rfl, _, h1, h⟩ := hasE_cons h
  obtain ⟨x2, r, rfl, _, h2, h⟩ := hasE_cons h
  obtain ⟨x3, r, rfl, _, h3, h⟩ := hasE_cons h
  obtain rfl := hasE_nil h
  obtain ⟨a, rfl, _⟩ := has_int tk_3 h0
  obtain ⟨b, rfl, _⟩ := has_int tk_3 h1
  obtain ⟨c, rfl, _⟩ := has_int tk_3 h2
  obtain ⟨q, rfl, hq⟩ := has_ints h3
  exact ⟨⟨a, b, c, q⟩, rfl, hq⟩
end Go.Proofs.YtfnphiiopghnpaaDoor.X
set_option maxHeartbeats 1000000
set_option maxRecDepth 8000
set_option linter.unusedSimpArgs false
set_option linter.unusedVariables false
open Nat renaming reduceBEq → N1, reduceAdd → N2, reduceSub → N3, reduceMul → N4, reduceEqDiff → N5, reduceLeDiff → N6, reduceLT → N7
open Int renaming reduceLE → I1, reduceLT → I2, reduceToNat → I3
namespace Go.Proofs.YtfnphiiopghnpaaDoor.X
open Go
theorem lawAppendKind_C {C : CT} (hC : Closed Tryd.prog G1 md0 C) : ∀ xs, HasVs Tryd.prog 30 [30, 32, 3] xs → Ev C 3 xs (.bool true) := by
  rintro xs ⟨x0, r0, rfl, h0, x1, r1, rfl, h1, x2, r2, rfl, h2, rfl⟩
  obtain ⟨b, rfl, hb⟩ := hasV_brd h0
  obtain ⟨x, rfl, hx⟩ := hasV_wk h1
  obtain ⟨d, rfl, _⟩ := hasV_int tk_3 h2
  exact t3 hC b x d hb hx
theorem lawAppendKind : ∀ xs, HasVs Tryd.prog 30 [30, 32, 3] xs → Ev (CS Tryd.prog G1) 3 xs (.bool true) := lawAppendKind_C (CS_closed (by kernel_rfl))
end Go.Proofs.YtfnphiiopghnpaaDoor.X
