/- A part of the proof: lemmas on the machine or on the functions that the law reaches. No condition of its own. -/
import Derived.Test.YtjaccjeejeiphaaGreatDoorXP11
import Derived.Test.YtjaccjeejeiphaaGreatDoorXP12
import Derived.Test.YtjaccjeejeiphaaGreatDoorXP8
import Derived.Test.YtjaccjeejeiphaaGreatDoorXP10
import Derived.Test.YtjaccjeejeiphaaGreatDoorXP4
set_option maxHeartbeats 4000000
set_option maxRecDepth 8000
set_option linter.unusedSimpArgs false
set_option linter.unusedVariables false
open Nat renaming reduceBEq → N1, reduceAdd → N2, reduceSub → N3, reduceMul → N4, reduceEqDiff → N5, reduceLeDiff → N6, reduceLT → N7
open Int renaming reduceLE → I1, reduceLT → I2, reduceToNat → I3
namespace Go.Proofs.YtjaccjeejeiphaaGreatDoor.X
open Go
attribute [local irreducible] Ev
theorem ps_len (b : Brd) (s : Sta) (x : Wk) (c n : Int) : (psS b s x c n).us.length ≤ 12 ∧ (psX b s x c n).q.length ≤ 8 := by
  simp only [psS, psX]
  cases h : psOk b s x c n
  · simp [sta0, wk0]
  simp only [psOk, Bool.and_eq_true] at h
  have hc : 0 ≤ c ∧ c ≤ 50 := by simpa only [inR, Bool.and_eq_true, decide_eq_true_eq] using h.1.2
  have g := (prI_ok h.1.1 hc n.toNat).1
  simp only [prOk, Bool.and_eq_true] at g
  have h1 := sta_len g.1
  have h2 := (wk_in g.2).2.2.1
  simp only [if_true]
  omega
section
variable {C : CT} (hC : Closed Tryz.prog G1 md0 C)
include hC
end
attribute [-push_cast] R_fork
section
variable {C : CT} (hC : Closed Tryz.prog G1 md0 C)
include hC
theorem t8 (b : Brd) (s : Sta) (x : Wk) (d : Int) (e : Int) (hb : BrdB (2^50) b) (hs : s.us.length < 2^50) (hx : x.q.length < 2^50) : Ev C 8 [brdF b, .agg (staF s), .agg (wkF x), .int .i64 d, .int .i64 e] (.bool true) := by
  have z0 := fun p => t15 hC b 1048576 p hb
  have z1 := fun p => t16 hC s (szBrd b 1048576) p hs
  have z2 := fun p => t17 hC x (sub1 (szBrd b 1048576) s.us.length) p hx
  have d0 := fun Hb => t19 hC b Hb
  have e0 := t23 hC b b hb hb
  have d1 := fun Hs => t20 hC s Hs
  have e1 := t24 hC s s hs hs
  have d2 := fun Hx => t21 hC x Hx
  have e2 := t25 hC x x hx hx
  have f1 := fun (Hb : BrdB (2^30) b) (Hs : s.us.length < 2^30) (Hx : x.q.length < 2^30) => t42 hC b s x d e hb (by omega) (by omega)
  have f2 := fun (Hb : BrdB (2^30) b) (Hs : s.us.length < 2^30) (Hx : x.q.length < 2^30) => t43 hC b s x d e hb (by omega) (by omega)
  have hq := True.intro
  have bR : (BrdB (2^30) b) → (s.us.length < 2^30) → (x.q.length < 2^30) → ((psS b s x d e)).us.length < 2^40 := by intros; (have := (ps_len b s x d e).1; omega)
  have bQ : (BrdB (2^30) b) → (s.us.length < 2^30) → (x.q.length < 2^30) → ((psX b s x d e)).q.length < 2^40 := by intros; (have := (ps_len b s x d e).2; omega)
  generalize (psS b s x d e) = R at *
  generalize (psX b s x d e) = Q at *
  simp only [brdO, rulO, mpO, brdF, rulF, mpF, szSta, staF, staO, szWk, wkF, wkO, List.cons_append, List.nil_append, List.append_assoc, decide_true] at *
  refine rT hC Q8 ?_
  simp only [c8, push_cast, ↓J1, ↓J2, N1, N2, N3, reduceCtorEq, N4, N5, N6, reduceIte, N7, I1, I2, I3]
  refine ⟨_, z0 (by omega), ?_⟩
  simp only [push_cast, ↓J1, ↓J2, N1, N2, N3, reduceCtorEq, N4, N5, N6, reduceIte, N7, I1, I2, I3]
  refine ifB_intro (fun h => trivial) (fun h => ?_)
  have n0 := of_decide_eq_false h
  clear h
  have l0 := szBrd_le (b := b) (v := 1048576) (by omega) (by omega)
  have Hb : BrdB (2^30) b := (szBrd_pos (by omega)).mono (by omega)
  have Gb : BrdB (2^21) b := szBrd_pos (by omega)
  refine ⟨_, z1 (by omega), ?_⟩
  simp only [push_cast, ↓J1, ↓J2, N1, N2, N3, reduceCtorEq, N4, N5, N6, reduceIte, N7, I1, I2, I3]
  refine ifB_intro (fun h => trivial) (fun h => ?_)
  have n1 := of_decide_eq_false h
  clear h
  have l1 := sub1_le (v := (szBrd b 1048576)) (n := s.us.length) (by omega)
  have Hs : s.us.length < 2^30 := by have := sub1_pos (v := (szBrd b 1048576)) (n := s.us.length) (by omega); omega
  refine ⟨_, z2 (by omega), ?_⟩
  simp only [push_cast, ↓J1, ↓J2, N1, N2, N3, reduceCtorEq, N4, N5, N6, reduceIte, N7, I1, I2, I3]
  refine ifB_intro (fun h => trivial) (fun h => ?_)
  have n2 := of_decide_eq_false h
  clear h
  have l2 := sub1_le (v := (sub1 (szBrd b 1048576) s.us.length)) (n := x.q.length) (by omega)
  have Hx : x.q.length < 2^30 := by have := sub1_pos (v := (sub1 (szBrd b 1048576) s.us.length)) (n := x.q.length) (by omega); omega
  have d0 := d0 Hb
  have d1 := d1 Hs
  have d2 := d2 Hx
  have bR := bR Hb Hs Hx
  have hR : R.us.length < 2^50 := by omega
  have bQ := bQ Hb Hs Hx
  have hQ : Q.q.length < 2^50 := by omega
  have f1 := f1 Hb Hs Hx
  have f2 := f2 Hb Hs Hx
  have r0 := t24 hC R R hR hR
  have r1 := t25 hC Q Q hQ hQ
  have tkR0 : List.take R.us.length (uns R.us) = uns R.us := List.take_of_length_le (by rw [uns_length]; omega)
  have tkR1 : ∀ k, List.take R.us.length (uns (mkUns k R.us.length)) = uns (mkUns k R.us.length) := fun k => List.take_of_length_le (by rw [uns_length, mkUns_length]; omega)
  have tkQ0 : List.take Q.q.length (ints Q.q) = ints Q.q := List.take_of_length_le (by rw [ints_length]; omega)
  have tkQ1 : ∀ k, List.take Q.q.length (ints (run k Q.q.length)) = ints (run k Q.q.length) := fun k => List.take_of_length_le (by rw [ints_length, run_length]; omega)
  simp only [brdO, rulO, mpO, brdF, rulF, mpF, szSta, staF, staO, szWk, wkF, wkO, List.cons_append, List.nil_append, List.append_assoc, decide_true] at r0 r1
  have q0 := t38 hC R.t R.w 1 R.us.length (by omega) (by omega)
  have w0 : decide (1 + 4 * (R.us.length : Int) < 0) = false := decide_eq_false (by omega)
  have q1 := t39 hC Q.sd Q.at_ Q.pt (1 + 4 * (R.us.length : Int)) Q.q.length (by omega) (by omega)
  have w1 : decide (1 + 4 * (R.us.length : Int) + (Q.q.length : Int) < 0) = false := decide_eq_false (by omega)
  refine cutF (fun s' => ∃ l h i0 j0 i1 j1, s' = ⟨tb 210 (.con undef) l, h, 14⟩ ∧ lk (.con undef) l 5 = .ptr 0 none 0 0 0 ∧ lk (.con undef) l 6 = .ptr 1 none 0 0 0 ∧ lk (.con undef) l 7 = .ptr 2 none 0 0 0 ∧ lk (.con undef) l 3 = .int .i64 d ∧ lk (.con undef) l 4 = .int .i64 e ∧ lk (.con undef) l 12 = .ptr i0 none 0 0 0 ∧ lk (.con undef) l 13 = .ptr i1 none 0 0 0 ∧ lk (.con undef) l 14 = .int .i64 (psN b s x d e) ∧ lk (.con undef) l 15 = .bool (psOk b s x d e) ∧ hget h 0 = some (.var [.sl (tersF b.r.ts), .sl (kins b.r.ks), .int .i64 b.r.stack, .int .i64 b.r.river, .int .i64 b.r.road, .int .i64 b.r.supply, .int .i64 b.r.turns, .int .i64 b.m.w, .int .i64 b.m.h, .sl (ints b.m.t), .sl (ints b.m.ri), .sl (ints b.m.ro)]) ∧ hget h 1 = some (.var [.int .i64 s.t, .int .i64 s.w, .sl (uns s.us)]) ∧ hget h 2 = some (.var [.int .i64 x.sd, .int .i64 x.at_, .int .i64 x.pt, .sl (ints x.q)]) ∧ hget h i0 = some (.var [.int .i64 R.t, .int .i64 R.w, .ref j0 none 4 0 (uns R.us).length]) ∧ hget h j0 = some (.slice 4 (uns R.us)) ∧ hget h i1 = some (.var [.int .i64 Q.sd, .int .i64 Q.at_, .int .i64 Q.pt, .ref j1 none 1 0 (ints Q.q).length]) ∧ hget h j1 = some (.slice 1 (ints Q.q)) ∧ killA l = l ∧ below 14 h ∧ solid h) (fun K F hK => ?_) ?_
  · repeat' (first
    | simp only [R_fork, frzLL_ints, frzLL_ters, frzLL_kins, frzLL_uns, push_cast, ↓J1, ↓J2, N1, N2, N3, reduceCtorEq, N4, N5, N6, reduceIte, N7, I1, I2, I3]
    | refine ⟨_, d0, ?_⟩
    | refine ⟨_, d1, ?_⟩
    | refine ⟨_, d2, ?_⟩
    | refine ⟨_, f1, ?_⟩
    | refine ifB_intro (fun h => ?_) (fun h => ?_)
    | refine And.intro ?_ ?_)
    all_goals
      refine hK _ ⟨_, _, _, _, _, _, rfl, rfl, rfl, rfl, rfl, rfl, rfl, rfl, rfl, rfl, rfl, rfl, rfl, rfl, rfl, rfl, rfl, ?_, ?_, ?_⟩
      · rfl
      · rfl
      · rfl
  rintro _ ⟨l, h, i0, j0, i1, j1, rfl, L0, L1, L2, L3, L4, L5, L6, L7, L8, H0, H1, H2, H3, H4, H5, H6, hL, hB, hS⟩
  have pi0 : i0 < 14 := below_lt hB H3
  have xi0 : ∀ k, 14 ≤ k → (k = i0) = False := fun k hk => eq_false (by omega)
  have yi0 : ∀ k, 14 ≤ k → (i0 = k) = False := fun k hk => eq_false (by omega)
  have ui0 : ∀ k, 14 ≤ k → (i0 < k) = True := fun k hk => eq_true (by omega)
  have pj0 : j0 < 14 := below_lt hB H4
  have xj0 : ∀ k, 14 ≤ k → (k = j0) = False := fun k hk => eq_false (by omega)
  have yj0 : ∀ k, 14 ≤ k → (j0 = k) = False := fun k hk => eq_false (by omega)
  have uj0 : ∀ k, 14 ≤ k → (j0 < k) = True := fun k hk => eq_true (by omega)
  have pi1 : i1 < 14 := below_lt hB H5
  have xi1 : ∀ k, 14 ≤ k → (k = i1) = False := fun k hk => eq_false (by omega)
  have yi1 : ∀ k, 14 ≤ k → (i1 = k) = False := fun k hk => eq_false (by omega)
  have ui1 : ∀ k, 14 ≤ k → (i1 < k) = True := fun k hk => eq_true (by omega)
  have pj1 : j1 < 14 := below_lt hB H6
  have xj1 : ∀ k, 14 ≤ k → (k = j1) = False := fun k hk => eq_false (by omega)
  have yj1 : ∀ k, 14 ≤ k → (j1 = k) = False := fun k hk => eq_false (by omega)
  have uj1 : ∀ k, 14 ≤ k → (j1 < k) = True := fun k hk => eq_true (by omega)
  have hS' : killH h = h := hS
  have hB' : ∀ m, 14 ≤ m → below m h := fun m hm => below_le hB hm
  repeat' (first
    | simp only [frzLL_ints, frzLL_ters, frzLL_kins, frzLL_uns, L0, L1, L2, L3, L4, L5, L6, L7, L8, H0, H1, H2, H3, H4, H5, H6, xi0, yi0, ui0, xj0, yj0, uj0, xi1, yi1, ui1, xj1, yj1, uj1, hS', hL, push_cast, ↓J1, ↓J2, N1, N2, N3, reduceCtorEq, N4, N5, N6, reduceIte, N7, I1, I2, I3]
    | refine ⟨_, d0, ?_⟩
    | refine ⟨_, e0, ?_⟩
    | refine ⟨_, d1, ?_⟩
    | refine ⟨_, e1, ?_⟩
    | refine ⟨_, d2, ?_⟩
    | refine ⟨_, e2, ?_⟩
    | refine ⟨_, r0, ?_⟩
    | refine ⟨_, r1, ?_⟩
    | refine ⟨_, q0, ?_⟩
    | refine ⟨_, q1, ?_⟩
    | refine ⟨_, f1, ?_⟩
    | refine ⟨_, f2, ?_⟩
    | refine ifB_intro (fun h => ?_) (fun h => ?_)
    | refine And.intro ?_ ?_)
  all_goals
    try simp only [tersO_length, kins_length, ints_length, uns_length]
    refine ⟨_, t35 hC b _ _ _ _ _ 1 _ _ ?_ ?_ ?_ ?_ ?_ ?_ ?_ ?_ ?_ ?_ ?_ ?_ ?_ ?_ ?_ Gb ?_ ?_ ?_, ?_⟩
    any_goals (first | rfl | assumption | decide | omega | (simp only [tkR0, tkR1, tkQ0, tkQ1, L0, L1, L2, L3, L4, L5, L6, L7, L8, H0, H1, H2, H3, H4, H5, H6, xi0, yi0, ui0, xj0, yj0, uj0, xi1, yi1, ui1, xj1, yj1, uj1, hS', hL, hget, N5, N7, reduceIte]; done) | ((repeat' (first | exact hB' _ (by decide) | refine below_mk (by decide) rfl ?_)); done) | (simp only [solid, killH, killL, killS, hS']; done))
    rintro v0 a0 m0 p0 _
    obtain ⟨⟨k0, rfl, u0, o0⟩, rfl, y0, B0, S0⟩ := p0
    have K0 : killH a0 = a0 := S0
    unfold FrH at y0
    have nn0 : decide (k0 < 0) = false := decide_eq_false (by omega)
    repeat' (first
    | simp only [frzLL_ints, frzLL_ters, frzLL_kins, frzLL_uns, tkR0, tkR1, tkQ0, tkQ1, K0, y0, nn0, List.mem_cons, List.not_mem_nil, or_false, not_false_eq_true, not_or, and_true, and_self, L0, L1, L2, L3, L4, L5, L6, L7, L8, H0, H1, H2, H3, H4, H5, H6, xi0, yi0, ui0, xj0, yj0, uj0, xi1, yi1, ui1, xj1, yj1, uj1, hS', hL, push_cast, ↓J1, ↓J2, N1, N2, N3, reduceCtorEq, N4, N5, N6, reduceIte, N7, I1, I2, I3]
    | refine ⟨_, d0, ?_⟩
    | refine ⟨_, e0, ?_⟩
    | refine ⟨_, d1, ?_⟩
    | refine ⟨_, e1, ?_⟩
    | refine ⟨_, d2, ?_⟩
    | refine ⟨_, e2, ?_⟩
    | refine ⟨_, r0, ?_⟩
    | refine ⟨_, r1, ?_⟩
    | refine ⟨_, q0, ?_⟩
    | refine ⟨_, q1, ?_⟩
    | refine ⟨_, f1, ?_⟩
    | refine ⟨_, f2, ?_⟩
    | refine ifB_intro (fun h => ?_) (fun h => ?_)
    | refine And.intro ?_ ?_)
  all_goals
    try simp only [tersO_length, kins_length, ints_length, uns_length]
    refine ⟨_, t36 hC s.t s.w s.us _ (k0) _ _ ?_ ?_ ?_ ?_ (by omega), ?_⟩
    any_goals (first | rfl | assumption | decide | omega | (simp only [tkR0, tkR1, tkQ0, tkQ1, K0, y0, nn0, List.mem_cons, List.not_mem_nil, or_false, not_false_eq_true, not_or, and_true, and_self, L0, L1, L2, L3, L4, L5, L6, L7, L8, H0, H1, H2, H3, H4, H5, H6, xi0, yi0, ui0, xj0, yj0, uj0, xi1, yi1, ui1, xj1, yj1, uj1, hS', hL, hget, N5, N7, reduceIte]; done) | ((repeat' (first | exact hB' _ (by decide) | refine below_mk (by decide) rfl ?_)); done) | (simp only [solid, killH, killL, killS, hS']; done))
    rintro v1 a1 m1 p1 _
    obtain ⟨rfl, rfl, -, y1, B1, S1⟩ := p1
    have K1 : killH a1 = a1 := S1
    unfold FrH at y1
    have nn1 : decide (k0 + 4 * (s.us.length : Int) < 0) = false := decide_eq_false (by omega)
    repeat' (first
    | simp only [frzLL_ints, frzLL_ters, frzLL_kins, frzLL_uns, tkR0, tkR1, tkQ0, tkQ1, K0, y0, nn0, List.mem_cons, List.not_mem_nil, or_false, not_false_eq_true, not_or, and_true, and_self, K1, y1, nn1, L0, L1, L2, L3, L4, L5, L6, L7, L8, H0, H1, H2, H3, H4, H5, H6, xi0, yi0, ui0, xj0, yj0, uj0, xi1, yi1, ui1, xj1, yj1, uj1, hS', hL, push_cast, ↓J1, ↓J2, N1, N2, N3, reduceCtorEq, N4, N5, N6, reduceIte, N7, I1, I2, I3]
    | refine ⟨_, d0, ?_⟩
    | refine ⟨_, e0, ?_⟩
    | refine ⟨_, d1, ?_⟩
    | refine ⟨_, e1, ?_⟩
    | refine ⟨_, d2, ?_⟩
    | refine ⟨_, e2, ?_⟩
    | refine ⟨_, r0, ?_⟩
    | refine ⟨_, r1, ?_⟩
    | refine ⟨_, q0, ?_⟩
    | refine ⟨_, q1, ?_⟩
    | refine ⟨_, f1, ?_⟩
    | refine ⟨_, f2, ?_⟩
    | refine ifB_intro (fun h => ?_) (fun h => ?_)
    | refine And.intro ?_ ?_)
  all_goals
    try simp only [tersO_length, kins_length, ints_length, uns_length]
    refine ⟨_, t37 hC x.sd x.at_ x.pt x.q _ (k0 + 4 * (s.us.length : Int)) _ _ ?_ ?_ ?_ ?_ (by omega), ?_⟩
    any_goals (first | rfl | assumption | decide | omega | (simp only [tkR0, tkR1, tkQ0, tkQ1, K0, y0, nn0, List.mem_cons, List.not_mem_nil, or_false, not_false_eq_true, not_or, and_true, and_self, K1, y1, nn1, L0, L1, L2, L3, L4, L5, L6, L7, L8, H0, H1, H2, H3, H4, H5, H6, xi0, yi0, ui0, xj0, yj0, uj0, xi1, yi1, ui1, xj1, yj1, uj1, hS', hL, hget, N5, N7, reduceIte]; done) | ((repeat' (first | exact hB' _ (by decide) | refine below_mk (by decide) rfl ?_)); done) | (simp only [solid, killH, killL, killS, hS']; done))
    rintro v2 a2 m2 p2 _
    obtain ⟨rfl, rfl, -, y2, B2, S2⟩ := p2
    have K2 : killH a2 = a2 := S2
    unfold FrH at y2
    have nn2 : decide (k0 + 4 * (s.us.length : Int) + (x.q.length : Int) < 0) = false := decide_eq_false (by omega)
    repeat' (first
    | simp only [frzLL_ints, frzLL_ters, frzLL_kins, frzLL_uns, tkR0, tkR1, tkQ0, tkQ1, K0, y0, nn0, List.mem_cons, List.not_mem_nil, or_false, not_false_eq_true, not_or, and_true, and_self, K1, y1, nn1, K2, y2, nn2, L0, L1, L2, L3, L4, L5, L6, L7, L8, H0, H1, H2, H3, H4, H5, H6, xi0, yi0, ui0, xj0, yj0, uj0, xi1, yi1, ui1, xj1, yj1, uj1, hS', hL, push_cast, ↓J1, ↓J2, N1, N2, N3, reduceCtorEq, N4, N5, N6, reduceIte, N7, I1, I2, I3]
    | refine ⟨_, d0, ?_⟩
    | refine ⟨_, e0, ?_⟩
    | refine ⟨_, d1, ?_⟩
    | refine ⟨_, e1, ?_⟩
    | refine ⟨_, d2, ?_⟩
    | refine ⟨_, e2, ?_⟩
    | refine ⟨_, r0, ?_⟩
    | refine ⟨_, r1, ?_⟩
    | refine ⟨_, q0, ?_⟩
    | refine ⟨_, q1, ?_⟩
    | refine ⟨_, f1, ?_⟩
    | refine ⟨_, f2, ?_⟩
    | refine ifB_intro (fun h => ?_) (fun h => ?_)
    | refine And.intro ?_ ?_)
  all_goals
    try simp only [tersO_length, kins_length, ints_length, uns_length]
    refine ⟨_, t36 hC R.t R.w R.us _ 1 _ _ ?_ ?_ ?_ ?_ (by omega), ?_⟩
    any_goals (first | rfl | assumption | decide | omega | (simp only [tkR0, tkR1, tkQ0, tkQ1, K0, y0, nn0, List.mem_cons, List.not_mem_nil, or_false, not_false_eq_true, not_or, and_true, and_self, K1, y1, nn1, K2, y2, nn2, L0, L1, L2, L3, L4, L5, L6, L7, L8, H0, H1, H2, H3, H4, H5, H6, xi0, yi0, ui0, xj0, yj0, uj0, xi1, yi1, ui1, xj1, yj1, uj1, hS', hL, hget, N5, N7, reduceIte]; done) | ((repeat' (first | exact hB' _ (by decide) | refine below_mk (by decide) rfl ?_)); done) | (simp only [solid, killH, killL, killS, hS']; done))
    rintro v3 a3 m3 p3 _
    obtain ⟨rfl, rfl, g3, y3, B3, S3⟩ := p3
    have K3 : killH a3 = a3 := S3
    unfold FrH at y3
    repeat' (first
    | simp only [frzLL_ints, frzLL_ters, frzLL_kins, frzLL_uns, tkR0, tkR1, tkQ0, tkQ1, K0, y0, nn0, List.mem_cons, List.not_mem_nil, or_false, not_false_eq_true, not_or, and_true, and_self, K1, y1, nn1, K2, y2, nn2, K3, y3, g3, w0, w1, L0, L1, L2, L3, L4, L5, L6, L7, L8, H0, H1, H2, H3, H4, H5, H6, xi0, yi0, ui0, xj0, yj0, uj0, xi1, yi1, ui1, xj1, yj1, uj1, hS', hL, push_cast, ↓J1, ↓J2, N1, N2, N3, reduceCtorEq, N4, N5, N6, reduceIte, N7, I1, I2, I3]
    | refine ⟨_, d0, ?_⟩
    | refine ⟨_, e0, ?_⟩
    | refine ⟨_, d1, ?_⟩
    | refine ⟨_, e1, ?_⟩
    | refine ⟨_, d2, ?_⟩
    | refine ⟨_, e2, ?_⟩
    | refine ⟨_, r0, ?_⟩
    | refine ⟨_, r1, ?_⟩
    | refine ⟨_, q0, ?_⟩
    | refine ⟨_, q1, ?_⟩
    | refine ⟨_, f1, ?_⟩
    | refine ⟨_, f2, ?_⟩
    | refine ifB_intro (fun h => ?_) (fun h => ?_)
    | refine And.intro ?_ ?_)
  all_goals
    try simp only [tersO_length, kins_length, ints_length, uns_length]
    refine ⟨_, t37 hC Q.sd Q.at_ Q.pt Q.q _ (1 + 4 * (R.us.length : Int)) _ _ ?_ ?_ ?_ ?_ (by omega), ?_⟩
    any_goals (first | rfl | assumption | decide | omega | (simp only [tkR0, tkR1, tkQ0, tkQ1, K0, y0, nn0, List.mem_cons, List.not_mem_nil, or_false, not_false_eq_true, not_or, and_true, and_self, K1, y1, nn1, K2, y2, nn2, K3, y3, g3, L0, L1, L2, L3, L4, L5, L6, L7, L8, H0, H1, H2, H3, H4, H5, H6, xi0, yi0, ui0, xj0, yj0, uj0, xi1, yi1, ui1, xj1, yj1, uj1, hS', hL, hget, N5, N7, reduceIte]; done) | ((repeat' (first | exact hB' _ (by decide) | refine below_mk (by decide) rfl ?_)); done) | (simp only [solid, killH, killL, killS, hS']; done))
    rintro v4 a4 m4 p4 _
    obtain ⟨rfl, rfl, g4, y4, B4, S4⟩ := p4
    have K4 : killH a4 = a4 := S4
    unfold FrH at y4
    repeat' (first
    | simp only [frzLL_ints, frzLL_ters, frzLL_kins, frzLL_uns, tkR0, tkR1, tkQ0, tkQ1, K0, y0, nn0, List.mem_cons, List.not_mem_nil, or_false, not_false_eq_true, not_or, and_true, and_self, K1, y1, nn1, K2, y2, nn2, K3, y3, g3, K4, y4, g4, w0, w1, L0, L1, L2, L3, L4, L5, L6, L7, L8, H0, H1, H2, H3, H4, H5, H6, xi0, yi0, ui0, xj0, yj0, uj0, xi1, yi1, ui1, xj1, yj1, uj1, hS', hL, R_fork, push_cast, ↓J1, ↓J2, N1, N2, N3, reduceCtorEq, N4, N5, N6, reduceIte, N7, I1, I2, I3]
    | refine ⟨_, d0, ?_⟩
    | refine ⟨_, e0, ?_⟩
    | refine ⟨_, d1, ?_⟩
    | refine ⟨_, e1, ?_⟩
    | refine ⟨_, d2, ?_⟩
    | refine ⟨_, e2, ?_⟩
    | refine ⟨_, r0, ?_⟩
    | refine ⟨_, r1, ?_⟩
    | refine ⟨_, q0, ?_⟩
    | refine ⟨_, q1, ?_⟩
    | refine ⟨_, f1, ?_⟩
    | refine ⟨_, f2, ?_⟩
    | refine ifB_intro (fun h => ?_) (fun h => ?_)
    | refine And.intro ?_ ?_)
end
end Go.Proofs.YtjaccjeejeiphaaGreatDoor.X
set_option maxHeartbeats 4000000
set_option maxRecDepth 8000
set_option linter.unusedSimpArgs false
set_option linter.unusedVariables false
open Nat renaming reduceBEq → N1, reduceAdd → N2, reduceSub → N3, reduceMul → N4, reduceEqDiff → N5, reduceLeDiff → N6, reduceLT → N7
open Int renaming reduceLE → I1, reduceLT → I2, reduceToNat → I3
namespace Go.Proofs.YtjaccjeejeiphaaGreatDoor.X
open Go
theorem has_ints {k : Nat} {xs : List AV} (h : Has Tryz.prog (k + 2) 26 xs) : ∃ l, xs = [.sl (ints l)] ∧ l.length < 2 ^ 50 := by
  obtain ⟨es, rfl, _, hb, he⟩ := has_slice tk_26 h
  rw [bo_3] at hb
  obtain ⟨l, rfl⟩ := all_map (f := fun n : Int => [AV.int .i64 n]) (es := es) fun e hx => by
    obtain ⟨n, hn, _⟩ := has_int tk_3 (he e hx).2
    exact ⟨n, hn⟩
  simp only [reachBytes, List.length_map] at hb
  exact ⟨l, rfl, by omega⟩
theorem all_map2 {α : Type} {f : α → List AV} {p : α → Prop} {es : List (List AV)} (h : ∀ e ∈ es, ∃ x, e = f x ∧ p x) : ∃ l : List α, es = l.map f ∧ ∀ x ∈ l, p x := by
  induction es with
  | nil => exact ⟨[], rfl, by simp⟩
  | cons e es ih =>
    obtain ⟨l, hl, hp⟩ := ih fun x hx => h x (by simp [hx])
    obtain ⟨x, hx, px⟩ := h e (by simp)
    exact ⟨x :: l, by rw [hl, hx]; rfl, by simp only [List.mem_cons, forall_eq_or_imp]; exact ⟨px, hp⟩⟩
theorem has_ter {k : Nat} {xs : List AV} (h : Has Tryz.prog (k + 9) 213 xs) : ∃ t : Ter, xs = terF t ∧ t.n.size < 2 ^ 50 ∧ t.c.length < 2 ^ 50 := by
  have h := has_struct sty_213 h
  obtain ⟨x0, r, rfl, _, h0, h⟩ := hasE_cons h
  obtain ⟨x1, r, rfl, _, h1, h⟩ := hasE_cons h
  obtain ⟨x2, r, rfl, _, h2, h⟩ := hasE_cons h
  obtain ⟨x3, r, rfl, _, h3, h⟩ := hasE_cons h
  obtain ⟨x4, r, rfl, _, h4, h⟩ := hasE_cons h
  obtain rfl := hasE_nil h
  obtain ⟨n, rfl, hn⟩ := has_str tk_9 h0
  obtain ⟨c, rfl, hc⟩ := has_ints h1
  obtain ⟨s, rfl, _⟩ := has_int tk_3 h2
  obtain ⟨e, rfl, _⟩ := has_int tk_3 h3
  obtain ⟨b, rfl⟩ := has_bool tk_4 h4
  simp only [reachBytes] at hn
  exact ⟨⟨n, c, s, e, b⟩, rfl, by show n.size < _; omega, hc⟩
theorem has_kin {k : Nat} {xs : List AV} (h : Has Tryz.prog (k + 9) 215 xs) : ∃ t : Kin, xs = kinA t ∧ t.n.size < 2 ^ 50 := by
  have h := has_struct sty_215 h
  obtain ⟨x0, r, rfl, _, h0, h⟩ := hasE_cons h
  obtain ⟨x1, r, rfl, _, h1, h⟩ := hasE_cons h
  obtain ⟨x2, r, rfl, _, h2, h⟩ := hasE_cons h
  obtain ⟨x3, r, rfl, _, h3, h⟩ := hasE_cons h
  obtain ⟨x4, r, rfl, _, h4, h⟩ := hasE_cons h
  obtain ⟨x5, r, rfl, _, h5, h⟩ := hasE_cons h
  obtain rfl := hasE_nil h
  obtain ⟨n, rfl, hn⟩ := has_str tk_9 h0
  obtain ⟨s, rfl, _⟩ := has_int tk_3 h1
  obtain ⟨m, rfl, _⟩ := has_int tk_3 h2
  obtain ⟨p, rfl, _⟩ := has_int tk_3 h3
  obtain ⟨z, rfl⟩ := has_bool tk_4 h4
  obtain ⟨v, rfl, _⟩ := has_int tk_3 h5
  simp only [reachBytes] at hn
  exact ⟨⟨n, s, m, p, z, v⟩, rfl, by show n.size < _; omega⟩
theorem has_rul {k : Nat} {xs : List AV} (h : Has Tryz.prog (k + 16) 25 xs) : ∃ r : Rul, xs = rulF r ∧ RulB (2 ^ 50) r := by
  have h := has_struct sty_25 h
  obtain ⟨x0, r, rfl, _, h0, h⟩ := hasE_cons h
  obtain ⟨x1, r, rfl, _, h1, h⟩ := hasE_cons h
  obtain ⟨x2, r, rfl, _, h2, h⟩ := hasE_cons h
  obtain ⟨x3, r, rfl, _, h3, h⟩ := hasE_cons h
  obtain ⟨x4, r, rfl, _, h4, h⟩ := hasE_cons h
  obtain ⟨x5, r, rfl, _, h5, h⟩ := hasE_cons h
  obtain ⟨x6, r, rfl, _, h6, h⟩ := hasE_cons h
  obtain rfl := hasE_nil h
  obtain ⟨es, rfl, _, hb, he⟩ := has_slice tk_22 h0
  obtain ⟨ts, rfl, ht⟩ := all_map2 (f := terF) (es := es) fun e hx => has_ter (he e hx).2
  obtain ⟨fs, rfl, _, hc, hf⟩ := has_slice tk_23 h1
  obtain ⟨ks, rfl, hk⟩ := all_map2 (f := kinA) (es := fs) fun e hx => has_kin (hf e hx).2
  obtain ⟨a, rfl, _⟩ := has_int tk_3 h2
  obtain ⟨b, rfl, _⟩ := has_int tk_3 h3
  obtain ⟨c, rfl, _⟩ := has_int tk_3 h4
  obtain ⟨d, rfl, _⟩ := has_int tk_3 h5
  obtain ⟨e, rfl, _⟩ := has_int tk_3 h6
  rw [bo_213] at hb
  rw [bo_215] at hc
  simp only [reachBytes, List.length_map] at hb hc
  exact ⟨⟨ts, ks, a, b, c, d, e⟩, rfl, ⟨by show ts.length < _; omega, by show ks.length < _; omega, ht, hk⟩⟩
theorem has_mp {k : Nat} {xs : List AV} (h : Has Tryz.prog (k + 16) 28 xs) : ∃ m : Mp, xs = mpF m ∧ MpB (2 ^ 50) m := by
  have h := has_struct sty_28 h
  obtain ⟨x0, r, rfl, _, h0, h⟩ := hasE_cons h
  obtain ⟨x1, r, rfl, _, h1, h⟩ := hasE_cons h
  obtain ⟨x2, r, rfl, _, h2, h⟩ := hasE_cons h
  obtain ⟨x3, r, rfl, _, h3, h⟩ := hasE_cons h
  obtain ⟨x4, r, rfl, _, h4, h⟩ := hasE_cons h
  obtain rfl := hasE_nil h
  obtain ⟨w, rfl, _⟩ := has_int tk_3 h0
  obtain ⟨e, rfl, _⟩ := has_int tk_3 h1
  obtain ⟨t, rfl, ht⟩ := has_ints h2
  obtain ⟨ri, rfl, hri⟩ := has_ints h3
  obtain ⟨ro, rfl, hro⟩ := has_ints h4
  exact ⟨⟨w, e, t, ri, ro⟩, rfl, ⟨ht, hri, hro⟩⟩
theorem has_brd {k : Nat} {xs : List AV} (h : Has Tryz.prog (k + 20) 30 xs) : ∃ b : Brd, xs = rulF b.r ++ mpF b.m ∧ BrdB (2 ^ 50) b := by
  have h := has_struct sty_30 h
  obtain ⟨x0, r, rfl, _, h0, h⟩ := hasE_cons h
  obtain ⟨x1, r, rfl, _, h1, h⟩ := hasE_cons h
  obtain rfl := hasE_nil h
  obtain ⟨r, rfl, hr⟩ := has_rul h0
  obtain ⟨m, rfl, hm⟩ := has_mp h1
  exact ⟨⟨r, m⟩, by simp only [List.append_nil], ⟨hr, hm⟩⟩
theorem hasV_brd {k : Nat} {x : AV} (hv : HasV Tryz.prog (k + 20) 30 x) : ∃ b : Brd, x = brdF b ∧ BrdB (2 ^ 50) b := by
  obtain ⟨ys, rfl, h⟩ := hasV_struct sty_30 hv
  obtain ⟨x0, r, rfl, _, h0, h⟩ := hasE_cons h
  obtain ⟨x1, r, rfl, _, h1, h⟩ := hasE_cons h
  obtain rfl := hasE_nil h
  obtain ⟨r, rfl, hr⟩ := has_rul h0
  obtain ⟨m, rfl, hm⟩ := has_mp h1
  exact ⟨⟨r, m⟩, by simp only [brdF, List.append_nil], ⟨hr, hm⟩⟩
end Go.Proofs.YtjaccjeejeiphaaGreatDoor.X
set_option maxHeartbeats 1000000
set_option maxRecDepth 8000
set_option linter.unusedSimpArgs false
set_option linter.unusedVariables false
open Nat renaming reduceBEq → N1, reduceAdd → N2, reduceSub → N3, reduceMul → N4, reduceEqDiff → N5, reduceLeDiff → N6, reduceLT → N7
open Int renaming reduceLE → I1, reduceLT → I2, reduceToNat → I3
namespace Go.Proofs.YtjaccjeejeiphaaGreatDoor.X
open Go
theorem hasV_sta {k : Nat} {x : AV} (hv : HasV Tryz.prog (k + 20) 33 x) : ∃ s : Sta, x = .agg (staF s) ∧ s.us.length < 2 ^ 50 := by
  obtain ⟨ys, rfl, h⟩ := hasV_struct sty_33 hv
  obtain ⟨x0, r, rfl, _, h0, h⟩ := hasE_cons h
  obtain ⟨x1, r, rfl, _, h1, h⟩ := hasE_cons h
  obtain ⟨x2, r, rfl, _, h2, h⟩ := hasE_cons h
  obtain rfl := hasE_nil h
  obtain ⟨a, rfl, _⟩ := has_int tk_3 h0
  obtain ⟨b, rfl, _⟩ := has_int tk_3 h1
  obtain ⟨es, rfl, _, hb, he⟩ := has_slice tk_31 h2
  obtain ⟨us, rfl⟩ := all_map (f := unA) (es := es) fun e hx => by
    have h := has_struct sty_170 (he e hx).2
    obtain ⟨x0, r, rfl, _, h0, h⟩ := hasE_cons h
    obtain ⟨x1, r, rfl, _, h1, h⟩ := hasE_cons h
    obtain ⟨x2, r, rfl, _, h2, h⟩ := hasE_cons h
    obtain ⟨x3, r, rfl, _, h3, h⟩ := hasE_cons h
    obtain rfl := hasE_nil h
    obtain ⟨a, rfl, _⟩ := has_int tk_3 h0
    obtain ⟨b, rfl, _⟩ := has_int tk_3 h1
    obtain ⟨c, rfl, _⟩ := has_int tk_3 h2
    obtain ⟨d, rfl, _⟩ := has_int tk_3 h3
    exact ⟨⟨a, b, c, d⟩, rfl⟩
  rw [bo_170] at hb
  simp only [reachBytes, List.length_map] at hb
  exact ⟨⟨a, b, us⟩, rfl, by show us.length < _; omega⟩
end Go.Proofs.YtjaccjeejeiphaaGreatDoor.X
set_option maxHeartbeats 1000000
set_option maxRecDepth 8000
set_option linter.unusedSimpArgs false
set_option linter.unusedVariables false
open Nat renaming reduceBEq → N1, reduceAdd → N2, reduceSub → N3, reduceMul → N4, reduceEqDiff → N5, reduceLeDiff → N6, reduceLT → N7
open Int renaming reduceLE → I1, reduceLT → I2, reduceToNat → I3
namespace Go.Proofs.YtjaccjeejeiphaaGreatDoor.X
open Go
theorem hasV_wk {k : Nat} {x : AV} (hv : HasV Tryz.prog (k + 20) 35 x) : ∃ w : Wk, x = .agg (wkF w) ∧ w.q.length < 2 ^ 50 := by
  obtain ⟨ys, rfl, h⟩ := hasV_struct sty_35 hv
  obtain ⟨x0, r, rfl, _, h0, h⟩ := hasE_cons h
  obtain ⟨x1, r, rfl, _, h1, h⟩ := hasE_cons h
  obtain ⟨x2, r, rfl, _, h2, h⟩ := hasE_cons h
  obtain ⟨x3, r, rfl, _, h3, h⟩ := hasE_cons h
  obtain rfl := hasE_nil h
  obtain ⟨a, rfl, _⟩ := has_int tk_3 h0
  obtain ⟨b, rfl, _⟩ := has_int tk_3 h1
  obtain ⟨c, rfl, _⟩ := has_int tk_3 h2
  obtain ⟨q, rfl, hq⟩ := has_ints h3
  exact ⟨⟨a, b, c, q⟩, rfl, hq⟩
end Go.Proofs.YtjaccjeejeiphaaGreatDoor.X
set_option maxHeartbeats 1000000
set_option maxRecDepth 8000
set_option linter.unusedSimpArgs false
set_option linter.unusedVariables false
open Nat renaming reduceBEq → N1, reduceAdd → N2, reduceSub → N3, reduceMul → N4, reduceEqDiff → N5, reduceLeDiff → N6, reduceLT → N7
open Int renaming reduceLE → I1, reduceLT → I2, reduceToNat → I3
namespace Go.Proofs.YtjaccjeejeiphaaGreatDoor.X
open Go
theorem lawProduceTurns_C {C : CT} (hC : Closed Tryz.prog G1 md0 C) : ∀ xs, HasVs Tryz.prog 30 [30, 33, 35, 3, 3] xs → Ev C 8 xs (.bool true) := by
  rintro xs ⟨x0, r0, rfl, h0, x1, r1, rfl, h1, x2, r2, rfl, h2, x3, r3, rfl, h3, x4, r4, rfl, h4, rfl⟩
  obtain ⟨b, rfl, hb⟩ := hasV_brd h0
  obtain ⟨s, rfl, hs⟩ := hasV_sta h1
  obtain ⟨x, rfl, hx⟩ := hasV_wk h2
  obtain ⟨d, rfl, _⟩ := hasV_int tk_3 h3
  obtain ⟨e, rfl, _⟩ := hasV_int tk_3 h4
  exact t8 hC b s x d e hb hs hx
theorem lawProduceTurns : ∀ xs, HasVs Tryz.prog 30 [30, 33, 35, 3, 3] xs → Ev (CS Tryz.prog G1) 8 xs (.bool true) := lawProduceTurns_C (CS_closed (by kernel_rfl))
end Go.Proofs.YtjaccjeejeiphaaGreatDoor.X
