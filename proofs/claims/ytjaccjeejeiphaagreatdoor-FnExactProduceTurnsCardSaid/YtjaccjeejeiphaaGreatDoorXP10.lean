/- A part of the proof: lemmas on the machine or on the functions that the law reaches. No condition of its own. -/
import Derived.Test.YtjaccjeejeiphaaGreatDoorXP9
set_option maxHeartbeats 1500000
set_option maxRecDepth 8000
set_option linter.unusedSimpArgs false
set_option linter.unusedVariables false
open Nat renaming reduceBEq → N1, reduceAdd → N2, reduceSub → N3, reduceMul → N4, reduceEqDiff → N5, reduceLeDiff → N6, reduceLT → N7
open Int renaming reduceLE → I1, reduceLT → I2, reduceToNat → I3
namespace Go.Proofs.YtjaccjeejeiphaaGreatDoor.X
open Go
attribute [local irreducible] Ev
def incW (x : Wk) (c : Int) : Wk := ⟨x.sd, x.at_, (if x.pt + c < 200 then x.pt + c else 200), x.q⟩
def newU (b : Brd) (x : Wk) : Un := ⟨x.sd, x.q.getD 0 0, x.at_, (kindOf b (x.q.getD 0 0)).sp⟩
theorem tk_snoc {l : List Int} {i : Nat} (h0 : 1 ≤ i) (h : i < l.length) : (l.drop 1).take i = (l.drop 1).take (i - 1) ++ [l.getD i 0] := by
  obtain ⟨j, rfl⟩ : ∃ j, i = j + 1 := ⟨i - 1, by omega⟩
  have hj : j < (l.drop 1).length := by rw [List.length_drop]; omega
  rw [List.take_succ_eq_append_getElem hj, Nat.add_sub_cancel]
  congr 2
  rw [List.getElem_drop]
  simp only [List.getD, List.getElem?_eq_getElem h, Option.getD_some, Nat.add_comm]
theorem prOk_inc {b : Brd} {s : Sta} {x : Wk} {c : Int} (g : prOk b s x = true) (hc : 0 ≤ c ∧ c ≤ 50) : prOk b s (incW x c) = true := by
  have hq : inR 0 200 (incW x c).pt = true := by
    have : inR 0 200 x.pt = true := by simp only [prOk, wkR, Bool.and_eq_true] at g; exact g.2.1.1.2
    simp only [inR, Bool.and_eq_true, decide_eq_true_eq] at this
    have e : (incW x c).pt = (if x.pt + c < 200 then x.pt + c else 200) := rfl
    have h2 : 0 ≤ (incW x c).pt ∧ (incW x c).pt ≤ 200 := by rw [e]; constructor <;> split <;> omega
    simp only [inR, Bool.and_eq_true, decide_eq_true_eq]; exact h2
  simp only [prOk, wkR, Bool.and_eq_true] at g ⊢
  exact ⟨g.1, ⟨⟨g.2.1.1.1, hq⟩, g.2.1.2⟩, g.2.2⟩
theorem pcode_q {b : Brd} {s : Sta} {x : Wk} (h : pcode b s x = 0) : 1 ≤ x.q.length := by
  simp only [pcode] at h
  split at h
  · omega
  · omega
theorem wk_pt {b : Brd} {s : Sta} {x : Wk} (g : prOk b s x = true) : 0 ≤ x.pt ∧ x.pt ≤ 200 := by
  simp only [prOk, wkR, Bool.and_eq_true] at g
  have := g.2.1.1.2
  simp only [inR, Bool.and_eq_true, decide_eq_true_eq] at this
  exact this
theorem own_swi (s : Sta) (x : Wk) (v : Int) : ownR (.tup [.agg (staO s), .agg (wkO x), .int .i64 v]) = true := by
  have h := own_ints x.q
  simp only [ownR] at h
  simp only [wkO, staO, ownR, ownRL, own_uns, h, Bool.and_true]
def tS (b : Brd) (s : Sta) (x : Wk) : Sta := if pcode b s x = 0 then ⟨s.t, s.w, s.us ++ [newU b x]⟩ else s
def tX (b : Brd) (s : Sta) (x : Wk) : Wk := if pcode b s x = 0 then ⟨x.sd, x.at_, x.pt - priceOf b (x.q.getD 0 0), x.q.drop 1⟩ else x
section
variable {C : CT} (hC : Closed Tryz.prog G1 md0 C)
include hC
theorem t177z (x : Wk) (h1 : 1 ≤ x.q.length) (hq : x.q.length < 2^30) : Ev C 177 [.agg (wkF x), .int .i64 0] (.agg (wkO ⟨x.sd, x.at_, x.pt, x.q.drop 1⟩)) := by
  simp only [wkF, wkO]
  refine rT hC Q177 ?_ (by exact own_wk ⟨x.sd, x.at_, x.pt, x.q.drop 1⟩)
  simp only [c177, ints_length, push_cast, ↓J1, ↓J2, N1, N2, N3, reduceCtorEq, N4, N5, N6, reduceIte, N7, I1, I2, I3]
  refine RL_count (fun i => if i ≤ 1 then ⟨tb 34 .any [(1, .int .i64 0), (4, .ptr 0 none 0 0 0), (5, .ptr 1 none 0 0 0), (16, .sl (ints x.q)), (17, .int .i64 (x.q.length : Int)), (18, .int .i64 (i : Int))], [(1, .var [.int .i64 x.sd, .int .i64 x.at_, .int .i64 x.pt, .nil]), (0, .var [.int .i64 0, .int .i64 0, .int .i64 0, .nil])], 2⟩ else ⟨tb 34 .any [(1, .int .i64 0), (4, .ptr 0 none 0 0 0), (5, .ptr 1 none 0 0 0), (16, .sl (ints x.q)), (17, .int .i64 (x.q.length : Int)), (18, .int .i64 (i : Int))], [(2, .slice 1 (ints ((x.q.drop 1).take (i - 1)))), (1, .var [.int .i64 x.sd, .int .i64 x.at_, .int .i64 x.pt, .ref 2 none 1 0 (i - 1)]), (0, .var [.int .i64 0, .int .i64 0, .int .i64 0, .nil])], 3⟩) (fun _ => True) x.q.length 0 (hdA [(2, 1), (1, 0)]) (by omega) trivial fun i hi _ J hJ => ?_
  by_cases h1 : i < x.q.length
  · have e1 : (ints x.q)[i]? = some [.int .i64 (x.q.getD i 0)] := ints_get h1
    have hJ1 := hJ h1 trivial
    clear hJ
    by_cases hi0 : i = 0
    · have hne : decide ((i : Int) = 0) = true := decide_eq_true (by omega)
      simp only [if_pos (show i + 1 ≤ 1 by omega)] at hJ1
      simp only [if_pos (show i ≤ 1 by omega), Int.toNat_natCast, e1, ints_length, hne, push_cast, ↓J1, ↓J2, N1, N2, N3, reduceCtorEq, N4, N5, N6, reduceIte, N7, I1, I2, I3]
      refine ifB_intro (fun _ => ?_) (fun h => by simp at h; omega)
      repeat (refine ⟨by omega, ?_⟩)
      exact hJ1 _ (hdA [(1, 1), (0, 0)])
    simp only [if_neg (show ¬ i + 1 ≤ 1 by omega), Nat.add_sub_cancel] at hJ1
    have hne : decide ((i : Int) = 0) = false := decide_eq_false (by omega)
    have tks := tk_snoc (l := x.q) (i := i) (by omega) h1
    have tl : ((x.q.drop 1).take (i - 1)).length = i - 1 := by rw [List.length_take, List.length_drop]; omega
    have tkk : List.take (i - 1) (ints ((x.q.drop 1).take (i - 1))) = ints ((x.q.drop 1).take (i - 1)) := List.take_of_length_le (by rw [ints_length, tl]; omega)
    have hsub : i - 1 + 1 = i := by omega
    rw [tks] at hJ1
    by_cases hi1 : i = 1
    · have hz : (x.q.drop 1).take (i - 1) = [] := by rw [hi1]; rfl
      simp only [if_pos (show i ≤ 1 by omega), Int.toNat_natCast, e1, ints_length, hne, push_cast, ↓J1, ↓J2, N1, N2, N3, reduceCtorEq, N4, N5, N6, reduceIte, N7, I1, I2, I3]
      refine ifB_intro (fun _ => ?_) (fun h => by simp at h; omega)
      repeat (refine ⟨by omega, ?_⟩)
      rw [hz] at hJ1
      refine hJ1 _ (hdA [(3, 2), (1, 1), (0, 0)] (hh := ?_))
      simp only [canR, canB, renO, renL, ren, lkp, hget, N7, N5, Nat.not_lt_zero, if_false, if_true, reduceIte, List.append_nil, List.nil_append, ints_sn, hi1]
      all_goals rfl
    simp only [if_neg (show ¬ i ≤ 1 by omega), Int.toNat_natCast, e1, ints_length, hne, tkk, tl, hsub, push_cast, ↓J1, ↓J2, N1, N2, N3, reduceCtorEq, N4, N5, N6, reduceIte, N7, I1, I2, I3]
    refine ifB_intro (fun _ => ?_) (fun h => by simp at h; omega)
    repeat (refine ⟨by omega, ?_⟩)
    refine hJ1 _ (hdA [(4, 2), (1, 1), (0, 0)] (hh := ?_))
    simp only [canR, canB, renO, renL, ren, lkp, hget, N7, N5, Nat.not_lt_zero, if_false, if_true, reduceIte, List.append_nil, List.nil_append, ints_sn]
    all_goals rfl
  · clear hJ
    have hge : decide ((i : Int) < (x.q.length : Int)) = false := decide_eq_false (by omega)
    by_cases hi1 : i ≤ 1
    · have hd : x.q.drop 1 = [] := List.drop_eq_nil_of_le (by omega)
      simp only [if_pos hi1, hge, hd, push_cast, ↓J1, ↓J2, N1, N2, N3, reduceCtorEq, N4, N5, N6, reduceIte, N7, I1, I2, I3]
      exact RetTo_nil (h2 := _) (by simp only [conR, conRL, isF, hget, hdel, List.drop_zero, List.take_length, if_true, if_false, reduceIte, N5, reduceCtorEq]; rfl) (NilTo_agg (NilToL_cons (NilTo.refl _) (NilToL_cons (NilTo.refl _) (NilToL_cons (NilTo.refl _) (NilToL_cons NilTo_nl NilToL_nil)))))
    have hd : (x.q.drop 1).take (i - 1) = x.q.drop 1 := List.take_of_length_le (by rw [List.length_drop]; omega)
    have tkk : List.take (i - 1) (ints (x.q.drop 1)) = ints (x.q.drop 1) := List.take_of_length_le (by rw [ints_length, List.length_drop]; omega)
    simp only [if_neg hi1, hge, hd, push_cast, ↓J1, ↓J2, N1, N2, N3, reduceCtorEq, N4, N5, N6, reduceIte, N7, I1, I2, I3]
    exact RetTo_of (by simp only [conR, conRL, isF, hget, hdel, List.drop_zero, List.take_length, if_true, if_false, reduceIte, N5, reduceCtorEq, tkk]; rfl)
theorem t176 (a b : Int) : Ev C 176 [.int .i64 a, .int .i64 b] (.int .i64 (if a < b then a else b)) := by
  refine rT hC Q176 ?_
  simp only [c176, push_cast, ↓J1, ↓J2, N1, N2, N3, reduceCtorEq, N4, N5, N6, reduceIte, N7, I1, I2, I3]
  cases g : decide (a < b)
  · have h1 := of_decide_eq_false g
    simp only [if_neg h1, push_cast, ↓J1, ↓J2, N1, N2, N3, reduceCtorEq, N4, N5, N6, reduceIte, N7, I1, I2, I3]
  · have h1 := of_decide_eq_true g
    simp only [if_pos h1, push_cast, ↓J1, ↓J2, N1, N2, N3, reduceCtorEq, N4, N5, N6, reduceIte, N7, I1, I2, I3]
theorem t106 (b : Brd) (s : Sta) (x : Wk) (c : Int) (g0 : prOk b s x = true) (hc : 0 ≤ c ∧ c ≤ 50) (hb : BrdB (2^50) b) : Ev C 106 [brdF b, .agg (staF s), .agg (wkF x), .int .i64 c] (.tup [.agg (staO (tS b s (incW x c))), .agg (wkO (tX b s (incW x c))), .int .i64 (pcode b s (incW x c))]) := by
  have g1 := prOk_inc g0 hc
  have hp := g0
  simp only [prOk, Bool.and_eq_true] at hp
  have gb := sta_brd hp.1
  have hlen := sta_len hp.1
  have hw := wk_in hp.2
  have hxp := hp.2
  simp only [wkR, inR, Bool.and_eq_true, decide_eq_true_eq] at hxp
  have c1 := t91 hC x (by omega)
  have c2 := t90 hC s (by omega)
  have c3 := t176 hC 200 (x.pt + c)
  rw [show (if 200 < x.pt + c then 200 else x.pt + c) = (incW x c).pt by simp only [incW]; split <;> split <;> omega] at c3
  have c4 := t62 hC b s (incW x c) g1 hb
  have wp : IntKind.i64.wrap (x.pt + c) = x.pt + c := wrap64 (by omega) (by omega)
  have i1 : (incW x c).sd = x.sd := rfl
  have i2 : (incW x c).at_ = x.at_ := rfl
  have i3 : (incW x c).q = x.q := rfl
  simp only [brdF, rulF, mpF, List.cons_append, List.nil_append, staF, staO, wkF, wkO, i1, i2, i3] at c1 c2 c3 c4 ⊢
  refine rT hC Q106 ?_ (own_swi _ _ _)
  simp only [c106, push_cast, ↓J1, ↓J2, N1, N2, N3, reduceCtorEq, N4, N5, N6, reduceIte, N7, I1, I2, I3]
  refine ⟨_, c1, ?_⟩
  simp only [push_cast, ↓J1, ↓J2, N1, N2, N3, reduceCtorEq, N4, N5, N6, reduceIte, N7, I1, I2, I3]
  refine ⟨_, c2, ?_⟩
  simp only [wp, push_cast, ↓J1, ↓J2, N1, N2, N3, reduceCtorEq, N4, N5, N6, reduceIte, N7, I1, I2, I3]
  refine ⟨_, c3, ?_⟩
  simp only [frzLL_ints, frzLL_uns, push_cast, ↓J1, ↓J2, N1, N2, N3, reduceCtorEq, N4, N5, N6, reduceIte, N7, I1, I2, I3]
  refine ⟨_, c4, ?_⟩
  cases g2 : decide (pcode b s (incW x c) = 0)
  · have h2 := of_decide_eq_false g2
    simp only [tS, tX, if_neg h2, i1, i2, i3]
    simp only [g2, push_cast, ↓J1, ↓J2, N1, N2, N3, reduceCtorEq, N4, N5, N6, reduceIte, N7, I1, I2, I3]
    have tku : List.take s.us.length (uns s.us) = uns s.us := List.take_of_length_le (by rw [uns_length]; omega)
    have tkq : List.take x.q.length (ints x.q) = ints x.q := List.take_of_length_le (by rw [ints_length]; omega)
    and_intros
    all_goals exact RetTo_of (by simp only [conR, conRL, isF, hget, hdel, List.drop_zero, List.take_length, if_true, if_false, reduceIte, N5, reduceCtorEq, tku, tkq, uns_length, ints_length]; rfl)
  have h2 := of_decide_eq_true g2
  simp only [tS, tX, if_pos h2, i1, i2, i3]
  have hq0 := pcode_q h2
  simp only [i3] at hq0
  have e1 : (ints x.q)[0]? = some [.int .i64 (x.q.getD 0 0)] := ints_get (by omega)
  have hk : inR 0 (b.r.ks.length - 1) (x.q.getD 0 0) = true := by
    refine hw.2.2.2 _ ?_
    have h0 : 0 < x.q.length := by omega
    simp only [List.getD, List.getElem?_eq_getElem h0, Option.getD_some]
    exact List.getElem_mem h0
  have hask : kindAsk b (x.q.getD 0 0) = true := un_kind (u := ⟨0, x.q.getD 0 0, 0, 0⟩) gb hk
  have hka := kind_at hask
  have e2 : (kins b.r.ks)[(x.q.getD 0 0).toNat]? = some (kinA (kindOf b (x.q.getD 0 0))) := by
    have := kins_get (b := b) (k := (x.q.getD 0 0).toNat) (by omega)
    rwa [show (((x.q.getD 0 0).toNat : Nat) : Int) = x.q.getD 0 0 by omega] at this
  have hkb := kin_bnd hask
  have c5 := t142 hC b _ hask hb
  have c6 := t177z hC ⟨x.sd, x.at_, (incW x c).pt - priceOf b (x.q.getD 0 0), x.q⟩ (by show 1 ≤ x.q.length; omega) (by show x.q.length < 2^30; omega)
  have wq : IntKind.i64.wrap ((incW x c).pt - priceOf b (x.q.getD 0 0)) = (incW x c).pt - priceOf b (x.q.getD 0 0) := by
    have h1 := price_bnd hask
    have h2 := wk_pt g1
    exact wrap64 (by omega) (by omega)
  have z0 : (0 : Int).toNat = 0 := rfl
  simp only [brdF, rulF, mpF, List.cons_append, List.nil_append, staF, staO, wkF, wkO, newU] at c5 c6 ⊢
  have tku : List.take s.us.length (uns s.us) = uns s.us := List.take_of_length_le (by rw [uns_length]; omega)
  have tkq : List.take x.q.length (ints x.q) = ints x.q := List.take_of_length_le (by rw [ints_length]; omega)
  simp only [g2, z0, e1, e2, tku, tkq, kinA, ints_length, kins_length, uns_length, frzLL_ints, frzLL_uns, push_cast, ↓J1, ↓J2, N1, N2, N3, reduceCtorEq, N4, N5, N6, reduceIte, N7, I1, I2, I3]
  repeat (refine ⟨by omega, ?_⟩)
  refine ⟨_, c5, ?_⟩
  simp only [wq, tku, tkq, ints_length, uns_length, frzLL_ints, frzLL_uns, push_cast, ↓J1, ↓J2, N1, N2, N3, reduceCtorEq, N4, N5, N6, reduceIte, N7, I1, I2, I3]
  refine ⟨_, c6, ?_⟩
  simp only [push_cast, ↓J1, ↓J2, N1, N2, N3, reduceCtorEq, N4, N5, N6, reduceIte, N7, I1, I2, I3]
  have tkv : List.take (s.us.length + 1) (uns s.us ++ [[AV.int .i64 x.sd, AV.int .i64 (x.q.getD 0 0), AV.int .i64 x.at_, AV.int .i64 (kindOf b (x.q.getD 0 0)).sp]]) = uns (s.us ++ [⟨x.sd, x.q.getD 0 0, x.at_, (kindOf b (x.q.getD 0 0)).sp⟩]) := by
    rw [List.take_of_length_le (by simp [uns])]; simp [uns, unA]
  exact RetTo_of (by simp only [conR, conRL, isF, hget, hdel, List.drop_zero, List.take_length, if_true, if_false, reduceIte, N5, reduceCtorEq, tkv]; rfl)
theorem t108 (b : Brd) (s : Sta) (x : Wk) (c : Int) (g0 : prOk b s x = true) (hc : 0 ≤ c ∧ c ≤ 50) (hb : BrdB (2^50) b) : Ev C 108 [brdF b, .agg (staF s), .agg (wkF x), .int .i64 c] (.tup [.agg (staO (tS b s (incW x c))), .agg (wkO (tX b s (incW x c))), .int .i64 (pcode b s (incW x c))]) := by
  have g1 := prOk_inc g0 hc
  have hp := g0
  simp only [prOk, Bool.and_eq_true] at hp
  have gb := sta_brd hp.1
  have hlen := sta_len hp.1
  have hw := wk_in hp.2
  have hxp := hp.2
  simp only [wkR, inR, Bool.and_eq_true, decide_eq_true_eq] at hxp
  have c1 := t98 hC x (by omega)
  have c2 := t97 hC s (by omega)
  have hmin : (if 200 < x.pt + c then 200 else x.pt + c) = (incW x c).pt := by simp only [incW]; split <;> split <;> omega
  have hmin2 : (if x.pt + c < 200 then x.pt + c else 200) = (incW x c).pt := rfl
  have hmin3 : min (x.pt + c) 200 = (incW x c).pt := by simp only [incW]; split <;> omega
  have c4 := t68 hC b s (incW x c) g1 hb
  have wp : IntKind.i64.wrap (x.pt + c) = x.pt + c := wrap64 (by omega) (by omega)
  have i1 : (incW x c).sd = x.sd := rfl
  have i2 : (incW x c).at_ = x.at_ := rfl
  have i3 : (incW x c).q = x.q := rfl
  simp only [brdF, rulF, mpF, List.cons_append, List.nil_append, staF, staO, wkF, wkO, i1, i2, i3] at c1 c2 c4 ⊢
  refine rT hC Q108 ?_ (own_swi _ _ _)
  simp only [c108, push_cast, ↓J1, ↓J2, N1, N2, N3, reduceCtorEq, N4, N5, N6, reduceIte, N7, I1, I2, I3]
  refine ⟨_, c2, ?_⟩
  simp only [push_cast, ↓J1, ↓J2, N1, N2, N3, reduceCtorEq, N4, N5, N6, reduceIte, N7, I1, I2, I3]
  refine ⟨_, c1, ?_⟩
  simp only [wp, hmin, hmin2, hmin3, frzLL_ints, frzLL_uns, push_cast, ↓J1, ↓J2, N1, N2, N3, reduceCtorEq, N4, N5, N6, reduceIte, N7, I1, I2, I3]
  refine ⟨_, c4, ?_⟩
  cases g2 : decide (pcode b s (incW x c) = 0)
  · have h2 := of_decide_eq_false g2
    simp only [tS, tX, if_neg h2, i1, i2, i3]
    simp only [g2, push_cast, ↓J1, ↓J2, N1, N2, N3, reduceCtorEq, N4, N5, N6, reduceIte, N7, I1, I2, I3]
    have tku : List.take s.us.length (uns s.us) = uns s.us := List.take_of_length_le (by rw [uns_length]; omega)
    have tkq : List.take x.q.length (ints x.q) = ints x.q := List.take_of_length_le (by rw [ints_length]; omega)
    and_intros
    all_goals exact RetTo_of (by simp only [conR, conRL, isF, hget, hdel, List.drop_zero, List.take_length, if_true, if_false, reduceIte, N5, reduceCtorEq, tku, tkq, uns_length, ints_length]; rfl)
  have h2 := of_decide_eq_true g2
  simp only [tS, tX, if_pos h2, i1, i2, i3]
  have hq0 := pcode_q h2
  simp only [i3] at hq0
  have e1 : (ints x.q)[0]? = some [.int .i64 (x.q.getD 0 0)] := ints_get (by omega)
  have hk : inR 0 (b.r.ks.length - 1) (x.q.getD 0 0) = true := by
    refine hw.2.2.2 _ ?_
    have h0 : 0 < x.q.length := by omega
    simp only [List.getD, List.getElem?_eq_getElem h0, Option.getD_some]
    exact List.getElem_mem h0
  have hask : kindAsk b (x.q.getD 0 0) = true := un_kind (u := ⟨0, x.q.getD 0 0, 0, 0⟩) gb hk
  have hka := kind_at hask
  have e2 : (kins b.r.ks)[(x.q.getD 0 0).toNat]? = some (kinA (kindOf b (x.q.getD 0 0))) := by
    have := kins_get (b := b) (k := (x.q.getD 0 0).toNat) (by omega)
    rwa [show (((x.q.getD 0 0).toNat : Nat) : Int) = x.q.getD 0 0 by omega] at this
  have hkb := kin_bnd hask
  have c5 := t150 hC b _ hask hb
  have c6 := t177z hC ⟨x.sd, x.at_, (incW x c).pt - priceOf b (x.q.getD 0 0), x.q⟩ (by show 1 ≤ x.q.length; omega) (by show x.q.length < 2^30; omega)
  have wq : IntKind.i64.wrap ((incW x c).pt - priceOf b (x.q.getD 0 0)) = (incW x c).pt - priceOf b (x.q.getD 0 0) := by
    have h1 := price_bnd hask
    have h2 := wk_pt g1
    exact wrap64 (by omega) (by omega)
  have z0 : (0 : Int).toNat = 0 := rfl
  simp only [brdF, rulF, mpF, List.cons_append, List.nil_append, staF, staO, wkF, wkO, newU] at c5 c6 ⊢
  have tku : List.take s.us.length (uns s.us) = uns s.us := List.take_of_length_le (by rw [uns_length]; omega)
  have tkq : List.take x.q.length (ints x.q) = ints x.q := List.take_of_length_le (by rw [ints_length]; omega)
  simp only [g2, z0, e1, e2, tku, tkq, kinA, ints_length, kins_length, uns_length, frzLL_ints, frzLL_uns, push_cast, ↓J1, ↓J2, N1, N2, N3, reduceCtorEq, N4, N5, N6, reduceIte, N7, I1, I2, I3]
  repeat (refine ⟨by omega, ?_⟩)
  refine ⟨_, c5, ?_⟩
  simp only [wq, tku, tkq, ints_length, uns_length, frzLL_ints, frzLL_uns, push_cast, ↓J1, ↓J2, N1, N2, N3, reduceCtorEq, N4, N5, N6, reduceIte, N7, I1, I2, I3]
  have hn : ((x.q.length : Int) - 1).toNat = x.q.length - 1 := by omega
  have tkd : List.take (x.q.length - 1) (List.drop 1 (ints x.q)) = ints (x.q.drop 1) := by
    rw [List.take_of_length_le (by rw [List.length_drop, ints_length]; omega)]; simp only [ints, List.map_drop]
  simp only [hn]
  have tkv : List.take (s.us.length + 1) (uns s.us ++ [[AV.int .i64 x.sd, AV.int .i64 (x.q.getD 0 0), AV.int .i64 x.at_, AV.int .i64 (kindOf b (x.q.getD 0 0)).sp]]) = uns (s.us ++ [⟨x.sd, x.q.getD 0 0, x.at_, (kindOf b (x.q.getD 0 0)).sp⟩]) := by
    rw [List.take_of_length_le (by simp [uns])]; simp [uns, unA]
  refine ⟨by omega, by omega, ?_⟩
  and_intros
  all_goals exact RetTo_of (by simp only [conR, conRL, isF, hget, hdel, List.drop_zero, List.take_length, if_true, if_false, reduceIte, N5, reduceCtorEq, tkv, tkd]; rfl)
end
end Go.Proofs.YtjaccjeejeiphaaGreatDoor.X
set_option maxHeartbeats 1500000
set_option maxRecDepth 8000
set_option linter.unusedSimpArgs false
set_option linter.unusedVariables false
open Nat renaming reduceBEq → N1, reduceAdd → N2, reduceSub → N3, reduceMul → N4, reduceEqDiff → N5, reduceLeDiff → N6, reduceLT → N7
open Int renaming reduceLE → I1, reduceLT → I2, reduceToNat → I3
namespace Go.Proofs.YtjaccjeejeiphaaGreatDoor.X
open Go
attribute [local irreducible] Ev
theorem own_swb (s : Sta) (x : Wk) (v : Int) (w : Bool) : ownR (.tup [.agg (staO s), .agg (wkO x), .int .i64 v, .bool w]) = true := by
  have h := own_ints x.q
  simp only [ownR] at h
  simp only [wkO, staO, ownR, ownRL, own_uns, h, Bool.and_true]
def ptOk (b : Brd) (s : Sta) (x : Wk) (c : Int) : Bool := prOk b s x && inR 0 50 c
def ptS (b : Brd) (s : Sta) (x : Wk) (c : Int) : Sta := if ptOk b s x c then tS b s (incW x c) else sta0
def ptX (b : Brd) (s : Sta) (x : Wk) (c : Int) : Wk := if ptOk b s x c then tX b s (incW x c) else wk0
def ptC (b : Brd) (s : Sta) (x : Wk) (c : Int) : Int := if ptOk b s x c then pcode b s (incW x c) else 0
section
variable {C : CT} (hC : Closed Tryz.prog G1 md0 C)
include hC
theorem t40 (b : Brd) (s : Sta) (x : Wk) (c : Int) (hb : BrdB (2^50) b) (hl : s.us.length < 2^40) (hq : x.q.length < 2^50) : Ev C 40 [brdF b, .agg (staF s), .agg (wkF x), .int .i64 c] (.tup [.agg (staO (ptS b s x c)), .agg (wkO (ptX b s x c)), .int .i64 (ptC b s x c), .bool (ptOk b s x c)]) := by
  have c1 := t61 hC b s x hb hl hq
  have c2 := tIn hC c 0 50
  have c3 := fun g h => t106 hC b s x c g h hb
  simp only [brdF, rulF, mpF, List.cons_append, List.nil_append, staF, staO, wkF, wkO] at c1 c2 c3 ⊢
  refine rT hC Q40 ?_ (own_swb _ _ _ _)
  simp only [c40, push_cast, ↓J1, ↓J2, N1, N2, N3, reduceCtorEq, N4, N5, N6, reduceIte, N7, I1, I2, I3]
  refine ⟨_, c1, ?_⟩
  cases g1 : prOk b s x
  · have hno : ptOk b s x c = false := by simp only [ptOk, g1, Bool.false_and]
    simp only [ptS, ptX, ptC, hno, Bool.false_eq_true, if_false, push_cast, ↓J1, ↓J2, N1, N2, N3, reduceCtorEq, N4, N5, N6, reduceIte, N7, I1, I2, I3]
    exact RetTo_nil (h2 := _) (by simp only [conR, conRL, isF, hget, hdel, List.drop_zero, List.take_length, if_true, if_false, reduceIte, N5, reduceCtorEq]; rfl) (NilTo_tup (NilToL_cons (NilTo_agg nil_sta) (NilToL_cons (NilTo_agg nil_wk) (NilToL_cons (NilTo.refl _) (NilToL_cons (NilTo.refl _) NilToL_nil)))))
  simp only [push_cast, ↓J1, ↓J2, N1, N2, N3, reduceCtorEq, N4, N5, N6, reduceIte, N7, I1, I2, I3]
  refine ⟨_, c2, ?_⟩
  cases g2 : inR 0 50 c
  · have hno : ptOk b s x c = false := by simp only [ptOk, g2, Bool.and_false]
    simp only [ptS, ptX, ptC, hno, Bool.false_eq_true, if_false, push_cast, ↓J1, ↓J2, N1, N2, N3, reduceCtorEq, N4, N5, N6, reduceIte, N7, I1, I2, I3]
    exact RetTo_nil (h2 := _) (by simp only [conR, conRL, isF, hget, hdel, List.drop_zero, List.take_length, if_true, if_false, reduceIte, N5, reduceCtorEq]; rfl) (NilTo_tup (NilToL_cons (NilTo_agg nil_sta) (NilToL_cons (NilTo_agg nil_wk) (NilToL_cons (NilTo.refl _) (NilToL_cons (NilTo.refl _) NilToL_nil)))))
  have hok : ptOk b s x c = true := by simp only [ptOk, g1, g2, Bool.and_self]
  have hc : 0 ≤ c ∧ c ≤ 50 := by simpa only [inR, Bool.and_eq_true, decide_eq_true_eq] using g2
  simp only [ptS, ptX, ptC, hok, if_true, push_cast, ↓J1, ↓J2, N1, N2, N3, reduceCtorEq, N4, N5, N6, reduceIte, N7, I1, I2, I3]
  refine ⟨_, c3 g1 hc, ?_⟩
  simp only [push_cast, ↓J1, ↓J2, N1, N2, N3, reduceCtorEq, N4, N5, N6, reduceIte, N7, I1, I2, I3]
  and_intros
  all_goals exact rtA
theorem t41 (b : Brd) (s : Sta) (x : Wk) (c : Int) (hb : BrdB (2^50) b) (hl : s.us.length < 2^40) (hq : x.q.length < 2^50) : Ev C 41 [brdF b, .agg (staF s), .agg (wkF x), .int .i64 c] (.tup [.agg (staO (ptS b s x c)), .agg (wkO (ptX b s x c)), .int .i64 (ptC b s x c), .bool (ptOk b s x c)]) := by
  have c1 := t67 hC b s x hb hl hq
  have c2 := t107 hC c
  have c3 := fun g h => t108 hC b s x c g h hb
  simp only [brdF, rulF, mpF, List.cons_append, List.nil_append, staF, staO, wkF, wkO] at c1 c2 c3 ⊢
  refine rT hC Q41 ?_ (own_swb _ _ _ _)
  simp only [c41, push_cast, ↓J1, ↓J2, N1, N2, N3, reduceCtorEq, N4, N5, N6, reduceIte, N7, I1, I2, I3]
  refine ⟨_, c1, ?_⟩
  cases g1 : prOk b s x
  · have hno : ptOk b s x c = false := by simp only [ptOk, g1, Bool.false_and]
    simp only [ptS, ptX, ptC, hno, Bool.false_eq_true, if_false, push_cast, ↓J1, ↓J2, N1, N2, N3, reduceCtorEq, N4, N5, N6, reduceIte, N7, I1, I2, I3]
    exact RetTo_nil (h2 := _) (by simp only [conR, conRL, isF, hget, hdel, List.drop_zero, List.take_length, if_true, if_false, reduceIte, N5, reduceCtorEq]; rfl) (NilTo_tup (NilToL_cons (NilTo_agg nil_sta) (NilToL_cons (NilTo_agg nil_wk) (NilToL_cons (NilTo.refl _) (NilToL_cons (NilTo.refl _) NilToL_nil)))))
  simp only [push_cast, ↓J1, ↓J2, N1, N2, N3, reduceCtorEq, N4, N5, N6, reduceIte, N7, I1, I2, I3]
  refine ⟨_, c2, ?_⟩
  cases g2 : inR 0 50 c
  · have hno : ptOk b s x c = false := by simp only [ptOk, g2, Bool.and_false]
    simp only [ptS, ptX, ptC, hno, Bool.false_eq_true, if_false, push_cast, ↓J1, ↓J2, N1, N2, N3, reduceCtorEq, N4, N5, N6, reduceIte, N7, I1, I2, I3]
    exact RetTo_nil (h2 := _) (by simp only [conR, conRL, isF, hget, hdel, List.drop_zero, List.take_length, if_true, if_false, reduceIte, N5, reduceCtorEq]; rfl) (NilTo_tup (NilToL_cons (NilTo_agg nil_sta) (NilToL_cons (NilTo_agg nil_wk) (NilToL_cons (NilTo.refl _) (NilToL_cons (NilTo.refl _) NilToL_nil)))))
  have hok : ptOk b s x c = true := by simp only [ptOk, g1, g2, Bool.and_self]
  have hc : 0 ≤ c ∧ c ≤ 50 := by simpa only [inR, Bool.and_eq_true, decide_eq_true_eq] using g2
  simp only [ptS, ptX, ptC, hok, if_true, push_cast, ↓J1, ↓J2, N1, N2, N3, reduceCtorEq, N4, N5, N6, reduceIte, N7, I1, I2, I3]
  refine ⟨_, c3 g1 hc, ?_⟩
  simp only [push_cast, ↓J1, ↓J2, N1, N2, N3, reduceCtorEq, N4, N5, N6, reduceIte, N7, I1, I2, I3]
  and_intros
  all_goals exact rtA
end
end Go.Proofs.YtjaccjeejeiphaaGreatDoor.X
set_option maxHeartbeats 1000000
set_option maxRecDepth 8000
set_option linter.unusedSimpArgs false
set_option linter.unusedVariables false
open Nat renaming reduceBEq → N1, reduceAdd → N2, reduceSub → N3, reduceMul → N4, reduceEqDiff → N5, reduceLeDiff → N6, reduceLT → N7
open Int renaming reduceLE → I1, reduceLT → I2, reduceToNat → I3
namespace Go.Proofs.YtjaccjeejeiphaaGreatDoor.X
open Go
theorem wk_tl {b : Brd} {s : Sta} {x : Wk} (g : prOk b s x = true) : prOk b s ⟨x.sd, x.at_, x.pt - priceOf b (x.q.getD 0 0), x.q.drop 1⟩ = true ∨ x.pt < priceOf b (x.q.getD 0 0) ∨ x.q = [] := by
  by_cases hq : x.q = []
  · exact .inr (.inr hq)
  by_cases hp : x.pt < priceOf b (x.q.getD 0 0)
  · exact .inr (.inl hp)
  refine .inl ?_
  have hlen : 0 < x.q.length := List.length_pos_iff.2 hq
  have hk : inR 0 (b.r.ks.length - 1) (x.q.getD 0 0) = true := by
    simp only [prOk, Bool.and_eq_true] at g
    refine (wk_in g.2).2.2.2 _ ?_
    simp only [List.getD, List.getElem?_eq_getElem hlen, Option.getD_some]
    exact List.getElem_mem hlen
  have gb : brdOk b = true := by simp only [prOk, Bool.and_eq_true] at g; exact sta_brd g.1
  have hpr : 1 ≤ priceOf b (x.q.getD 0 0) ∧ priceOf b (x.q.getD 0 0) ≤ 36 := price_bnd (un_kind (u := ⟨0, x.q.getD 0 0, 0, 0⟩) gb hk)
  have hpt := wk_pt g
  have h1 : inR 0 200 (x.pt - priceOf b (x.q.getD 0 0)) = true := by simp only [inR, Bool.and_eq_true, decide_eq_true_eq]; omega
  simp only [prOk, wkR, Bool.and_eq_true, decide_eq_true_eq, List.all_eq_true, List.length_drop] at g ⊢
  refine ⟨g.1, ⟨⟨g.2.1.1.1, h1⟩, by omega⟩, fun k hk => g.2.2 k (List.mem_of_mem_drop hk)⟩
theorem cnt_app (us : List Un) (u : Un) (a sd : Int) : cnt (us ++ [u]) a sd = cnt us a sd + if isAt a sd u then 1 else 0 := by
  simp only [cnt, List.countP_append, List.countP_singleton]
theorem owner_cnt {s : Sta} {b : Brd} {sd i : Int} (h : staOk b s = true) (hs : sd = 0 ∨ sd = 1) (hi : 0 ≤ i) (ho : owner s i ≠ 1 - sd) : cnt s.us i (1 - sd) = 0 := by
  have h1 := own_cnt h hs hi ho
  have hun := sta_all h
  rw [fil_len (Nat.le_refl _), List.take_length] at h1
  rcases Nat.eq_zero_or_pos (cnt s.us i (1 - sd)) with h0 | h0
  · exact h0
  exfalso
  have h2 : s.us.countP (inHex i) = cnt s.us i sd + cnt s.us i (1 - sd) := by
    clear h1 ho h h0
    generalize s.us = us at hun
    induction us with
    | nil => rfl
    | cons u us ih =>
      simp only [List.all_cons, Bool.and_eq_true] at hun
      have hsd := un_sd hun.1
      have ih := ih hun.2
      simp only [cnt, List.countP_cons] at ih ⊢
      have : (if inHex i u = true then 1 else 0) = (if isAt i sd u = true then 1 else 0) + (if isAt i (1 - sd) u = true then (1 : Nat) else 0) := by
        simp only [inHex, isAt, Bool.and_eq_true, decide_eq_true_eq]
        by_cases h1 : u.at_ = i
        · rcases hsd with e | e <;> rcases hs with e2 | e2 <;> simp [h1, e, e2]
        · simp [h1]
      omega
  omega
theorem sta_add {b : Brd} {s : Sta} {u : Un} (h : staOk b s = true) (hl : s.us.length ≠ 12) (hu : unOk b u = true) (hi : 0 ≤ u.at_) (ho : owner s u.at_ ≠ 1 - u.sd) (hn : ((cnt s.us u.at_ u.sd : Nat) : Int) ≠ b.r.stack) : staOk b ⟨s.t, s.w, s.us ++ [u]⟩ = true := by
  have hsd := un_sd hu
  have hle := sta_len h
  have h0 := owner_cnt h hsd hi ho
  have hun := sta_all h
  have hst : 1 ≤ b.r.stack := by
    have hr := brd_ru (sta_brd h)
    simp only [rulOk, tailOk, inR, Bool.and_eq_true, decide_eq_true_eq] at hr
    omega
  have hall : s.us.all (stackOk b s.us) = true := by simp only [staOk, staOk0, Bool.and_eq_true] at h; exact h.2.2
  have hown : (cnt s.us u.at_ u.sd : Int) < b.r.stack := by
    rcases Nat.eq_zero_or_pos (cnt s.us u.at_ u.sd) with e | e
    · omega
    · obtain ⟨v, hv, hp⟩ := List.countP_pos_iff.1 e
      have hv1 := List.all_eq_true.1 hall v hv
      simp only [isAt, Bool.and_eq_true, decide_eq_true_eq] at hp
      simp only [stackOk, Bool.not_eq_true', Bool.and_eq_false_iff, Bool.or_eq_false_iff, decide_eq_false_iff_not, hp.1, hp.2] at hv1
      omega
  have hnew : ∀ v ∈ s.us ++ [u], stackOk b (s.us ++ [u]) v = true := by
    intro v hv
    have hvsd : v.sd = 0 ∨ v.sd = 1 := by
      rcases List.mem_append.1 hv with hv | hv
      · exact un_sd (List.all_eq_true.1 hun v hv)
      · rw [List.mem_singleton.1 hv]; exact hsd
    simp only [stackOk, cnt_app, isAt, Bool.not_eq_true', Bool.and_eq_false_iff, Bool.or_eq_false_iff, decide_eq_false_iff_not, Bool.and_eq_true, decide_eq_true_eq]
    by_cases hat : u.at_ = v.at_
    · refine .inr ?_
      rw [← hat]
      by_cases hs2 : u.sd = v.sd
      · rw [← hs2]
        simp only [h0, if_neg (show ¬ (True ∧ u.sd = 1 - u.sd) by omega), true_and, and_self, if_true]
        constructor
        · split <;> omega
        · omega
      · exfalso
        rcases List.mem_append.1 hv with hv | hv
        · have : 0 < cnt s.us u.at_ (1 - u.sd) := List.countP_pos_iff.2 ⟨v, hv, by simp only [isAt, Bool.and_eq_true, decide_eq_true_eq]; omega⟩
          omega
        · exact hs2 (by rw [List.mem_singleton.1 hv])
    · have hv2 : v ∈ s.us := by
        rcases List.mem_append.1 hv with hv | hv
        · exact hv
        · exact absurd (by rw [List.mem_singleton.1 hv]) hat
      have hv1 := List.all_eq_true.1 hall v hv2
      simp only [stackOk, Bool.not_eq_true', Bool.and_eq_false_iff, Bool.or_eq_false_iff, decide_eq_false_iff_not] at hv1
      simp only [hat, false_and, if_false, Nat.add_zero]
      exact hv1
  simp only [staOk, staOk0, Bool.and_eq_true, decide_eq_true_eq, List.length_append, List.length_singleton, List.all_append, List.all_cons, List.all_nil] at h ⊢
  refine ⟨h.1, ⟨⟨h.2.1.1.1, by omega⟩, hun, hu, trivial⟩, ?_⟩
  refine ⟨List.all_eq_true.2 fun v hv => hnew v (List.mem_append_left _ hv), hnew u (by simp), trivial⟩
theorem pr_turn {b : Brd} {s : Sta} {x : Wk} (g : prOk b s x = true) : prOk b (tS b s x) (tX b s x) = true := by
  by_cases h : pcode b s x = 0
  rotate_left
  · simpa only [tS, tX, if_neg h] using g
  simp only [tS, tX, if_pos h]
  have g' := g
  simp only [prOk, Bool.and_eq_true] at g'
  have hq0 : 1 ≤ x.q.length := pcode_q h
  have hw := wk_in g'.2
  have gb := sta_brd g'.1
  have hp : ¬ x.pt < priceOf b (x.q.getD 0 0) ∧ s.us.length ≠ 12 ∧ badPl b s x = false := by
    simp only [pcode] at h
    split at h
    · omega
    · split at h
      · omega
      · split at h
        · omega
        · split at h
          · omega
          · rename_i a b c d
            exact ⟨b, c, by simpa using d⟩
  have hbad := hp.2.2
  simp only [badPl, Bool.or_eq_false_iff, decide_eq_false_iff_not] at hbad
  have hlen : 0 < x.q.length := by omega
  have hk : inR 0 (b.r.ks.length - 1) (x.q.getD 0 0) = true := by
    refine hw.2.2.2 _ ?_
    simp only [List.getD, List.getElem?_eq_getElem hlen, Option.getD_some]
    exact List.getElem_mem hlen
  have hask : kindAsk b (x.q.getD 0 0) = true := un_kind (u := ⟨0, x.q.getD 0 0, 0, 0⟩) gb hk
  have hka := kind_at hask
  have hkb := kin_bnd hask
  have hat := hw.2.1
  have hcost : 0 < costAt b (x.q.getD 0 0) x.at_ := by
    have := cost_get (b := b) (k := (x.q.getD 0 0).toNat) (i := x.at_) gb (by omega) hat
    rw [show (((x.q.getD 0 0).toNat : Nat) : Int) = x.q.getD 0 0 by omega] at this
    have h2 := hbad.1.1.1
    have h3 := this.2.1
    omega
  have hat' := hat
  simp only [inR, Bool.and_eq_true, decide_eq_true_eq] at hat'
  have hu : unOk b (newU b x) = true := by
    simp only [unOk, newU, placed, Bool.and_eq_true, Bool.or_eq_true, decide_eq_true_eq]
    refine ⟨⟨⟨?_, hk⟩, ?_⟩, .inr ⟨⟨decide_eq_true (show 0 < (kindOf b (x.q.getD 0 0)).sp by omega), hat⟩, decide_eq_true hcost⟩⟩
    · simp only [inR, Bool.and_eq_true, decide_eq_true_eq]; omega
    · simp only [inR, Bool.and_eq_true, decide_eq_true_eq]; omega
  have hs := sta_add (u := newU b x) g'.1 hp.2.1 hu hat'.1 hbad.1.1.2 hbad.1.2
  rcases wk_tl g with hx | hx | hx
  · simp only [prOk, Bool.and_eq_true] at hx ⊢
    exact ⟨hs, hx.2⟩
  · exact absurd hx hp.1
  · rw [hx] at hq0; simp at hq0
end Go.Proofs.YtjaccjeejeiphaaGreatDoor.X
set_option maxHeartbeats 1500000
set_option maxRecDepth 8000
set_option linter.unusedSimpArgs false
set_option linter.unusedVariables false
open Nat renaming reduceBEq → N1, reduceAdd → N2, reduceSub → N3, reduceMul → N4, reduceEqDiff → N5, reduceLeDiff → N6, reduceLT → N7
open Int renaming reduceLE → I1, reduceLT → I2, reduceToNat → I3
namespace Go.Proofs.YtjaccjeejeiphaaGreatDoor.X
open Go
attribute [local irreducible] Ev
def prI (b : Brd) (c : Int) (s : Sta) (x : Wk) : Nat → Sta × Wk × Int
  | 0 => (s, x, 0)
  | i + 1 => (tS b (prI b c s x i).1 (incW (prI b c s x i).2.1 c), tX b (prI b c s x i).1 (incW (prI b c s x i).2.1 c), (prI b c s x i).2.2 + if pcode b (prI b c s x i).1 (incW (prI b c s x i).2.1 c) = 0 then 1 else 0)
theorem prI_ok {b : Brd} {c : Int} {s : Sta} {x : Wk} (g : prOk b s x = true) (hc : 0 ≤ c ∧ c ≤ 50) (i : Nat) : prOk b (prI b c s x i).1 (prI b c s x i).2.1 = true ∧ 0 ≤ (prI b c s x i).2.2 ∧ (prI b c s x i).2.2 ≤ i := by
  induction i with
  | zero => exact ⟨g, by simp [prI], by simp [prI]⟩
  | succ i ih =>
    simp only [prI]
    refine ⟨pr_turn (prOk_inc ih.1 hc), ?_, ?_⟩
    · split <;> omega
    · split <;> omega
def psOk (b : Brd) (s : Sta) (x : Wk) (c n : Int) : Bool := prOk b s x && inR 0 50 c && inR 0 30 n
def psS (b : Brd) (s : Sta) (x : Wk) (c n : Int) : Sta := if psOk b s x c n then (prI b c s x n.toNat).1 else sta0
def psX (b : Brd) (s : Sta) (x : Wk) (c n : Int) : Wk := if psOk b s x c n then (prI b c s x n.toNat).2.1 else wk0
def psN (b : Brd) (s : Sta) (x : Wk) (c n : Int) : Int := if psOk b s x c n then (prI b c s x n.toNat).2.2 else 0
end Go.Proofs.YtjaccjeejeiphaaGreatDoor.X
set_option maxHeartbeats 1000000
set_option maxRecDepth 8000
set_option linter.unusedSimpArgs false
set_option linter.unusedVariables false
open Nat renaming reduceBEq → N1, reduceAdd → N2, reduceSub → N3, reduceMul → N4, reduceEqDiff → N5, reduceLeDiff → N6, reduceLT → N7
open Int renaming reduceLE → I1, reduceLT → I2, reduceToNat → I3
namespace Go.Proofs.YtjaccjeejeiphaaGreatDoor.X
open Go
section
variable {P : Program} {G : Glo} {C : CT} {md : FuncId → Bool} {B : Nat} {t : List AV} {h : Heap} {n : Nat} {Q : XE → St → Prop} {r x y : XC}
theorem cutF (A : St → Prop) (h1 : ∀ (K : St → Prop) (F : XE → St → Prop), (∀ s', A s' → K s') → R P G C md B x ⟨t, h, n⟩ (thenX K F) ∧ R P G C md B y ⟨t, h, n⟩ (thenX K F)) (h2 : ∀ s', A s' → R P G C md B r s' Q) : R P G C md B (.fork x y r) ⟨t, h, n⟩ Q := by
  rw [R_fork]; exact h1 _ _ h2
end
theorem below_le {n m : Nat} {h : Heap} (hb : below n h) (hm : n ≤ m) : below m h := by
  induction hm with
  | refl => exact hb
  | step _ ih => exact below_succ ih
end Go.Proofs.YtjaccjeejeiphaaGreatDoor.X
