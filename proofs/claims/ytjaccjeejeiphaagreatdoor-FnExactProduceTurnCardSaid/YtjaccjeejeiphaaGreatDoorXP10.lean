/- A part of the proof: lemmas on the machine or on the functions that the law reaches. No condition of its own. -/
import Derived.Test.YtjaccjeejeiphaaGreatDoorXP9
import Derived.Test.YtjaccjeejeiphaaGreatDoorXP4
import Derived.Test.YtjaccjeejeiphaaGreatDoorXP6
set_option maxHeartbeats 1500000
set_option maxRecDepth 8000
set_option linter.unusedSimpArgs false
set_option linter.unusedVariables false
open Nat renaming reduceBEq → N1, reduceAdd → N2, reduceSub → N3, reduceMul → N4, reduceEqDiff → N5, reduceLeDiff → N6, reduceLT → N7
open Int renaming reduceLE → I1, reduceLT → I2, reduceToNat → I3
namespace Go.Proofs.YtjaccjeejeiphaaGreatDoor.X
open Go
attribute [local irreducible] Ev
def incW (x : Wk) (c : Int) : Wk := ⟨x.sd, x.at_, (if x.pt + c < 200 then x.pt + c else 200), x.q⟩
def newU (b : Brd) (x : Wk) : Un := ⟨x.sd, x.q.getD 0 0, x.at_, (kindOf b (x.q.getD 0 0)).sp⟩
theorem tk_snoc {l : List Int} {i : Nat} (h0 : 1 ≤ i) (h : i < l.length) : (l.drop 1).take i = (l.drop 1).take (i - 1) ++ [l.getD i 0] := by
  obtain ⟨j, rfl⟩ : ∃ j, i = j + 1 := ⟨i - 1, by omega⟩
  have hj : j < (l.drop 1).length := by rw [List.length_drop]; omega
  rw [List.take_succ_eq_append_getElem hj, Nat.add_sub_cancel]
  congr 2
  rw [List.getElem_drop]
  simp only [List.getD, List.getElem?_eq_getElem h, Option.getD_some, Nat.add_comm]
theorem prOk_inc {b : Brd} {s : Sta} {x : Wk} {c : Int} (g : prOk b s x = true) (hc : 0 ≤ c ∧ c ≤ 50) : prOk b s (incW x c) = true := by
  have hq : inR 0 200 (incW x c).pt = true := by
    have : inR 0 200 x.pt = true := by simp only [prOk, wkR, Bool.and_eq_true] at g; exact g.2.1.1.2
    simp only [inR, Bool.and_eq_true, decide_eq_true_eq] at this
    have e : (incW x c).pt = (if x.pt + c < 200 then x.pt + c else 200) := rfl
    have h2 : 0 ≤ (incW x c).pt ∧ (incW x c).pt ≤ 200 := by rw [e]; constructor <;> split <;> omega
    simp only [inR, Bool.and_eq_true, decide_eq_true_eq]; exact h2
  simp only [prOk, wkR, Bool.and_eq_true] at g ⊢
  exact ⟨g.1, ⟨⟨g.2.1.1.1, hq⟩, g.2.1.2⟩, g.2.2⟩
theorem pcode_q {b : Brd} {s : Sta} {x : Wk} (h : pcode b s x = 0) : 1 ≤ x.q.length := by
  simp only [pcode] at h
  split at h
  · omega
  · omega
theorem wk_pt {b : Brd} {s : Sta} {x : Wk} (g : prOk b s x = true) : 0 ≤ x.pt ∧ x.pt ≤ 200 := by
  simp only [prOk, wkR, Bool.and_eq_true] at g
  have := g.2.1.1.2
  simp only [inR, Bool.and_eq_true, decide_eq_true_eq] at this
  exact this
theorem own_swi (s : Sta) (x : Wk) (v : Int) : ownR (.tup [.agg (staO s), .agg (wkO x), .int .i64 v]) = true := by
  have h := own_ints x.q
  simp only [ownR] at h
  simp only [wkO, staO, ownR, ownRL, own_uns, h, Bool.and_true]
def tS (b : Brd) (s : Sta) (x : Wk) : Sta := if pcode b s x = 0 then ⟨s.t, s.w, s.us ++ [newU b x]⟩ else s
def tX (b : Brd) (s : Sta) (x : Wk) : Wk := if pcode b s x = 0 then ⟨x.sd, x.at_, x.pt - priceOf b (x.q.getD 0 0), x.q.drop 1⟩ else x
section
variable {C : CT} (hC : Closed Tryz.prog G1 md0 C)
include hC
theorem t177z (x : Wk) (h1 : 1 ≤ x.q.length) (hq : x.q.length < 2^30) : Ev C 177 [.agg (wkF x), .int .i64 0] (.agg (wkO ⟨x.sd, x.at_, x.pt, x.q.drop 1⟩)) := by
  simp only [wkF, wkO]
  refine rT hC Q177 ?_ (by exact own_wk ⟨x.sd, x.at_, x.pt, x.q.drop 1⟩)
  simp only [c177, ints_length, push_cast, ↓J1, ↓J2, N1, N2, N3, reduceCtorEq, N4, N5, N6, reduceIte, N7, I1, I2, I3]
  refine RL_count (fun i => if i ≤ 1 then ⟨tb 34 .any [(1, .int .i64 0), (4, .ptr 0 none 0 0 0), (5, .ptr 1 none 0 0 0), (16, .sl (ints x.q)), (17, .int .i64 (x.q.length : Int)), (18, .int .i64 (i : Int))], [(1, .var [.int .i64 x.sd, .int .i64 x.at_, .int .i64 x.pt, .nil]), (0, .var [.int .i64 0, .int .i64 0, .int .i64 0, .nil])], 2⟩ else ⟨tb 34 .any [(1, .int .i64 0), (4, .ptr 0 none 0 0 0), (5, .ptr 1 none 0 0 0), (16, .sl (ints x.q)), (17, .int .i64 (x.q.length : Int)), (18, .int .i64 (i : Int))], [(2, .slice 1 (ints ((x.q.drop 1).take (i - 1)))), (1, .var [.int .i64 x.sd, .int .i64 x.at_, .int .i64 x.pt, .ref 2 none 1 0 (i - 1)]), (0, .var [.int .i64 0, .int .i64 0, .int .i64 0, .nil])], 3⟩) (fun _ => True) x.q.length 0 (hdA [(2, 1), (1, 0)]) (by omega) trivial fun i hi _ J hJ => ?_
  by_cases h1 : i < x.q.length
  · have e1 : (ints x.q)[i]? = some [.int .i64 (x.q.getD i 0)] := ints_get h1
    have hJ1 := hJ h1 trivial
    clear hJ
    by_cases hi0 : i = 0
    · have hne : decide ((i : Int) = 0) = true := decide_eq_true (by omega)
      simp only [if_pos (show i + 1 ≤ 1 by omega)] at hJ1
      simp only [if_pos (show i ≤ 1 by omega), Int.toNat_natCast, e1, ints_length, hne, push_cast, ↓J1, ↓J2, N1, N2, N3, reduceCtorEq, N4, N5, N6, reduceIte, N7, I1, I2, I3]
      refine ifB_intro (fun _ => ?_) (fun h => by simp at h; omega)
      repeat (refine ⟨by omega, ?_⟩)
      exact hJ1 _ (hdA [(1, 1), (0, 0)])
    simp only [if_neg (show ¬ i + 1 ≤ 1 by omega), Nat.add_sub_cancel] at hJ1
    have hne : decide ((i : Int) = 0) = false := decide_eq_false (by omega)
    have tks := tk_snoc (l := x.q) (i := i) (by omega) h1
    have tl : ((x.q.drop 1).take (i - 1)).length = i - 1 := by rw [List.length_take, List.length_drop]; omega
    have tkk : List.take (i - 1) (ints ((x.q.drop 1).take (i - 1))) = ints ((x.q.drop 1).take (i - 1)) := List.take_of_length_le (by rw [ints_length, tl]; omega)
    have hsub : i - 1 + 1 = i := by omega
    rw [tks] at hJ1
    by_cases hi1 : i = 1
    · have hz : (x.q.drop 1).take (i - 1) = [] := by rw [hi1]; rfl
      simp only [if_pos (show i ≤ 1 by omega), Int.toNat_natCast, e1, ints_length, hne, push_cast, ↓J1, ↓J2, N1, N2, N3, reduceCtorEq, N4, N5, N6, reduceIte, N7, I1, I2, I3]
      refine ifB_intro (fun _ => ?_) (fun h => by simp at h; omega)
      repeat (refine ⟨by omega, ?_⟩)
      rw [hz] at hJ1
      refine hJ1 _ (hdA [(3, 2), (1, 1), (0, 0)] (hh := ?_))
      simp only [canR, canB, renO, renL, ren, lkp, hget, N7, N5, Nat.not_lt_zero, if_false, if_true, reduceIte, List.append_nil, List.nil_append, ints_sn, hi1]
      all_goals rfl
    simp only [if_neg (show ¬ i ≤ 1 by omega), Int.toNat_natCast, e1, ints_length, hne, tkk, tl, hsub, push_cast, ↓J1, ↓J2, N1, N2, N3, reduceCtorEq, N4, N5, N6, reduceIte, N7, I1, I2, I3]
    refine ifB_intro (fun _ => ?_) (fun h => by simp at h; omega)
    repeat (refine ⟨by omega, ?_⟩)
    refine hJ1 _ (hdA [(4, 2), (1, 1), (0, 0)] (hh := ?_))
    simp only [canR, canB, renO, renL, ren, lkp, hget, N7, N5, Nat.not_lt_zero, if_false, if_true, reduceIte, List.append_nil, List.nil_append, ints_sn]
    all_goals rfl
  · clear hJ
    have hge : decide ((i : Int) < (x.q.length : Int)) = false := decide_eq_false (by omega)
    by_cases hi1 : i ≤ 1
    · have hd : x.q.drop 1 = [] := List.drop_eq_nil_of_le (by omega)
      simp only [if_pos hi1, hge, hd, push_cast, ↓J1, ↓J2, N1, N2, N3, reduceCtorEq, N4, N5, N6, reduceIte, N7, I1, I2, I3]
      exact RetTo_nil (h2 := _) (by simp only [conR, conRL, isF, hget, hdel, List.drop_zero, List.take_length, if_true, if_false, reduceIte, N5, reduceCtorEq]; rfl) (NilTo_agg (NilToL_cons (NilTo.refl _) (NilToL_cons (NilTo.refl _) (NilToL_cons (NilTo.refl _) (NilToL_cons NilTo_nl NilToL_nil)))))
    have hd : (x.q.drop 1).take (i - 1) = x.q.drop 1 := List.take_of_length_le (by rw [List.length_drop]; omega)
    have tkk : List.take (i - 1) (ints (x.q.drop 1)) = ints (x.q.drop 1) := List.take_of_length_le (by rw [ints_length, List.length_drop]; omega)
    simp only [if_neg hi1, hge, hd, push_cast, ↓J1, ↓J2, N1, N2, N3, reduceCtorEq, N4, N5, N6, reduceIte, N7, I1, I2, I3]
    exact RetTo_of (by simp only [conR, conRL, isF, hget, hdel, List.drop_zero, List.take_length, if_true, if_false, reduceIte, N5, reduceCtorEq, tkk]; rfl)
theorem t176 (a b : Int) : Ev C 176 [.int .i64 a, .int .i64 b] (.int .i64 (if a < b then a else b)) := by
  refine rT hC Q176 ?_
  simp only [c176, push_cast, ↓J1, ↓J2, N1, N2, N3, reduceCtorEq, N4, N5, N6, reduceIte, N7, I1, I2, I3]
  cases g : decide (a < b)
  · have h1 := of_decide_eq_false g
    simp only [if_neg h1, push_cast, ↓J1, ↓J2, N1, N2, N3, reduceCtorEq, N4, N5, N6, reduceIte, N7, I1, I2, I3]
  · have h1 := of_decide_eq_true g
    simp only [if_pos h1, push_cast, ↓J1, ↓J2, N1, N2, N3, reduceCtorEq, N4, N5, N6, reduceIte, N7, I1, I2, I3]
theorem t106 (b : Brd) (s : Sta) (x : Wk) (c : Int) (g0 : prOk b s x = true) (hc : 0 ≤ c ∧ c ≤ 50) (hb : BrdB (2^50) b) : Ev C 106 [brdF b, .agg (staF s), .agg (wkF x), .int .i64 c] (.tup [.agg (staO (tS b s (incW x c))), .agg (wkO (tX b s (incW x c))), .int .i64 (pcode b s (incW x c))]) := by
  have g1 := prOk_inc g0 hc
  have hp := g0
  simp only [prOk, Bool.and_eq_true] at hp
  have gb := sta_brd hp.1
  have hlen := sta_len hp.1
  have hw := wk_in hp.2
  have hxp := hp.2
  simp only [wkR, inR, Bool.and_eq_true, decide_eq_true_eq] at hxp
  have c1 := t91 hC x (by omega)
  have c2 := t90 hC s (by omega)
  have c3 := t176 hC 200 (x.pt + c)
  rw [show (if 200 < x.pt + c then 200 else x.pt + c) = (incW x c).pt by simp only [incW]; split <;> split <;> omega] at c3
  have c4 := t62 hC b s (incW x c) g1 hb
  have wp : IntKind.i64.wrap (x.pt + c) = x.pt + c := wrap64 (by omega) (by omega)
  have i1 : (incW x c).sd = x.sd := rfl
  have i2 : (incW x c).at_ = x.at_ := rfl
  have i3 : (incW x c).q = x.q := rfl
  simp only [brdF, rulF, mpF, List.cons_append, List.nil_append, staF, staO, wkF, wkO, i1, i2, i3] at c1 c2 c3 c4 ⊢
  refine rT hC Q106 ?_ (own_swi _ _ _)
  simp only [c106, push_cast, ↓J1, ↓J2, N1, N2, N3, reduceCtorEq, N4, N5, N6, reduceIte, N7, I1, I2, I3]
  refine ⟨_, c1, ?_⟩
  simp only [push_cast, ↓J1, ↓J2, N1, N2, N3, reduceCtorEq, N4, N5, N6, reduceIte, N7, I1, I2, I3]
  refine ⟨_, c2, ?_⟩
  simp only [wp, push_cast, ↓J1, ↓J2, N1, N2, N3, reduceCtorEq, N4, N5, N6, reduceIte, N7, I1, I2, I3]
  refine ⟨_, c3, ?_⟩
  simp only [frzLL_ints, frzLL_uns, push_cast, ↓J1, ↓J2, N1, N2, N3, reduceCtorEq, N4, N5, N6, reduceIte, N7, I1, I2, I3]
  refine ⟨_, c4, ?_⟩
  cases g2 : decide (pcode b s (incW x c) = 0)
  · have h2 := of_decide_eq_false g2
    simp only [tS, tX, if_neg h2, i1, i2, i3]
    simp only [g2, push_cast, ↓J1, ↓J2, N1, N2, N3, reduceCtorEq, N4, N5, N6, reduceIte, N7, I1, I2, I3]
    have tku : List.take s.us.length (uns s.us) = uns s.us := List.take_of_length_le (by rw [uns_length]; omega)
    have tkq : List.take x.q.length (ints x.q) = ints x.q := List.take_of_length_le (by rw [ints_length]; omega)
    and_intros
    all_goals exact RetTo_of (by simp only [conR, conRL, isF, hget, hdel, List.drop_zero, List.take_length, if_true, if_false, reduceIte, N5, reduceCtorEq, tku, tkq, uns_length, ints_length]; rfl)
  have h2 := of_decide_eq_true g2
  simp only [tS, tX, if_pos h2, i1, i2, i3]
  have hq0 := pcode_q h2
  simp only [i3] at hq0
  have e1 : (ints x.q)[0]? = some [.int .i64 (x.q.getD 0 0)] := ints_get (by omega)
  have hk : inR 0 (b.r.ks.length - 1) (x.q.getD 0 0) = true := by
    refine hw.2.2.2 _ ?_
    have h0 : 0 < x.q.length := by omega
    simp only [List.getD, List.getElem?_eq_getElem h0, Option.getD_some]
    exact List.getElem_mem h0
  have hask : kindAsk b (x.q.getD 0 0) = true := un_kind (u := ⟨0, x.q.getD 0 0, 0, 0⟩) gb hk
  have hka := kind_at hask
  have e2 : (kins b.r.ks)[(x.q.getD 0 0).toNat]? = some (kinA (kindOf b (x.q.getD 0 0))) := by
    have := kins_get (b := b) (k := (x.q.getD 0 0).toNat) (by omega)
    rwa [show (((x.q.getD 0 0).toNat : Nat) : Int) = x.q.getD 0 0 by omega] at this
  have hkb := kin_bnd hask
  have c5 := t142 hC b _ hask hb
  have c6 := t177z hC ⟨x.sd, x.at_, (incW x c).pt - priceOf b (x.q.getD 0 0), x.q⟩ (by show 1 ≤ x.q.length; omega) (by show x.q.length < 2^30; omega)
  have wq : IntKind.i64.wrap ((incW x c).pt - priceOf b (x.q.getD 0 0)) = (incW x c).pt - priceOf b (x.q.getD 0 0) := by
    have h1 := price_bnd hask
    have h2 := wk_pt g1
    exact wrap64 (by omega) (by omega)
  have z0 : (0 : Int).toNat = 0 := rfl
  simp only [brdF, rulF, mpF, List.cons_append, List.nil_append, staF, staO, wkF, wkO, newU] at c5 c6 ⊢
  have tku : List.take s.us.length (uns s.us) = uns s.us := List.take_of_length_le (by rw [uns_length]; omega)
  have tkq : List.take x.q.length (ints x.q) = ints x.q := List.take_of_length_le (by rw [ints_length]; omega)
  simp only [g2, z0, e1, e2, tku, tkq, kinA, ints_length, kins_length, uns_length, frzLL_ints, frzLL_uns, push_cast, ↓J1, ↓J2, N1, N2, N3, reduceCtorEq, N4, N5, N6, reduceIte, N7, I1, I2, I3]
  repeat (refine ⟨by omega, ?_⟩)
  refine ⟨_, c5, ?_⟩
  simp only [wq, tku, tkq, ints_length, uns_length, frzLL_ints, frzLL_uns, push_cast, ↓J1, ↓J2, N1, N2, N3, reduceCtorEq, N4, N5, N6, reduceIte, N7, I1, I2, I3]
  refine ⟨_, c6, ?_⟩
  simp only [push_cast, ↓J1, ↓J2, N1, N2, N3, reduceCtorEq, N4, N5, N6, reduceIte, N7, I1, I2, I3]
  have tkv : List.take (s.us.length + 1) (uns s.us ++ [[AV.int .i64 x.sd, AV.int .i64 (x.q.getD 0 0), AV.int .i64 x.at_, AV.int .i64 (kindOf b (x.q.getD 0 0)).sp]]) = uns (s.us ++ [⟨x.sd, x.q.getD 0 0, x.at_, (kindOf b (x.q.getD 0 0)).sp⟩]) := by
    rw [List.take_of_length_le (by simp [uns])]; simp [uns, unA]
  exact RetTo_of (by simp only [conR, conRL, isF, hget, hdel, List.drop_zero, List.take_length, if_true, if_false, reduceIte, N5, reduceCtorEq, tkv]; rfl)
theorem t108 (b : Brd) (s : Sta) (x : Wk) (c : Int) (g0 : prOk b s x = true) (hc : 0 ≤ c ∧ c ≤ 50) (hb : BrdB (2^50) b) : Ev C 108 [brdF b, .agg (staF s), .agg (wkF x), .int .i64 c] (.tup [.agg (staO (tS b s (incW x c))), .agg (wkO (tX b s (incW x c))), .int .i64 (pcode b s (incW x c))]) := by
  have g1 := prOk_inc g0 hc
  have hp := g0
  simp only [prOk, Bool.and_eq_true] at hp
  have gb := sta_brd hp.1
  have hlen := sta_len hp.1
  have hw := wk_in hp.2
  have hxp := hp.2
  simp only [wkR, inR, Bool.and_eq_true, decide_eq_true_eq] at hxp
  have c1 := t98 hC x (by omega)
  have c2 := t97 hC s (by omega)
  have hmin : (if 200 < x.pt + c then 200 else x.pt + c) = (incW x c).pt := by simp only [incW]; split <;> split <;> omega
  have hmin2 : (if x.pt + c < 200 then x.pt + c else 200) = (incW x c).pt := rfl
  have hmin3 : min (x.pt + c) 200 = (incW x c).pt := by simp only [incW]; split <;> omega
  have c4 := t68 hC b s (incW x c) g1 hb
  have wp : IntKind.i64.wrap (x.pt + c) = x.pt + c := wrap64 (by omega) (by omega)
  have i1 : (incW x c).sd = x.sd := rfl
  have i2 : (incW x c).at_ = x.at_ := rfl
  have i3 : (incW x c).q = x.q := rfl
  simp only [brdF, rulF, mpF, List.cons_append, List.nil_append, staF, staO, wkF, wkO, i1, i2, i3] at c1 c2 c4 ⊢
  refine rT hC Q108 ?_ (own_swi _ _ _)
  simp only [c108, push_cast, ↓J1, ↓J2, N1, N2, N3, reduceCtorEq, N4, N5, N6, reduceIte, N7, I1, I2, I3]
  refine ⟨_, c2, ?_⟩
  simp only [push_cast, ↓J1, ↓J2, N1, N2, N3, reduceCtorEq, N4, N5, N6, reduceIte, N7, I1, I2, I3]
  refine ⟨_, c1, ?_⟩
  simp only [wp, hmin, hmin2, hmin3, frzLL_ints, frzLL_uns, push_cast, ↓J1, ↓J2, N1, N2, N3, reduceCtorEq, N4, N5, N6, reduceIte, N7, I1, I2, I3]
  refine ⟨_, c4, ?_⟩
  cases g2 : decide (pcode b s (incW x c) = 0)
  · have h2 := of_decide_eq_false g2
    simp only [tS, tX, if_neg h2, i1, i2, i3]
    simp only [g2, push_cast, ↓J1, ↓J2, N1, N2, N3, reduceCtorEq, N4, N5, N6, reduceIte, N7, I1, I2, I3]
    have tku : List.take s.us.length (uns s.us) = uns s.us := List.take_of_length_le (by rw [uns_length]; omega)
    have tkq : List.take x.q.length (ints x.q) = ints x.q := List.take_of_length_le (by rw [ints_length]; omega)
    and_intros
    all_goals exact RetTo_of (by simp only [conR, conRL, isF, hget, hdel, List.drop_zero, List.take_length, if_true, if_false, reduceIte, N5, reduceCtorEq, tku, tkq, uns_length, ints_length]; rfl)
  have h2 := of_decide_eq_true g2
  simp only [tS, tX, if_pos h2, i1, i2, i3]
  have hq0 := pcode_q h2
  simp only [i3] at hq0
  have e1 : (ints x.q)[0]? = some [.int .i64 (x.q.getD 0 0)] := ints_get (by omega)
  have hk : inR 0 (b.r.ks.length - 1) (x.q.getD 0 0) = true := by
    refine hw.2.2.2 _ ?_
    have h0 : 0 < x.q.length := by omega
    simp only [List.getD, List.getElem?_eq_getElem h0, Option.getD_some]
    exact List.getElem_mem h0
  have hask : kindAsk b (x.q.getD 0 0) = true := un_kind (u := ⟨0, x.q.getD 0 0, 0, 0⟩) gb hk
  have hka := kind_at hask
  have e2 : (kins b.r.ks)[(x.q.getD 0 0).toNat]? = some (kinA (kindOf b (x.q.getD 0 0))) := by
    have := kins_get (b := b) (k := (x.q.getD 0 0).toNat) (by omega)
    rwa [show (((x.q.getD 0 0).toNat : Nat) : Int) = x.q.getD 0 0 by omega] at this
  have hkb := kin_bnd hask
  have c5 := t150 hC b _ hask hb
  have c6 := t177z hC ⟨x.sd, x.at_, (incW x c).pt - priceOf b (x.q.getD 0 0), x.q⟩ (by show 1 ≤ x.q.length; omega) (by show x.q.length < 2^30; omega)
  have wq : IntKind.i64.wrap ((incW x c).pt - priceOf b (x.q.getD 0 0)) = (incW x c).pt - priceOf b (x.q.getD 0 0) := by
    have h1 := price_bnd hask
    have h2 := wk_pt g1
    exact wrap64 (by omega) (by omega)
  have z0 : (0 : Int).toNat = 0 := rfl
  simp only [brdF, rulF, mpF, List.cons_append, List.nil_append, staF, staO, wkF, wkO, newU] at c5 c6 ⊢
  have tku : List.take s.us.length (uns s.us) = uns s.us := List.take_of_length_le (by rw [uns_length]; omega)
  have tkq : List.take x.q.length (ints x.q) = ints x.q := List.take_of_length_le (by rw [ints_length]; omega)
  simp only [g2, z0, e1, e2, tku, tkq, kinA, ints_length, kins_length, uns_length, frzLL_ints, frzLL_uns, push_cast, ↓J1, ↓J2, N1, N2, N3, reduceCtorEq, N4, N5, N6, reduceIte, N7, I1, I2, I3]
  repeat (refine ⟨by omega, ?_⟩)
  refine ⟨_, c5, ?_⟩
  simp only [wq, tku, tkq, ints_length, uns_length, frzLL_ints, frzLL_uns, push_cast, ↓J1, ↓J2, N1, N2, N3, reduceCtorEq, N4, N5, N6, reduceIte, N7, I1, I2, I3]
  have hn : ((x.q.length : Int) - 1).toNat = x.q.length - 1 := by omega
  have tkd : List.take (x.q.length - 1) (List.drop 1 (ints x.q)) = ints (x.q.drop 1) := by
    rw [List.take_of_length_le (by rw [List.length_drop, ints_length]; omega)]; simp only [ints, List.map_drop]
  simp only [hn]
  have tkv : List.take (s.us.length + 1) (uns s.us ++ [[AV.int .i64 x.sd, AV.int .i64 (x.q.getD 0 0), AV.int .i64 x.at_, AV.int .i64 (kindOf b (x.q.getD 0 0)).sp]]) = uns (s.us ++ [⟨x.sd, x.q.getD 0 0, x.at_, (kindOf b (x.q.getD 0 0)).sp⟩]) := by
    rw [List.take_of_length_le (by simp [uns])]; simp [uns, unA]
  refine ⟨by omega, by omega, ?_⟩
  and_intros
  all_goals exact RetTo_of (by simp only [conR, conRL, isF, hget, hdel, List.drop_zero, List.take_length, if_true, if_false, reduceIte, N5, reduceCtorEq, tkv, tkd]; rfl)
end
end Go.Proofs.YtjaccjeejeiphaaGreatDoor.X
set_option maxHeartbeats 1500000
set_option maxRecDepth 8000
set_option linter.unusedSimpArgs false
set_option linter.unusedVariables false
open Nat renaming reduceBEq → N1, reduceAdd → N2, reduceSub → N3, reduceMul → N4, reduceEqDiff → N5, reduceLeDiff → N6, reduceLT → N7
open Int renaming reduceLE → I1, reduceLT → I2, reduceToNat → I3
namespace Go.Proofs.YtjaccjeejeiphaaGreatDoor.X
open Go
attribute [local irreducible] Ev
theorem own_swb (s : Sta) (x : Wk) (v : Int) (w : Bool) : ownR (.tup [.agg (staO s), .agg (wkO x), .int .i64 v, .bool w]) = true := by
  have h := own_ints x.q
  simp only [ownR] at h
  simp only [wkO, staO, ownR, ownRL, own_uns, h, Bool.and_true]
def ptOk (b : Brd) (s : Sta) (x : Wk) (c : Int) : Bool := prOk b s x && inR 0 50 c
def ptS (b : Brd) (s : Sta) (x : Wk) (c : Int) : Sta := if ptOk b s x c then tS b s (incW x c) else sta0
def ptX (b : Brd) (s : Sta) (x : Wk) (c : Int) : Wk := if ptOk b s x c then tX b s (incW x c) else wk0
def ptC (b : Brd) (s : Sta) (x : Wk) (c : Int) : Int := if ptOk b s x c then pcode b s (incW x c) else 0
section
variable {C : CT} (hC : Closed Tryz.prog G1 md0 C)
include hC
theorem t40 (b : Brd) (s : Sta) (x : Wk) (c : Int) (hb : BrdB (2^50) b) (hl : s.us.length < 2^40) (hq : x.q.length < 2^50) : Ev C 40 [brdF b, .agg (staF s), .agg (wkF x), .int .i64 c] (.tup [.agg (staO (ptS b s x c)), .agg (wkO (ptX b s x c)), .int .i64 (ptC b s x c), .bool (ptOk b s x c)]) := by
  have c1 := t61 hC b s x hb hl hq
  have c2 := tIn hC c 0 50
  have c3 := fun g h => t106 hC b s x c g h hb
  simp only [brdF, rulF, mpF, List.cons_append, List.nil_append, staF, staO, wkF, wkO] at c1 c2 c3 ⊢
  refine rT hC Q40 ?_ (own_swb _ _ _ _)
  simp only [c40, push_cast, ↓J1, ↓J2, N1, N2, N3, reduceCtorEq, N4, N5, N6, reduceIte, N7, I1, I2, I3]
  refine ⟨_, c1, ?_⟩
  cases g1 : prOk b s x
  · have hno : ptOk b s x c = false := by simp only [ptOk, g1, Bool.false_and]
    simp only [ptS, ptX, ptC, hno, Bool.false_eq_true, if_false, push_cast, ↓J1, ↓J2, N1, N2, N3, reduceCtorEq, N4, N5, N6, reduceIte, N7, I1, I2, I3]
    exact RetTo_nil (h2 := _) (by simp only [conR, conRL, isF, hget, hdel, List.drop_zero, List.take_length, if_true, if_false, reduceIte, N5, reduceCtorEq]; rfl) (NilTo_tup (NilToL_cons (NilTo_agg nil_sta) (NilToL_cons (NilTo_agg nil_wk) (NilToL_cons (NilTo.refl _) (NilToL_cons (NilTo.refl _) NilToL_nil)))))
  simp only [push_cast, ↓J1, ↓J2, N1, N2, N3, reduceCtorEq, N4, N5, N6, reduceIte, N7, I1, I2, I3]
  refine ⟨_, c2, ?_⟩
  cases g2 : inR 0 50 c
  · have hno : ptOk b s x c = false := by simp only [ptOk, g2, Bool.and_false]
    simp only [ptS, ptX, ptC, hno, Bool.false_eq_true, if_false, push_cast, ↓J1, ↓J2, N1, N2, N3, reduceCtorEq, N4, N5, N6, reduceIte, N7, I1, I2, I3]
    exact RetTo_nil (h2 := _) (by simp only [conR, conRL, isF, hget, hdel, List.drop_zero, List.take_length, if_true, if_false, reduceIte, N5, reduceCtorEq]; rfl) (NilTo_tup (NilToL_cons (NilTo_agg nil_sta) (NilToL_cons (NilTo_agg nil_wk) (NilToL_cons (NilTo.refl _) (NilToL_cons (NilTo.refl _) NilToL_nil)))))
  have hok : ptOk b s x c = true := by simp only [ptOk, g1, g2, Bool.and_self]
  have hc : 0 ≤ c ∧ c ≤ 50 := by simpa only [inR, Bool.and_eq_true, decide_eq_true_eq] using g2
  simp only [ptS, ptX, ptC, hok, if_true, push_cast, ↓J1, ↓J2, N1, N2, N3, reduceCtorEq, N4, N5, N6, reduceIte, N7, I1, I2, I3]
  refine ⟨_, c3 g1 hc, ?_⟩
  simp only [push_cast, ↓J1, ↓J2, N1, N2, N3, reduceCtorEq, N4, N5, N6, reduceIte, N7, I1, I2, I3]
  and_intros
  all_goals exact rtA
theorem t41 (b : Brd) (s : Sta) (x : Wk) (c : Int) (hb : BrdB (2^50) b) (hl : s.us.length < 2^40) (hq : x.q.length < 2^50) : Ev C 41 [brdF b, .agg (staF s), .agg (wkF x), .int .i64 c] (.tup [.agg (staO (ptS b s x c)), .agg (wkO (ptX b s x c)), .int .i64 (ptC b s x c), .bool (ptOk b s x c)]) := by
  have c1 := t67 hC b s x hb hl hq
  have c2 := t107 hC c
  have c3 := fun g h => t108 hC b s x c g h hb
  simp only [brdF, rulF, mpF, List.cons_append, List.nil_append, staF, staO, wkF, wkO] at c1 c2 c3 ⊢
  refine rT hC Q41 ?_ (own_swb _ _ _ _)
  simp only [c41, push_cast, ↓J1, ↓J2, N1, N2, N3, reduceCtorEq, N4, N5, N6, reduceIte, N7, I1, I2, I3]
  refine ⟨_, c1, ?_⟩
  cases g1 : prOk b s x
  · have hno : ptOk b s x c = false := by simp only [ptOk, g1, Bool.false_and]
    simp only [ptS, ptX, ptC, hno, Bool.false_eq_true, if_false, push_cast, ↓J1, ↓J2, N1, N2, N3, reduceCtorEq, N4, N5, N6, reduceIte, N7, I1, I2, I3]
    exact RetTo_nil (h2 := _) (by simp only [conR, conRL, isF, hget, hdel, List.drop_zero, List.take_length, if_true, if_false, reduceIte, N5, reduceCtorEq]; rfl) (NilTo_tup (NilToL_cons (NilTo_agg nil_sta) (NilToL_cons (NilTo_agg nil_wk) (NilToL_cons (NilTo.refl _) (NilToL_cons (NilTo.refl _) NilToL_nil)))))
  simp only [push_cast, ↓J1, ↓J2, N1, N2, N3, reduceCtorEq, N4, N5, N6, reduceIte, N7, I1, I2, I3]
  refine ⟨_, c2, ?_⟩
  cases g2 : inR 0 50 c
  · have hno : ptOk b s x c = false := by simp only [ptOk, g2, Bool.and_false]
    simp only [ptS, ptX, ptC, hno, Bool.false_eq_true, if_false, push_cast, ↓J1, ↓J2, N1, N2, N3, reduceCtorEq, N4, N5, N6, reduceIte, N7, I1, I2, I3]
    exact RetTo_nil (h2 := _) (by simp only [conR, conRL, isF, hget, hdel, List.drop_zero, List.take_length, if_true, if_false, reduceIte, N5, reduceCtorEq]; rfl) (NilTo_tup (NilToL_cons (NilTo_agg nil_sta) (NilToL_cons (NilTo_agg nil_wk) (NilToL_cons (NilTo.refl _) (NilToL_cons (NilTo.refl _) NilToL_nil)))))
  have hok : ptOk b s x c = true := by simp only [ptOk, g1, g2, Bool.and_self]
  have hc : 0 ≤ c ∧ c ≤ 50 := by simpa only [inR, Bool.and_eq_true, decide_eq_true_eq] using g2
  simp only [ptS, ptX, ptC, hok, if_true, push_cast, ↓J1, ↓J2, N1, N2, N3, reduceCtorEq, N4, N5, N6, reduceIte, N7, I1, I2, I3]
  refine ⟨_, c3 g1 hc, ?_⟩
  simp only [push_cast, ↓J1, ↓J2, N1, N2, N3, reduceCtorEq, N4, N5, N6, reduceIte, N7, I1, I2, I3]
  and_intros
  all_goals exact rtA
end
end Go.Proofs.YtjaccjeejeiphaaGreatDoor.X
set_option maxHeartbeats 4000000
set_option maxRecDepth 8000
set_option linter.unusedSimpArgs false
set_option linter.unusedVariables false
open Nat renaming reduceBEq → N1, reduceAdd → N2, reduceSub → N3, reduceMul → N4, reduceEqDiff → N5, reduceLeDiff → N6, reduceLT → N7
open Int renaming reduceLE → I1, reduceLT → I2, reduceToNat → I3
namespace Go.Proofs.YtjaccjeejeiphaaGreatDoor.X
open Go
attribute [local irreducible] Ev
def FrH (ids : List Nat) (n : Nat) (h h' : Heap) : Prop := ∀ j, j < n → j ∉ ids → hget h' j = hget h j
structure MP (ids : List Nat) (h : Heap) (n c : Nat) (k W : Int) (v : AV) (h' : Heap) (n' : Nat) : Prop where
  v : ∃ m, v = .int .i64 m ∧ k ≤ m ∧ m ≤ k + W
  nn : n' = n + c
  f : FrH ids n h h'
  b : below n' h'
  s : solid h'
theorem FrH.set {n id : Nat} {h : Heap} {o : Ob} : FrH [id] n h (hset h id o) := by
  intro j _ hj
  rw [hget_set, if_neg (by simp at hj; omega)]
theorem FrH.trans {a b : List Nat} {n n' : Nat} {h h' h2 : Heap} (h1 : FrH a n h h') (h3 : FrH b n' h' h2) (hn : n ≤ n') : FrH (a ++ b) n h h2 := by
  intro j hj hm
  simp only [List.mem_append, not_or] at hm
  rw [h3 j (by omega) hm.2, h1 j hj hm.1]
theorem FrH.box {n : Nat} {h : Heap} {o : Ob} : FrH [] n h ((n, o) :: h) := by
  intro j hj _
  simp only [hget, if_neg (show ¬ n = j by omega)]
theorem solid_box {n : Nat} {h : Heap} {cs : List AV} (hs : solid h) (hk : killL cs = cs) : solid ((n, .var cs) :: h) := by
  unfold solid at *
  simp only [killH, hk, hs]
theorem below_box {n : Nat} {h : Heap} {cs : List AV} (hb : below n h) (hk : renL (n + 1) [] cs = cs) : below (n + 1) ((n, .var cs) :: h) :=
  below_mk (by omega) (by simp only [renO, hk]) (below_succ hb)
theorem hget_box {n j : Nat} {h : Heap} {o u : Ob} (hb : below n h) (hg : hget h j = some u) : hget ((n, o) :: h) j = some u := by
  have := below_lt hb hg
  simp only [hget, if_neg (show ¬ n = j by omega), hg]
def dig (k : Int) : UInt8 := UInt8.ofNat (IntKind.u8.wrap (IntKind.i64.wrap (48 + k.tmod 10))).toNat
def mtx : Nat → Int → ByteArray → ByteArray
  | 0, _, a => a
  | f + 1, k, a => if 0 < k then mtx f (k.tdiv 10) (⟨#[dig k]⟩ ++ a) else a
theorem mtx_stop {f : Nat} {k : Int} {a : ByteArray} (h : k ≤ 0) : mtx f k a = a := by
  cases f with
  | zero => rfl
  | succ f => simp only [mtx, if_neg (show ¬ 0 < k by omega)]
def mText (k : Int) : ByteArray := if k ≤ 0 then ⟨#[109, 48]⟩ else ⟨#[109]⟩ ++ mtx k.toNat k ByteArray.empty
theorem tdiv10 {k : Int} (h : 0 < k) : 0 ≤ k.tdiv 10 ∧ k.tdiv 10 ≤ k - 1 := by
  rw [Int.tdiv_eq_ediv_of_nonneg (by omega)]
  omega
def mkUns (k : Int) (n : Nat) : List Un := (List.range n).map fun i : Nat => ⟨k + 4 * (i : Int), k + 4 * (i : Int) + 1, k + 4 * (i : Int) + 2, k + 4 * (i : Int) + 3⟩
theorem mkUns_length {k : Int} {n : Nat} : (mkUns k n).length = n := by simp [mkUns]
theorem mkUns_get {k : Int} {n i : Nat} (h : i < n) : (uns (mkUns k n))[i]? = some (unA ⟨k + 4 * (i : Int), k + 4 * (i : Int) + 1, k + 4 * (i : Int) + 2, k + 4 * (i : Int) + 3⟩) := by
  simp [uns, mkUns, h]
theorem mkUns_succ {us : List Un} {k : Int} {i : Nat} (h : i < us.length) : (uns (mkUns k i ++ us.drop i)).set i (unA ⟨k + 4 * (i : Int), k + 4 * (i : Int) + 1, k + 4 * (i : Int) + 2, k + 4 * (i : Int) + 3⟩) = uns (mkUns k (i + 1) ++ us.drop (i + 1)) := by
  have e : us.drop i = us[i] :: us.drop (i + 1) := List.drop_eq_getElem_cons h
  have e2 : mkUns k (i + 1) = mkUns k i ++ [⟨k + 4 * (i : Int), k + 4 * (i : Int) + 1, k + 4 * (i : Int) + 2, k + 4 * (i : Int) + 3⟩] := by simp [mkUns, List.range_succ]
  rw [e, e2]
  simp only [uns, List.map_append, List.map_cons, List.map_nil, List.append_assoc, List.cons_append, List.nil_append]
  rw [mid_set (by simp [mkUns])]
section
variable {C : CT} (hC : Closed Tryz.prog G1 md0 C)
include hC
theorem t226 (k : Int) (hk : k ≤ 2^50) : Ev C 226 [.int .i64 k] (.str (mText k)) := by
  refine rT hC Q226 ?_
  simp only [c226, push_cast, ↓J1, ↓J2, N1, N2, N3, reduceCtorEq, N4, N5, N6, reduceIte, N7, I1, I2, I3]
  refine ifB_intro (fun h => ?_) (fun h => ?_)
  · have h' := of_decide_eq_true h
    simp only [mText, if_pos h', push_cast, ↓J1, ↓J2, N1, N2, N3, reduceCtorEq, N4, N5, N6, reduceIte, N7, I1, I2, I3]
  have h' := of_decide_eq_false h
  simp only [mText, if_neg h']
  refine RL_ind (fun m s' => ∃ (x : Int) (a : ByteArray), x ≤ m ∧ (a.size : Int) + x ≤ k ∧ x ≤ k ∧ 0 ≤ x ∧ mtx k.toNat k ByteArray.empty = mtx m x a ∧ s' = ⟨tb 20 .any [(0, .int .i64 x), (3, .str a)], [], 0⟩) k.toNat ⟨tb 20 .any [(0, .int .i64 k), (3, .str ByteArray.empty)], [], 0⟩ (hdA []) ⟨k, _, by omega, by show (0 : Int) + k ≤ k; omega, by omega, by omega, rfl, rfl⟩ ?_
  rintro m s' ⟨x, a, h1, h2, h3, h4, h5, rfl⟩ J hJ
  simp only [push_cast, ↓J1, ↓J2, N1, N2, N3, reduceCtorEq, N4, N5, N6, reduceIte, N7, I1, I2, I3]
  refine ifB_intro (fun h => ?_) (fun h => ?_)
  · have hx := of_decide_eq_true h
    have hd := tdiv10 hx
    cases m with
    | zero => omega
    | succ m =>
      rw [mtx, if_pos hx] at h5
      have w1 : IntKind.i64.wrap (x.tdiv 10) = x.tdiv 10 := wrap64 (by omega) (by omega)
      have t1 : List.take 1 [[AV.int .u8 (IntKind.u8.wrap (IntKind.i64.wrap (48 + x.tmod 10)))]] = [[AV.int .u8 (IntKind.u8.wrap (IntKind.i64.wrap (48 + x.tmod 10)))]] := rfl
      simp only [byteL, w1, t1, bytesV_one, show (10 : Int) ≠ 0 by decide, push_cast, ↓J1, ↓J2, N1, N2, N3, reduceCtorEq, N4, N5, N6, reduceIte, N7, I1, I2, I3]
      have s1 : (⟨#[dig x]⟩ : ByteArray).size = 1 := rfl
      and_intros
      all_goals first | (show (((⟨#[dig x]⟩ : ByteArray).size + a.size : Nat) : Int) ≤ _; rw [s1]; omega) | skip
      refine hJ m _ _ (by omega) ⟨x.tdiv 10, ⟨#[dig x]⟩ ++ a, by omega, ?_, by omega, by omega, h5, rfl⟩ (hdA [])
      rw [ByteArray.size_append, s1]; omega
  · have hx := of_decide_eq_false h
    rw [h5, mtx_stop (by omega)]
    simp only [push_cast, ↓J1, ↓J2, N1, N2, N3, reduceCtorEq, N4, N5, N6, reduceIte, N7, I1, I2, I3]
    and_intros
    all_goals first | (show (((⟨#[109]⟩ : ByteArray).size + a.size : Nat) : Int) ≤ _; rw [show (⟨#[109]⟩ : ByteArray).size = 1 from rfl]; omega) | skip
theorem t102p (l : List Int) (k : Int) (h : Heap) (id n i0 szo c : Nat) (es : List (List AV)) (e : List AV) (hg : hget h id = some (.slice szo es)) (he : es[i0]? = some e) (hc : e[c]? = some (.ow 1 (ints l))) (hb : below n h) (hk : 0 ≤ k ∧ k < 2^50) (hl : l.length < 2^50) : C 102 [.ref id (some (szo, i0, c)) 1 0 l.length, .int .i64 k] h n (fun v h' n' => v = .int .i64 (k + l.length) ∧ n' = n ∧ h' = hset h id (.slice szo (es.set i0 (e.set c (.ow 1 (ints (mk l k l.length))))))) := by
  have hid := below_lt hb hg
  have hi0 : i0 < es.length := (List.getElem?_eq_some_iff.1 he).1
  have hc0 : c < e.length := (List.getElem?_eq_some_iff.1 hc).1
  refine Closed.rT hC Q102 ?_
  simp only [c102, push_cast, ↓J1, ↓J2, N1, N2, N3, reduceCtorEq, N4, N5, N6, reduceIte, N7, I1, I2, I3]
  refine RL_count (fun i => ⟨tb 19 .any [(0, .ref id (some (szo, i0, c)) 1 0 l.length), (1, .int .i64 (k + i)), (5, .int .i64 (i : Int))], hset h id (.slice szo (es.set i0 (e.set c (.ow 1 (ints (mk l k i)))))), n⟩) (fun _ => True) l.length 0 (head_tb [] (by simp [rhoOk, objIds]) (by simp only [hid, keptV_cons, keptV_nil, tb_get, lk_same, lk_ne, lk_nil, ren, renL, lkp, N7, N1, N5, reduceIte, and_true, true_and, Nat.not_lt_zero, if_false, if_true, Nat.add_zero, Nat.zero_add]; simp) ?_) (by omega) trivial fun i hi _ J hJ => ?_
  · rw [mk_zero]
    have e2 : e.set c (.ow 1 (ints l)) = e := by
      apply List.ext_getElem?
      intro j
      rw [List.getElem?_set]
      split
      · rename_i q; subst q; rw [hc]; try simp [hc0]
      · rfl
    have e3 : es.set i0 e = es := by
      apply List.ext_getElem?
      intro j
      rw [List.getElem?_set]
      split
      · rename_i q; subst q; rw [he]; try simp [hi0]
      · rfl
    rw [e2, e3, hset_get hg]; exact hb
  have hgi : hget (hset h id (.slice szo (es.set i0 (e.set c (.ow 1 (ints (mk l k i))))))) id = some (.slice szo (es.set i0 (e.set c (.ow 1 (ints (mk l k i)))))) := hget_same hg
  have hei : (es.set i0 (e.set c (.ow 1 (ints (mk l k i)))))[i0]? = some (e.set c (.ow 1 (ints (mk l k i)))) := by simp [hi0]
  have hci : (e.set c (.ow 1 (ints (mk l k i))))[c]? = some (.ow 1 (ints (mk l k i))) := by simp [hc0]
  by_cases h1 : i < l.length
  · have e1 : (ints (mk l k i))[i]? = some [.int .i64 ((mk l k i).getD i 0)] := ints_get (by rw [mk_length hi]; exact h1)
    simp only [Int.toNat_natCast, hgi, hei, hci, e1, push_cast, ↓J1, ↓J2, N1, N2, N3, reduceCtorEq, N4, N5, N6, reduceIte, N7, I1, I2, I3]
    refine ifB_intro (fun _ => ?_) (fun h => by simp at h; omega)
    repeat (refine ⟨by omega, ?_⟩)
    refine hJ h1 trivial _ (head_tb [] (by simp [rhoOk, objIds]) ?_ ?_)
    · simp only [hid, keptV_cons, keptV_nil, tb_get, lk_same, lk_ne, lk_nil, ren, renL, lkp, N7, N1, N5, reduceIte, and_true, true_and, Nat.not_lt_zero, if_false, if_true, Nat.add_zero, Nat.zero_add]
      rw [wrap64 (by omega) (by omega), wrap64 (by omega) (by omega)]
      simp; omega
    · rw [ints_set, mk_succ h1, List.set_set, List.set_set, hset_hset]
      exact below_set hb
  · obtain rfl : i = l.length := by omega
    simp only [push_cast, ↓J1, ↓J2, N1, N2, N3, reduceCtorEq, N4, N5, N6, reduceIte, N7, I1, I2, I3]
    refine ifB_intro (fun h => by simp at h) (fun h => ?_)
    trivial
theorem t181 (l : List Od) (k : Int) (h : Heap) (id n : Nat) (hg : hget h id = some (.slice 2 (ods l))) (hb : below n h) (hs : solid h) (hk : 0 ≤ k ∧ k ≤ 2^47) (hl : l.length < 2^21) : C 181 [.ref id none 2 0 l.length, .int .i64 k] h n (MP [id] h n 0 k (2^43)) := by
  have hid := below_lt hb hg
  refine Closed.rT hC Q181 ?_
  simp only [c181, push_cast, ↓J1, ↓J2, N1, N2, N3, reduceCtorEq, N4, N5, N6, reduceIte, N7, I1, I2, I3]
  have hgi : ∀ es : List (List AV), hget (hset h id (.slice 2 es)) id = some (.slice 2 es) := fun es => hget_same hg
  refine RL_ind (fun m s' => ∃ (i : Nat) (l' : List Od) (k' : Int), i + m = l.length ∧ l'.length = l.length ∧ k ≤ k' ∧ k' ≤ k + i * 2 ∧ s' = ⟨tb 27 .any [(0, .ref id none 2 0 l.length), (1, .int .i64 k'), (5, .int .i64 (i : Int))], hset h id (.slice 2 (ods l')), n⟩) l.length ⟨tb 27 .any [(0, .ref id none 2 0 l.length), (1, .int .i64 k), (5, .int .i64 0)], hset h id (.slice 2 (ods l)), n⟩ (head_tb [] (by simp [rhoOk, objIds]) (by simp only [hid, keptV_cons, keptV_nil, tb_get, lk_same, lk_ne, lk_nil, ren, renL, lkp, N7, N1, N5, reduceIte, and_true, true_and, Nat.not_lt_zero, if_false, if_true, Nat.add_zero, Nat.zero_add]; all_goals simp) (by rw [hset_get hg]; exact hb)) ⟨0, l, k, by omega, rfl, by omega, by omega, rfl⟩ ?_
  rintro m s' ⟨i, l', k', h1, h2, h3, h4, rfl⟩ J hJ
  by_cases hi : i < l.length
  · have e1 : (ods l')[i]? = some (odA (l'[i]'(by omega))) := by simp [ods, h2, hi]
    have gs : ∀ e : List AV, ((ods l').set i e)[i]? = some e := by intro e; simp [ods, h2, hi]
    have ls : ∀ u : Od, (ods l').set i (odA u) = ods (l'.set i u) := by intro u; simp [ods, List.map_set]
    generalize (l'[i]'(by omega)) = t at *
    have w0 : IntKind.i64.wrap (k' + 1) = k' + 1 := wrap64 (by omega) (by omega)
    have w1 : IntKind.i64.wrap (k' + 1 + 1) = k' + 1 + 1 := wrap64 (by omega) (by omega)
    simp only [Int.toNat_natCast, hgi, e1, odA, push_cast, ↓J1, ↓J2, N1, N2, N3, reduceCtorEq, N4, N5, N6, reduceIte, N7, I1, I2, I3]
    refine ifB_intro (fun _ => ?_) (fun h => by simp at h; omega)
    repeat (refine ⟨by omega, ?_⟩)
    repeat' (first | refine ⟨by omega, ?_⟩ | simp only [Int.toNat_natCast, hgi, e1, gs, hset_hset, List.set_set, setsA, List.set_cons_zero, List.set_cons_succ, odA, w0, w1, push_cast, ↓J1, ↓J2, N1, N2, N3, reduceCtorEq, N4, N5, N6, reduceIte, N7, I1, I2, I3])
    refine hJ (m - 1) _ _ (by omega) ⟨i + 1, l'.set i ⟨k', k' + 1⟩, k' + 1 + 1, by omega, by simp [h2], ?_, ?_, rfl⟩ (head_tb [] (by simp [rhoOk, objIds]) ?_ ?_)
    rotate_left 2
    · simp only [hid, keptV_cons, keptV_nil, tb_get, lk_same, lk_ne, lk_nil, ren, renL, lkp, N7, N1, N5, reduceIte, and_true, true_and, Nat.not_lt_zero, if_false, if_true, Nat.add_zero, Nat.zero_add]
      rw [wrap64 (n := (i : Int) + 1) (by omega) (by omega)]
      and_intros <;> first | rfl | (simp; done) | omega
    · rw [← ls]
      simp only [odA]
      exact below_set hb
    all_goals omega
  · simp only [push_cast, ↓J1, ↓J2, N1, N2, N3, reduceCtorEq, N4, N5, N6, reduceIte, N7, I1, I2, I3]
    refine ifB_intro (fun h => by simp at h; omega) (fun h => ?_)
    exact ⟨⟨k', rfl, by omega, by omega⟩, rfl, FrH.set, below_set hb, solid_set hs⟩
theorem t175 (l : List Kin) (k : Int) (h : Heap) (id n : Nat) (hg : hget h id = some (.slice 6 (kins l))) (hb : below n h) (hs : solid h) (hk : 0 ≤ k ∧ k ≤ 2^47) (hl : l.length < 2^21) : C 175 [.ref id none 6 0 l.length, .int .i64 k] h n (MP [id] h n 0 k (2^43)) := by
  have hid := below_lt hb hg
  refine Closed.rT hC Q175 ?_
  simp only [c175, push_cast, ↓J1, ↓J2, N1, N2, N3, reduceCtorEq, N4, N5, N6, reduceIte, N7, I1, I2, I3]
  have hgi : ∀ es : List (List AV), hget (hset h id (.slice 6 es)) id = some (.slice 6 es) := fun es => hget_same hg
  refine RL_ind (fun m s' => ∃ (i : Nat) (l' : List Kin) (k' : Int), i + m = l.length ∧ l'.length = l.length ∧ k ≤ k' ∧ k' ≤ k + i * 6 ∧ s' = ⟨tb 58 .any [(0, .ref id none 6 0 l.length), (1, .int .i64 k'), (5, .int .i64 (i : Int))], hset h id (.slice 6 (kins l')), n⟩) l.length ⟨tb 58 .any [(0, .ref id none 6 0 l.length), (1, .int .i64 k), (5, .int .i64 0)], hset h id (.slice 6 (kins l)), n⟩ (head_tb [] (by simp [rhoOk, objIds]) (by simp only [hid, keptV_cons, keptV_nil, tb_get, lk_same, lk_ne, lk_nil, ren, renL, lkp, N7, N1, N5, reduceIte, and_true, true_and, Nat.not_lt_zero, if_false, if_true, Nat.add_zero, Nat.zero_add]; all_goals simp) (by rw [hset_get hg]; exact hb)) ⟨0, l, k, by omega, rfl, by omega, by omega, rfl⟩ ?_
  rintro m s' ⟨i, l', k', h1, h2, h3, h4, rfl⟩ J hJ
  by_cases hi : i < l.length
  · have e1 : (kins l')[i]? = some (kinA (l'[i]'(by omega))) := by simp [kins, h2, hi]
    have gs : ∀ e : List AV, ((kins l').set i e)[i]? = some e := by intro e; simp [kins, h2, hi]
    have ls : ∀ u : Kin, (kins l').set i (kinA u) = kins (l'.set i u) := by intro u; simp [kins, List.map_set]
    generalize (l'[i]'(by omega)) = t at *
    have w0 : IntKind.i64.wrap (k' + 1) = k' + 1 := wrap64 (by omega) (by omega)
    have w1 : IntKind.i64.wrap (k' + 1 + 1) = k' + 1 + 1 := wrap64 (by omega) (by omega)
    have w2 : IntKind.i64.wrap (k' + 1 + 1 + 1) = k' + 1 + 1 + 1 := wrap64 (by omega) (by omega)
    have w3 : IntKind.i64.wrap (k' + 1 + 1 + 1 + 1) = k' + 1 + 1 + 1 + 1 := wrap64 (by omega) (by omega)
    have w4 : IntKind.i64.wrap (k' + 1 + 1 + 1 + 1 + 1) = k' + 1 + 1 + 1 + 1 + 1 := wrap64 (by omega) (by omega)
    have w5 : IntKind.i64.wrap (k' + 1 + 1 + 1 + 1 + 1 + 1) = k' + 1 + 1 + 1 + 1 + 1 + 1 := wrap64 (by omega) (by omega)
    have hT := t226 hC k' (by omega)
    simp only [Int.toNat_natCast, hgi, e1, kinA, push_cast, ↓J1, ↓J2, N1, N2, N3, reduceCtorEq, N4, N5, N6, reduceIte, N7, I1, I2, I3]
    refine ifB_intro (fun _ => ?_) (fun h => by simp at h; omega)
    repeat (refine ⟨by omega, ?_⟩)
    refine ⟨_, hT, ?_⟩
    repeat' (first | refine ⟨by omega, ?_⟩ | simp only [Int.toNat_natCast, hgi, e1, gs, hset_hset, List.set_set, setsA, List.set_cons_zero, List.set_cons_succ, kinA, w0, w1, w2, w3, w4, w5, push_cast, ↓J1, ↓J2, N1, N2, N3, reduceCtorEq, N4, N5, N6, reduceIte, N7, I1, I2, I3])
    refine hJ (m - 1) _ _ (by omega) ⟨i + 1, l'.set i ⟨mText k', k' + 1, k' + 1 + 1, k' + 1 + 1 + 1, decide ((k' + 1 + 1 + 1 + 1).tmod 3 = 0), k' + 1 + 1 + 1 + 1 + 1⟩, k' + 1 + 1 + 1 + 1 + 1 + 1, by omega, by simp [h2], ?_, ?_, rfl⟩ (head_tb [] (by simp [rhoOk, objIds]) ?_ ?_)
    rotate_left 2
    · simp only [hid, keptV_cons, keptV_nil, tb_get, lk_same, lk_ne, lk_nil, ren, renL, lkp, N7, N1, N5, reduceIte, and_true, true_and, Nat.not_lt_zero, if_false, if_true, Nat.add_zero, Nat.zero_add]
      rw [wrap64 (n := (i : Int) + 1) (by omega) (by omega)]
      and_intros <;> first | rfl | (simp; done) | omega
    · rw [← ls]
      simp only [kinA]
      exact below_set hb
    all_goals omega
  · simp only [push_cast, ↓J1, ↓J2, N1, N2, N3, reduceCtorEq, N4, N5, N6, reduceIte, N7, I1, I2, I3]
    refine ifB_intro (fun h => by simp at h; omega) (fun h => ?_)
    exact ⟨⟨k', rfl, by omega, by omega⟩, rfl, FrH.set, below_set hb, solid_set hs⟩
theorem t174 (l : List Ter) (k : Int) (h : Heap) (id n : Nat) (hg : hget h id = some (.slice 5 (tersO l))) (hb : below n h) (hs : solid h) (hk : 0 ≤ k ∧ k ≤ 2^47) (hl : l.length < 2^21) (hc : ∀ t ∈ l, t.c.length < 2^21) : C 174 [.ref id none 5 0 l.length, .int .i64 k] h n (MP [id] h n 0 k (2^43)) := by
  have hid := below_lt hb hg
  refine Closed.rT hC Q174 ?_
  simp only [c174, push_cast, ↓J1, ↓J2, N1, N2, N3, reduceCtorEq, N4, N5, N6, reduceIte, N7, I1, I2, I3]
  have hgi : ∀ es : List (List AV), hget (hset h id (.slice 5 es)) id = some (.slice 5 es) := fun es => hget_same hg
  refine RL_ind (fun m s' => ∃ (i : Nat) (l' : List Ter) (k' : Int), i + m = l.length ∧ l'.length = l.length ∧ (∀ t ∈ l', t.c.length < 2^21) ∧ k ≤ k' ∧ k' ≤ k + i * 2097156 ∧ s' = ⟨tb 51 .any [(0, .ref id none 5 0 l.length), (1, .int .i64 k'), (5, .int .i64 (i : Int))], hset h id (.slice 5 (tersO l')), n⟩) l.length ⟨tb 51 .any [(0, .ref id none 5 0 l.length), (1, .int .i64 k), (5, .int .i64 0)], hset h id (.slice 5 (tersO l)), n⟩ (head_tb [] (by simp [rhoOk, objIds]) (by simp only [hid, keptV_cons, keptV_nil, tb_get, lk_same, lk_ne, lk_nil, ren, renL, lkp, N7, N1, N5, reduceIte, and_true, true_and, Nat.not_lt_zero, if_false, if_true, Nat.add_zero, Nat.zero_add]; all_goals simp) (by rw [hset_get hg]; exact hb)) ⟨0, l, k, by omega, rfl, hc, by omega, by omega, rfl⟩ ?_
  rintro m s' ⟨i, l', k', h1, h2, hI, h3, h4, rfl⟩ J hJ
  by_cases hi : i < l.length
  · have e1 : (tersO l')[i]? = some (terO (l'[i]'(by omega))) := by simp [tersO, h2, hi]
    have gs : ∀ e : List AV, ((tersO l').set i e)[i]? = some e := by intro e; simp [tersO, h2, hi]
    have ls : ∀ u : Ter, (tersO l').set i (terO u) = tersO (l'.set i u) := by intro u; simp [tersO, List.map_set]
    have hin := hI _ (List.getElem_mem (show i < l'.length by omega))
    generalize (l'[i]'(by omega)) = t at *
    have w0 : IntKind.i64.wrap (k' + 1) = k' + 1 := wrap64 (by omega) (by omega)
    have hT := t226 hC k' (by omega)
    have hL : t.c.length < 2^21 := hin
    have w1 : IntKind.i64.wrap (k' + 1 + (t.c.length : Int) + 1) = k' + 1 + (t.c.length : Int) + 1 := wrap64 (by omega) (by omega)
    have w2 : IntKind.i64.wrap (k' + 1 + (t.c.length : Int) + 1 + 1) = k' + 1 + (t.c.length : Int) + 1 + 1 := wrap64 (by omega) (by omega)
    have w3 : IntKind.i64.wrap (k' + 1 + (t.c.length : Int) + 1 + 1 + 1) = k' + 1 + (t.c.length : Int) + 1 + 1 + 1 := wrap64 (by omega) (by omega)
    simp only [Int.toNat_natCast, hgi, e1, terO, push_cast, ↓J1, ↓J2, N1, N2, N3, reduceCtorEq, N4, N5, N6, reduceIte, N7, I1, I2, I3]
    refine ifB_intro (fun _ => ?_) (fun h => by simp at h; omega)
    repeat (refine ⟨by omega, ?_⟩)
    refine ⟨_, hT, ?_⟩
    repeat' (first | refine ⟨by omega, ?_⟩ | simp only [Int.toNat_natCast, hgi, e1, gs, hset_hset, ints_length, List.set_set, setsA, List.set_cons_zero, List.set_cons_succ, terO, w0, push_cast, ↓J1, ↓J2, N1, N2, N3, reduceCtorEq, N4, N5, N6, reduceIte, N7, I1, I2, I3])
    refine ⟨_, t102p hC t.c (k' + 1) _ id n i 5 1 _ _ (hgi _) (gs _) rfl (below_set hb) (by omega) (by omega), ?_⟩
    rintro v hh nn ⟨rfl, rfl, rfl⟩ _
    have hs2 := solid_set (id := id) (sz := 5) (es := ((tersO l').set i (terO ⟨mText k', mk t.c (k' + 1) t.c.length, t.s, t.h, t.b⟩))) hs
    unfold solid at hs2
    simp only [terO] at hs2
    simp only [hs2, hset_hset, List.set_set, List.set_cons_zero, List.set_cons_succ, push_cast, ↓J1, ↓J2, N1, N2, N3, reduceCtorEq, N4, N5, N6, reduceIte, N7, I1, I2, I3]
    repeat' (first | refine ⟨by omega, ?_⟩ | simp only [Int.toNat_natCast, hgi, e1, gs, hset_hset, List.set_set, setsA, List.set_cons_zero, List.set_cons_succ, terO, w1, w2, w3, push_cast, ↓J1, ↓J2, N1, N2, N3, reduceCtorEq, N4, N5, N6, reduceIte, N7, I1, I2, I3])
    refine hJ (m - 1) _ _ (by omega) ⟨i + 1, l'.set i ⟨mText k', mk t.c (k' + 1) t.c.length, k' + 1 + t.c.length, k' + 1 + t.c.length + 1, decide ((k' + 1 + t.c.length + 1 + 1).tmod 3 = 0)⟩, k' + 1 + t.c.length + 1 + 1 + 1, by omega, by simp [h2], ?_, ?_, ?_, rfl⟩ (head_tb [] (by simp [rhoOk, objIds]) ?_ ?_)
    rotate_left 3
    · simp only [hid, keptV_cons, keptV_nil, tb_get, lk_same, lk_ne, lk_nil, ren, renL, lkp, N7, N1, N5, reduceIte, and_true, true_and, Nat.not_lt_zero, if_false, if_true, Nat.add_zero, Nat.zero_add]
      rw [wrap64 (n := (i : Int) + 1) (by omega) (by omega)]
      and_intros <;> first | rfl | (simp; done) | omega
    · rw [← ls]
      simp only [terO]
      exact below_set hb
    · intro u hu
      rcases List.mem_or_eq_of_mem_set hu with hu | rfl
      · exact hI u hu
      · show (mk t.c (k' + 1) t.c.length).length < _
        rw [mk_length (Nat.le_refl _)]; exact hL
    all_goals omega
  · simp only [push_cast, ↓J1, ↓J2, N1, N2, N3, reduceCtorEq, N4, N5, N6, reduceIte, N7, I1, I2, I3]
    refine ifB_intro (fun h => by simp at h; omega) (fun h => ?_)
    exact ⟨⟨k', rfl, by omega, by omega⟩, rfl, FrH.set, below_set hb, solid_set hs⟩
end
end Go.Proofs.YtjaccjeejeiphaaGreatDoor.X
