/- A part of the proof: lemmas on the machine or on the functions that the law reaches. No condition of its own. -/
import Derived.Test.YtjaccjeejeiphaaGreatDoorXP10
import Derived.Test.YtjaccjeejeiphaaGreatDoorXP9
set_option maxHeartbeats 4000000
set_option maxRecDepth 8000
set_option linter.unusedSimpArgs false
set_option linter.unusedVariables false
open Nat renaming reduceBEq → N1, reduceAdd → N2, reduceSub → N3, reduceMul → N4, reduceEqDiff → N5, reduceLeDiff → N6, reduceLT → N7
open Int renaming reduceLE → I1, reduceLT → I2, reduceToNat → I3
namespace Go.Proofs.YtjaccjeejeiphaaGreatDoor.X
open Go
attribute [local irreducible] Ev
structure SrcB (b : Brd) (l : List Int) : Prop where
  h : ∀ i ∈ l, 0 ≤ i ∧ i < b.m.w * b.m.h
  n : l.length < 2^20
theorem far_get {b : Brd} {op : List Bool} {l : List Int} (g : brdOk b = true) (ho : op.length = b.m.t.length) (hl : SrcB b l) {j : Nat} (hj : j < b.m.t.length) : (ints (far b.m op l))[j]? = some [.int .i64 ((far b.m op l).getD j 0)] := cut_ints_get (by rw [far_len g ho hl.h]; exact hj)
theorem kins_at {b : Brd} {k : Int} (h : kindAsk b k = true) : (kins b.r.ks)[k.toNat]? = some (kinA (kindOf b k)) := by
  have hk := kind_at h
  have := kins_get (b := b) (k := k.toNat) (by omega)
  rwa [show ((k.toNat : Nat) : Int) = k by omega] at this
def wayM (b : Brd) (s : Sta) (u : Un) (l : List Int) : Int := if u.at_ < 0 then -1 else if b.r.supply < (farU b s u l).getD u.at_.toNat 0 then -1 else (farU b s u l).getD u.at_.toNat 0
theorem way_sup {b : Brd} {s : Sta} {u : Un} {l : List Int} : decide (0 ≤ wayM b s u l) = supU b s u l := by
  have e : wayM b s u l = if u.at_ < 0 then -1 else if b.r.supply < (farU b s u l).getD u.at_.toNat 0 then -1 else (farU b s u l).getD u.at_.toNat 0 := rfl
  rw [Bool.eq_iff_iff, decide_eq_true_eq, e]
  simp only [supU, inR, Bool.and_eq_true, decide_eq_true_eq]
  split
  · omega
  · split <;> omega
section
variable {C : CT} (hC : Closed Tryz.prog G1 md0 C)
include hC
theorem t248 (b : Brd) (s : Sta) (k : Nat) (l : List Int) (g : staOk b s = true) (hk : k < s.us.length) (hl : SrcB b l) (hb : BrdB (2^50) b) : Ev C 248 [brdF b, .agg (staF s), .int .i64 (k : Int), .sl (ints l)] (.tup [.ow 1 (bools (opn b s (unOf s k).sd (unOf s k).k)), .ow 1 (ints (farU b s (unOf s k) l))]) := by
  have gb := sta_brd g
  have hlen := sta_len g
  have hu := sta_un g hk
  have hsd := un_sd hu
  have e1 := uns_un (s := s) hk
  have hik : inR 0 (b.r.ks.length - 1) (unOf s k).k = true := by simp only [unOk, Bool.and_eq_true] at hu; exact hu.1.1.2
  have hol := opn_length b s (unOf s k).sd (unOf s k).k
  have c1 := t291 hC b s (unOf s k).sd (unOf s k).k g hsd hik hb
  have c2 := t292 hC b (opn b s (unOf s k).sd (unOf s k).k) l gb hol hl.h hl.n
  have tk : ∀ x : List Bool, List.take x.length (bools x) = bools x := fun x => List.take_of_length_le (by rw [bools_length]; omega)
  simp only [farU]
  generalize unOf s k = u at *
  simp only [brdF, rulF, mpF, List.cons_append, List.nil_append, staF] at *
  refine rT hC Q248 ?_ (by simp only [ownR, ownRL, own_bools, own_ints1, Bool.and_true, Bool.true_and])
  simp only [c248, push_cast, ↓J1, ↓J2, N1, N2, N3, reduceCtorEq, N4, N5, N6, reduceIte, N7, I1, I2, I3]
  simp only [Int.toNat_natCast, e1, unA, uns_length, push_cast, ↓J1, ↓J2, N1, N2, N3, reduceCtorEq, N4, N5, N6, reduceIte, N7, I1, I2, I3]
  repeat (refine ⟨by omega, ?_⟩)
  refine ⟨_, c1, ?_⟩
  simp only [tk, bools_length, frzLL_bools, push_cast, ↓J1, ↓J2, N1, N2, N3, reduceCtorEq, N4, N5, N6, reduceIte, N7, I1, I2, I3]
  refine ⟨_, c2, ?_⟩
  simp only [push_cast, ↓J1, ↓J2, N1, N2, N3, reduceCtorEq, N4, N5, N6, reduceIte, N7, I1, I2, I3]
  have tki : ∀ x : List Int, List.take x.length (ints x) = ints x := fun x => List.take_of_length_le (by rw [ints_length]; omega)
  exact RetTo_of (by simp only [conR, conRL, isF, hget, hdel, List.drop_zero, List.take_length, if_true, if_false, reduceIte, N5, reduceCtorEq, tk, tki, bools_length, ints_length]; rfl)
theorem t196 (b : Brd) (s : Sta) (k : Nat) (l : List Int) (g : staOk b s = true) (hk : k < s.us.length) (hl : SrcB b l) (hb : BrdB (2^50) b) : Ev C 196 [brdF b, .agg (staF s), .int .i64 (k : Int), .sl (ints l)] (.bool (supU b s (unOf s k) l)) := by
  have gb := sta_brd g
  have hlen := sta_len g
  have hu := sta_un g hk
  have e1 := uns_un (s := s) hk
  have hol := opn_length b s (unOf s k).sd (unOf s k).k
  have ht := brd_t gb
  have c1 := t248 hC b s k l g hk hl hb
  have c2 := fun x => tIn hC x 0 b.r.supply
  have hat := fun h => unOk_at hu h
  have e2 := fun (j : Nat) (h : j < b.m.t.length) => far_get (op := opn b s (unOf s k).sd (unOf s k).k) gb hol hl h
  have hfl := far_len (op := opn b s (unOf s k).sd (unOf s k).k) gb hol hl.h
  simp only [supU, farU] at c1 ⊢
  generalize unOf s k = u at *
  simp only [brdF, rulF, mpF, List.cons_append, List.nil_append, staF] at *
  refine rT hC Q196 ?_
  simp only [c196, push_cast, ↓J1, ↓J2, N1, N2, N3, reduceCtorEq, N4, N5, N6, reduceIte, N7, I1, I2, I3]
  simp only [Int.toNat_natCast, e1, unA, uns_length, push_cast, ↓J1, ↓J2, N1, N2, N3, reduceCtorEq, N4, N5, N6, reduceIte, N7, I1, I2, I3]
  repeat (refine ⟨by omega, ?_⟩)
  by_cases ha : u.at_ < 0
  · have g1 : decide (u.at_ < 0) = true := decide_eq_true ha
    have g2 : decide (0 ≤ u.at_) = false := decide_eq_false (by omega)
    simp only [g1, g2, Bool.false_and, push_cast, ↓J1, ↓J2, N1, N2, N3, reduceCtorEq, N4, N5, N6, reduceIte, N7, I1, I2, I3]
  have g1 : decide (u.at_ < 0) = false := decide_eq_false ha
  have g2 : decide (0 ≤ u.at_) = true := decide_eq_true (by omega)
  have hat := hat ha
  obtain ⟨a, ea⟩ : ∃ m : Nat, u.at_ = m := ⟨u.at_.toNat, by omega⟩
  have e2 := e2 a (by omega)
  simp only [g1, push_cast, ↓J1, ↓J2, N1, N2, N3, reduceCtorEq, N4, N5, N6, reduceIte, N7, I1, I2, I3]
  refine ⟨_, c1, ?_⟩
  simp only [ea, Int.toNat_natCast, e2, ints_length, hfl, push_cast, ↓J1, ↓J2, N1, N2, N3, reduceCtorEq, N4, N5, N6, reduceIte, N7, I1, I2, I3]
  repeat (refine ⟨by omega, ?_⟩)
  refine ⟨_, c2 _, ?_⟩
  rw [ea] at g2
  simp only [g2, Bool.true_and, push_cast, ↓J1, ↓J2, N1, N2, N3, reduceCtorEq, N4, N5, N6, reduceIte, N7, I1, I2, I3]
theorem t195 (b : Brd) (s : Sta) (k : Nat) (l : List Int) (g : staOk b s = true) (hk : k < s.us.length) (hb : BrdB (2^50) b) : Ev C 195 [brdF b, .agg (staF s), .int .i64 (k : Int), .bool (supU b s (unOf s k) l)] (.int .i64 (worthU b s l (unOf s k))) := by
  have gb := sta_brd g
  have hlen := sta_len g
  have hu := sta_un g hk
  have e1 := uns_un (s := s) hk
  have hka := sta_kind g hk
  have e2 := kins_at hka
  have hk2 := kind_at hka
  have b2 := hb.r.ks
  have hf := force_bnd gb hu
  have wf : IntKind.i64.wrap ((kindOf b (unOf s k).k).st * (unOf s k).st) = forceU b (unOf s k) := wrap64 (by simp only [forceU] at hf; omega) (by simp only [forceU] at hf; omega)
  have wg : IntKind.i64.wrap (3 * forceU b (unOf s k)) = 3 * forceU b (unOf s k) := wrap64 (by omega) (by omega)
  simp only [worthU]
  generalize supU b s (unOf s k) l = sp
  generalize unOf s k = u at *
  simp only [brdF, rulF, mpF, List.cons_append, List.nil_append, staF] at *
  refine rT hC Q195 ?_
  simp only [c195, push_cast, ↓J1, ↓J2, N1, N2, N3, reduceCtorEq, N4, N5, N6, reduceIte, N7, I1, I2, I3]
  simp only [Int.toNat_natCast, e1, unA, uns_length, push_cast, ↓J1, ↓J2, N1, N2, N3, reduceCtorEq, N4, N5, N6, reduceIte, N7, I1, I2, I3]
  repeat (refine ⟨by omega, ?_⟩)
  by_cases ha : u.at_ < 0
  · have g1 : decide (u.at_ < 0) = true := decide_eq_true ha
    simp only [g1, if_pos ha, push_cast, ↓J1, ↓J2, N1, N2, N3, reduceCtorEq, N4, N5, N6, reduceIte, N7, I1, I2, I3]
  have g1 : decide (u.at_ < 0) = false := decide_eq_false ha
  simp only [g1, if_neg ha, e2, kinA, kins_length, wf, push_cast, ↓J1, ↓J2, N1, N2, N3, reduceCtorEq, N4, N5, N6, reduceIte, N7, I1, I2, I3]
  repeat (refine ⟨by omega, ?_⟩)
  cases sp
  · simp only [Bool.false_eq_true, if_false, push_cast, ↓J1, ↓J2, N1, N2, N3, reduceCtorEq, N4, N5, N6, reduceIte, N7, I1, I2, I3]
  · simp only [if_true, wg, push_cast, ↓J1, ↓J2, N1, N2, N3, reduceCtorEq, N4, N5, N6, reduceIte, N7, I1, I2, I3]
theorem t132 (b : Brd) (s : Sta) (sd : Int) (l : List Int) (g : staOk b s = true) (hl : SrcB b l) (hb : BrdB (2^50) b) : Ev C 132 [brdF b, .agg (staF s), .int .i64 sd, .sl (ints l)] (.int .i64 (sideW b s sd l)) := by
  have hlen := sta_len g
  have c1 := t123 hC s sd (by omega)
  have c2 := fun k hk => t196 hC b s k l g hk hl hb
  have c3 := fun k hk => t195 hC b s k l g hk hb
  have hfi : ∀ k ∈ fil (onSide sd) s.us s.us.length, 0 ≤ k ∧ k < (s.us.length : Int) := fil_in
  have hfl := fil_le (p := onSide sd) (l := s.us) (Nat.le_refl _)
  simp only [sideW]
  simp only [brdF, rulF, mpF, List.cons_append, List.nil_append, staF] at *
  refine rT hC Q132 ?_
  simp only [c132, push_cast, ↓J1, ↓J2, N1, N2, N3, reduceCtorEq, N4, N5, N6, reduceIte, N7, I1, I2, I3]
  refine ⟨_, c1, ?_⟩
  generalize fil (onSide sd) s.us s.us.length = is at *
  simp only [ints_length, push_cast, ↓J1, ↓J2, N1, N2, N3, reduceCtorEq, N4, N5, N6, reduceIte, N7, I1, I2, I3]
  refine RL_count (fun i => ⟨tb 33 .any [(3, .sl (ints l)), (4, .ptr 0 none 0 0 0), (5, .ptr 1 none 0 0 0), (9, .int .i64 (sideT b s l (is.take i))), (14, .ref 2 none 1 0 is.length), (15, .int .i64 (is.length : Int)), (16, .int .i64 (i : Int))], [(2, .slice 1 (ints is)), (1, .var (staF s)), (0, .var (rulF b.r ++ mpF b.m))], 3⟩) (fun _ => True) is.length 0 (hdA [(2, 2), (1, 1), (0, 0)]) (by omega) trivial fun i hi _ J hJ => ?_
  simp only [rulF, mpF, List.cons_append, List.nil_append, staF]
  by_cases h1 : i < is.length
  · have hJ1 := hJ h1 trivial
    clear hJ
    have hlt : decide ((i : Int) < (is.length : Int)) = true := decide_eq_true (by omega)
    have e1 : (ints is)[i]? = some [.int .i64 (is.getD i 0)] := cut_ints_get h1
    have hx := hfi _ (getD_in h1)
    have bb := sideT_bnd (l := l) g (is.take i) fun k hk => hfi k (List.mem_of_mem_take hk)
    have htl : (is.take i).length ≤ 12 := by simp; omega
    have es : is.take (i + 1) = is.take i ++ [is.getD i 0] := by
      rw [List.take_succ_eq_append_getElem h1]; simp only [List.getD, List.getElem?_eq_getElem h1, Option.getD_some]
    rw [es, sideT_snoc] at hJ1
    generalize is.getD i 0 = k at *
    obtain ⟨k, rfl⟩ : ∃ m : Nat, k = m := ⟨k.toNat, by omega⟩
    have hk : k < s.us.length := by omega
    have wb := worth_bnd (s := s) (l := l) (sta_brd g) (sta_un g hk)
    have ws : IntKind.i64.wrap (sideT b s l (is.take i) + worthU b s l (unOf s k)) = sideT b s l (is.take i) + worthU b s l (unOf s k) := wrap64 (by omega) (by omega)
    simp only [hlt, Int.toNat_natCast, e1, ints_length, push_cast, ↓J1, ↓J2, N1, N2, N3, reduceCtorEq, N4, N5, N6, reduceIte, N7, I1, I2, I3]
    repeat (refine ⟨by omega, ?_⟩)
    refine ⟨_, c2 k hk, ?_⟩
    simp only [push_cast, ↓J1, ↓J2, N1, N2, N3, reduceCtorEq, N4, N5, N6, reduceIte, N7, I1, I2, I3]
    refine ⟨_, c3 k hk, ?_⟩
    simp only [ws, push_cast, ↓J1, ↓J2, N1, N2, N3, reduceCtorEq, N4, N5, N6, reduceIte, N7, I1, I2, I3]
    exact hJ1 _ (hdA [(2, 2), (1, 1), (0, 0)])
  · obtain rfl : i = is.length := by omega
    have hlt : decide ((is.length : Int) < (is.length : Int)) = false := decide_eq_false (by omega)
    simp only [hlt, List.take_length, push_cast, ↓J1, ↓J2, N1, N2, N3, reduceCtorEq, N4, N5, N6, reduceIte, N7, I1, I2, I3]
theorem t289 (b : Brd) (u : Un) (op : List Bool) (l : List Int) (g : brdOk b = true) (hu : unOk b u = true) (ho : op.length = b.m.t.length) (hl : SrcB b l) : Ev C 289 [brdF b, .agg (unA u), .sl (bools op), .sl (ints l)] (.int .i64 (if u.at_ < 0 then -1 else if b.r.supply < (far b.m op l).getD u.at_.toNat 0 then -1 else (far b.m op l).getD u.at_.toNat 0)) := by
  have ht := brd_t g
  have c1 := t311 hC b op l g ho hl.h hl.n
  have hat := fun h => unOk_at hu h
  have e2 := fun (j : Nat) (h : j < b.m.t.length) => far_get (op := op) g ho hl h
  have hfl := far_len (op := op) g ho hl.h
  simp only [brdF, rulF, mpF, List.cons_append, List.nil_append, unA] at *
  refine rT hC Q289 ?_
  simp only [c289, push_cast, ↓J1, ↓J2, N1, N2, N3, reduceCtorEq, N4, N5, N6, reduceIte, N7, I1, I2, I3]
  by_cases ha : u.at_ < 0
  · have g1 : decide (u.at_ < 0) = true := decide_eq_true ha
    simp only [g1, if_pos ha, push_cast, ↓J1, ↓J2, N1, N2, N3, reduceCtorEq, N4, N5, N6, reduceIte, N7, I1, I2, I3]
  have g1 : decide (u.at_ < 0) = false := decide_eq_false ha
  have hat := hat ha
  rw [if_neg ha]
  obtain ⟨a, ea⟩ : ∃ m : Nat, u.at_ = m := ⟨u.at_.toNat, by omega⟩
  have e2 := e2 a (by omega)
  simp only [g1, push_cast, ↓J1, ↓J2, N1, N2, N3, reduceCtorEq, N4, N5, N6, reduceIte, N7, I1, I2, I3]
  refine ⟨_, c1, ?_⟩
  simp only [ea, Int.toNat_natCast, e2, ints_length, hfl, push_cast, ↓J1, ↓J2, N1, N2, N3, reduceCtorEq, N4, N5, N6, reduceIte, N7, I1, I2, I3]
  repeat (refine ⟨by omega, ?_⟩)
  generalize (far b.m op l).getD a 0 = d
  by_cases hd : b.r.supply < d
  · have g3 : decide (b.r.supply < d) = true := decide_eq_true hd
    simp only [g3, if_pos hd, push_cast, ↓J1, ↓J2, N1, N2, N3, reduceCtorEq, N4, N5, N6, reduceIte, N7, I1, I2, I3]
  · have g3 : decide (b.r.supply < d) = false := decide_eq_false hd
    simp only [g3, if_neg hd, push_cast, ↓J1, ↓J2, N1, N2, N3, reduceCtorEq, N4, N5, N6, reduceIte, N7, I1, I2, I3]
theorem t246 (b : Brd) (s : Sta) (u : Un) (l : List Int) (g : staOk b s = true) (hu : unOk b u = true) (hl : SrcB b l) (hb : BrdB (2^50) b) : Ev C 246 [brdF b, .agg (staF s), .agg (unA u), .sl (ints l)] (.int .i64 (wayM b s u l)) := by
  have gb := sta_brd g
  have hsd := un_sd hu
  have hik : inR 0 (b.r.ks.length - 1) u.k = true := by simp only [unOk, Bool.and_eq_true] at hu; exact hu.1.1.2
  have hol := opn_length b s u.sd u.k
  have c1 := t290 hC b s u.sd u.k g hsd hik hb
  have c2 := t289 hC b u (opn b s u.sd u.k) l gb hu hol hl
  simp only [wayM, farU]
  simp only [brdF, rulF, mpF, List.cons_append, List.nil_append, staF, unA] at *
  refine rT hC Q246 ?_
  simp only [c246, push_cast, ↓J1, ↓J2, N1, N2, N3, reduceCtorEq, N4, N5, N6, reduceIte, N7, I1, I2, I3]
  refine ⟨_, c1, ?_⟩
  have tk : ∀ x : List Bool, List.take x.length (bools x) = bools x := fun x => List.take_of_length_le (by rw [bools_length]; omega)
  simp only [tk, bools_length, frzLL_bools, push_cast, ↓J1, ↓J2, N1, N2, N3, reduceCtorEq, N4, N5, N6, reduceIte, N7, I1, I2, I3]
  refine ⟨_, c2, ?_⟩
  simp only [push_cast, ↓J1, ↓J2, N1, N2, N3, reduceCtorEq, N4, N5, N6, reduceIte, N7, I1, I2, I3]
  all_goals rfl
theorem t260 (b : Brd) (u : Un) (g : brdOk b = true) (hu : unOk b u = true) (hb : BrdB (2^50) b) : Ev C 260 [brdF b, .agg (unA u)] (.int .i64 (forceU b u)) := by
  have hka := un_kind g (show inR 0 (b.r.ks.length - 1) u.k = true by simp only [unOk, Bool.and_eq_true] at hu; exact hu.1.1.2)
  have e2 := kins_at hka
  have hk2 := kind_at hka
  have b2 := hb.r.ks
  have hf := force_bnd g hu
  have wf : IntKind.i64.wrap ((kindOf b u.k).st * u.st) = forceU b u := wrap64 (by simp only [forceU] at hf; omega) (by simp only [forceU] at hf; omega)
  simp only [brdF, rulF, mpF, List.cons_append, List.nil_append, unA] at *
  refine rT hC Q260 ?_
  simp only [c260, push_cast, ↓J1, ↓J2, N1, N2, N3, reduceCtorEq, N4, N5, N6, reduceIte, N7, I1, I2, I3]
  simp only [e2, kinA, kins_length, wf, push_cast, ↓J1, ↓J2, N1, N2, N3, reduceCtorEq, N4, N5, N6, reduceIte, N7, I1, I2, I3]
  repeat (refine ⟨by omega, ?_⟩)
  all_goals first | done | omega | rfl
theorem t200 (b : Brd) (s : Sta) (u : Un) (l : List Int) (g : staOk b s = true) (hu : unOk b u = true) (hl : SrcB b l) (hb : BrdB (2^50) b) : Ev C 200 [brdF b, .agg (staF s), .agg (unA u), .sl (ints l)] (.int .i64 (worthU b s l u)) := by
  have gb := sta_brd g
  have hf := force_bnd gb hu
  have c1 := t260 hC b u gb hu hb
  have c2 := t246 hC b s u l g hu hl hb
  have wg : IntKind.i64.wrap (forceU b u * 3) = 3 * forceU b u := by rw [wrap64 (by omega) (by omega), Int.mul_comm]
  simp only [worthU, ← way_sup]
  simp only [brdF, rulF, mpF, List.cons_append, List.nil_append, staF, unA] at *
  refine rT hC Q200 ?_
  simp only [c200, push_cast, ↓J1, ↓J2, N1, N2, N3, reduceCtorEq, N4, N5, N6, reduceIte, N7, I1, I2, I3]
  by_cases ha : u.at_ < 0
  · have g1 : decide (u.at_ < 0) = true := decide_eq_true ha
    simp only [g1, if_pos ha, push_cast, ↓J1, ↓J2, N1, N2, N3, reduceCtorEq, N4, N5, N6, reduceIte, N7, I1, I2, I3]
  have g1 : decide (u.at_ < 0) = false := decide_eq_false ha
  simp only [g1, if_neg ha, push_cast, ↓J1, ↓J2, N1, N2, N3, reduceCtorEq, N4, N5, N6, reduceIte, N7, I1, I2, I3]
  refine ⟨_, c1, ?_⟩
  simp only [push_cast, ↓J1, ↓J2, N1, N2, N3, reduceCtorEq, N4, N5, N6, reduceIte, N7, I1, I2, I3]
  refine ⟨_, c2, ?_⟩
  cases g3 : decide (0 ≤ wayM b s u l)
  · have h3 := of_decide_eq_false g3
    simp only [g3, if_neg h3, push_cast, ↓J1, ↓J2, N1, N2, N3, reduceCtorEq, N4, N5, N6, reduceIte, N7, I1, I2, I3]
  · have h3 := of_decide_eq_true g3
    simp only [g3, wg, if_pos h3, push_cast, ↓J1, ↓J2, N1, N2, N3, reduceCtorEq, N4, N5, N6, reduceIte, N7, I1, I2, I3]
theorem t138 (b : Brd) (s : Sta) (sd : Int) (l : List Int) (g : staOk b s = true) (hl : SrcB b l) (hb : BrdB (2^50) b) : Ev C 138 [brdF b, .agg (staF s), .int .i64 sd, .sl (ints l)] (.int .i64 (sideW b s sd l)) := by
  have hlen := sta_len g
  have c1 := t126 hC s sd (by omega)
  have c2 := fun k (hk : k < s.us.length) => t200 hC b s (unOf s k) l g (sta_un g hk) hl hb
  have hfi : ∀ k ∈ fil (onSide sd) s.us s.us.length, 0 ≤ k ∧ k < (s.us.length : Int) := fil_in
  have hfl := fil_le (p := onSide sd) (l := s.us) (Nat.le_refl _)
  simp only [sideW]
  simp only [brdF, rulF, mpF, List.cons_append, List.nil_append, staF] at *
  refine rT hC Q138 ?_
  simp only [c138, push_cast, ↓J1, ↓J2, N1, N2, N3, reduceCtorEq, N4, N5, N6, reduceIte, N7, I1, I2, I3]
  refine ⟨_, c1, ?_⟩
  generalize fil (onSide sd) s.us s.us.length = is at *
  simp only [ints_length, push_cast, ↓J1, ↓J2, N1, N2, N3, reduceCtorEq, N4, N5, N6, reduceIte, N7, I1, I2, I3]
  refine RL_count (fun i => ⟨tb 33 .any [(3, .sl (ints l)), (4, .ptr 0 none 0 0 0), (5, .ptr 1 none 0 0 0), (9, .int .i64 (sideT b s l (is.take i))), (14, .ref 2 none 1 0 is.length), (15, .int .i64 (is.length : Int)), (16, .int .i64 (i : Int))], [(2, .slice 1 (ints is)), (1, .var (staF s)), (0, .var (rulF b.r ++ mpF b.m))], 3⟩) (fun _ => True) is.length 0 (hdA [(2, 2), (1, 1), (0, 0)]) (by omega) trivial fun i hi _ J hJ => ?_
  simp only [rulF, mpF, List.cons_append, List.nil_append, staF]
  by_cases h1 : i < is.length
  · have hJ1 := hJ h1 trivial
    clear hJ
    have hlt : decide ((i : Int) < (is.length : Int)) = true := decide_eq_true (by omega)
    have e1 : (ints is)[i]? = some [.int .i64 (is.getD i 0)] := cut_ints_get h1
    have hx := hfi _ (getD_in h1)
    have bb := sideT_bnd (l := l) g (is.take i) fun k hk => hfi k (List.mem_of_mem_take hk)
    have htl : (is.take i).length ≤ 12 := by simp; omega
    have es : is.take (i + 1) = is.take i ++ [is.getD i 0] := by
      rw [List.take_succ_eq_append_getElem h1]; simp only [List.getD, List.getElem?_eq_getElem h1, Option.getD_some]
    rw [es, sideT_snoc] at hJ1
    generalize is.getD i 0 = k at *
    obtain ⟨k, rfl⟩ : ∃ m : Nat, k = m := ⟨k.toNat, by omega⟩
    have hk : k < s.us.length := by omega
    have e3 := uns_un (s := s) hk
    have wb := worth_bnd (s := s) (l := l) (sta_brd g) (sta_un g hk)
    have ws : IntKind.i64.wrap (sideT b s l (is.take i) + worthU b s l (unOf s k)) = sideT b s l (is.take i) + worthU b s l (unOf s k) := wrap64 (by omega) (by omega)
    have c2 := c2 k hk
    simp only [unA] at c2 e3
    simp only [hlt, Int.toNat_natCast, e1, e3, ints_length, uns_length, push_cast, ↓J1, ↓J2, N1, N2, N3, reduceCtorEq, N4, N5, N6, reduceIte, N7, I1, I2, I3]
    repeat (refine ⟨by omega, ?_⟩)
    refine ⟨_, c2, ?_⟩
    simp only [ws, push_cast, ↓J1, ↓J2, N1, N2, N3, reduceCtorEq, N4, N5, N6, reduceIte, N7, I1, I2, I3]
    exact hJ1 _ (hdA [(2, 2), (1, 1), (0, 0)])
  · obtain rfl : i = is.length := by omega
    have hlt : decide ((is.length : Int) < (is.length : Int)) = false := decide_eq_false (by omega)
    simp only [hlt, List.take_length, push_cast, ↓J1, ↓J2, N1, N2, N3, reduceCtorEq, N4, N5, N6, reduceIte, N7, I1, I2, I3]
end
end Go.Proofs.YtjaccjeejeiphaaGreatDoor.X
set_option maxHeartbeats 4000000
set_option maxRecDepth 8000
set_option linter.unusedSimpArgs false
set_option linter.unusedVariables false
open Nat renaming reduceBEq → N1, reduceAdd → N2, reduceSub → N3, reduceMul → N4, reduceEqDiff → N5, reduceLeDiff → N6, reduceLT → N7
open Int renaming reduceLE → I1, reduceLT → I2, reduceToNat → I3
namespace Go.Proofs.YtjaccjeejeiphaaGreatDoor.X
open Go
attribute [local irreducible] Ev
theorem ctlT_succ (b : Brd) (s : Sta) (n : Nat) : ctlT b s (n + 1) = ctlT b s n ++ [ctl b s (n : Nat)] := by
  simp only [ctlT, List.range_succ, List.map_append, List.map_cons, List.map_nil]
theorem ctlT_len (b : Brd) (s : Sta) (n : Nat) : (ctlT b s n).length = n := by simp [ctlT]
theorem ctlT_get {b : Brd} {s : Sta} {n j : Nat} (h : j < n) : (ctlT b s n).getD j 0 = ctl b s (j : Nat) := by
  simp only [ctlT, List.getD, List.getElem?_map, List.getElem?_range h, Option.map_some, Option.getD_some]
def hold (b : Brd) (s : Sta) (i : Int) : Int := if ctl b s i = 0 ∨ ctl b s i = 1 then ctl b s i else -1
theorem hold_eq {b : Brd} {s : Sta} {i sd : Int} (h : sd = 0 ∨ sd = 1) : decide (hold b s i = sd) = decide (ctl b s i = sd) := by
  simp only [hold]
  split
  · rfl
  · rw [Bool.eq_iff_iff, decide_eq_true_eq, decide_eq_true_eq]; omega
theorem src_B {b : Brd} {l : List Int} (h : srcOk b l = true) : SrcB b l := ⟨(src_in h).2, by have := (src_in h).1; omega⟩
theorem killS_F {x : AV} (hx : isF x = true) : killS x = x := by
  cases x <;> simp [isF] at hx <;> simp [killS]
theorem killL_F : ∀ {xs : List AV}, allF xs = true → killL xs = xs
  | [], _ => by simp [killL]
  | x :: xs, hx => by
    simp only [allF, Bool.and_eq_true] at hx
    simp [killL, killS_F hx.1, killL_F hx.2]
section
variable {C : CT} (hC : Closed Tryz.prog G1 md0 C)
include hC
theorem t277 (b : Brd) (s : Sta) (i : Int) (g : staOk b s = true) (hi : inR 0 (b.m.w * b.m.h - 1) i = true) (hb : BrdB (2^50) b) : Ev C 277 [brdF b, .agg (staF s), .int .i64 i] (.int .i64 (ctl b s i)) := by
  have gb := sta_brd g
  have hun := sta_all g
  have hl := sta_len g
  have c1 := t144 hC s i (by omega)
  have c2 := t87 hC b s 0 i gb hun hi hb (by omega)
  have c3 := t87 hC b s 1 i gb hun hi hb (by omega)
  simp only [brdF, rulF, mpF, List.cons_append, List.nil_append, staF, ctl] at *
  refine rT hC Q277 ?_
  simp only [c277, push_cast, ↓J1, ↓J2, N1, N2, N3, reduceCtorEq, N4, N5, N6, reduceIte, N7, I1, I2, I3]
  refine ⟨_, c1, ?_⟩
  by_cases h1 : 0 ≤ owner s i
  · have g1 : decide (0 ≤ owner s i) = true := decide_eq_true h1
    simp only [g1, if_pos h1, push_cast, ↓J1, ↓J2, N1, N2, N3, reduceCtorEq, N4, N5, N6, reduceIte, N7, I1, I2, I3]
  have g1 : decide (0 ≤ owner s i) = false := decide_eq_false h1
  simp only [g1, if_neg h1, push_cast, ↓J1, ↓J2, N1, N2, N3, reduceCtorEq, N4, N5, N6, reduceIte, N7, I1, I2, I3]
  refine ⟨_, c2, ?_⟩
  simp only [push_cast, ↓J1, ↓J2, N1, N2, N3, reduceCtorEq, N4, N5, N6, reduceIte, N7, I1, I2, I3]
  refine ⟨_, c3, ?_⟩
  cases inZon b s 0 i
  · cases inZon b s 1 i
    · simp only [g1, Bool.false_eq_true, if_false, push_cast, ↓J1, ↓J2, N1, N2, N3, reduceCtorEq, N4, N5, N6, reduceIte, N7, I1, I2, I3]
    · simp only [g1, Bool.false_eq_true, if_false, if_true, push_cast, ↓J1, ↓J2, N1, N2, N3, reduceCtorEq, N4, N5, N6, reduceIte, N7, I1, I2, I3]
  · cases inZon b s 1 i
    · simp only [g1, Bool.false_eq_true, if_false, if_true, push_cast, ↓J1, ↓J2, N1, N2, N3, reduceCtorEq, N4, N5, N6, reduceIte, N7, I1, I2, I3]
    · simp only [g1, Bool.false_eq_true, if_false, if_true, push_cast, ↓J1, ↓J2, N1, N2, N3, reduceCtorEq, N4, N5, N6, reduceIte, N7, I1, I2, I3]
theorem t278 (b : Brd) (s : Sta) (i : Int) (g : staOk b s = true) (hi : inR 0 (b.m.w * b.m.h - 1) i = true) (hb : BrdB (2^50) b) : Ev C 278 [brdF b, .agg (staF s), .int .i64 i] (.int .i64 (ctl b s i)) := by
  have gb := sta_brd g
  have hun := sta_all g
  have hl := sta_len g
  have c1 := t192 hC s i (by omega)
  have c2 := t96 hC b s 0 i gb hun hi hb (by omega)
  have c3 := t96 hC b s 1 i gb hun hi hb (by omega)
  simp only [brdF, rulF, mpF, List.cons_append, List.nil_append, staF, ctl] at *
  refine rT hC Q278 ?_
  simp only [c278, push_cast, ↓J1, ↓J2, N1, N2, N3, reduceCtorEq, N4, N5, N6, reduceIte, N7, I1, I2, I3]
  refine ⟨_, c1, ?_⟩
  by_cases h1 : 0 ≤ owner s i
  · have g1 : decide (0 ≤ owner s i) = true := decide_eq_true h1
    simp only [g1, if_pos h1, push_cast, ↓J1, ↓J2, N1, N2, N3, reduceCtorEq, N4, N5, N6, reduceIte, N7, I1, I2, I3]
    refine ⟨_, c2, ?_⟩
    simp only [push_cast, ↓J1, ↓J2, N1, N2, N3, reduceCtorEq, N4, N5, N6, reduceIte, N7, I1, I2, I3]
    refine ⟨_, c3, ?_⟩
    simp only [g1, push_cast, ↓J1, ↓J2, N1, N2, N3, reduceCtorEq, N4, N5, N6, reduceIte, N7, I1, I2, I3]
  have g1 : decide (0 ≤ owner s i) = false := decide_eq_false h1
  simp only [g1, if_neg h1, push_cast, ↓J1, ↓J2, N1, N2, N3, reduceCtorEq, N4, N5, N6, reduceIte, N7, I1, I2, I3]
  refine ⟨_, c2, ?_⟩
  simp only [push_cast, ↓J1, ↓J2, N1, N2, N3, reduceCtorEq, N4, N5, N6, reduceIte, N7, I1, I2, I3]
  refine ⟨_, c3, ?_⟩
  cases inZon b s 0 i
  · cases inZon b s 1 i
    · simp only [g1, Bool.false_eq_true, if_false, push_cast, ↓J1, ↓J2, N1, N2, N3, reduceCtorEq, N4, N5, N6, reduceIte, N7, I1, I2, I3]
    · simp only [g1, Bool.false_eq_true, if_false, if_true, push_cast, ↓J1, ↓J2, N1, N2, N3, reduceCtorEq, N4, N5, N6, reduceIte, N7, I1, I2, I3]
  · cases inZon b s 1 i
    · simp only [g1, Bool.false_eq_true, if_false, if_true, push_cast, ↓J1, ↓J2, N1, N2, N3, reduceCtorEq, N4, N5, N6, reduceIte, N7, I1, I2, I3]
    · simp only [g1, Bool.false_eq_true, if_false, if_true, push_cast, ↓J1, ↓J2, N1, N2, N3, reduceCtorEq, N4, N5, N6, reduceIte, N7, I1, I2, I3]
theorem t229 (b : Brd) (s : Sta) (g : staOk b s = true) (hb : BrdB (2^50) b) : Ev C 229 [brdF b, .agg (staF s)] (.ow 1 (ints (ctlT b s b.m.t.length))) := by
  have gb := sta_brd g
  have hm := mp_wh (brd_mp gb)
  have ht := brd_t gb
  have hn := (show b.m.t.length ≤ 100 by have := wh_le hm.1 hm.2; omega)
  have hin : ∀ j, j < b.m.t.length → inR 0 (b.m.w * b.m.h - 1) (j : Nat) = true := fun j hj => by simp only [inR, Bool.and_eq_true, decide_eq_true_eq]; omega
  have c0 := t130 hC b.m hm.1 hm.2
  rw [← ht] at c0
  have c1 := fun j hj => t277 hC b s (j : Nat) g (hin j hj) hb
  simp only [brdF, rulF, mpF, List.cons_append, List.nil_append, staF] at *
  refine rT hC Q229 ?_ (own_ints _)
  simp only [c229, push_cast, ↓J1, ↓J2, N1, N2, N3, reduceCtorEq, N4, N5, N6, reduceIte, N7, I1, I2, I3]
  refine RL_count (fun i => ⟨tb 22 .any [(5, .ref 2 none 1 0 i), (2, .ptr 0 none 0 0 0), (3, .ptr 1 none 0 0 0), (6, .int .i64 (i : Int))], [(2, .slice 1 (ints (ctlT b s i))), (1, .var (staF s)), (0, .var (rulF b.r ++ mpF b.m))], 3⟩) (fun _ => True) b.m.t.length 0 (hdO 5 2 1 [(1, 1), (0, 0)]) (by omega) trivial fun i hi _ J hJ => ?_
  simp only [rulF, mpF, List.cons_append, List.nil_append, staF]
  by_cases h1 : i < b.m.t.length
  · have hJ1 := hJ h1 trivial
    clear hJ
    have hlt : decide ((i : Int) < (b.m.t.length : Int)) = true := decide_eq_true (by omega)
    have hol := ctlT_len b s i
    have tk : List.take i (ints (ctlT b s i)) = ints (ctlT b s i) := List.take_of_length_le (by rw [ints_length]; omega)
    rw [ctlT_succ] at hJ1
    simp only [push_cast, ↓J1, ↓J2, N1, N2, N3, reduceCtorEq, N4, N5, N6, reduceIte, N7, I1, I2, I3]
    refine ⟨_, c0, ?_⟩
    simp only [hlt, push_cast, ↓J1, ↓J2, N1, N2, N3, reduceCtorEq, N4, N5, N6, reduceIte, N7, I1, I2, I3]
    refine ⟨_, c1 i h1, ?_⟩
    simp only [tk, ints_length, hol, allScs, apYR_sc, push_cast, ↓J1, ↓J2, N1, N2, N3, reduceCtorEq, N4, N5, N6, reduceIte, N7, I1, I2, I3]
    repeat (refine ⟨by omega, ?_⟩)
    refine hJ1 _ (hdA [(4, 2), (1, 1), (0, 0)] (hh := ?_))
    simp only [canR, canB, renO, renL, ren, lkp, hget, N7, N5, Nat.not_lt_zero, if_false, if_true, reduceIte, List.append_nil, List.nil_append, ints_sn]
    all_goals rfl
  · obtain rfl : i = b.m.t.length := by omega
    have hlt : decide ((b.m.t.length : Int) < (b.m.t.length : Int)) = false := decide_eq_false (by omega)
    simp only [push_cast, ↓J1, ↓J2, N1, N2, N3, reduceCtorEq, N4, N5, N6, reduceIte, N7, I1, I2, I3]
    refine ⟨_, c0, ?_⟩
    simp only [hlt, push_cast, ↓J1, ↓J2, N1, N2, N3, reduceCtorEq, N4, N5, N6, reduceIte, N7, I1, I2, I3]
    exact RetTo_ow rfl (by rw [ints_length, ctlT_len])
theorem t182 (b : Brd) (s : Sta) (sd : Int) (g : staOk b s = true) (hb : BrdB (2^50) b) : Ev C 182 [brdF b, .agg (staF s), .int .i64 sd] (.int .i64 (grd b s sd)) := by
  have gb := sta_brd g
  have hm := mp_wh (brd_mp gb)
  have ht := brd_t gb
  have hn := (show b.m.t.length ≤ 100 by have := wh_le hm.1 hm.2; omega)
  have c1 := t229 hC b s g hb
  simp only [grd]
  simp only [brdF, rulF, mpF, List.cons_append, List.nil_append, staF] at *
  refine rT hC Q182 ?_
  simp only [c182, push_cast, ↓J1, ↓J2, N1, N2, N3, reduceCtorEq, N4, N5, N6, reduceIte, N7, I1, I2, I3]
  refine ⟨_, c1, ?_⟩
  have hol := ctlT_len b s b.m.t.length
  have hge := fun j (h : j < b.m.t.length) => ctlT_get (b := b) (s := s) h
  simp only [ints_length, hol, push_cast, ↓J1, ↓J2, N1, N2, N3, reduceCtorEq, N4, N5, N6, reduceIte, N7, I1, I2, I3]
  refine RL_count (fun i => ⟨tb 25 .any [(2, .int .i64 sd), (7, .int .i64 ((grdT b s sd i).length : Int)), (12, .ref 0 none 1 0 b.m.t.length), (13, .int .i64 (b.m.t.length : Int)), (14, .int .i64 (i : Int))], [(0, .slice 1 (ints (ctlT b s b.m.t.length)))], 1⟩) (fun _ => True) b.m.t.length 0 (hdA [(2, 0)]) (by omega) trivial fun i hi _ J hJ => ?_
  by_cases h1 : i < b.m.t.length
  · have hJ1 := hJ h1 trivial
    clear hJ
    have hlt : decide ((i : Int) < (b.m.t.length : Int)) = true := decide_eq_true (by omega)
    have e1 : (ints (ctlT b s b.m.t.length))[i]? = some [.int .i64 (ctl b s (i : Nat))] := by rw [cut_ints_get (by omega), hge i h1]
    have hle := grdT_le b s sd i
    rw [grdT_succ] at hJ1
    simp only [hlt, Int.toNat_natCast, e1, ints_length, hol, push_cast, ↓J1, ↓J2, N1, N2, N3, reduceCtorEq, N4, N5, N6, reduceIte, N7, I1, I2, I3]
    repeat (refine ⟨by omega, ?_⟩)
    cases g1 : decide (ctl b s (i : Nat) = sd)
    · simp only [g1, Bool.false_eq_true, if_false] at hJ1
      simp only [g1, push_cast, ↓J1, ↓J2, N1, N2, N3, reduceCtorEq, N4, N5, N6, reduceIte, N7, I1, I2, I3]
      exact hJ1 _ (hdA [(0, 0)])
    · simp only [g1, if_true, List.length_append, List.length_singleton] at hJ1
      have w1 : IntKind.i64.wrap (((grdT b s sd i).length : Int) + 1) = (((grdT b s sd i).length + 1 : Nat) : Int) := by rw [wrap64 (by omega) (by omega)]; rfl
      simp only [g1, w1, push_cast, ↓J1, ↓J2, N1, N2, N3, reduceCtorEq, N4, N5, N6, reduceIte, N7, I1, I2, I3]
      exact hJ1 _ (hdA [(0, 0)])
  · obtain rfl : i = b.m.t.length := by omega
    have hlt : decide ((b.m.t.length : Int) < (b.m.t.length : Int)) = false := decide_eq_false (by omega)
    simp only [hlt, push_cast, ↓J1, ↓J2, N1, N2, N3, reduceCtorEq, N4, N5, N6, reduceIte, N7, I1, I2, I3]
theorem t232 (b : Brd) (s : Sta) (i : Int) (g : staOk b s = true) (hi : inR 0 (b.m.w * b.m.h - 1) i = true) (hb : BrdB (2^50) b) : Ev C 232 [brdF b, .agg (staF s), .int .i64 i] (.int .i64 (hold b s i)) := by
  have c1 := t278 hC b s i g hi hb
  simp only [hold]
  simp only [brdF, rulF, mpF, List.cons_append, List.nil_append, staF] at *
  refine rT hC Q232 ?_
  simp only [c232, push_cast, ↓J1, ↓J2, N1, N2, N3, reduceCtorEq, N4, N5, N6, reduceIte, N7, I1, I2, I3]
  refine ⟨_, c1, ?_⟩
  generalize ctl b s i = c
  by_cases h1 : c = 0
  · have g1 : decide (c = 0) = true := decide_eq_true h1
    simp only [g1, if_pos (show c = 0 ∨ c = 1 from .inl h1), push_cast, ↓J1, ↓J2, N1, N2, N3, reduceCtorEq, N4, N5, N6, reduceIte, N7, I1, I2, I3]
  have g1 : decide (c = 0) = false := decide_eq_false h1
  by_cases h2 : c = 1
  · have g2 : decide (c = 1) = true := decide_eq_true h2
    simp only [g1, g2, if_pos (show c = 0 ∨ c = 1 from .inr h2), push_cast, ↓J1, ↓J2, N1, N2, N3, reduceCtorEq, N4, N5, N6, reduceIte, N7, I1, I2, I3]
  have g2 : decide (c = 1) = false := decide_eq_false h2
  simp only [g1, g2, if_neg (show ¬ (c = 0 ∨ c = 1) by omega), push_cast, ↓J1, ↓J2, N1, N2, N3, reduceCtorEq, N4, N5, N6, reduceIte, N7, I1, I2, I3]
theorem t230 (b : Brd) (f : FuncId) (caps : List AV) (p : Nat → Bool) (g : brdOk b = true) (hm : md0 f = false) (hc : allF caps = true)
    (hp : ∀ i, i < b.m.t.length → Ev C f (.int .i64 (i : Nat) :: caps) (.bool (p i))) : Ev C 230 [brdF b, .fn f caps] (.ow 1 (ints (((List.range b.m.t.length).filter p).map fun i : Nat => (i : Int)))) := by
  have ht := brd_t g
  have hn := (show b.m.t.length ≤ 100 by have := wh_le (mp_wh (brd_mp g)).1 (mp_wh (brd_mp g)).2; omega)
  have hlen : ∀ i, (((List.range i).filter p).map fun i : Nat => (i : Int)).length ≤ i := fun i => by
    rw [List.length_map]; exact Nat.le_trans (List.length_filter_le _ _) (by simp)
  have hsuc : ∀ i, (((List.range (i + 1)).filter p).map fun i : Nat => (i : Int)) = if p i then (((List.range i).filter p).map fun i : Nat => (i : Int)) ++ [(i : Int)] else (((List.range i).filter p).map fun i : Nat => (i : Int)) := fun i => by
    simp only [List.range_succ, List.filter_append]
    cases h : p i
    · simp [h]
    · simp [h]
  have hkc : killL caps = caps := killL_F hc
  have hr : ∀ ρ, renL 0 ρ caps = caps := fun ρ => renL_F hc
  have h0 : (((List.range 0).filter p).map fun i : Nat => (i : Int)) = [] := rfl
  generalize hF : (fun i : Nat => ((List.range i).filter p).map fun i : Nat => (i : Int)) = F
  have hFi : ∀ i, (((List.range i).filter p).map fun i : Nat => (i : Int)) = F i := fun i => by rw [← hF]
  simp only [hFi] at hlen hsuc h0 ⊢
  simp only [brdF, rulF, mpF, List.cons_append, List.nil_append] at *
  refine rT hC Q230 ?_ (own_ints _)
  simp only [c230, ints_length, push_cast, ↓J1, ↓J2, N1, N2, N3, reduceCtorEq, N4, N5, N6, reduceIte, N7, I1, I2, I3]
  refine RL_count (fun i => ⟨tb 24 .any [(1, .fn f caps), (5, .ref 0 none 1 0 (F i).length), (11, .int .i64 (b.m.t.length : Int)), (12, .int .i64 (i : Int))], [(0, .slice 1 (ints (F i)))], 1⟩) (fun _ => True) b.m.t.length 0 (by rw [h0]; exact (hdA [(1, 0)])) (by omega) trivial fun i hi _ J hJ => ?_
  by_cases h1 : i < b.m.t.length
  · have hJ1 := hJ h1 trivial
    clear hJ
    have hlt : decide ((i : Int) < (b.m.t.length : Int)) = true := decide_eq_true (by omega)
    have hle := hlen i
    have tk : List.take (F i).length (ints (F i)) = ints (F i) := List.take_of_length_le (by rw [ints_length]; omega)
    rw [hsuc] at hJ1
    simp only [hlt, hm, frzAL_F hc, frzOkL_F hc, push_cast, ↓J1, ↓J2, N1, N2, N3, reduceCtorEq, N4, N5, N6, reduceIte, N7, I1, I2, I3]
    refine ⟨_, hp i h1, ?_⟩
    cases g1 : p i
    · simp only [g1, Bool.false_eq_true, if_false] at hJ1
      simp only [push_cast, ↓J1, ↓J2, N1, N2, N3, reduceCtorEq, N4, N5, N6, reduceIte, N7, I1, I2, I3]
      exact hJ1 _ (hdA [(0, 0)])
    · simp only [g1, if_true, List.length_append, List.length_singleton] at hJ1
      simp only [tk, ints_length, allScs, apYR_sc, push_cast, ↓J1, ↓J2, N1, N2, N3, reduceCtorEq, N4, N5, N6, reduceIte, N7, I1, I2, I3]
      repeat (refine ⟨by omega, ?_⟩)
      refine hJ1 _ (hdA [(2, 0)] (hh := ?_))
      simp only [canR, canB, renO, renL, ren, lkp, hget, N7, N5, Nat.not_lt_zero, if_false, if_true, reduceIte, List.append_nil, List.nil_append, ints_sn]
      all_goals rfl
  · obtain rfl : i = b.m.t.length := by omega
    have hlt : decide ((b.m.t.length : Int) < (b.m.t.length : Int)) = false := decide_eq_false (by omega)
    simp only [hlt, push_cast, ↓J1, ↓J2, N1, N2, N3, reduceCtorEq, N4, N5, N6, reduceIte, N7, I1, I2, I3]
    exact RetTo_ow rfl (by rw [ints_length])
end
end Go.Proofs.YtjaccjeejeiphaaGreatDoor.X
set_option maxHeartbeats 4000000
set_option maxRecDepth 8000
set_option linter.unusedSimpArgs false
set_option linter.unusedVariables false
open Nat renaming reduceBEq → N1, reduceAdd → N2, reduceSub → N3, reduceMul → N4, reduceEqDiff → N5, reduceLeDiff → N6, reduceLT → N7
open Int renaming reduceLE → I1, reduceLT → I2, reduceToNat → I3
namespace Go.Proofs.YtjaccjeejeiphaaGreatDoor.X
open Go
attribute [local irreducible] Ev
theorem grd_hold {b : Brd} {s : Sta} {sd : Int} (h : sd = 0 ∨ sd = 1) : ((List.range b.m.t.length).filter fun i => decide (hold b s (i : Nat) = sd)).map (fun i : Nat => (i : Int)) = grdT b s sd b.m.t.length := by
  simp only [grdT]
  congr 1
  refine List.filter_congr fun i _ => ?_
  exact hold_eq h
theorem srcs_at {x : Se} {sd : Int} (h : seOk x = true) (hs : sd = 0 ∨ sd = 1) : (intss x.src)[sd.toNat]? = some [.sl (ints (x.src.getD sd.toNat []))] ∧ SrcB x.b (x.src.getD sd.toNat []) ∧ sd.toNat < x.src.length ∧ x.src.length = 2 := by
  have h1 := se_src h
  refine ⟨src_get (by omega), ?_, by omega, h1.1⟩
  rcases hs with e | e
  · subst e; exact src_B h1.2.1
  · subst e; exact src_B h1.2.2
theorem val_bnd {x : Se} {s : Sta} {sd : Int} (h : staOk x.b s = true) : -10000 ≤ valS x s sd ∧ valS x s sd ≤ 10000 := by
  have h1 := sideW_bnd (sd := sd) (l := x.src.getD sd.toNat []) h
  have h2 := sideW_bnd (sd := 1 - sd) (l := x.src.getD (1 - sd).toNat []) h
  have h3 := grd_bnd (s := s) (sd := sd) (sta_brd h)
  have h4 := grd_bnd (s := s) (sd := 1 - sd) (sta_brd h)
  simp only [valS]
  omega
def cmpOk (x : Se) (s t : Sta) (sd : Int) : Bool := gaOk x s && staOk x.b t && inR 0 1 sd
def sgnI (n : Int) : Int := if 0 < n then 1 else if n < 0 then -1 else 0
def cmpRes (x : Se) (s t : Sta) (sd : Int) : Int := if cmpOk x s t sd then sgnI (valS x s sd - valS x t sd) else 0
section
variable {C : CT} (hC : Closed Tryz.prog G1 md0 C)
include hC
theorem t231 (b : Brd) (s : Sta) (sd : Int) (i : Nat) (g : staOk b s = true) (hi : i < b.m.t.length) (hb : BrdB (2^50) b) : Ev C 231 [.int .i64 (i : Nat), .pf (rulF b.r ++ mpF b.m), .pf (staF s), .pf [.int .i64 sd]] (.bool (decide (hold b s (i : Nat) = sd))) := by
  have ht := brd_t (sta_brd g)
  have c1 := t232 hC b s (i : Nat) g (by simp only [inR, Bool.and_eq_true, decide_eq_true_eq]; omega) hb
  simp only [brdF, rulF, mpF, List.cons_append, List.nil_append, staF] at *
  refine rT hC Q231 ?_
  simp only [c231, push_cast, ↓J1, ↓J2, N1, N2, N3, reduceCtorEq, N4, N5, N6, reduceIte, N7, I1, I2, I3]
  refine ⟨_, c1, ?_⟩
  simp only [push_cast, ↓J1, ↓J2, N1, N2, N3, reduceCtorEq, N4, N5, N6, reduceIte, N7, I1, I2, I3]
theorem t183 (b : Brd) (s : Sta) (sd : Int) (g : staOk b s = true) (hs : sd = 0 ∨ sd = 1) (hb : BrdB (2^50) b) : Ev C 183 [brdF b, .agg (staF s), .int .i64 sd] (.int .i64 (grd b s sd)) := by
  have c1 := t230 hC b 231 [.pf (rulF b.r ++ mpF b.m), .pf (staF s), .pf [.int .i64 sd]] (fun i => decide (hold b s (i : Nat) = sd)) (sta_brd g) rfl rfl fun i hi => t231 hC b s sd i g hi hb
  rw [grd_hold hs] at c1
  simp only [grd]
  simp only [brdF, rulF, mpF, List.cons_append, List.nil_append, staF] at *
  refine rT hC Q183 ?_
  simp only [c183, push_cast, ↓J1, ↓J2, N1, N2, N3, reduceCtorEq, N4, N5, N6, reduceIte, N7, I1, I2, I3]
  refine ⟨_, c1, ?_⟩
  simp only [ints_length, push_cast, ↓J1, ↓J2, N1, N2, N3, reduceCtorEq, N4, N5, N6, reduceIte, N7, I1, I2, I3]
theorem t116 (x : Se) (s : Sta) (sd : Int) (gx : seOk x = true) (g : staOk x.b s = true) (hs : sd = 0 ∨ sd = 1) (hb : SeB (2^50) x) : Ev C 116 [seF x, .agg (staF s), .int .i64 sd] (.int .i64 (valS x s sd)) := by
  have hs1 : 1 - sd = 0 ∨ 1 - sd = 1 := by omega
  obtain ⟨e0, s0, l0, ll⟩ := srcs_at gx hs
  obtain ⟨e1, s1, l1, _⟩ := srcs_at gx hs1
  have c1 := t132 hC x.b s sd (x.src.getD sd.toNat []) g s0 hb.b
  have c2 := t132 hC x.b s (1 - sd) (x.src.getD (1 - sd).toNat []) g s1 hb.b
  have c3 := t182 hC x.b s sd g hb.b
  have c4 := t182 hC x.b s (1 - sd) g hb.b
  have b1 := sideW_bnd (sd := sd) (l := x.src.getD sd.toNat []) g
  have b2 := sideW_bnd (sd := 1 - sd) (l := x.src.getD (1 - sd).toNat []) g
  have b3 := grd_bnd (s := s) (sd := sd) (sta_brd g)
  have b4 := grd_bnd (s := s) (sd := 1 - sd) (sta_brd g)
  have w0 : IntKind.i64.wrap (1 - sd) = 1 - sd := wrap64 (by omega) (by omega)
  simp only [valS]
  generalize x.src.getD sd.toNat [] = p0 at *
  generalize x.src.getD (1 - sd).toNat [] = p1 at *
  generalize sideW x.b s sd p0 = v1 at *
  generalize sideW x.b s (1 - sd) p1 = v2 at *
  generalize grd x.b s sd = v3 at *
  generalize grd x.b s (1 - sd) = v4 at *
  have w1 : IntKind.i64.wrap (v1 - v2) = v1 - v2 := wrap64 (by omega) (by omega)
  have w2 : IntKind.i64.wrap (2 * (v1 - v2)) = 2 * (v1 - v2) := wrap64 (by omega) (by omega)
  have w3 : IntKind.i64.wrap (2 * (v1 - v2) + v3) = 2 * (v1 - v2) + v3 := wrap64 (by omega) (by omega)
  have w4 : IntKind.i64.wrap (2 * (v1 - v2) + v3 - v4) = 2 * (v1 - v2) + v3 - v4 := wrap64 (by omega) (by omega)
  have il : (intss x.src).length = x.src.length := by simp [intss]
  simp only [seF, brdF, rulF, mpF, ctF, clA, List.cons_append, List.nil_append, staF] at *
  refine rT hC Q116 ?_
  simp only [c116, push_cast, ↓J1, ↓J2, N1, N2, N3, reduceCtorEq, N4, N5, N6, reduceIte, N7, I1, I2, I3]
  simp only [w0, e0, e1, il, push_cast, ↓J1, ↓J2, N1, N2, N3, reduceCtorEq, N4, N5, N6, reduceIte, N7, I1, I2, I3]
  repeat (refine ⟨by omega, ?_⟩)
  repeat' (first
    | simp only [w0, w1, w2, w3, w4, e0, e1, il, push_cast, ↓J1, ↓J2, N1, N2, N3, reduceCtorEq, N4, N5, N6, reduceIte, N7, I1, I2, I3]
    | refine ⟨_, c1, ?_⟩
    | refine ⟨_, c2, ?_⟩
    | refine ⟨_, c3, ?_⟩
    | refine ⟨_, c4, ?_⟩
    | refine ifB_intro (fun h => ?_) (fun h => ?_)
    | refine And.intro ?_ ?_)
  all_goals first
    | omega
    | rfl
theorem t118 (x : Se) (s : Sta) (sd : Int) (gx : seOk x = true) (g : staOk x.b s = true) (hs : sd = 0 ∨ sd = 1) (hb : SeB (2^50) x) : Ev C 118 [seF x, .agg (staF s), .int .i64 sd] (.int .i64 (valS x s sd)) := by
  have hs1 : 1 - sd = 0 ∨ 1 - sd = 1 := by omega
  obtain ⟨e0, s0, l0, ll⟩ := srcs_at gx hs
  obtain ⟨e1, s1, l1, _⟩ := srcs_at gx hs1
  have c1 := t138 hC x.b s sd (x.src.getD sd.toNat []) g s0 hb.b
  have c2 := t138 hC x.b s (1 - sd) (x.src.getD (1 - sd).toNat []) g s1 hb.b
  have c3 := t183 hC x.b s sd g hs hb.b
  have c4 := t183 hC x.b s (1 - sd) g hs1 hb.b
  have b1 := sideW_bnd (sd := sd) (l := x.src.getD sd.toNat []) g
  have b2 := sideW_bnd (sd := 1 - sd) (l := x.src.getD (1 - sd).toNat []) g
  have b3 := grd_bnd (s := s) (sd := sd) (sta_brd g)
  have b4 := grd_bnd (s := s) (sd := 1 - sd) (sta_brd g)
  have w0 : IntKind.i64.wrap (1 - sd) = 1 - sd := wrap64 (by omega) (by omega)
  simp only [valS]
  generalize x.src.getD sd.toNat [] = p0 at *
  generalize x.src.getD (1 - sd).toNat [] = p1 at *
  generalize sideW x.b s sd p0 = v1 at *
  generalize sideW x.b s (1 - sd) p1 = v2 at *
  generalize grd x.b s sd = v3 at *
  generalize grd x.b s (1 - sd) = v4 at *
  have w1 : IntKind.i64.wrap (v1 - v2) = v1 - v2 := wrap64 (by omega) (by omega)
  have w2 : IntKind.i64.wrap (2 * (v1 - v2)) = 2 * (v1 - v2) := wrap64 (by omega) (by omega)
  have w3 : IntKind.i64.wrap (2 * (v1 - v2) + v3) = 2 * (v1 - v2) + v3 := wrap64 (by omega) (by omega)
  have w4 : IntKind.i64.wrap (2 * (v1 - v2) + v3 - v4) = 2 * (v1 - v2) + v3 - v4 := wrap64 (by omega) (by omega)
  have il : (intss x.src).length = x.src.length := by simp [intss]
  simp only [seF, brdF, rulF, mpF, ctF, clA, List.cons_append, List.nil_append, staF] at *
  refine rT hC Q118 ?_
  simp only [c118, push_cast, ↓J1, ↓J2, N1, N2, N3, reduceCtorEq, N4, N5, N6, reduceIte, N7, I1, I2, I3]
  simp only [w0, e0, e1, il, push_cast, ↓J1, ↓J2, N1, N2, N3, reduceCtorEq, N4, N5, N6, reduceIte, N7, I1, I2, I3]
  repeat (refine ⟨by omega, ?_⟩)
  repeat' (first
    | simp only [w0, w1, w2, w3, w4, e0, e1, il, push_cast, ↓J1, ↓J2, N1, N2, N3, reduceCtorEq, N4, N5, N6, reduceIte, N7, I1, I2, I3]
    | refine ⟨_, c1, ?_⟩
    | refine ⟨_, c2, ?_⟩
    | refine ⟨_, c3, ?_⟩
    | refine ⟨_, c4, ?_⟩
    | refine ifB_intro (fun h => ?_) (fun h => ?_)
    | refine And.intro ?_ ?_)
  all_goals first
    | omega
    | rfl
theorem t47 (x : Se) (s : Sta) (sd : Int) (hb : SeB (2^50) x) (hl : s.us.length < 2^40) : Ev C 47 [seF x, .agg (staF s), .int .i64 sd] (.tup [.int .i64 (vaRes x s sd), .bool (vaOk x s sd)]) := by
  have c1 := t76 hC x s 0 hb hl
  rw [show (gaOk x s && inR 0 4611686016279904236 0) = gaOk x s by rw [show inR 0 4611686016279904236 0 = true by rfl, Bool.and_true]] at c1
  have c2 : Ev C 105 [.int .i64 sd, .int .i64 0, .int .i64 1] (.bool (inR 0 1 sd)) := tIn hC sd 0 1
  have c3 := fun g1 g2 h => t116 hC x s sd g1 g2 h hb
  simp only [seF, brdF, rulF, mpF, ctF, clA, List.cons_append, List.nil_append, staF] at *
  refine rT hC Q47 ?_ (by simp only [ownR, ownRL, Bool.and_true])
  simp only [c47, push_cast, ↓J1, ↓J2, N1, N2, N3, reduceCtorEq, N4, N5, N6, reduceIte, N7, I1, I2, I3]
  refine ⟨_, c1, ?_⟩
  cases g1 : gaOk x s
  · simp only [vaRes, vaOk, g1, Bool.false_and, Bool.false_eq_true, if_false, push_cast, ↓J1, ↓J2, N1, N2, N3, reduceCtorEq, N4, N5, N6, reduceIte, N7, I1, I2, I3]
    first | done | exact rtA
  simp only [push_cast, ↓J1, ↓J2, N1, N2, N3, reduceCtorEq, N4, N5, N6, reduceIte, N7, I1, I2, I3]
  refine ⟨_, c2, ?_⟩
  cases g2 : inR 0 1 sd
  · simp only [vaRes, vaOk, g1, g2, Bool.and_false, Bool.false_eq_true, if_false, push_cast, ↓J1, ↓J2, N1, N2, N3, reduceCtorEq, N4, N5, N6, reduceIte, N7, I1, I2, I3]
    first | done | exact rtA
  have hs : sd = 0 ∨ sd = 1 := by simp only [inR, Bool.and_eq_true, decide_eq_true_eq] at g2; omega
  have gg := g1
  simp only [gaOk, Bool.and_eq_true] at gg
  simp only [vaRes, vaOk, g1, g2, Bool.and_self, if_true, push_cast, ↓J1, ↓J2, N1, N2, N3, reduceCtorEq, N4, N5, N6, reduceIte, N7, I1, I2, I3]
  refine ⟨_, c3 gg.1 gg.2 hs, ?_⟩
  simp only [push_cast, ↓J1, ↓J2, N1, N2, N3, reduceCtorEq, N4, N5, N6, reduceIte, N7, I1, I2, I3]
  first | done | exact rtA
theorem t48 (x : Se) (s : Sta) (sd : Int) (hb : SeB (2^50) x) (hl : s.us.length < 2^40) : Ev C 48 [seF x, .agg (staF s), .int .i64 sd] (.tup [.int .i64 (vaRes x s sd), .bool (vaOk x s sd)]) := by
  have c1 := t81 hC x s hb hl

  have c2 : Ev C 117 [.int .i64 sd] (.bool (inR 0 1 sd)) := t117 hC sd
  have c3 := fun g1 g2 h => t118 hC x s sd g1 g2 h hb
  simp only [seF, brdF, rulF, mpF, ctF, clA, List.cons_append, List.nil_append, staF] at *
  refine rT hC Q48 ?_ (by simp only [ownR, ownRL, Bool.and_true])
  simp only [c48, push_cast, ↓J1, ↓J2, N1, N2, N3, reduceCtorEq, N4, N5, N6, reduceIte, N7, I1, I2, I3]
  refine ⟨_, c1, ?_⟩
  cases g1 : gaOk x s
  · simp only [vaRes, vaOk, g1, Bool.false_and, Bool.false_eq_true, if_false, push_cast, ↓J1, ↓J2, N1, N2, N3, reduceCtorEq, N4, N5, N6, reduceIte, N7, I1, I2, I3]
    first | done | exact rtA
  simp only [push_cast, ↓J1, ↓J2, N1, N2, N3, reduceCtorEq, N4, N5, N6, reduceIte, N7, I1, I2, I3]
  refine ⟨_, c2, ?_⟩
  cases g2 : inR 0 1 sd
  · simp only [vaRes, vaOk, g1, g2, Bool.and_false, Bool.false_eq_true, if_false, push_cast, ↓J1, ↓J2, N1, N2, N3, reduceCtorEq, N4, N5, N6, reduceIte, N7, I1, I2, I3]
    first | done | exact rtA
  have hs : sd = 0 ∨ sd = 1 := by simp only [inR, Bool.and_eq_true, decide_eq_true_eq] at g2; omega
  have gg := g1
  simp only [gaOk, Bool.and_eq_true] at gg
  simp only [vaRes, vaOk, g1, g2, Bool.and_self, if_true, push_cast, ↓J1, ↓J2, N1, N2, N3, reduceCtorEq, N4, N5, N6, reduceIte, N7, I1, I2, I3]
  refine ⟨_, c3 gg.1 gg.2 hs, ?_⟩
  simp only [push_cast, ↓J1, ↓J2, N1, N2, N3, reduceCtorEq, N4, N5, N6, reduceIte, N7, I1, I2, I3]
  first | done | exact rtA
end
end Go.Proofs.YtjaccjeejeiphaaGreatDoor.X
set_option maxHeartbeats 1000000
set_option maxRecDepth 8000
set_option linter.unusedSimpArgs false
set_option linter.unusedVariables false
open Nat renaming reduceBEq → N1, reduceAdd → N2, reduceSub → N3, reduceMul → N4, reduceEqDiff → N5, reduceLeDiff → N6, reduceLT → N7
open Int renaming reduceLE → I1, reduceLT → I2, reduceToNat → I3
namespace Go.Proofs.YtjaccjeejeiphaaGreatDoor.X
open Go
theorem inc_len : ∀ {l : List Int} {lo hi : Int}, l.Pairwise (· < ·) → (∀ x ∈ l, lo ≤ x ∧ x < hi) → lo ≤ hi → (l.length : Int) ≤ hi - lo
  | [], lo, hi, _, _, h => by simp; omega
  | x :: l, lo, hi, hp, hx, h => by
    have hp' := List.pairwise_cons.1 hp
    have h0 := hx x (by simp)
    have := inc_len (l := l) (lo := x + 1) (hi := hi) hp'.2 (fun y hy => by have h1 := hp'.1 y hy; have h2 := hx y (by simp [hy]); omega) (by omega)
    simp only [List.length_cons]
    omega
theorem src_inc {b : Brd} {l : List Int} (h : srcOk b l = true) : l.Pairwise (· < ·) := by
  simp only [srcOk, Bool.and_eq_true, upto_iff, risP, Bool.or_eq_true, decide_eq_true_eq] at h
  have key : ∀ j, j < l.length → ∀ i, i < j → l.getD i 0 < l.getD j 0 := by
    intro j
    induction j with
    | zero => intro _ i hi; omega
    | succ j ih =>
      intro hj i hi
      have h1 := (h.2 (j + 1) hj).2
      rw [Nat.add_sub_cancel] at h1
      have h2 : l.getD j 0 < l.getD (j + 1) 0 := by
        rcases h1 with h1 | h1
        · omega
        · exact h1
      by_cases e : i = j
      · subst e; exact h2
      · have := ih (by omega) i (by omega); omega
  refine List.pairwise_iff_getElem.2 fun i j hi hj hij => ?_
  have := key j hj i hij
  simpa only [List.getD, List.getElem?_eq_getElem hi, List.getElem?_eq_getElem hj, Option.getD_some] using this
theorem putI_in {n : Int} {l : List Int} {P : Int → Prop} (hn : P n) (hl : ∀ x ∈ l, P x) : ∀ x ∈ putI n l, P x := by
  intro x hx
  rcases (putI_mem n x l).1 hx with e | e
  · rw [e]; exact hn
  · exact hl x e
theorem putI_len1 {n : Int} : ∀ {l : List Int}, hasI l n = false → (putI n l).length = l.length + 1
  | [], _ => rfl
  | x :: l, h => by
    simp only [hasI, List.any_cons, Bool.or_eq_false_iff, decide_eq_false_iff_not] at h
    simp only [putI]
    split
    · simp only [List.length_cons, putI_len1 (l := l) h.2]
    · rw [if_neg h.1]; simp
theorem src_full {b : Brd} {l : List Int} (g : brdOk b = true) (h : srcOk b l = true) : (∀ i, i < b.m.t.length → hasI l (i : Nat) = true) ↔ l.length = b.m.t.length := by
  have ht := brd_t g
  have hm := mp_wh (brd_mp g)
  have hwh := wh_le hm.1 hm.2
  have hi := src_inc h
  have hr := (src_in h).2
  have h1 := inc_len hi (lo := 0) (hi := b.m.w * b.m.h) hr (by omega)
  constructor
  · intro ha
    have e : l = (List.range b.m.t.length).map fun i : Nat => (i : Int) := by
      refine inc_eq hi (List.pairwise_map.2 (List.pairwise_lt_range.imp fun h => by omega)) fun x => ?_
      constructor
      · intro hx
        have := hr x hx
        exact List.mem_map.2 ⟨x.toNat, List.mem_range.2 (by omega), by omega⟩
      · intro hx
        obtain ⟨i, hi, rfl⟩ := List.mem_map.1 hx
        exact hasI_mem.1 (ha i (List.mem_range.1 hi))
    rw [e]; simp
  · intro hl i hin
    cases hc : hasI l (i : Nat) with
    | true => rfl
    | false =>
      exfalso
      have h2 := inc_len (putI_inc (i : Nat) l hi) (lo := 0) (hi := b.m.w * b.m.h) (putI_in (P := fun x => 0 ≤ x ∧ x < b.m.w * b.m.h) ⟨by omega, by omega⟩ hr) (by omega)
      rw [putI_len1 hc] at h2
      omega
def bsW (x : Se) (s : Sta) (sd : Int) (i : Nat) : Int := sideW x.b s sd (putI (i : Nat) (x.src.getD sd.toNat []))
def bsS1 (x : Se) (s : Sta) (sd : Int) (p : Int × Int) (i : Nat) : Int × Int := if hasI (x.src.getD sd.toNat []) (i : Nat) then p else if decide (p.1 < 0) || decide (p.2 < bsW x s sd i) then ((i : Int), bsW x s sd i) else p
def bsJ1 (x : Se) (s : Sta) (sd : Int) (p : Int × Int) (i : Nat) : Int × Int := if hasI (x.src.getD sd.toNat []) (i : Nat) then p else if decide (p.2 < bsW x s sd i) then ((i : Int), bsW x s sd i) else p
def bsS (x : Se) (s : Sta) (sd : Int) (n : Nat) : Int × Int := (List.range n).foldl (bsS1 x s sd) (-1, 0)
def bsJ (x : Se) (s : Sta) (sd : Int) (n : Nat) : Int × Int := (List.range n).foldl (bsJ1 x s sd) (0, -1)
theorem bsS_succ (x : Se) (s : Sta) (sd : Int) (n : Nat) : bsS x s sd (n + 1) = bsS1 x s sd (bsS x s sd n) n := by simp [bsS, List.range_succ, List.foldl_append]
theorem bsJ_succ (x : Se) (s : Sta) (sd : Int) (n : Nat) : bsJ x s sd (n + 1) = bsJ1 x s sd (bsJ x s sd n) n := by simp [bsJ, List.range_succ, List.foldl_append]
theorem bs_rel {x : Se} {s : Sta} {sd : Int} (h : staOk x.b s = true) (n : Nat) : (bsS x s sd n = (-1, 0) ∧ bsJ x s sd n = (0, -1) ∧ ∀ i, i < n → hasI (x.src.getD sd.toNat []) (i : Nat) = true) ∨ (0 ≤ (bsS x s sd n).1 ∧ bsJ x s sd n = bsS x s sd n ∧ ∃ i, i < n ∧ hasI (x.src.getD sd.toNat []) (i : Nat) = false) := by
  induction n with
  | zero => exact .inl ⟨rfl, rfl, fun i hi => by omega⟩
  | succ n ih =>
    rw [bsS_succ, bsJ_succ]
    have hw := sideW_bnd (sd := sd) (l := putI (n : Nat) (x.src.getD sd.toNat [])) h
    cases g : hasI (x.src.getD sd.toNat []) (n : Nat)
    · have hS : bsS1 x s sd (bsS x s sd n) n = if decide ((bsS x s sd n).1 < 0) || decide ((bsS x s sd n).2 < bsW x s sd n) then ((n : Int), bsW x s sd n) else bsS x s sd n := by simp only [bsS1, g, Bool.false_eq_true, if_false]
      have hJ : bsJ1 x s sd (bsJ x s sd n) n = if decide ((bsJ x s sd n).2 < bsW x s sd n) then ((n : Int), bsW x s sd n) else bsJ x s sd n := by simp only [bsJ1, g, Bool.false_eq_true, if_false]
      rw [hS, hJ]
      refine .inr ?_
      rcases ih with ⟨e1, e2, _⟩ | ⟨h0, e, _⟩
      · rw [e1, e2]
        have g1 : decide ((-1 : Int) < 0) = true := rfl
        have g2 : decide (-1 < bsW x s sd n) = true := decide_eq_true (by simp only [bsW]; omega)
        simp only [g1, g2, Bool.true_or, if_true]
        exact ⟨by omega, trivial, n, by omega, g⟩
      · rw [e]
        have g1 : decide ((bsS x s sd n).1 < 0) = false := decide_eq_false (by omega)
        simp only [g1, Bool.false_or]
        refine ⟨?_, trivial, n, by omega, g⟩
        split
        · simp
        · exact h0
    · have hS : bsS1 x s sd (bsS x s sd n) n = bsS x s sd n := by simp only [bsS1, g, if_true]
      have hJ : bsJ1 x s sd (bsJ x s sd n) n = bsJ x s sd n := by simp only [bsJ1, g, if_true]
      rw [hS, hJ]
      rcases ih with ⟨e1, e2, e3⟩ | ⟨h0, e, i, hi, hh⟩
      · refine .inl ⟨e1, e2, fun i hi => ?_⟩
        by_cases e : i = n
        · subst e; exact g
        · exact e3 i (by omega)
      · exact .inr ⟨h0, e, i, by omega, hh⟩
def bsOk (x : Se) (s : Sta) (sd : Int) : Bool := vaOk x s sd && !decide ((x.src.getD sd.toNat []).length = 6) && !decide ((x.src.getD sd.toNat []).length = x.b.m.t.length)
def bsR1 (x : Se) (s : Sta) (sd : Int) : Int := if bsOk x s sd then (bsJ x s sd x.b.m.t.length).1 else 0
def bsR2 (x : Se) (s : Sta) (sd : Int) : Int := if bsOk x s sd then (bsJ x s sd x.b.m.t.length).2 else 0
end Go.Proofs.YtjaccjeejeiphaaGreatDoor.X
