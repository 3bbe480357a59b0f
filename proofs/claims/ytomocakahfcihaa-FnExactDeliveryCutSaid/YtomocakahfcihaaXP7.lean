/- A part of the proof: lemmas on the machine or on the functions that the law reaches. No condition of its own. -/
import Derived.Test.YtomocakahfcihaaXP6
import Derived.Test.YtomocakahfcihaaXP3
set_option maxHeartbeats 2000000
set_option maxRecDepth 8000
set_option linter.unusedSimpArgs false
set_option linter.unusedVariables false
open Nat renaming reduceBEq → N1, reduceAdd → N2, reduceSub → N3, reduceMul → N4, reduceEqDiff → N5, reduceLeDiff → N6, reduceLT → N7
open Int renaming reduceLE → I1, reduceLT → I2, reduceToNat → I3
namespace Go.Proofs.Ytomocakahfcihaa.X
open Go
attribute [local irreducible] Ev szSS szRows
theorem szRows_lens : ∀ (W : List (List Int)) (v : Int), 0 ≤ v → 0 ≤ szRows W v → (lens W : Int) ≤ v
  | [], v, h0, _ => by simp [lens]; exact h0
  | s :: W, v, h0, h => by
    rw [szRows] at h
    split at h
    · omega
    · rename_i hs
      have := szRows_lens W (v - s.length) (by omega) h
      have e : lens (s :: W) = s.length + lens W := by simp [lens]
      rw [e]; omega
theorem szSS_lens {W : List (List Int)} {v : Int} (h0 : 0 ≤ v) (h : 0 ≤ szSS W v) : (lens W : Int) ≤ v := by
  rw [szSS] at h
  split at h
  · omega
  · have := szRows_lens W (v - W.length) (by omega) h
    omega
def run (k : Int) (n : Nat) : List Int := (List.range n).map (fun j : Nat => k + (j : Int))
theorem run_length {k : Int} {n : Nat} : (run k n).length = n := by simp [run]
theorem run_get {k : Int} {n i : Nat} (h : i < n) : (run k n).getD i 0 = k + i := by simp [run, List.getD, h]
theorem mk_run {l : List Int} {k : Int} : mk l k l.length = run k l.length := mk_all
theorem RetTo_lb {h : Heap} {id : Nat} {es : List (List AV)} {len : Nat} {b : Bool} (hg : hget h id = some (.slice 1 es)) (hl : len = es.length) : RetTo h (.tup [.ref id none 1 0 len, .bool b]) (.tup [.ow 1 es, .bool b]) := by
  subst hl
  exact RetTo_of (h2 := hdel h id) (by simp [conR, conRL, isF, hg])
theorem RetTo_nb {h : Heap} {b : Bool} : RetTo h (.tup [.nil, .bool b]) (.tup [.ow 1 [], .bool b]) :=
  ⟨.tup [.nil, .bool b], h, by simp [conR, conRL, isF], by simp [NilTo, NilToL]⟩
section
variable {C : CT} (hC : Closed Try.prog G0 md0 C)
include hC
theorem t18 (k : Int) (n : Nat) (hk : 0 ≤ k ∧ k < 2^50) (hn : n < 2^50) : Ev C 18 [.sl (ints (run k n)), .int .i64 k] (.int .i64 (k + n)) := by
  refine rT hC Q18 ?_
  simp only [c18, push_cast, ↓J1, ↓J2, N1, N2, N3, reduceCtorEq, N4, N5, N6, reduceIte, N7, I1, I2, I3]
  refine RL_count (fun i => ⟨tb 21 .any [(0, .sl (ints (run k n))), (1, .int .i64 (k + i)), (5, .int .i64 (i : Int))], [], 0⟩) (fun _ => True) n 0 (hdA []) (by omega) trivial fun i hi _ J hJ => ?_
  by_cases h1 : i < n
  · have e1 : (ints (run k n))[i]? = some [.int .i64 ((run k n).getD i 0)] := ints_get (by rw [run_length]; exact h1)
    simp only [ints_length, run_length, Int.toNat_natCast, e1, run_get h1, push_cast, ↓J1, ↓J2, N1, N2, N3, reduceCtorEq, N4, N5, N6, reduceIte, N7, I1, I2, I3]
    refine ifB_intro (fun _ => ?_) (fun h => by simp at h; omega)
    repeat (refine ⟨by omega, ?_⟩)
    refine hJ h1 trivial _ (hdA [] (hV := ?_))
    simp only [keptV_cons, keptV_nil, tb_get, lk_same, lk_ne, lk_nil, ren, renL, lkp, N7, N1, N5, reduceIte, and_true, true_and, Nat.not_lt_zero, if_false, if_true, Nat.add_zero, Nat.zero_add]
    rw [wrap64 (by omega) (by omega), wrap64 (by omega) (by omega)]
    simp; omega
  · obtain rfl : i = n := by omega
    simp only [ints_length, run_length, push_cast, ↓J1, ↓J2, N1, N2, N3, reduceCtorEq, N4, N5, N6, reduceIte, N7, I1, I2, I3]
    refine ifB_intro (fun h => by simp at h) (fun h => trivial)
def askCh (W : List (List Int)) (w n : Int) : Bool := goodW W && inR 0 2 w && inR 0 6 n
def resCh (W : List (List Int)) (w n : Int) : List Int := if askCh W w n then chS W ([0, 0, 0].set w.toNat 1) n.toNat else []
omit hC in
theorem resCh_length (W : List (List Int)) (w n : Int) : (resCh W w n).length ≤ 3 := by
  unfold resCh
  split
  · rw [chS_length _ (by simp)]; omega
  · simp
omit hC in
theorem own_lb (l : List Int) (b : Bool) : ownR (.tup [.ow 1 (ints l), .bool b]) = true := by
  have e := own_ints l
  simp only [ownR] at e
  simp only [ownR, ownRL, e, Bool.and_true]
end
end Go.Proofs.Ytomocakahfcihaa.X
set_option maxHeartbeats 4000000
set_option maxRecDepth 8000
set_option linter.unusedSimpArgs false
set_option linter.unusedVariables false
open Nat renaming reduceBEq → N1, reduceAdd → N2, reduceSub → N3, reduceMul → N4, reduceEqDiff → N5, reduceLeDiff → N6, reduceLT → N7
open Int renaming reduceLE → I1, reduceLT → I2, reduceToNat → I3
namespace Go.Proofs.Ytomocakahfcihaa.X
open Go
attribute [local irreducible] Ev fE
def cuF (p : Nat → Bool) (k : Nat) : List Nat := (List.range k).filter p
theorem cuF_succ (p : Nat → Bool) (k : Nat) : cuF p (k + 1) = cuF p k ++ (if p k then [k] else []) := by
  simp only [cuF, List.range_succ, List.filter_append, List.filter_cons, List.filter_nil]
theorem cuF_le (p : Nat → Bool) (k : Nat) : (cuF p k).length ≤ k := by
  have := List.length_filter_le p (List.range k)
  simpa [cuF] using this
def cuN (lim : Int) (L : Lanes) (F T D : Nat) : List Int := ni (cuF (seen (fE (sN L F T D) (nN L D) F (eN L T D) lim).1 (nN L D) F) (nN L D))
def cuR (lim : Int) (L : Lanes) (F T D : Int) : List Int := if askT L F T D then cuN lim L F.toNat T.toNat D.toNat else []
theorem cuN_len {lim : Int} {L : Lanes} {F T D : Nat} (h : nN L D ≤ 42) : (cuN lim L F T D).length ≤ 42 := by
  rw [cuN, ni_length]; exact Nat.le_trans (cuF_le _ _) h
theorem cuN_I {lim lim' : Int} {L : Lanes} {F T D : Nat} (x : Deliv lim lim' L F T D) : cuN lim L F T D = ni (cuF (seen (fE (iN L F T D) (nN L D) F (eN L T D) lim').1 (nN L D) F) (nN L D)) := by
  rw [cuN, cuF, cuF]
  congr 1
  apply List.filter_congr
  intro w hw
  exact (x.sn w (by simpa using hw)).symm
section
variable {C : CT} (hC : Closed Try.prog G0 md0 C)
include hC
theorem t13 {lim : Int} (r1 : 10000000 = lim) (L : Lanes) (F T D : Int) (h1 : L.ls.length < 2^50) (h2 : L.st.length < 2^50) : Ev C 13 [L.av, .int .i64 F, .int .i64 T, .int .i64 D] (.tup [.ow 1 (ints (cuR lim L F T D)), .bool (askT L F T D)]) := by
  have c1 := t21 hC L F T D h1 h2
  simp only [Lanes.av] at c1 ⊢
  refine rT hC Q13 ?_ (own_lb _ _)
  simp only [c13, push_cast, ↓J1, ↓J2, N1, N2, N3, reduceCtorEq, N4, N5, N6, reduceIte, N7, I1, I2, I3]
  refine ⟨_, c1, ?_⟩
  cases g : askT L F T D
  · simp only [cuR, g, Bool.false_eq_true, if_false, Bool.not_false, push_cast, ↓J1, ↓J2, N1, N2, N3, reduceCtorEq, N4, N5, N6, reduceIte, N7, I1, I2, I3]
    exact ⟨.tup [.nil, .bool false], _, by simp only [conR, conRL, isF, Option.map_some, Option.bind_some]; rfl, by simp [NilTo, NilToL, ints]⟩
  obtain ⟨f, t, d, rfl, rfl, rfl, a1, a2, a3, a4, a5⟩ := askT_at g
  have hL := lanesOk_LOk a1
  have hd := hL.d
  have hm := mul_ok (d := (d : Int)) ⟨by omega, by omega⟩ hd
  have x := deliv (lim := lim) (lim' := lim) (by omega) (by omega) a1 a2 a3 a4 a5
  have c2 := t30 hC L f t d a5 hL
  rw [x.aS, nN_int hL] at c2
  have he := x.e
  have hn := x.n
  have hl := x.lS
  have hs := x.s
  have w1 : IntKind.i64.wrap ((d : Int) * L.d) = (d : Int) * L.d := wrap64 (by omega) (by omega)
  have w2 : IntKind.i64.wrap ((d : Int) * L.d + t) = ((eN L t d : Nat) : Int) := by rw [eN_int hL]; exact wrap64 (by omega) (by omega)
  have c3 := t31 hC L (sN L f t d) (nN L d) f (eN L t d) lim x.nS x.fS x.s x.e x.ne (by omega) (by omega) x.mS ⟨by omega, by omega⟩ (Int.lt_of_lt_of_le x.vS.1 (by omega))
  have hfl := shp_len x.shS
  have nF := net_shp x.shS x.nS
  have c4 := t32 hC (fE (sN L f t d) (nN L d) f (eN L t d) lim).1 (nN L d) f nF x.s (by omega) (by omega)
  have hBl : (mfB (fE (sN L f t d) (nN L d) f (eN L t d) lim).1 (nN L d) f).length = nN L d := (mfP_inv nF x.s _).1.len
  have tk6 : List.take (sN L f t d).length (fa4 (fE (sN L f t d) (nN L d) f (eN L t d) lim).1) = fa4 (fE (sN L f t d) (nN L d) f (eN L t d) lim).1 := by rw [← hfl]; exact fa4_take
  have fz := frz_fa4 (fE (sN L f t d) (nN L d) f (eN L t d) lim).1
  simp only [cuR, g, if_true, Int.toNat_natCast, cuN]
  have hsn : ∀ w, (!decide ((mfB (fE (sN L f t d) (nN L d) f (eN L t d) lim).1 (nN L d) f).getD w 0 = -1)) = seen (fE (sN L f t d) (nN L d) f (eN L t d) lim).1 (nN L d) f w := fun w => rfl
  generalize (fE (sN L f t d) (nN L d) f (eN L t d) lim).2 = gg at *
  generalize (fE (sN L f t d) (nN L d) f (eN L t d) lim).1 = ll at *
  generalize mfB ll (nN L d) f = bb at *
  generalize seen ll (nN L d) f = pp at *
  simp only [Lanes.av] at *
  simp only [Bool.not_true, push_cast, ↓J1, ↓J2, N1, N2, N3, reduceCtorEq, N4, N5, N6, reduceIte, N7, I1, I2, I3]
  refine ⟨_, c2, ?_⟩
  simp only [fa4_length, w1, w2, r1, push_cast, ↓J1, ↓J2, N1, N2, N3, reduceCtorEq, N4, N5, N6, reduceIte, N7, I1, I2, I3]
  refine ⟨_, c3, ?_⟩
  rintro v h' n' ⟨rfl, rfl, rfl⟩ _
  simp only [tk6, fz, push_cast, ↓J1, ↓J2, N1, N2, N3, reduceCtorEq, N4, N5, N6, reduceIte, N7, I1, I2, I3]
  refine ⟨_, c4, ?_⟩
  simp only [ints_length, hBl, push_cast, ↓J1, ↓J2, N1, N2, N3, reduceCtorEq, N4, N5, N6, reduceIte, N7, I1, I2, I3]
  clear c1 c2 c3 c4 x nF tk6 fz hfl
  refine RL_count (fun k => ⟨tb 51 .any [(11, .ref 1 none 1 0 (cuF pp k).length), (36, .ref 0 none 1 0 (nN L d)), (37, .int .i64 (nN L d : Int)), (38, .int .i64 (k : Int))], [(1, .slice 1 (ints (ni (cuF pp k)))), (0, .slice 1 (ints bb))], 2⟩) (fun _ => True) (nN L d) 0 (hdO 11 1 1 [(4, 0)]) (by omega) trivial fun k hk _ J hJ => ?_
  by_cases h3 : k < nN L d
  rotate_left
  · obtain rfl : k = nN L d := by omega
    have hlt : decide (((nN L d : Nat) : Int) < ((nN L d : Nat) : Int)) = false := decide_eq_false (by omega)
    have tkc : List.take (cuF pp (nN L d)).length (ints (ni (cuF pp (nN L d)))) = ints (ni (cuF pp (nN L d))) := List.take_of_length_le (by rw [ints_length, ni_length]; omega)
    simp only [hlt, push_cast, ↓J1, ↓J2, N1, N2, N3, reduceCtorEq, N4, N5, N6, reduceIte, N7, I1, I2, I3]
    exact RetTo_of (by simp only [conR, conRL, isF, hget, hdel, List.drop_zero, tkc, ints_length, ni_length, if_true, if_false, reduceIte, N5, reduceCtorEq]; rfl)
  have hK := hJ h3 trivial
  clear hJ
  have hlt : decide ((k : Int) < ((nN L d : Nat) : Int)) = true := decide_eq_true (by omega)
  have e1 : (ints bb)[k]? = some [.int .i64 (bb.getD k 0)] := cut_ints_get (by omega)
  have hle := cuF_le pp k
  have tkc : List.take (cuF pp k).length (ints (ni (cuF pp k))) = ints (ni (cuF pp k)) := List.take_of_length_le (by rw [ints_length, ni_length]; omega)
  rw [cuF_succ] at hK
  have hsk := hsn k
  simp only [hlt, Int.toNat_natCast, e1, hsk, ints_length, hBl, push_cast, ↓J1, ↓J2, N1, N2, N3, reduceCtorEq, N4, N5, N6, reduceIte, N7, I1, I2, I3]
  repeat (refine ⟨by omega, ?_⟩)
  cases g2 : pp k
  · simp only [g2, Bool.false_eq_true, if_false, List.append_nil] at hK
    simp only [g2, push_cast, ↓J1, ↓J2, N1, N2, N3, reduceCtorEq, N4, N5, N6, reduceIte, N7, I1, I2, I3]
    exact hK _ (hdA [(1, 1), (0, 0)])
  · simp only [g2, if_true, List.length_append, List.length_singleton] at hK
    simp only [g2, tkc, ints_length, ni_length, allScs, apYR_sc, push_cast, ↓J1, ↓J2, N1, N2, N3, reduceCtorEq, N4, N5, N6, reduceIte, N7, I1, I2, I3]
    repeat (refine ⟨by omega, ?_⟩)
    refine hK _ (hdA [(3, 1), (0, 0)] (hh := ?_))
    simp only [canR, canB, renO, renL, ren, lkp, hget, N7, N5, Nat.not_lt_zero, if_false, if_true, reduceIte, List.append_nil, List.nil_append, ni_sn]
    all_goals rfl
theorem t14 {lim lim' : Int} (r1 : 10000000 = lim) (r2 : 1000000000 = lim') (L : Lanes) (F T D : Int) (h1 : L.ls.length < 2^50) (h2 : L.st.length < 2^50) : Ev C 14 [L.av, .int .i64 F, .int .i64 T, .int .i64 D] (.tup [.ow 1 (ints (cuR lim L F T D)), .bool (askT L F T D)]) := by
  have c1 := t25 hC L F T D h1 h2
  simp only [Lanes.av] at c1 ⊢
  refine rT hC Q14 ?_ (own_lb _ _)
  simp only [c14, push_cast, ↓J1, ↓J2, N1, N2, N3, reduceCtorEq, N4, N5, N6, reduceIte, N7, I1, I2, I3]
  refine ⟨_, c1, ?_⟩
  cases g : askT L F T D
  · simp only [cuR, g, Bool.false_eq_true, if_false, Bool.not_false, push_cast, ↓J1, ↓J2, N1, N2, N3, reduceCtorEq, N4, N5, N6, reduceIte, N7, I1, I2, I3]
    exact ⟨.tup [.nil, .bool false], _, by simp only [conR, conRL, isF, Option.map_some, Option.bind_some]; rfl, by simp [NilTo, NilToL, ints]⟩
  obtain ⟨f, t, d, rfl, rfl, rfl, a1, a2, a3, a4, a5⟩ := askT_at g
  have hL := lanesOk_LOk a1
  have hd := hL.d
  have hm := mul_ok (d := (d : Int)) ⟨by omega, by omega⟩ hd
  have x := deliv (lim := lim) (lim' := lim') (by omega) (by omega) a1 a2 a3 a4 a5
  have c2 := dl_at hC r1 r2 L f t d g
  have he := x.e
  have hn := x.n
  have hl := x.lI
  have hs := x.s
  have hfl := shp_len x.shI
  have nF := net_shp x.shI x.nI
  have c4 := t33 hC (fE (iN L f t d) (nN L d) f (eN L t d) lim').1 (nN L d) f nF x.s (by omega) (by omega)
  have hBl : (mfB (fE (iN L f t d) (nN L d) f (eN L t d) lim').1 (nN L d) f).length = nN L d := (mfP_inv nF x.s _).1.len
  have fz := frz_fa5 (fE (iN L f t d) (nN L d) f (eN L t d) lim').1
  simp only [cuR, g, if_true, Int.toNat_natCast]
  rw [cuN_I x]
  have hsn : ∀ w, (!decide ((mfB (fE (iN L f t d) (nN L d) f (eN L t d) lim').1 (nN L d) f).getD w 0 = -1)) = seen (fE (iN L f t d) (nN L d) f (eN L t d) lim').1 (nN L d) f w := fun w => rfl
  simp only [fN5, Int.toNat_natCast] at c2
  generalize gvN lim L f t d = gg at *
  generalize (fE (iN L f t d) (nN L d) f (eN L t d) lim').1 = ll at *
  generalize mfB ll (nN L d) f = bb at *
  generalize seen ll (nN L d) f = pp at *
  simp only [Lanes.av] at *
  have tk6 : List.take ll.length (fa5 ll) = fa5 ll := fa5_take
  simp only [Bool.not_true, push_cast, ↓J1, ↓J2, N1, N2, N3, reduceCtorEq, N4, N5, N6, reduceIte, N7, I1, I2, I3]
  refine ⟨_, c2, ?_⟩
  simp only [fa5_length, tk6, fz, push_cast, ↓J1, ↓J2, N1, N2, N3, reduceCtorEq, N4, N5, N6, reduceIte, N7, I1, I2, I3]
  refine ⟨_, c4, ?_⟩
  simp only [vis_length, hBl, push_cast, ↓J1, ↓J2, N1, N2, N3, reduceCtorEq, N4, N5, N6, reduceIte, N7, I1, I2, I3]
  clear c1 c2 c4 x nF tk6 fz hfl
  refine RL_count (fun k => ⟨tb 47 .any [(12, .ref 1 none 1 0 (cuF pp k).length), (32, .ref 0 none 3 0 (nN L d)), (33, .int .i64 (nN L d : Int)), (34, .int .i64 (k : Int))], [(1, .slice 1 (ints (ni (cuF pp k)))), (0, .slice 3 (vis ll bb))], 2⟩) (fun _ => True) (nN L d) 0 (hdA [(3, 1), (4, 0)]) (by omega) trivial fun k hk _ J hJ => ?_
  by_cases h3 : k < nN L d
  rotate_left
  · obtain rfl : k = nN L d := by omega
    have hlt : decide (((nN L d : Nat) : Int) < ((nN L d : Nat) : Int)) = false := decide_eq_false (by omega)
    have tkc : List.take (cuF pp (nN L d)).length (ints (ni (cuF pp (nN L d)))) = ints (ni (cuF pp (nN L d))) := List.take_of_length_le (by rw [ints_length, ni_length]; omega)
    simp only [hlt, push_cast, ↓J1, ↓J2, N1, N2, N3, reduceCtorEq, N4, N5, N6, reduceIte, N7, I1, I2, I3]
    exact RetTo_of (by simp only [conR, conRL, isF, hget, hdel, List.drop_zero, tkc, ints_length, ni_length, if_true, if_false, reduceIte, N5, reduceCtorEq]; rfl)
  have hK := hJ h3 trivial
  clear hJ
  have hlt : decide ((k : Int) < ((nN L d : Nat) : Int)) = true := decide_eq_true (by omega)
  have e1 := vis_get (l := ll) (o := bb) (v := k) (by omega)
  have hle := cuF_le pp k
  have tkc : List.take (cuF pp k).length (ints (ni (cuF pp k))) = ints (ni (cuF pp k)) := List.take_of_length_le (by rw [ints_length, ni_length]; omega)
  rw [cuF_succ] at hK
  have hsk := hsn k
  simp only [hlt, Int.toNat_natCast, e1, hsk, vis_length, hBl, push_cast, ↓J1, ↓J2, N1, N2, N3, reduceCtorEq, N4, N5, N6, reduceIte, N7, I1, I2, I3]
  repeat (refine ⟨by omega, ?_⟩)
  cases g2 : pp k
  · simp only [g2, Bool.false_eq_true, if_false, List.append_nil] at hK
    simp only [g2, push_cast, ↓J1, ↓J2, N1, N2, N3, reduceCtorEq, N4, N5, N6, reduceIte, N7, I1, I2, I3]
    exact hK _ (hdA [(1, 1), (0, 0)])
  · simp only [g2, if_true, List.length_append, List.length_singleton] at hK
    simp only [g2, tkc, ints_length, ni_length, allScs, apYR_sc, push_cast, ↓J1, ↓J2, N1, N2, N3, reduceCtorEq, N4, N5, N6, reduceIte, N7, I1, I2, I3]
    repeat (refine ⟨by omega, ?_⟩)
    refine hK _ (hdA [(4, 1), (0, 0)] (hh := ?_))
    simp only [canR, canB, renO, renL, ren, lkp, hget, N7, N5, Nat.not_lt_zero, if_false, if_true, reduceIte, List.append_nil, List.nil_append, ni_sn]
    all_goals rfl
end
end Go.Proofs.Ytomocakahfcihaa.X
set_option maxHeartbeats 1000000
set_option maxRecDepth 8000
set_option linter.unusedSimpArgs false
set_option linter.unusedSectionVars false
set_option linter.unusedVariables false
open Nat renaming reduceBEq → N1, reduceAdd → N2, reduceSub → N3, reduceMul → N4, reduceEqDiff → N5, reduceLeDiff → N6, reduceLT → N7
open Int renaming reduceLE → I1, reduceLT → I2, reduceToNat → I3
namespace Go.Proofs.Ytomocakahfcihaa.X
open Go
theorem has_lane {k : Nat} {xs : List AV} (h : Has Try.prog (k + 6) 63 xs) : ∃ p : Ln, xs = lnA p := by
  have h := has_struct sty_63 h
  obtain ⟨x1, r, rfl, _, h1, h⟩ := hasE_cons h
  obtain ⟨x2, r, rfl, _, h2, h⟩ := hasE_cons h
  obtain ⟨x3, r, rfl, _, h3, h⟩ := hasE_cons h
  obtain rfl := hasE_nil h
  obtain ⟨a, rfl, _⟩ := has_int tk_3 h1
  obtain ⟨b, rfl, _⟩ := has_int tk_3 h2
  obtain ⟨c, rfl, _⟩ := has_int tk_3 h3
  exact ⟨⟨a, b, c⟩, rfl⟩
theorem has_ints {k : Nat} {xs : List AV} (h : Has Try.prog (k + 2) 23 xs) : ∃ l, xs = [.sl (ints l)] ∧ l.length < 2 ^ 50 := by
  obtain ⟨es, rfl, _, hb, he⟩ := has_slice tk_23 h
  rw [bo_3] at hb
  obtain ⟨l, rfl⟩ := all_map (f := fun n : Int => [AV.int .i64 n]) (es := es) fun e hx => by
    obtain ⟨n, hn, _⟩ := has_int tk_3 (he e hx).2
    exact ⟨n, hn⟩
  simp only [reachBytes, List.length_map] at hb
  exact ⟨l, rfl, by omega⟩
theorem has_lanes {k : Nat} {xs : List AV} (h : Has Try.prog (k + 7) 22 xs) : ∃ l, xs = [.sl (lns l)] ∧ l.length < 2 ^ 50 := by
  obtain ⟨es, rfl, _, hb, he⟩ := has_slice tk_22 h
  rw [bo_63] at hb
  obtain ⟨l, rfl⟩ := all_map (f := lnA) (es := es) fun e hx => has_lane (he e hx).2
  simp only [reachBytes, List.length_map] at hb
  exact ⟨l, rfl, by omega⟩
end Go.Proofs.Ytomocakahfcihaa.X
set_option maxHeartbeats 4000000
set_option maxRecDepth 8000
set_option linter.unusedSimpArgs false
set_option linter.unusedSectionVars false
set_option linter.unusedVariables false
open Nat renaming reduceBEq → N1, reduceAdd → N2, reduceSub → N3, reduceMul → N4, reduceEqDiff → N5, reduceLeDiff → N6, reduceLT → N7
open Int renaming reduceLE → I1, reduceLT → I2, reduceToNat → I3
namespace Go.Proofs.Ytomocakahfcihaa.X
open Go
attribute [local irreducible] Ev
def mkL (k : Int) (i : Nat) : List Ln := (List.range i).map fun j : Nat => ⟨k + 3 * (j : Int), k + 3 * (j : Int) + 1, k + 3 * (j : Int) + 2⟩
theorem mkL_length {k : Int} {i : Nat} : (mkL k i).length = i := by simp [mkL]
theorem mkL_succ {l : List Ln} {k : Int} {i : Nat} (h : i < l.length) : (lns (mkL k i ++ l.drop i)).set i [.int .i64 (k + 3 * (i : Int)), .int .i64 (k + 3 * (i : Int) + 1), .int .i64 (k + 3 * (i : Int) + 2)] = lns (mkL k (i + 1) ++ l.drop (i + 1)) := by
  have e : l.drop i = l[i] :: l.drop (i + 1) := List.drop_eq_getElem_cons h
  simp only [e, lns, List.map_append, List.map_cons]
  rw [mid_set (by simp [mkL])]
  simp only [mkL, List.range_succ, List.map_append, List.map_cons, List.map_nil, List.append_assoc, List.cons_append, List.nil_append, lnA]
theorem hset_cons_ne {h : Heap} {n id : Nat} {o u : Ob} (hn : n ≠ id) : hset ((n, o) :: h) id u = (n, o) :: hset h id u := by
  simp only [hset, if_neg hn]
section
variable {C : CT} (hC : Closed Try.prog G0 md0 C)
include hC
theorem t34 (l : List Ln) (k : Int) (h : Heap) (id n : Nat) (hg : hget h id = some (.slice 3 (lns l))) (hb : below n h) (hk : 0 ≤ k ∧ k ≤ 2^48) (hl : l.length < 2^40) : C 34 [.ref id none 3 0 l.length, .int .i64 k] h n (fun v h' n' => v = .int .i64 (k + 3 * (l.length : Int)) ∧ n' = n ∧ h' = hset h id (.slice 3 (lns (mkL k l.length)))) := by
  have hid := below_lt hb hg
  refine Closed.rT hC Q34 ?_
  simp only [c34, push_cast, ↓J1, ↓J2, N1, N2, N3, reduceCtorEq, N4, N5, N6, reduceIte, N7, I1, I2, I3]
  have hgi : ∀ es : List (List AV), hget (hset h id (.slice 3 es)) id = some (.slice 3 es) := fun es => hget_same hg
  refine RL_count (fun i => ⟨tb 34 .any [(0, .ref id none 3 0 l.length), (1, .int .i64 (k + 3 * (i : Int))), (5, .int .i64 (i : Int))], hset h id (.slice 3 (lns (mkL k i ++ l.drop i))), n⟩) (fun _ => True) l.length 0 (head_tb [] (by simp [rhoOk, objIds]) (by simp only [hid, keptV_cons, keptV_nil, tb_get, lk_same, lk_ne, lk_nil, ren, renL, lkp, N7, N1, N5, reduceIte, and_true, true_and, Nat.not_lt_zero, if_false, if_true, Nat.add_zero, Nat.zero_add]; all_goals simp) (by rw [show mkL k 0 ++ l.drop 0 = l from rfl, hset_get hg]; exact hb)) (by omega) trivial fun i hi _ J hJ => ?_
  by_cases h1 : i < l.length
  · have hlen : (lns (mkL k i ++ l.drop i)).length = l.length := by simp [lns, mkL]; omega
    have e1 : ∃ u : Ln, (lns (mkL k i ++ l.drop i))[i]? = some (lnA u) := ⟨_, by rw [lns, List.getElem?_map, List.getElem?_eq_getElem (by simp [mkL]; omega)]; rfl⟩
    obtain ⟨t, e1⟩ := e1
    have gs : ∀ e : List AV, ((lns (mkL k i ++ l.drop i)).set i e)[i]? = some e := by intro e; rw [List.getElem?_set, if_pos rfl, if_pos (by omega)]
    have ls := mkL_succ (l := l) (k := k) h1
    have w0 : IntKind.i64.wrap (k + 3 * (i : Int) + 1) = k + 3 * (i : Int) + 1 := wrap64 (by omega) (by omega)
    have w1 : IntKind.i64.wrap (k + 3 * (i : Int) + 1 + 1) = k + 3 * (i : Int) + 1 + 1 := wrap64 (by omega) (by omega)
    have w2 : IntKind.i64.wrap (k + 3 * (i : Int) + 1 + 1 + 1) = k + 3 * (i : Int) + 1 + 1 + 1 := wrap64 (by omega) (by omega)
    have ea : k + 3 * (i : Int) + 1 + 1 = k + 3 * (i : Int) + 2 := by omega
    simp only [Int.toNat_natCast, hgi, e1, lnA, push_cast, ↓J1, ↓J2, N1, N2, N3, reduceCtorEq, N4, N5, N6, reduceIte, N7, I1, I2, I3]
    refine ifB_intro (fun _ => ?_) (fun h => by simp at h; omega)
    repeat (refine ⟨by omega, ?_⟩)
    repeat' (first | refine ⟨by omega, ?_⟩ | simp only [Int.toNat_natCast, hgi, e1, gs, hset_hset, List.set_set, setsA, List.set_cons_zero, List.set_cons_succ, lnA, w0, w1, w2, push_cast, ↓J1, ↓J2, N1, N2, N3, reduceCtorEq, N4, N5, N6, reduceIte, N7, I1, I2, I3])
    refine hJ h1 trivial _ (head_tb [] (by simp [rhoOk, objIds]) ?_ ?_)
    · simp only [hid, keptV_cons, keptV_nil, tb_get, lk_same, lk_ne, lk_nil, ren, renL, lkp, N7, N1, N5, reduceIte, and_true, true_and, Nat.not_lt_zero, if_false, if_true, Nat.add_zero, Nat.zero_add]
      rw [wrap64 (n := (i : Int) + 1) (by omega) (by omega), show k + 3 * ((i + 1 : Nat) : Int) = k + 3 * (i : Int) + 1 + 1 + 1 by omega]
      and_intros <;> rfl
    · rw [← ls]
      simp only [lnA, ea]
      exact below_set hb
  · obtain rfl : i = l.length := by omega
    simp only [push_cast, ↓J1, ↓J2, N1, N2, N3, reduceCtorEq, N4, N5, N6, reduceIte, N7, I1, I2, I3]
    refine ifB_intro (fun h => by simp at h) (fun h => ?_)
    rw [List.drop_length, List.append_nil]
theorem t16 (d : Int) (l : List Ln) (q : List Int) (k : Int) (h : Heap) (i j n : Nat) (hg : hget h i = some (.slice 3 (lns l))) (hg2 : hget h j = some (.slice 1 (ints q))) (hij : i ≠ j) (hb : below n h) (hs : solid h) (hk : 0 ≤ k ∧ k ≤ 2^47) (hl : l.length < 2^40) (hq : q.length < 2^40) : C 16 [.agg [.int .i64 d, .ref i none 3 0 l.length, .ref j none 1 0 q.length], .int .i64 k] h n (fun v h' n' => v = .int .i64 (k + 3 * (l.length : Int) + q.length) ∧ n' = n + 1 ∧ h' = (n, .var [.int .i64 d, .ref i none 3 0 l.length, .ref j none 1 0 q.length]) :: hset (hset h i (.slice 3 (lns (mkL k l.length)))) j (.slice 1 (ints (mk q (k + 3 * (l.length : Int)) q.length)))) := by
  have qi := below_lt hb hg
  have qj := below_lt hb hg2
  refine Closed.rT hC Q16 ?_
  simp only [c16, push_cast, ↓J1, ↓J2, N1, N2, N3, reduceCtorEq, N4, N5, N6, reduceIte, N7, I1, I2, I3]
  have hni : ¬ n = i := by omega
  have hnj : ¬ n = j := by omega
  have B0 : below (n + 1) ((n, .var [.int .i64 d, .ref i none 3 0 l.length, .ref j none 1 0 q.length]) :: h) :=
    below_mk (by omega) (by simp only [renO, renL, ren, lkp, if_pos (show i < n + 1 by omega), if_pos (show j < n + 1 by omega)]) (below_succ hb)
  refine ⟨_, t34 hC l k _ i (n + 1) (by simp only [hget, if_neg hni]; exact hg) B0 (by omega) hl, ?_⟩
  rintro v h' n' ⟨rfl, rfl, rfl⟩ _
  have hs2 := solid_set (id := i) (sz := 3) (es := lns (mkL k l.length)) hs
  have hb2 := below_set (id := i) (sz := 3) (es := lns (mkL k l.length)) hb
  have hg3 : hget (hset h i (.slice 3 (lns (mkL k l.length)))) j = some (.slice 1 (ints q)) := by
    rw [hget_set, if_neg (by omega)]; exact hg2
  unfold solid at hs2
  simp only [hset, if_neg hni, hs2, push_cast, ↓J1, ↓J2, N1, N2, N3, reduceCtorEq, N4, N5, N6, reduceIte, N7, I1, I2, I3]
  generalize hset h i (.slice 3 (lns (mkL k l.length))) = h2 at *
  have B2 : below (n + 1) ((n, .var [.int .i64 d, .ref i none 3 0 l.length, .ref j none 1 0 q.length]) :: h2) :=
    below_mk (by omega) (by simp only [renO, renL, ren, lkp, if_pos (show i < n + 1 by omega), if_pos (show j < n + 1 by omega)]) (below_succ hb2)
  refine ⟨_, t17 hC q _ _ j (n + 1) (by simp only [hget, if_neg hnj]; exact hg3) B2 (by omega) (by omega), ?_⟩
  rintro v h' n' ⟨rfl, rfl, rfl⟩ _
  have hs3 := solid_set (id := j) (sz := 1) (es := ints (mk q (k + 3 * (l.length : Int)) q.length)) hs2
  unfold solid at hs3
  simp only [hset, if_neg hnj, hs3, push_cast, ↓J1, ↓J2, N1, N2, N3, reduceCtorEq, N4, N5, N6, reduceIte, N7, I1, I2, I3]
theorem t5 {lim lim' : Int} (r1 : 10000000 = lim) (r2 : 1000000000 = lim') (L : Lanes) (F T x : Int) (h1 : L.ls.length < 2^50) (h2 : L.st.length < 2^50) : Ev C 5 [L.av, .int .i64 F, .int .i64 T, .int .i64 x] (.bool true) := by
  have c1 := t6 hC L 1048576 (by omega) h1 h2
  have c4 := t13 hC r1 L F T x h1 h2
  have c5 := t14 hC r1 r2 L F T x h1 h2
  have c6 := t10 hC L L h1 h2 h1 h2
  have hrl : (cuR lim L F T x).length ≤ 42 := by
    rw [cuR]
    split
    · rename_i g
      obtain ⟨f, t, d, rfl, rfl, rfl, a1, a2, a3, a4, a5⟩ := askT_at g
      have y := deliv (lim := lim) (lim' := lim) (by omega) (by omega) a1 a2 a3 a4 a5
      exact cuN_len (by simpa only [Int.toNat_natCast] using y.n)
    · simp
  generalize cuR lim L F T x = res at *
  generalize askT L F T x = ask at *
  have c7 := t15 hC res res (by omega) (by omega)
  have c8 := t18 hC 1 res.length (by omega) (by omega)
  have c2 := fun (g1 : L.ls.length < 2^30 ∧ L.st.length < 2^30) => t8 hC L g1.1 g1.2
  simp only [Lanes.av, Lanes.ow] at *
  refine rT hC Q5 ?_
  simp only [X.c5, ints_length, push_cast, ↓J1, ↓J2, N1, N2, N3, reduceCtorEq, N4, N5, N6, reduceIte, N7, I1, I2, I3]
  refine ⟨_, c1, ?_⟩
  simp only [push_cast, ↓J1, ↓J2, N1, N2, N3, reduceCtorEq, N4, N5, N6, reduceIte, N7, I1, I2, I3]
  refine ifB_intro (fun h => trivial) (fun h => ?_)
  have g1 : L.ls.length < 2^30 ∧ L.st.length < 2^30 := by simp only [szL] at h; grind
  have c2 := c2 g1
  refine ⟨_, c2, ?_⟩
  simp only [frzLL_ints, frzLL_lns, push_cast, ↓J1, ↓J2, N1, N2, N3, reduceCtorEq, N4, N5, N6, reduceIte, N7, I1, I2, I3]
  refine ⟨_, c4, ?_⟩
  simp only [frzLL_ints, frzLL_lns, push_cast, ↓J1, ↓J2, N1, N2, N3, reduceCtorEq, N4, N5, N6, reduceIte, N7, I1, I2, I3]
  refine ⟨_, c2, ?_⟩
  simp only [frzLL_ints, frzLL_lns, push_cast, ↓J1, ↓J2, N1, N2, N3, reduceCtorEq, N4, N5, N6, reduceIte, N7, I1, I2, I3]
  refine ⟨_, c5, ?_⟩
  simp only [frzLL_ints, frzLL_lns, push_cast, ↓J1, ↓J2, N1, N2, N3, reduceCtorEq, N4, N5, N6, reduceIte, N7, I1, I2, I3]
  refine ⟨_, c7, ?_⟩
  simp only [frzLL_ints, frzLL_lns, push_cast, ↓J1, ↓J2, N1, N2, N3, reduceCtorEq, N4, N5, N6, reduceIte, N7, I1, I2, I3]
  refine ⟨_, c2, ?_⟩
  simp only [frzLL_ints, frzLL_lns, push_cast, ↓J1, ↓J2, N1, N2, N3, reduceCtorEq, N4, N5, N6, reduceIte, N7, I1, I2, I3]
  refine ⟨_, c6, ?_⟩
  simp only [frzLL_ints, frzLL_lns, push_cast, ↓J1, ↓J2, N1, N2, N3, reduceCtorEq, N4, N5, N6, reduceIte, N7, I1, I2, I3]
  rw [lns_length, ints_length]
  have d1 : decide (1 + 3 * (L.ls.length : Int) + (L.st.length : Int) < 0) = false := decide_eq_false (by omega)
  have d2 : decide (1 + (res.length : Int) < 0) = false := decide_eq_false (by omega)
  have tk : List.take res.length (ints (run 1 res.length)) = ints (run 1 res.length) := List.take_of_length_le (by rw [ints_length, run_length]; omega)
  have tk2 : List.take res.length (ints res) = ints res := List.take_of_length_le (by rw [ints_length]; omega)
  refine ⟨_, t16 hC L.d L.ls L.st 1 _ 4 5 10 rfl rfl (by omega) (by simp [below, canB, renO, ren, renL, lkp]) (by simp [solid, killH, killL, killS]) (by omega) (by omega) (by omega), ?_⟩
  rintro v h' n' ⟨rfl, rfl, rfl⟩ _
  simp only [d1, frzLL_ints, tk2, ints_length, push_cast, ↓J1, ↓J2, N1, N2, N3, reduceCtorEq, N4, N5, N6, reduceIte, N7, I1, I2, I3]
  refine ⟨_, c7, ?_⟩
  simp only [frzLL_ints, ints_length, push_cast, ↓J1, ↓J2, N1, N2, N3, reduceCtorEq, N4, N5, N6, reduceIte, N7, I1, I2, I3]
  refine ⟨_, t17 hC res 1 _ 7 11 rfl (by simp [below, canB, renO, ren, renL, lkp]) (by omega) (by omega), ?_⟩
  rintro v h' n' ⟨rfl, rfl, rfl⟩ _
  rw [mk_run (l := res) (k := 1)]
  simp only [frzLL_ints, tk, tk2, push_cast, ↓J1, ↓J2, N1, N2, N3, reduceCtorEq, N4, N5, N6, reduceIte, N7, I1, I2, I3]
  refine ⟨_, c8, ?_⟩
  simp only [frzLL_ints, tk, tk2, d2, push_cast, ↓J1, ↓J2, N1, N2, N3, reduceCtorEq, N4, N5, N6, reduceIte, N7, I1, I2, I3]
  refine ⟨_, c2, ?_⟩
  simp only [frzLL_ints, frzLL_lns, push_cast, ↓J1, ↓J2, N1, N2, N3, reduceCtorEq, N4, N5, N6, reduceIte, N7, I1, I2, I3]
  refine ⟨_, c5, ?_⟩
  simp only [frzLL_ints, tk, tk2, ints_length, push_cast, ↓J1, ↓J2, N1, N2, N3, reduceCtorEq, N4, N5, N6, reduceIte, N7, I1, I2, I3]
  refine ⟨_, c7, ?_⟩
  simp only [frzLL_ints, tk, tk2, push_cast, ↓J1, ↓J2, N1, N2, N3, reduceCtorEq, N4, N5, N6, reduceIte, N7, I1, I2, I3]
  refine ⟨_, c8, ?_⟩
  simp only [frzLL_ints, tk, tk2, d2, push_cast, ↓J1, ↓J2, N1, N2, N3, reduceCtorEq, N4, N5, N6, reduceIte, N7, I1, I2, I3]
end
end Go.Proofs.Ytomocakahfcihaa.X
set_option maxHeartbeats 1000000
set_option maxRecDepth 8000
set_option linter.unusedSimpArgs false
set_option linter.unusedSectionVars false
set_option linter.unusedVariables false
open Nat renaming reduceBEq → N1, reduceAdd → N2, reduceSub → N3, reduceMul → N4, reduceEqDiff → N5, reduceLeDiff → N6, reduceLT → N7
open Int renaming reduceLE → I1, reduceLT → I2, reduceToNat → I3
namespace Go.Proofs.Ytomocakahfcihaa.X
open Go
attribute [local irreducible] Ev
theorem lwDeliveryCut {C : CT} (hC : Closed Try.prog G0 md0 C) : ∀ xs, HasVs Try.prog 14 [25, 3, 3, 3] xs → Ev C 5 xs (.bool true) := by
  rintro xs ⟨x, r, rfl, h0, x1, r1, rfl, h1, x2, r2, rfl, h2, x3, r3, rfl, h3, rfl⟩
  obtain ⟨ys, rfl, h⟩ := hasV_struct sty_25 h0
  obtain ⟨y1, r, rfl, _, k1, h⟩ := hasE_cons h
  obtain ⟨y2, r, rfl, _, k2, h⟩ := hasE_cons h
  obtain ⟨y3, r, rfl, _, k3, h⟩ := hasE_cons h
  obtain rfl := hasE_nil h
  obtain ⟨d, rfl, _⟩ := has_int tk_3 k1
  obtain ⟨ls, rfl, hl⟩ := has_lanes k2
  obtain ⟨st, rfl, hs⟩ := has_ints k3
  obtain ⟨a, rfl, _⟩ := hasV_int tk_3 h1
  obtain ⟨b, rfl, _⟩ := hasV_int tk_3 h2
  obtain ⟨n, rfl, _⟩ := hasV_int tk_3 h3
  exact t5 hC rfl rfl ⟨d, ls, st⟩ a b n hl hs
theorem lawDeliveryCut : ∀ xs, HasVs Try.prog 14 [25, 3, 3, 3] xs → Ev (CS Try.prog G0) 5 xs (.bool true) := lwDeliveryCut (CS_closed (by kernel_rfl))
end Go.Proofs.Ytomocakahfcihaa.X
