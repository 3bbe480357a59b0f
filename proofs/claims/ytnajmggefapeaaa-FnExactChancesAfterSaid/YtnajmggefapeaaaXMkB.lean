import Derived.Test.YtnajmggefapeaaaXMkA
set_option maxHeartbeats 1000000
set_option linter.unusedSimpArgs false
set_option linter.unusedVariables false
namespace Go.Proofs.Ytnajmggefapeaaa.X
open Go
attribute [local irreducible] Ev
/-- Marked rows: the first i, from k on. -/
def mkR : List (List Int) → Int → List (List Int)
  | [], _ => []
  | r :: W, k => mk r k r.length :: mkR W (k + r.length)
def mkW (W : List (List Int)) (k : Int) (i : Nat) : List (List Int) := mkR (W.take i) k ++ W.drop i
theorem mkR_length : ∀ (W : List (List Int)) (k : Int), (mkR W k).length = W.length
  | [], k => rfl
  | r :: W, k => by simp [mkR, mkR_length W]
theorem mkR_append : ∀ (W V : List (List Int)) (k : Int), mkR (W ++ V) k = mkR W k ++ mkR V (k + lens W)
  | [], V, k => by simp [mkR, lens]
  | r :: W, V, k => by
    have e : k + (r.length : Int) + (lens W : Int) = k + (lens (r :: W) : Int) := by simp [lens]; omega
    simp only [List.cons_append, mkR, mkR_append W, e]
theorem mkW_length {W : List (List Int)} {k : Int} {i : Nat} (h : i ≤ W.length) : (mkW W k i).length = W.length := by simp [mkW, mkR_length]; omega
theorem mkW_succ {W : List (List Int)} {k : Int} {i : Nat} (h : i < W.length) : (owss (mkW W k i)).set i [.ow 1 (ints (mk W[i] (k + lens (W.take i)) W[i].length))] = owss (mkW W k (i + 1)) := by
  have e : W.drop i = W[i] :: W.drop (i + 1) := List.drop_eq_getElem_cons h
  have hl : (mkR (W.take i) k).length = i := by rw [mkR_length]; simp; omega
  simp only [mkW, e, List.take_succ_eq_append_getElem h, mkR_append, owss, List.map_append, List.map_cons, mkR, List.map_nil, List.append_assoc, List.cons_append, List.nil_append]
  rw [mid_set (by simp [hl])]
theorem mkW_get {W : List (List Int)} {k : Int} {i : Nat} (h : i < W.length) : (owss (mkW W k i))[i]? = some [.ow 1 (ints W[i])] := by
  have e : W.drop i = W[i] :: W.drop (i + 1) := List.drop_eq_getElem_cons h
  have hl : (mkR (W.take i) k).length = i := by rw [mkR_length]; simp; omega
  simp only [mkW, e, owss, List.map_append, List.map_cons]
  rw [mid_get (by simp [hl])]
theorem mkW_zero {W : List (List Int)} {k : Int} : mkW W k 0 = W := by simp [mkW, mkR]
mutual
theorem ren_mono {n : Nat} : ∀ x : AV, ren n [] x = x → ren (n + 1) [] x = x
  | .ref id sub sz off len, h => by
    simp only [ren, lkp] at h ⊢
    split at h
    · rw [if_pos (by omega)]
    · cases h
  | .ptr id sub sz i c, h => by
    simp only [ren, lkp] at h ⊢
    split at h
    · rw [if_pos (by omega)]
    · cases h
  | .fn f cs, h => by
    simp only [ren, AV.fn.injEq, true_and] at h ⊢
    exact renL_mono cs h
  | .agg cs, h => by
    simp only [ren, AV.agg.injEq] at h ⊢
    exact renL_mono cs h
  | .tup cs, h => by
    simp only [ren, AV.tup.injEq] at h ⊢
    exact renL_mono cs h
  | .any, h => by simp [ren]
  | .con _, h => by simp [ren]
  | .int _ _, h => by simp [ren]
  | .bool _, h => by simp [ren]
  | .str _, h => by simp [ren]
  | .nil, h => by simp [ren]
  | .sl _, h => by simp [ren]
  | .pf _, h => by simp [ren]
  | .ow _ _, h => by simp [ren]
  | .op _, h => by simp [ren]
theorem renL_mono {n : Nat} : ∀ xs : List AV, renL n [] xs = xs → renL (n + 1) [] xs = xs
  | [], _ => by simp [renL]
  | x :: xs, h => by
    simp only [renL, List.cons.injEq] at h ⊢
    exact ⟨ren_mono x h.1, renL_mono xs h.2⟩
end
theorem below_succ {n : Nat} : ∀ {h : Heap}, below n h → below (n + 1) h
  | [], _ => rfl
  | (i, o) :: h, hb => by
    obtain ⟨h1, h2, h3⟩ := below_cons hb
    refine below_mk (by omega) ?_ (below_succ h3)
    cases o with
    | slice sz es => rfl
    | var cs =>
      simp only [renO, Ob.var.injEq] at h2 ⊢
      exact renL_mono cs h2
/-- No slot of a variable holds a part of a part. -/
def solid (h : Heap) : Prop := killH h = h
theorem solid_set {id sz : Nat} {es : List (List AV)} {h : Heap} (hs : solid h) : solid (hset h id (.slice sz es)) := by
  unfold solid at *
  rw [kill_set, hs]
theorem lens_le : ∀ (W : List (List Int)) (i : Nat), lens (W.take i) ≤ lens W
  | [], i => by simp
  | r :: W, 0 => by simp [lens]
  | r :: W, i + 1 => by
    have := lens_le W i
    simp [lens] at this ⊢
    omega
section
variable {C : CT} (hC : Closed Try.prog G0 md0 C)
include hC
theorem t49 (W : List (List Int)) (k : Int) (h : Heap) (id n : Nat) (hg : hget h id = some (.slice 1 (owss W))) (hb : below n h) (hs : solid h) (hk : 0 ≤ k ∧ k < 2^40) (hW : W.length < 2^50) (hl : lens W < 2^40) (hr : ∀ r ∈ W, r.length < 2^50) : C 49 [.ref id none 1 0 W.length, .int .i64 k] h n (fun v h' n' => v = .int .i64 (k + lens W) ∧ n' = n ∧ h' = hset h id (.slice 1 (owss (mkW W k W.length)))) := by
  have hid := below_lt hb hg
  refine Closed.runT hC Try.func49 h49 nt49 r49 (by decide) (Nat.le_of_ble_eq_true rfl) ?_
  simp only [c49, tk_3, sz_3, by_3, ag_3, zc_3, tk_23, sz_23, by_23, ag_23, zc_23, tk_34, sz_34, by_34, ag_34, zc_34, md_21, R_done, R_exit, R_ret, R_block, R_fork, R_cond, cK_true, cK_false, cK_bool, R_op, R_guard, gX_tt, gX_ft, gX_tf, gX_ff, gX_t, gX_f, gX_u, put_none, put_int, put_bool, put_str, put_nil, put_any, put_con, put_sl, put_pf, put_agg, put_tup, put_fn, put_ref, put_ptr, know_tmp, ev_tmp, ev_int, ev_bool, ev_str, ev_nil, ev_func, o_move, o_assign, o_pick, pick_true, pick_false, o_bin, o_un, o_extr, extrK, o_min, o_max, o_call, o_mkfn, evL, opK.allCells, load_eq, p_faddr, p_iaddr, p_idx, p_slice, p_load, p_store, p_alloc, p_box, p_build, p_buildS, p_make, p_conv, p_len, p_append, field_some, fa_ptr, fa_pf, el_some, ia_ref, ia_sl, ia_aptr, ia_apf, ix_str, sl_ref, sl_sl, sl_nil, sl_str, slR_int, slF_int, slN_int, slS_int, okV_some, okL_some, ld_pfa, ld_pf, ld_ptr, ld_sub, ldV_var, ldV_slice, ldS_some, ldE_agg, ldE_one, ldC_agg, ldC_one, stIf_true, stIf_false, st_ptr, st_sub, stV_var, stV_slice, stG_some, stE_some, stC_some, stD_some, al_some, cv_agg, cv_int, cv_bool, cv_str, cv_nil, cv_sl, cv_pf, cv_ref, cv_ptr, cv_fn, okAgg_some, bu_some, fill_nil, fill_cons, fill1_some, mkE_some, mk_slice, bs_slice, bsZ_some, bsF_some, bsC_some, len_ref, len_sl, len_nil, len_str, conv_int, ap_slice, apX_some, apY_some, appX_nil, appX_ref, apXR_some, appY_nil, appY_ref, appY_sl, appY_str, bi_add, bi_sub, bi_mul, bi_quo, bi_rem, bi_eql, bi_neq, bi_lss, bi_leq, bi_gtr, bi_geq, bi_shl, bi_shr, bi_str, bi_bool, bb_eql, bb_neq, bi_sln, bi_refn, bi_niln, nn_eql, nn_neq, sn_eql, sn_neq, ↓ifB_true, ↓ifB_false, ifB_not, tb_get, tb_set, lk_same, lk_ne, lk_nil, tb_kill_u, tb_kill_a, killA, argA, Nat.reduceBEq, List.set_cons_zero, List.set_cons_succ, unK, thenX, inBlockX, bodyQ, resK, oneOr, List.cons_append, List.nil_append, List.length_cons, List.length_nil, Nat.reduceAdd, Nat.reduceSub, List.replicate, minK, maxK, callK, frzA, frzAL, isF, List.map_cons, List.map_nil, frzOkL, frzOk, Bool.and_true, Bool.true_and, true_and, and_true, Bool.false_eq_true, if_false, if_true, Bool.and_self, reduceCtorEq, Option.some.injEq, List.append_nil, cellS, cellsS, getS, hget, hdel, killL, killS, killH, imp, impL, setS, setsA, hset, Nat.reduceMul, Nat.reduceEqDiff, Nat.reduceLeDiff, List.drop_zero, List.take_length, List.drop_succ_cons, List.take_succ_cons, List.take_zero, List.getElem?_cons_zero, List.getElem?_cons_succ, Nat.add_zero, Nat.zero_add, ne_eq, not_false_eq_true, not_true_eq_false, allSc, isSc, Bool.not_eq_true', Option.getD_some, Option.getD_none, Option.map_some, Option.map_none, Option.bind_some, Nat.lt_irrefl, Nat.zero_le, Nat.le_refl, isCell, reduceIte, Bool.not_true, Bool.not_false, false_implies, true_implies, forall_const, implies_true, RetTo_bool, RetTo_int, RetTo_str, RetTo_ib, RetTo_ii, decide_eq_true_eq, decide_eq_false_iff_not, exists_const, Bool.true_eq_false, ge_iff_le, gt_iff_lt, allF, Nat.reduceLT, Int.reduceLE, Int.reduceLT, Int.reduceToNat, Bool.and_false, Bool.false_and, Bool.or_false, Bool.false_or, Bool.or_true, Bool.true_or, conL, conC, chunk, List.flatten_cons, List.flatten_nil, beq_self_eq_true, decide_true]
  refine RL_count (fun i => ⟨tb 19 .any [(0, .ref id none 1 0 W.length), (1, .int .i64 (k + lens (W.take i))), (5, .int .i64 (i : Int))], hset h id (.slice 1 (owss (mkW W k i))), n⟩) (fun _ => True) W.length 0 (head_tb [] (by simp [rhoOk, objIds]) (by simp only [hid, keptV_cons, keptV_nil, tb_get, lk_same, lk_ne, lk_nil, ren, renL, lkp, Nat.reduceLT, Nat.reduceBEq, Nat.reduceEqDiff, reduceIte, and_true, true_and, Nat.not_lt_zero, if_false, if_true, Nat.add_zero, Nat.zero_add]; simp [lens]) (by rw [mkW_zero, hset_get hg]; exact hb)) (by omega) trivial fun i hi _ J hJ => ?_
  have hgi : hget (hset h id (.slice 1 (owss (mkW W k i)))) id = some (.slice 1 (owss (mkW W k i))) := hget_same hg
  by_cases h1 : i < W.length
  · have e1 := mkW_get (k := k) h1
    have hle := lens_le W i
    simp only [tk_3, sz_3, by_3, ag_3, zc_3, tk_23, sz_23, by_23, ag_23, zc_23, tk_34, sz_34, by_34, ag_34, zc_34, md_21, Int.toNat_natCast, hgi, e1, ints_length, R_done, R_exit, R_ret, R_block, R_fork, R_cond, cK_true, cK_false, cK_bool, R_op, R_guard, gX_tt, gX_ft, gX_tf, gX_ff, gX_t, gX_f, gX_u, put_none, put_int, put_bool, put_str, put_nil, put_any, put_con, put_sl, put_pf, put_agg, put_tup, put_fn, put_ref, put_ptr, know_tmp, ev_tmp, ev_int, ev_bool, ev_str, ev_nil, ev_func, o_move, o_assign, o_pick, pick_true, pick_false, o_bin, o_un, o_extr, extrK, o_min, o_max, o_call, o_mkfn, evL, opK.allCells, load_eq, p_faddr, p_iaddr, p_idx, p_slice, p_load, p_store, p_alloc, p_box, p_build, p_buildS, p_make, p_conv, p_len, p_append, field_some, fa_ptr, fa_pf, el_some, ia_ref, ia_sl, ia_aptr, ia_apf, ix_str, sl_ref, sl_sl, sl_nil, sl_str, slR_int, slF_int, slN_int, slS_int, okV_some, okL_some, ld_pfa, ld_pf, ld_ptr, ld_sub, ldV_var, ldV_slice, ldS_some, ldE_agg, ldE_one, ldC_agg, ldC_one, stIf_true, stIf_false, st_ptr, st_sub, stV_var, stV_slice, stG_some, stE_some, stC_some, stD_some, al_some, cv_agg, cv_int, cv_bool, cv_str, cv_nil, cv_sl, cv_pf, cv_ref, cv_ptr, cv_fn, okAgg_some, bu_some, fill_nil, fill_cons, fill1_some, mkE_some, mk_slice, bs_slice, bsZ_some, bsF_some, bsC_some, len_ref, len_sl, len_nil, len_str, conv_int, ap_slice, apX_some, apY_some, appX_nil, appX_ref, apXR_some, appY_nil, appY_ref, appY_sl, appY_str, bi_add, bi_sub, bi_mul, bi_quo, bi_rem, bi_eql, bi_neq, bi_lss, bi_leq, bi_gtr, bi_geq, bi_shl, bi_shr, bi_str, bi_bool, bb_eql, bb_neq, bi_sln, bi_refn, bi_niln, nn_eql, nn_neq, sn_eql, sn_neq, ↓ifB_true, ↓ifB_false, ifB_not, tb_get, tb_set, lk_same, lk_ne, lk_nil, tb_kill_u, tb_kill_a, killA, argA, Nat.reduceBEq, List.set_cons_zero, List.set_cons_succ, unK, thenX, inBlockX, bodyQ, resK, oneOr, List.cons_append, List.nil_append, List.length_cons, List.length_nil, Nat.reduceAdd, Nat.reduceSub, List.replicate, minK, maxK, callK, frzA, frzAL, isF, List.map_cons, List.map_nil, frzOkL, frzOk, Bool.and_true, Bool.true_and, true_and, and_true, Bool.false_eq_true, if_false, if_true, Bool.and_self, reduceCtorEq, Option.some.injEq, List.append_nil, cellS, cellsS, getS, hget, hdel, killL, killS, killH, imp, impL, setS, setsA, hset, Nat.reduceMul, Nat.reduceEqDiff, Nat.reduceLeDiff, List.drop_zero, List.take_length, List.drop_succ_cons, List.take_succ_cons, List.take_zero, List.getElem?_cons_zero, List.getElem?_cons_succ, Nat.add_zero, Nat.zero_add, ne_eq, not_false_eq_true, not_true_eq_false, allSc, isSc, Bool.not_eq_true', Option.getD_some, Option.getD_none, Option.map_some, Option.map_none, Option.bind_some, Nat.lt_irrefl, Nat.zero_le, Nat.le_refl, isCell, reduceIte, Bool.not_true, Bool.not_false, false_implies, true_implies, forall_const, implies_true, RetTo_bool, RetTo_int, RetTo_str, RetTo_ib, RetTo_ii, decide_eq_true_eq, decide_eq_false_iff_not, exists_const, Bool.true_eq_false, ge_iff_le, gt_iff_lt, allF, Nat.reduceLT, Int.reduceLE, Int.reduceLT, Int.reduceToNat, Bool.and_false, Bool.false_and, Bool.or_false, Bool.false_or, Bool.or_true, Bool.true_or, conL, conC, chunk, List.flatten_cons, List.flatten_nil, beq_self_eq_true, decide_true]
    refine ifB_intro (fun _ => ⟨by omega, by omega, _, t21s hC W[i] (k + lens (W.take i)) _ id n i _ hgi e1 (below_set hb) (by omega) (hr _ (List.getElem_mem h1)), ?_⟩) (fun h => by simp at h; omega)
    rintro v h' n' ⟨rfl, rfl, rfl⟩ _
    simp only [tk_3, sz_3, by_3, ag_3, zc_3, tk_23, sz_23, by_23, ag_23, zc_23, tk_34, sz_34, by_34, ag_34, zc_34, md_21, R_done, R_exit, R_ret, R_block, R_fork, R_cond, cK_true, cK_false, cK_bool, R_op, R_guard, gX_tt, gX_ft, gX_tf, gX_ff, gX_t, gX_f, gX_u, put_none, put_int, put_bool, put_str, put_nil, put_any, put_con, put_sl, put_pf, put_agg, put_tup, put_fn, put_ref, put_ptr, know_tmp, ev_tmp, ev_int, ev_bool, ev_str, ev_nil, ev_func, o_move, o_assign, o_pick, pick_true, pick_false, o_bin, o_un, o_extr, extrK, o_min, o_max, o_call, o_mkfn, evL, opK.allCells, load_eq, p_faddr, p_iaddr, p_idx, p_slice, p_load, p_store, p_alloc, p_box, p_build, p_buildS, p_make, p_conv, p_len, p_append, field_some, fa_ptr, fa_pf, el_some, ia_ref, ia_sl, ia_aptr, ia_apf, ix_str, sl_ref, sl_sl, sl_nil, sl_str, slR_int, slF_int, slN_int, slS_int, okV_some, okL_some, ld_pfa, ld_pf, ld_ptr, ld_sub, ldV_var, ldV_slice, ldS_some, ldE_agg, ldE_one, ldC_agg, ldC_one, stIf_true, stIf_false, st_ptr, st_sub, stV_var, stV_slice, stG_some, stE_some, stC_some, stD_some, al_some, cv_agg, cv_int, cv_bool, cv_str, cv_nil, cv_sl, cv_pf, cv_ref, cv_ptr, cv_fn, okAgg_some, bu_some, fill_nil, fill_cons, fill1_some, mkE_some, mk_slice, bs_slice, bsZ_some, bsF_some, bsC_some, len_ref, len_sl, len_nil, len_str, conv_int, ap_slice, apX_some, apY_some, appX_nil, appX_ref, apXR_some, appY_nil, appY_ref, appY_sl, appY_str, bi_add, bi_sub, bi_mul, bi_quo, bi_rem, bi_eql, bi_neq, bi_lss, bi_leq, bi_gtr, bi_geq, bi_shl, bi_shr, bi_str, bi_bool, bb_eql, bb_neq, bi_sln, bi_refn, bi_niln, nn_eql, nn_neq, sn_eql, sn_neq, ↓ifB_true, ↓ifB_false, ifB_not, tb_get, tb_set, lk_same, lk_ne, lk_nil, tb_kill_u, tb_kill_a, killA, argA, Nat.reduceBEq, List.set_cons_zero, List.set_cons_succ, unK, thenX, inBlockX, bodyQ, resK, oneOr, List.cons_append, List.nil_append, List.length_cons, List.length_nil, Nat.reduceAdd, Nat.reduceSub, List.replicate, minK, maxK, callK, frzA, frzAL, isF, List.map_cons, List.map_nil, frzOkL, frzOk, Bool.and_true, Bool.true_and, true_and, and_true, Bool.false_eq_true, if_false, if_true, Bool.and_self, reduceCtorEq, Option.some.injEq, List.append_nil, cellS, cellsS, getS, hget, hdel, killL, killS, killH, imp, impL, setS, setsA, hset, Nat.reduceMul, Nat.reduceEqDiff, Nat.reduceLeDiff, List.drop_zero, List.take_length, List.drop_succ_cons, List.take_succ_cons, List.take_zero, List.getElem?_cons_zero, List.getElem?_cons_succ, Nat.add_zero, Nat.zero_add, ne_eq, not_false_eq_true, not_true_eq_false, allSc, isSc, Bool.not_eq_true', Option.getD_some, Option.getD_none, Option.map_some, Option.map_none, Option.bind_some, Nat.lt_irrefl, Nat.zero_le, Nat.le_refl, isCell, reduceIte, Bool.not_true, Bool.not_false, false_implies, true_implies, forall_const, implies_true, RetTo_bool, RetTo_int, RetTo_str, RetTo_ib, RetTo_ii, decide_eq_true_eq, decide_eq_false_iff_not, exists_const, Bool.true_eq_false, ge_iff_le, gt_iff_lt, allF, Nat.reduceLT, Int.reduceLE, Int.reduceLT, Int.reduceToNat, Bool.and_false, Bool.false_and, Bool.or_false, Bool.false_or, Bool.or_true, Bool.true_or, conL, conC, chunk, List.flatten_cons, List.flatten_nil, beq_self_eq_true, decide_true]
    refine hJ h1 trivial _ (head_tb [] (by simp [rhoOk, objIds]) ?_ ?_)
    · simp only [hid, keptV_cons, keptV_nil, tb_get, lk_same, lk_ne, lk_nil, ren, renL, lkp, Nat.reduceLT, Nat.reduceBEq, Nat.reduceEqDiff, reduceIte, and_true, true_and, Nat.not_lt_zero, if_false, if_true, Nat.add_zero, Nat.zero_add]
      rw [wrap64 (by omega) (by omega), lens_succ h1]
      simp; omega
    · rw [mkW_succ h1, hset_hset, solid_set hs]
      exact below_set hb
  · obtain rfl : i = W.length := by omega
    simp only [tk_3, sz_3, by_3, ag_3, zc_3, tk_23, sz_23, by_23, ag_23, zc_23, tk_34, sz_34, by_34, ag_34, zc_34, md_21, List.take_length, R_done, R_exit, R_ret, R_block, R_fork, R_cond, cK_true, cK_false, cK_bool, R_op, R_guard, gX_tt, gX_ft, gX_tf, gX_ff, gX_t, gX_f, gX_u, put_none, put_int, put_bool, put_str, put_nil, put_any, put_con, put_sl, put_pf, put_agg, put_tup, put_fn, put_ref, put_ptr, know_tmp, ev_tmp, ev_int, ev_bool, ev_str, ev_nil, ev_func, o_move, o_assign, o_pick, pick_true, pick_false, o_bin, o_un, o_extr, extrK, o_min, o_max, o_call, o_mkfn, evL, opK.allCells, load_eq, p_faddr, p_iaddr, p_idx, p_slice, p_load, p_store, p_alloc, p_box, p_build, p_buildS, p_make, p_conv, p_len, p_append, field_some, fa_ptr, fa_pf, el_some, ia_ref, ia_sl, ia_aptr, ia_apf, ix_str, sl_ref, sl_sl, sl_nil, sl_str, slR_int, slF_int, slN_int, slS_int, okV_some, okL_some, ld_pfa, ld_pf, ld_ptr, ld_sub, ldV_var, ldV_slice, ldS_some, ldE_agg, ldE_one, ldC_agg, ldC_one, stIf_true, stIf_false, st_ptr, st_sub, stV_var, stV_slice, stG_some, stE_some, stC_some, stD_some, al_some, cv_agg, cv_int, cv_bool, cv_str, cv_nil, cv_sl, cv_pf, cv_ref, cv_ptr, cv_fn, okAgg_some, bu_some, fill_nil, fill_cons, fill1_some, mkE_some, mk_slice, bs_slice, bsZ_some, bsF_some, bsC_some, len_ref, len_sl, len_nil, len_str, conv_int, ap_slice, apX_some, apY_some, appX_nil, appX_ref, apXR_some, appY_nil, appY_ref, appY_sl, appY_str, bi_add, bi_sub, bi_mul, bi_quo, bi_rem, bi_eql, bi_neq, bi_lss, bi_leq, bi_gtr, bi_geq, bi_shl, bi_shr, bi_str, bi_bool, bb_eql, bb_neq, bi_sln, bi_refn, bi_niln, nn_eql, nn_neq, sn_eql, sn_neq, ↓ifB_true, ↓ifB_false, ifB_not, tb_get, tb_set, lk_same, lk_ne, lk_nil, tb_kill_u, tb_kill_a, killA, argA, Nat.reduceBEq, List.set_cons_zero, List.set_cons_succ, unK, thenX, inBlockX, bodyQ, resK, oneOr, List.cons_append, List.nil_append, List.length_cons, List.length_nil, Nat.reduceAdd, Nat.reduceSub, List.replicate, minK, maxK, callK, frzA, frzAL, isF, List.map_cons, List.map_nil, frzOkL, frzOk, Bool.and_true, Bool.true_and, true_and, and_true, Bool.false_eq_true, if_false, if_true, Bool.and_self, reduceCtorEq, Option.some.injEq, List.append_nil, cellS, cellsS, getS, hget, hdel, killL, killS, killH, imp, impL, setS, setsA, hset, Nat.reduceMul, Nat.reduceEqDiff, Nat.reduceLeDiff, List.drop_zero, List.take_length, List.drop_succ_cons, List.take_succ_cons, List.take_zero, List.getElem?_cons_zero, List.getElem?_cons_succ, Nat.add_zero, Nat.zero_add, ne_eq, not_false_eq_true, not_true_eq_false, allSc, isSc, Bool.not_eq_true', Option.getD_some, Option.getD_none, Option.map_some, Option.map_none, Option.bind_some, Nat.lt_irrefl, Nat.zero_le, Nat.le_refl, isCell, reduceIte, Bool.not_true, Bool.not_false, false_implies, true_implies, forall_const, implies_true, RetTo_bool, RetTo_int, RetTo_str, RetTo_ib, RetTo_ii, decide_eq_true_eq, decide_eq_false_iff_not, exists_const, Bool.true_eq_false, ge_iff_le, gt_iff_lt, allF, Nat.reduceLT, Int.reduceLE, Int.reduceLT, Int.reduceToNat, Bool.and_false, Bool.false_and, Bool.or_false, Bool.false_or, Bool.or_true, Bool.true_or, conL, conC, chunk, List.flatten_cons, List.flatten_nil, beq_self_eq_true, decide_true]
    refine ifB_intro (fun h => by simp at h) (fun h => ?_)
    trivial
theorem t20 (W : List (List Int)) (k : Int) (h : Heap) (id n : Nat) (hg : hget h id = some (.slice 1 (owss W))) (hb : below n h) (hs : solid h) (hk : 0 ≤ k ∧ k < 2^40) (hW : W.length < 2^50) (hl : lens W < 2^40) (hr : ∀ r ∈ W, r.length < 2^50) : C 20 [.agg [.ref id none 1 0 W.length], .int .i64 k] h n (fun v h' n' => v = .int .i64 (k + lens W) ∧ n' = n + 1 ∧ h' = (n, .var [.ref id none 1 0 W.length]) :: hset h id (.slice 1 (owss (mkW W k W.length)))) := by
  have hid := below_lt hb hg
  have hne : ¬ n = id := by omega
  refine Closed.runT hC Try.func20 h20 nt20 r20 (by decide) (Nat.le_of_ble_eq_true rfl) ?_
  simp only [c20, tk_3, sz_3, by_3, ag_3, zc_3, tk_23, sz_23, by_23, ag_23, zc_23, tk_34, sz_34, by_34, ag_34, zc_34, tk_40, sz_40, by_40, ag_40, zc_40, pl_40, md_49, R_done, R_exit, R_ret, R_block, R_fork, R_cond, cK_true, cK_false, cK_bool, R_op, R_guard, gX_tt, gX_ft, gX_tf, gX_ff, gX_t, gX_f, gX_u, put_none, put_int, put_bool, put_str, put_nil, put_any, put_con, put_sl, put_pf, put_agg, put_tup, put_fn, put_ref, put_ptr, know_tmp, ev_tmp, ev_int, ev_bool, ev_str, ev_nil, ev_func, o_move, o_assign, o_pick, pick_true, pick_false, o_bin, o_un, o_extr, extrK, o_min, o_max, o_call, o_mkfn, evL, opK.allCells, load_eq, p_faddr, p_iaddr, p_idx, p_slice, p_load, p_store, p_alloc, p_box, p_build, p_buildS, p_make, p_conv, p_len, p_append, field_some, fa_ptr, fa_pf, el_some, ia_ref, ia_sl, ia_aptr, ia_apf, ix_str, sl_ref, sl_sl, sl_nil, sl_str, slR_int, slF_int, slN_int, slS_int, okV_some, okL_some, ld_pfa, ld_pf, ld_ptr, ld_sub, ldV_var, ldV_slice, ldS_some, ldE_agg, ldE_one, ldC_agg, ldC_one, stIf_true, stIf_false, st_ptr, st_sub, stV_var, stV_slice, stG_some, stE_some, stC_some, stD_some, al_some, cv_agg, cv_int, cv_bool, cv_str, cv_nil, cv_sl, cv_pf, cv_ref, cv_ptr, cv_fn, okAgg_some, bu_some, fill_nil, fill_cons, fill1_some, mkE_some, mk_slice, bs_slice, bsZ_some, bsF_some, bsC_some, len_ref, len_sl, len_nil, len_str, conv_int, ap_slice, apX_some, apY_some, appX_nil, appX_ref, apXR_some, appY_nil, appY_ref, appY_sl, appY_str, bi_add, bi_sub, bi_mul, bi_quo, bi_rem, bi_eql, bi_neq, bi_lss, bi_leq, bi_gtr, bi_geq, bi_shl, bi_shr, bi_str, bi_bool, bb_eql, bb_neq, bi_sln, bi_refn, bi_niln, nn_eql, nn_neq, sn_eql, sn_neq, ↓ifB_true, ↓ifB_false, ifB_not, tb_get, tb_set, lk_same, lk_ne, lk_nil, tb_kill_u, tb_kill_a, killA, argA, Nat.reduceBEq, List.set_cons_zero, List.set_cons_succ, unK, thenX, inBlockX, bodyQ, resK, oneOr, List.cons_append, List.nil_append, List.length_cons, List.length_nil, Nat.reduceAdd, Nat.reduceSub, List.replicate, minK, maxK, callK, frzA, frzAL, isF, List.map_cons, List.map_nil, frzOkL, frzOk, Bool.and_true, Bool.true_and, true_and, and_true, Bool.false_eq_true, if_false, if_true, Bool.and_self, reduceCtorEq, Option.some.injEq, List.append_nil, cellS, cellsS, getS, hget, hdel, killL, killS, killH, imp, impL, setS, setsA, hset, Nat.reduceMul, Nat.reduceEqDiff, Nat.reduceLeDiff, List.drop_zero, List.take_length, List.drop_succ_cons, List.take_succ_cons, List.take_zero, List.getElem?_cons_zero, List.getElem?_cons_succ, Nat.add_zero, Nat.zero_add, ne_eq, not_false_eq_true, not_true_eq_false, allSc, isSc, Bool.not_eq_true', Option.getD_some, Option.getD_none, Option.map_some, Option.map_none, Option.bind_some, Nat.lt_irrefl, Nat.zero_le, Nat.le_refl, isCell, reduceIte, Bool.not_true, Bool.not_false, false_implies, true_implies, forall_const, implies_true, RetTo_bool, RetTo_int, RetTo_str, RetTo_ib, RetTo_ii, decide_eq_true_eq, decide_eq_false_iff_not, exists_const, Bool.true_eq_false, ge_iff_le, gt_iff_lt, allF, Nat.reduceLT, Int.reduceLE, Int.reduceLT, Int.reduceToNat, Bool.and_false, Bool.false_and, Bool.or_false, Bool.false_or, Bool.or_true, Bool.true_or, conL, conC, chunk, List.flatten_cons, List.flatten_nil, beq_self_eq_true, decide_true]
  have hb' : below (n + 1) ((n, .var [.ref id none 1 0 W.length]) :: h) :=
    below_mk (by omega) (by simp only [renO, renL, ren, if_pos (show id < n + 1 by omega)]) (below_succ hb)
  refine ⟨_, t49 hC W k _ id (n + 1) (by simp only [hget, if_neg hne]; exact hg) hb' ?_ hk hW hl hr, ?_⟩
  · unfold solid at *
    simp only [killH, killL, killS, hs]
  rintro v h' n' ⟨rfl, rfl, rfl⟩ _
  have hs2 := solid_set (id := id) (sz := 1) (es := owss (mkW W k W.length)) hs
  unfold solid at hs2
  simp only [hset, if_neg hne, hs2, tk_3, sz_3, by_3, ag_3, zc_3, tk_23, sz_23, by_23, ag_23, zc_23, tk_34, sz_34, by_34, ag_34, zc_34, tk_40, sz_40, by_40, ag_40, zc_40, pl_40, md_49, R_done, R_exit, R_ret, R_block, R_fork, R_cond, cK_true, cK_false, cK_bool, R_op, R_guard, gX_tt, gX_ft, gX_tf, gX_ff, gX_t, gX_f, gX_u, put_none, put_int, put_bool, put_str, put_nil, put_any, put_con, put_sl, put_pf, put_agg, put_tup, put_fn, put_ref, put_ptr, know_tmp, ev_tmp, ev_int, ev_bool, ev_str, ev_nil, ev_func, o_move, o_assign, o_pick, pick_true, pick_false, o_bin, o_un, o_extr, extrK, o_min, o_max, o_call, o_mkfn, evL, opK.allCells, load_eq, p_faddr, p_iaddr, p_idx, p_slice, p_load, p_store, p_alloc, p_box, p_build, p_buildS, p_make, p_conv, p_len, p_append, field_some, fa_ptr, fa_pf, el_some, ia_ref, ia_sl, ia_aptr, ia_apf, ix_str, sl_ref, sl_sl, sl_nil, sl_str, slR_int, slF_int, slN_int, slS_int, okV_some, okL_some, ld_pfa, ld_pf, ld_ptr, ld_sub, ldV_var, ldV_slice, ldS_some, ldE_agg, ldE_one, ldC_agg, ldC_one, stIf_true, stIf_false, st_ptr, st_sub, stV_var, stV_slice, stG_some, stE_some, stC_some, stD_some, al_some, cv_agg, cv_int, cv_bool, cv_str, cv_nil, cv_sl, cv_pf, cv_ref, cv_ptr, cv_fn, okAgg_some, bu_some, fill_nil, fill_cons, fill1_some, mkE_some, mk_slice, bs_slice, bsZ_some, bsF_some, bsC_some, len_ref, len_sl, len_nil, len_str, conv_int, ap_slice, apX_some, apY_some, appX_nil, appX_ref, apXR_some, appY_nil, appY_ref, appY_sl, appY_str, bi_add, bi_sub, bi_mul, bi_quo, bi_rem, bi_eql, bi_neq, bi_lss, bi_leq, bi_gtr, bi_geq, bi_shl, bi_shr, bi_str, bi_bool, bb_eql, bb_neq, bi_sln, bi_refn, bi_niln, nn_eql, nn_neq, sn_eql, sn_neq, ↓ifB_true, ↓ifB_false, ifB_not, tb_get, tb_set, lk_same, lk_ne, lk_nil, tb_kill_u, tb_kill_a, killA, argA, Nat.reduceBEq, List.set_cons_zero, List.set_cons_succ, unK, thenX, inBlockX, bodyQ, resK, oneOr, List.cons_append, List.nil_append, List.length_cons, List.length_nil, Nat.reduceAdd, Nat.reduceSub, List.replicate, minK, maxK, callK, frzA, frzAL, isF, List.map_cons, List.map_nil, frzOkL, frzOk, Bool.and_true, Bool.true_and, true_and, and_true, Bool.false_eq_true, if_false, if_true, Bool.and_self, reduceCtorEq, Option.some.injEq, List.append_nil, cellS, cellsS, getS, hget, hdel, killL, killS, killH, imp, impL, setS, setsA, hset, Nat.reduceMul, Nat.reduceEqDiff, Nat.reduceLeDiff, List.drop_zero, List.take_length, List.drop_succ_cons, List.take_succ_cons, List.take_zero, List.getElem?_cons_zero, List.getElem?_cons_succ, Nat.add_zero, Nat.zero_add, ne_eq, not_false_eq_true, not_true_eq_false, allSc, isSc, Bool.not_eq_true', Option.getD_some, Option.getD_none, Option.map_some, Option.map_none, Option.bind_some, Nat.lt_irrefl, Nat.zero_le, Nat.le_refl, isCell, reduceIte, Bool.not_true, Bool.not_false, false_implies, true_implies, forall_const, implies_true, RetTo_bool, RetTo_int, RetTo_str, RetTo_ib, RetTo_ii, decide_eq_true_eq, decide_eq_false_iff_not, exists_const, Bool.true_eq_false, ge_iff_le, gt_iff_lt, allF, Nat.reduceLT, Int.reduceLE, Int.reduceLT, Int.reduceToNat, Bool.and_false, Bool.false_and, Bool.or_false, Bool.false_or, Bool.or_true, Bool.true_or, conL, conC, chunk, List.flatten_cons, List.flatten_nil, beq_self_eq_true, decide_true]
end
end Go.Proofs.Ytnajmggefapeaaa.X
