/- Frame: the reference's pool: Push, Pop: when they refuse. -/
import Derived.Test.YtobcboiemibkkaaRef3
namespace Go.Proofs.YtobcboiemibkkaaT
open Go Go.Proofs.YtobcboiemibkkaaE Go.Proofs.YtobcboiemibkkaaB
set_option linter.unusedSimpArgs false
set_option linter.unusedVariables false
attribute [local congr] Post_cg PostL_cg condP_cg

theorem r_st {h : Mem} {nx w : Nat} {F : List Fr} {U : List Bool} {s : Int} {A B : List (List Int)} {X : List (List AV)} {R : List (AV × AV)} (r : RPS h nx w F U s A B X R) (i : Nat) (hi : i < U.length) (hu : U[i] = true) (hR : i < R.length) : (rcells X s)[i * 9 + 7]? = some R[i].1 ∧ (rcells X s)[i * 9 + 8]? = some R[i].2 := by
  have hU := r.hU
  have hX := r.x9.n
  have e := r.fr i (by omega) hi (by have := r.hF; omega) hR
  rw [hu] at e
  exact ⟨by rw [r_fld r.x9 s (i := i) (by omega) (by omega), e]; rfl, by rw [r_fld r.x9 s (i := i) (by omega) (by omega), e]; rfl⟩
theorem rpush_no {h : Mem} {nx w : Nat} {i : Int} (x : Rd 30 33 [.ptr w 0, .int .i64 i] h nx (.bool false)) (v : Int) : Rd 80 24 [.ptr w 0, .int .i64 i, .int .u32 v] h nx (.bool false) := by
  intro lg hlg
  obtain ⟨tc, x1⟩ := x.at lg hlg
  rw [xF_fr T24]
  simp (maxSteps := 4000000) [↓step_none, ↓step_t, ↓step_f, ↓step_nt, ↓step_nf, ↓op_load, ↓op_store, ↓op_slice, ↓op_app, ↓P_skip, ↓P_exit, ↓P_ret, ↓P_seq, ↓P_cond, ↓P_blk, ↓P_reg, ↓P_draw, ↓P_nil, ↓P_cons, condP_t, condP_f, dum_ab, stepR, want_none, want_some, opRun, ev_t, ev_c, put_none, put_some, resAll, res_tmp, res_cell, oneOf, minI, maxI, min2A, max2A, mn2, mx2, mx3, rdBlk, wrBlk, newBlk, partA, abin, ibin, isShift, AV.cells, AV.one, lay, sub, fillA, lenA, toN, allApart, apartFrom, Nat.testBit, Mem.blk_set_same, Mem.blk_set_ne, Mem.set_set, bit_zero, bit_self, lowBits_or, lowBits_zero, len_setT, sl_same, sl_ne, len_frame, sl_frame,↓op_len, lenOp_slc, lenOp_nils, ↓Post.some, ↓Post_bind, ↓Post_ret, ↓Post_draw, ↓PostL_nil, ↓PostL_cons, Post_fail, ofOpt_some, ofOpt_none, eA_b, eA_i, eA_s, eA_nn, eA_np, eA_pn, eA_lnn, eA_lnp, eA_lpn, eA_i2, eA_i3, blt_dec, Nat.add_assoc, keeps_refl, keeps_at, keeps_up, new_one, and_pow, bit_hi, lowBits_pow, ble_dec, fr_refl, fr_at, fr_up, fr_p, dum_ab, F24, x1]
theorem rpush_full {h : Mem} {nx w : Nat} {F : List Fr} {U : List Bool} {s : Int} {A B : List (List Int)} {X : List (List AV)} {R : List (AV × AV)} (r : RPS h nx w F U s A B X R) (i : Nat) (hi : i < U.length) (hB : i < B.length) (hu : U[i] = true) (v : Int) (hl : 8 ≤ B[i].length) : Rd 80 24 [.ptr w 0, .int .i64 i, .int .u32 v] h nx (.bool false) := by
  intro lg hlg
  have hU := r.hU
  have hR := r.hR
  obtain ⟨t, hb⟩ := r.hb
  obtain ⟨tc, x1⟩ := (has_in r i hi).at lg hlg
  rw [hu] at x1
  have c2 : (i : Int) < 24 := by omega
  have c3 : i < 24 := by omega
  have c8 : (8 : Int) ≤ (B[i].length : Int) := by omega
  have hui : U[i]? = some true := by rw [List.getElem?_eq_getElem hi, hu]
  have l8 := fun lg => ld_at hb r.hw (r_st r i hi hu (by omega)).2 lg
  have lx := (r.rB i (by omega) hB hui).lenOp
  rw [xF_fr T24]
  simp (maxSteps := 4000000) [↓step_none, ↓step_t, ↓step_f, ↓step_nt, ↓step_nf, ↓op_load, ↓op_store, ↓op_slice, ↓op_app, ↓P_skip, ↓P_exit, ↓P_ret, ↓P_seq, ↓P_cond, ↓P_blk, ↓P_reg, ↓P_draw, ↓P_nil, ↓P_cons, condP_t, condP_f, dum_ab, stepR, want_none, want_some, opRun, ev_t, ev_c, put_none, put_some, resAll, res_tmp, res_cell, oneOf, minI, maxI, min2A, max2A, mn2, mx2, mx3, rdBlk, wrBlk, newBlk, partA, abin, ibin, isShift, AV.cells, AV.one, lay, sub, fillA, lenA, toN, allApart, apartFrom, Nat.testBit, Mem.blk_set_same, Mem.blk_set_ne, Mem.set_set, bit_zero, bit_self, lowBits_or, lowBits_zero, len_setT, sl_same, sl_ne, len_frame, sl_frame,↓op_len, lenOp_slc, lenOp_nils, ↓Post.some, ↓Post_bind, ↓Post_ret, ↓Post_draw, ↓PostL_nil, ↓PostL_cons, Post_fail, ofOpt_some, ofOpt_none, eA_b, eA_i, eA_s, eA_nn, eA_np, eA_pn, eA_lnn, eA_lnp, eA_lpn, eA_i2, eA_i3, blt_dec, Nat.add_assoc, keeps_refl, keeps_at, keeps_up, new_one, and_pow, bit_hi, lowBits_pow, ble_dec, fr_refl, fr_at, fr_up, fr_p, dum_ab, F24, x1, c2, c3, l8, lx, c8]
theorem rpop_no {h : Mem} {nx w : Nat} {i : Int} (x : Rd 30 33 [.ptr w 0, .int .i64 i] h nx (.bool false)) : Rd 80 25 [.ptr w 0, .int .i64 i] h nx (.tup [.int .u32 0, .bool false]) := by
  intro lg hlg
  obtain ⟨tc, x1⟩ := x.at lg hlg
  rw [xF_fr T25]
  simp (maxSteps := 4000000) [↓step_none, ↓step_t, ↓step_f, ↓step_nt, ↓step_nf, ↓op_load, ↓op_store, ↓op_slice, ↓op_app, ↓P_skip, ↓P_exit, ↓P_ret, ↓P_seq, ↓P_cond, ↓P_blk, ↓P_reg, ↓P_draw, ↓P_nil, ↓P_cons, condP_t, condP_f, dum_ab, stepR, want_none, want_some, opRun, ev_t, ev_c, put_none, put_some, resAll, res_tmp, res_cell, oneOf, minI, maxI, min2A, max2A, mn2, mx2, mx3, rdBlk, wrBlk, newBlk, partA, abin, ibin, isShift, AV.cells, AV.one, lay, sub, fillA, lenA, toN, allApart, apartFrom, Nat.testBit, Mem.blk_set_same, Mem.blk_set_ne, Mem.set_set, bit_zero, bit_self, lowBits_or, lowBits_zero, len_setT, sl_same, sl_ne, len_frame, sl_frame,↓op_len, lenOp_slc, lenOp_nils, ↓Post.some, ↓Post_bind, ↓Post_ret, ↓Post_draw, ↓PostL_nil, ↓PostL_cons, Post_fail, ofOpt_some, ofOpt_none, eA_b, eA_i, eA_s, eA_nn, eA_np, eA_pn, eA_lnn, eA_lnp, eA_lpn, eA_i2, eA_i3, blt_dec, Nat.add_assoc, keeps_refl, keeps_at, keeps_up, new_one, and_pow, bit_hi, lowBits_pow, ble_dec, fr_refl, fr_at, fr_up, fr_p, dum_ab, F25, x1]
theorem rpop_nil {h : Mem} {nx w : Nat} {F : List Fr} {U : List Bool} {s : Int} {A B : List (List Int)} {X : List (List AV)} {R : List (AV × AV)} (r : RPS h nx w F U s A B X R) (i : Nat) (hi : i < U.length) (hB : i < B.length) (hu : U[i] = true) (hl : B[i] = []) : Rd 80 25 [.ptr w 0, .int .i64 i] h nx (.tup [.int .u32 0, .bool false]) := by
  intro lg hlg
  have hU := r.hU
  have hR := r.hR
  obtain ⟨t, hb⟩ := r.hb
  obtain ⟨tc, x1⟩ := (has_in r i hi).at lg hlg
  rw [hu] at x1
  have c2 : (i : Int) < 24 := by omega
  have c3 : i < 24 := by omega
  have hui : U[i]? = some true := by rw [List.getElem?_eq_getElem hi, hu]
  have l8 := fun lg => ld_at hb r.hw (r_st r i hi hu (by omega)).2 lg
  have lx := (r.rB i (by omega) hB hui).lenOp
  rw [hl] at lx
  rw [xF_fr T25]
  simp (maxSteps := 4000000) [↓step_none, ↓step_t, ↓step_f, ↓step_nt, ↓step_nf, ↓op_load, ↓op_store, ↓op_slice, ↓op_app, ↓P_skip, ↓P_exit, ↓P_ret, ↓P_seq, ↓P_cond, ↓P_blk, ↓P_reg, ↓P_draw, ↓P_nil, ↓P_cons, condP_t, condP_f, dum_ab, stepR, want_none, want_some, opRun, ev_t, ev_c, put_none, put_some, resAll, res_tmp, res_cell, oneOf, minI, maxI, min2A, max2A, mn2, mx2, mx3, rdBlk, wrBlk, newBlk, partA, abin, ibin, isShift, AV.cells, AV.one, lay, sub, fillA, lenA, toN, allApart, apartFrom, Nat.testBit, Mem.blk_set_same, Mem.blk_set_ne, Mem.set_set, bit_zero, bit_self, lowBits_or, lowBits_zero, len_setT, sl_same, sl_ne, len_frame, sl_frame,↓op_len, lenOp_slc, lenOp_nils, ↓Post.some, ↓Post_bind, ↓Post_ret, ↓Post_draw, ↓PostL_nil, ↓PostL_cons, Post_fail, ofOpt_some, ofOpt_none, eA_b, eA_i, eA_s, eA_nn, eA_np, eA_pn, eA_lnn, eA_lnp, eA_lpn, eA_i2, eA_i3, blt_dec, Nat.add_assoc, keeps_refl, keeps_at, keeps_up, new_one, and_pow, bit_hi, lowBits_pow, ble_dec, fr_refl, fr_at, fr_up, fr_p, dum_ab, F25, x1, c2, c3, l8, lx]
theorem rslot_no {h : Mem} {nx w : Nat} {i : Int} (x : Rd 30 33 [.ptr w 0, .int .i64 i] h nx (.bool false)) (k v : Int) : Rd 80 26 [.ptr w 0, .int .i64 i, .int .i64 k, .int .u32 v] h nx (.bool false) := by
  intro lg hlg
  obtain ⟨tc, x1⟩ := x.at lg hlg
  rw [xF_fr T26]
  simp (maxSteps := 4000000) [↓step_none, ↓step_t, ↓step_f, ↓step_nt, ↓step_nf, ↓op_load, ↓op_store, ↓op_slice, ↓op_app, ↓P_skip, ↓P_exit, ↓P_ret, ↓P_seq, ↓P_cond, ↓P_blk, ↓P_reg, ↓P_draw, ↓P_nil, ↓P_cons, condP_t, condP_f, dum_ab, stepR, want_none, want_some, opRun, ev_t, ev_c, put_none, put_some, resAll, res_tmp, res_cell, oneOf, minI, maxI, min2A, max2A, mn2, mx2, mx3, rdBlk, wrBlk, newBlk, partA, abin, ibin, isShift, AV.cells, AV.one, lay, sub, fillA, lenA, toN, allApart, apartFrom, Nat.testBit, Mem.blk_set_same, Mem.blk_set_ne, Mem.set_set, bit_zero, bit_self, lowBits_or, lowBits_zero, len_setT, sl_same, sl_ne, len_frame, sl_frame,↓op_len, lenOp_slc, lenOp_nils, ↓Post.some, ↓Post_bind, ↓Post_ret, ↓Post_draw, ↓PostL_nil, ↓PostL_cons, Post_fail, ofOpt_some, ofOpt_none, eA_b, eA_i, eA_s, eA_nn, eA_np, eA_pn, eA_lnn, eA_lnp, eA_lpn, eA_i2, eA_i3, blt_dec, Nat.add_assoc, keeps_refl, keeps_at, keeps_up, new_one, and_pow, bit_hi, lowBits_pow, ble_dec, fr_refl, fr_at, fr_up, fr_p, dum_ab, F26, x1]
theorem rslot_out {h : Mem} {nx w : Nat} {F : List Fr} {U : List Bool} {s : Int} {A B : List (List Int)} {X : List (List AV)} {R : List (AV × AV)} (r : RPS h nx w F U s A B X R) (i : Nat) (hi : i < U.length) (hA : i < A.length) (hu : U[i] = true) (k v : Int) (hk : k < 0 ∨ (A[i].length : Int) ≤ k) : Rd 80 26 [.ptr w 0, .int .i64 i, .int .i64 k, .int .u32 v] h nx (.bool false) := by
  intro lg hlg
  have hU := r.hU
  have hR := r.hR
  obtain ⟨t, hb⟩ := r.hb
  obtain ⟨tc, x1⟩ := (has_in r i hi).at lg hlg
  rw [hu] at x1
  have c2 : (i : Int) < 24 := by omega
  have c3 : i < 24 := by omega
  have hui : U[i]? = some true := by rw [List.getElem?_eq_getElem hi, hu]
  have l7 := fun lg => ld_at hb r.hw (r_st r i hi hu (by omega)).1 lg
  have lx := (r.rA i (by omega) hA hui).lenOp
  rw [xF_fr T26]
  by_cases c : k < 0
  · simp (maxSteps := 4000000) [↓step_none, ↓step_t, ↓step_f, ↓step_nt, ↓step_nf, ↓op_load, ↓op_store, ↓op_slice, ↓op_app, ↓P_skip, ↓P_exit, ↓P_ret, ↓P_seq, ↓P_cond, ↓P_blk, ↓P_reg, ↓P_draw, ↓P_nil, ↓P_cons, condP_t, condP_f, dum_ab, stepR, want_none, want_some, opRun, ev_t, ev_c, put_none, put_some, resAll, res_tmp, res_cell, oneOf, minI, maxI, min2A, max2A, mn2, mx2, mx3, rdBlk, wrBlk, newBlk, partA, abin, ibin, isShift, AV.cells, AV.one, lay, sub, fillA, lenA, toN, allApart, apartFrom, Nat.testBit, Mem.blk_set_same, Mem.blk_set_ne, Mem.set_set, bit_zero, bit_self, lowBits_or, lowBits_zero, len_setT, sl_same, sl_ne, len_frame, sl_frame,↓op_len, lenOp_slc, lenOp_nils, ↓Post.some, ↓Post_bind, ↓Post_ret, ↓Post_draw, ↓PostL_nil, ↓PostL_cons, Post_fail, ofOpt_some, ofOpt_none, eA_b, eA_i, eA_s, eA_nn, eA_np, eA_pn, eA_lnn, eA_lnp, eA_lpn, eA_i2, eA_i3, blt_dec, Nat.add_assoc, keeps_refl, keeps_at, keeps_up, new_one, and_pow, bit_hi, lowBits_pow, ble_dec, fr_refl, fr_at, fr_up, fr_p, dum_ab, F26, x1, c2, c3, l7, lx, c]
  · have c4 : (A[i].length : Int) ≤ k := by omega
    simp (maxSteps := 4000000) [↓step_none, ↓step_t, ↓step_f, ↓step_nt, ↓step_nf, ↓op_load, ↓op_store, ↓op_slice, ↓op_app, ↓P_skip, ↓P_exit, ↓P_ret, ↓P_seq, ↓P_cond, ↓P_blk, ↓P_reg, ↓P_draw, ↓P_nil, ↓P_cons, condP_t, condP_f, dum_ab, stepR, want_none, want_some, opRun, ev_t, ev_c, put_none, put_some, resAll, res_tmp, res_cell, oneOf, minI, maxI, min2A, max2A, mn2, mx2, mx3, rdBlk, wrBlk, newBlk, partA, abin, ibin, isShift, AV.cells, AV.one, lay, sub, fillA, lenA, toN, allApart, apartFrom, Nat.testBit, Mem.blk_set_same, Mem.blk_set_ne, Mem.set_set, bit_zero, bit_self, lowBits_or, lowBits_zero, len_setT, sl_same, sl_ne, len_frame, sl_frame,↓op_len, lenOp_slc, lenOp_nils, ↓Post.some, ↓Post_bind, ↓Post_ret, ↓Post_draw, ↓PostL_nil, ↓PostL_cons, Post_fail, ofOpt_some, ofOpt_none, eA_b, eA_i, eA_s, eA_nn, eA_np, eA_pn, eA_lnn, eA_lnp, eA_lpn, eA_i2, eA_i3, blt_dec, Nat.add_assoc, keeps_refl, keeps_at, keeps_up, new_one, and_pow, bit_hi, lowBits_pow, ble_dec, fr_refl, fr_at, fr_up, fr_p, dum_ab, F26, x1, c2, c3, l7, lx, c, c4]
end Go.Proofs.YtobcboiemibkkaaT
