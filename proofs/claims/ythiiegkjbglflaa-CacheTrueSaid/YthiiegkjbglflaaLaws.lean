/- Cache: play and known answer; CacheLines; CachePlays. -/
import Derived.Test.YthiiegkjbglflaaPlay
namespace Go.Proofs.YthiiegkjbglflaaT
open Go Go.Proofs.YthiiegkjbglflaaE Go.Proofs.YthiiegkjbglflaaB
set_option linter.unusedSimpArgs false
set_option linter.unusedVariables false
attribute [local congr] Post_cg PostL_cg condP_cg

theorem play_ans (h : Mem) (nx : Nat) (v : AV) (l : List (List AV)) (hr : SRow 4 v h nx l) (hl : ∀ x ∈ l, Ask4 x) : Ans T 500 7 [v] h nx (.bool true) := by
  unfold Ans
  rw [xF_fr T7]
  have e : ∀ n h nx lg, xF T (n + 10) 10 [] h nx lg = some ⟨.ptr nx 0, h.set nx (some (cb empty 0 0)), nx + 1, 0, 0⟩ := new_eq
  have z : Z0.length = 130 := rlen empty_len 0 0
  simp [↓P_skip, ↓P_exit, ↓P_ret, ↓P_seq, ↓P_cond, ↓P_blk, ↓P_reg, ↓P_draw, ↓P_nil, ↓P_cons, condP_t, condP_f, dum_ab, stepR, want_none, want_some, opRun, ev_t, ev_c, put_none, put_some, resAll, res_tmp, res_cell, oneOf, minI, maxI, min2A, max2A, mn2, mx2, mx3, rdBlk, wrBlk, newBlk, partA, abin, ibin, isShift, AV.cells, AV.one, lay, sub, fillA, lenA, toN, allApart, apartFrom, Nat.testBit, Mem.blk_set_same, Mem.blk_set_ne, Mem.set_set, bit_zero, bit_self, lowBits_or, lowBits_zero, len_setT, sl_same, sl_ne, len_frame, sl_frame,↓op_len, lenOp_slc, lenOp_nils, ↓Post.some, ↓Post_bind, ↓Post_ret, ↓Post_draw, ↓PostL_nil, ↓PostL_cons, Post_fail, ofOpt_some, ofOpt_none, eA_b, eA_i, eA_s, eA_nn, eA_np, eA_pn, eA_lnn, eA_lnp, eA_lpn, eA_i2, eA_i3, blt_dec, Nat.add_assoc, keeps_refl, keeps_at, keeps_up, new_one, and_pow, bit_hi, lowBits_pow, ble_dec, fr_refl, fr_at, fr_up, fr_p, dum_ab, F7, e]
  refine Post.loop (play_round nx h v l hr hl) 150 ⟨0, nx, nx + 1, empty, 0, 0, rfl, by omega, by simp [↓P_skip, ↓P_exit, ↓P_ret, ↓P_seq, ↓P_cond, ↓P_blk, ↓P_reg, ↓P_draw, ↓P_nil, ↓P_cons, condP_t, condP_f, dum_ab, stepR, want_none, want_some, opRun, ev_t, ev_c, put_none, put_some, resAll, res_tmp, res_cell, oneOf, minI, maxI, min2A, max2A, mn2, mx2, mx3, rdBlk, wrBlk, newBlk, partA, abin, ibin, isShift, AV.cells, AV.one, lay, sub, fillA, lenA, toN, allApart, apartFrom, Nat.testBit, Mem.blk_set_same, Mem.blk_set_ne, Mem.set_set, bit_zero, bit_self, lowBits_or, lowBits_zero, len_setT, sl_same, sl_ne, len_frame, sl_frame,↓op_len, lenOp_slc, lenOp_nils, ↓Post.some, ↓Post_bind, ↓Post_ret, ↓Post_draw, ↓PostL_nil, ↓PostL_cons, Post_fail, ofOpt_some, ofOpt_none, eA_b, eA_i, eA_s, eA_nn, eA_np, eA_pn, eA_lnn, eA_lnp, eA_lpn, eA_i2, eA_i3, blt_dec, Nat.add_assoc, keeps_refl, keeps_at, keeps_up], empty_len, by simp [↓P_skip, ↓P_exit, ↓P_ret, ↓P_seq, ↓P_cond, ↓P_blk, ↓P_reg, ↓P_draw, ↓P_nil, ↓P_cons, condP_t, condP_f, dum_ab, stepR, want_none, want_some, opRun, ev_t, ev_c, put_none, put_some, resAll, res_tmp, res_cell, oneOf, minI, maxI, min2A, max2A, mn2, mx2, mx3, rdBlk, wrBlk, newBlk, partA, abin, ibin, isShift, AV.cells, AV.one, lay, sub, fillA, lenA, toN, allApart, apartFrom, Nat.testBit, Mem.blk_set_same, Mem.blk_set_ne, Mem.set_set, bit_zero, bit_self, lowBits_or, lowBits_zero, len_setT, sl_same, sl_ne, len_frame, sl_frame,↓op_len, lenOp_slc, lenOp_nils, ↓Post.some, ↓Post_bind, ↓Post_ret, ↓Post_draw, ↓PostL_nil, ↓PostL_cons, Post_fail, ofOpt_some, ofOpt_none, eA_b, eA_i, eA_s, eA_nn, eA_np, eA_pn, eA_lnn, eA_lnp, eA_lpn, eA_i2, eA_i3, blt_dec, Nat.add_assoc, keeps_refl, keeps_at, keeps_up], by simp [↓P_skip, ↓P_exit, ↓P_ret, ↓P_seq, ↓P_cond, ↓P_blk, ↓P_reg, ↓P_draw, ↓P_nil, ↓P_cons, condP_t, condP_f, dum_ab, stepR, want_none, want_some, opRun, ev_t, ev_c, put_none, put_some, resAll, res_tmp, res_cell, oneOf, minI, maxI, min2A, max2A, mn2, mx2, mx3, rdBlk, wrBlk, newBlk, partA, abin, ibin, isShift, AV.cells, AV.one, lay, sub, fillA, lenA, toN, allApart, apartFrom, Nat.testBit, Mem.blk_set_same, Mem.blk_set_ne, Mem.set_set, bit_zero, bit_self, lowBits_or, lowBits_zero, len_setT, sl_same, sl_ne, len_frame, sl_frame,↓op_len, lenOp_slc, lenOp_nils, ↓Post.some, ↓Post_bind, ↓Post_ret, ↓Post_draw, ↓PostL_nil, ↓PostL_cons, Post_fail, ofOpt_some, ofOpt_none, eA_b, eA_i, eA_s, eA_nn, eA_np, eA_pn, eA_lnn, eA_lnp, eA_lpn, eA_i2, eA_i3, blt_dec, Nat.add_assoc, keeps_refl, keeps_at, keeps_up], by simp [↓P_skip, ↓P_exit, ↓P_ret, ↓P_seq, ↓P_cond, ↓P_blk, ↓P_reg, ↓P_draw, ↓P_nil, ↓P_cons, condP_t, condP_f, dum_ab, stepR, want_none, want_some, opRun, ev_t, ev_c, put_none, put_some, resAll, res_tmp, res_cell, oneOf, minI, maxI, min2A, max2A, mn2, mx2, mx3, rdBlk, wrBlk, newBlk, partA, abin, ibin, isShift, AV.cells, AV.one, lay, sub, fillA, lenA, toN, allApart, apartFrom, Nat.testBit, Mem.blk_set_same, Mem.blk_set_ne, Mem.set_set, bit_zero, bit_self, lowBits_or, lowBits_zero, len_setT, sl_same, sl_ne, len_frame, sl_frame,↓op_len, lenOp_slc, lenOp_nils, ↓Post.some, ↓Post_bind, ↓Post_ret, ↓Post_draw, ↓PostL_nil, ↓PostL_cons, Post_fail, ofOpt_some, ofOpt_none, eA_b, eA_i, eA_s, eA_nn, eA_np, eA_pn, eA_lnn, eA_lnp, eA_lpn, eA_i2, eA_i3, blt_dec, Nat.add_assoc, keeps_refl, keeps_at, keeps_up], by simp [↓P_skip, ↓P_exit, ↓P_ret, ↓P_seq, ↓P_cond, ↓P_blk, ↓P_reg, ↓P_draw, ↓P_nil, ↓P_cons, condP_t, condP_f, dum_ab, stepR, want_none, want_some, opRun, ev_t, ev_c, put_none, put_some, resAll, res_tmp, res_cell, oneOf, minI, maxI, min2A, max2A, mn2, mx2, mx3, rdBlk, wrBlk, newBlk, partA, abin, ibin, isShift, AV.cells, AV.one, lay, sub, fillA, lenA, toN, allApart, apartFrom, Nat.testBit, Mem.blk_set_same, Mem.blk_set_ne, Mem.set_set, bit_zero, bit_self, lowBits_or, lowBits_zero, len_setT, sl_same, sl_ne, len_frame, sl_frame,↓op_len, lenOp_slc, lenOp_nils, ↓Post.some, ↓Post_bind, ↓Post_ret, ↓Post_draw, ↓PostL_nil, ↓PostL_cons, Post_fail, ofOpt_some, ofOpt_none, eA_b, eA_i, eA_s, eA_nn, eA_np, eA_pn, eA_lnn, eA_lnp, eA_lpn, eA_i2, eA_i3, blt_dec, Nat.add_assoc, keeps_refl, keeps_at, keeps_up], by omega, by omega, by omega, by omega, by omega, ?_, ?_, ?_⟩ (by omega) ?_
  · rw [Mem.blk_set_ne _ _ _ _ (by omega), Mem.blk_set_same]
  · rw [Mem.blk_set_same, Z0_eq]; rfl
  · exact Keeps.set (Keeps.set (fun b _ => rfl) _ (Nat.le_refl _)) _ (by omega)
  · rintro e ts' h' nx' tc wr ⟨rfl, hlen, hb, kp, p, g3⟩
    simp [↓P_skip, ↓P_exit, ↓P_ret, ↓P_seq, ↓P_cond, ↓P_blk, ↓P_reg, ↓P_draw, ↓P_nil, ↓P_cons, condP_t, condP_f, dum_ab, stepR, want_none, want_some, opRun, ev_t, ev_c, put_none, put_some, resAll, res_tmp, res_cell, oneOf, minI, maxI, min2A, max2A, mn2, mx2, mx3, rdBlk, wrBlk, newBlk, partA, abin, ibin, isShift, AV.cells, AV.one, lay, sub, fillA, lenA, toN, allApart, apartFrom, Nat.testBit, Mem.blk_set_same, Mem.blk_set_ne, Mem.set_set, bit_zero, bit_self, lowBits_or, lowBits_zero, len_setT, sl_same, sl_ne, len_frame, sl_frame,↓op_len, lenOp_slc, lenOp_nils, ↓Post.some, ↓Post_bind, ↓Post_ret, ↓Post_draw, ↓PostL_nil, ↓PostL_cons, Post_fail, ofOpt_some, ofOpt_none, eA_b, eA_i, eA_s, eA_nn, eA_np, eA_pn, eA_lnn, eA_lnp, eA_lpn, eA_i2, eA_i3, blt_dec, Nat.add_assoc, keeps_refl, keeps_at, keeps_up, hlen, g3, hb, kp]

theorem li11 : li 1 1 = 0 := by decide
theorem li22 : li 2 2 = 0 := by decide
set_option maxRecDepth 100000 in
theorem known_ans (h : Mem) (nx : Nat) : Ans T 300 8 [] h nx (.bool true) := by
  unfold Ans
  rw [xF_fr T8]
  have e : ∀ n h nx lg, xF T (n + 10) 10 [] h nx lg = some ⟨.ptr nx 0, h.set nx (some (cb empty 0 0)), nx + 1, 0, 0⟩ := new_eq
  obtain ⟨h1, hh1⟩ : ∃ h1, h1 = h.set nx (some (cb empty 0 0)) := ⟨_, rfl⟩
  have p1 : h1.blk nx = some (cb empty 0 0) := by rw [hh1, Mem.blk_set_same]
  have q1 : Keeps nx h h1 := by rw [hh1]; exact Keeps.set (fun b _ => rfl) _ (Nat.le_refl _)
  obtain ⟨h2, nx2, x2, n2, p2, f2⟩ := (get_acts empty_len p1 (nx := nx + 1) (by omega) 1 1).at 0 (by omega)
  obtain ⟨h3, nx3, x3, n3, p3, f3⟩ := (put_acts empty_len p2 (nx := nx2) (by omega) 1 1 7).at 0 (by omega)
  have hL3 := putL_len empty_len 1 1 7
  obtain ⟨h4, nx4, x4, n4, p4, f4⟩ := (get_acts hL3 p3 (nx := nx3) (by omega) 1 1).at 0 (by omega)
  obtain ⟨h5, nx5, x5, n5, p5, f5⟩ := (put_acts hL3 p4 (nx := nx4) (by omega) 2 2 8).at 0 (by omega)
  have hL5 := putL_len hL3 2 2 8
  obtain ⟨h6, nx6, x6, n6, p6, f6⟩ := (get_acts hL5 p5 (nx := nx5) (by omega) 1 1).at 0 (by omega)
  obtain ⟨h7, nx7, x7, n7, p7, f7⟩ := (len_acts hL5 p6 (nx := nx6) (by omega)).at 0 (by omega)
  obtain ⟨h8, nx8, x8, n8, p8, f8⟩ := (clear_acts hL5 p7 (nx := nx7) (by omega)).at 0 (by omega)
  obtain ⟨h9, nx9, x9, n9, p9, f9⟩ := (len_acts empty_len p8 (nx := nx8) (by omega)).at 0 (by omega)
  have z1 := hits_eq empty_len p9 (nx := nx9) (by omega)
  have z2 := miss_eq empty_len p9 (nx := nx9) (by omega)
  have r2 : resL empty 1 1 = .tup [.int .i64 (-1), .bool false] := by rfl
  have r4 : resL (putL empty 1 1 7) 1 1 = .tup [.int .i64 7, .bool true] := by rfl
  have r6 : resL (putL (putL empty 1 1 7) 2 2 8) 1 1 = .tup [.int .i64 (-1), .bool false] := by rfl
  have r7 : usedL (putL (putL empty 1 1 7) 2 2 8) = 1 := by rfl
  have r9 : usedL empty = 0 := by rfl
  have y1 : afterH (putL (putL empty 1 1 7) 2 2 8) 1 1 (afterH (putL empty 1 1 7) 1 1 (afterH empty 1 1 0)) = 1 := by rfl
  have y2 : afterM (putL (putL empty 1 1 7) 2 2 8) 1 1 (afterM (putL empty 1 1 7) 1 1 (afterM empty 1 1 0)) = 2 := by rfl
  rw [r2] at x2
  rw [r4] at x4
  rw [r6] at x6
  rw [r7] at x7
  rw [r9] at x9
  rw [y1] at z1
  rw [y2] at z2
  simp [↓P_skip, ↓P_exit, ↓P_ret, ↓P_seq, ↓P_cond, ↓P_blk, ↓P_reg, ↓P_draw, ↓P_nil, ↓P_cons, condP_t, condP_f, dum_ab, stepR, want_none, want_some, opRun, ev_t, ev_c, put_none, put_some, resAll, res_tmp, res_cell, oneOf, minI, maxI, min2A, max2A, mn2, mx2, mx3, rdBlk, wrBlk, newBlk, partA, abin, ibin, isShift, AV.cells, AV.one, lay, sub, fillA, lenA, toN, allApart, apartFrom, Nat.testBit, Mem.blk_set_same, Mem.blk_set_ne, Mem.set_set, bit_zero, bit_self, lowBits_or, lowBits_zero, len_setT, sl_same, sl_ne, len_frame, sl_frame,↓op_len, lenOp_slc, lenOp_nils, ↓Post.some, ↓Post_bind, ↓Post_ret, ↓Post_draw, ↓PostL_nil, ↓PostL_cons, Post_fail, ofOpt_some, ofOpt_none, eA_b, eA_i, eA_s, eA_nn, eA_np, eA_pn, eA_lnn, eA_lnp, eA_lpn, eA_i2, eA_i3, blt_dec, Nat.add_assoc, keeps_refl, keeps_at, keeps_up, new_one, and_pow, bit_hi, lowBits_pow, ble_dec, fr_refl, fr_at, fr_up, fr_p, dum_ab, F8, e, hh1.symm, x2, x3, x4, x5, x6, x7, x8, x9, z1, z2]
  refine ⟨by omega, fun b hb => ?_⟩
  rw [f9 b (by omega) (by omega), f8 b (by omega) (by omega), f7 b (by omega) (by omega), f6 b (by omega) (by omega), f5 b (by omega) (by omega), f4 b (by omega) (by omega), f3 b (by omega) (by omega), f2 b (by omega) (by omega), q1 b hb]
end Go.Proofs.YthiiegkjbglflaaT
