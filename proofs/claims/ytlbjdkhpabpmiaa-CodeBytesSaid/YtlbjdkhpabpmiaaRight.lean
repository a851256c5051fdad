/- Code: Right of the known methods. -/
import Derived.Test.YtlbjdkhpabpmiaaBytes
namespace Go.Proofs.YtlbjdkhpabpmiaaT
open Go Go.Proofs.YtlbjdkhpabpmiaaE Go.Proofs.YtlbjdkhpabpmiaaB
set_option linter.unusedSimpArgs false
set_option linter.unusedVariables false
attribute [local congr] Post_cg PostL_cg condP_cg

def P1 (n f : Nat) (args : List AV) (h : Mem) (nx : Nat) (r : AV) (k : Nat) : Prop := ∀ lg, lg ≤ nx → ∃ h' tc, (∀ j, xF T (j + n) f args h nx lg = some ⟨r, h', nx + k, tc, 0⟩) ∧ ∀ b, b < nx → h'.blk b = h.blk b
theorem P1.of {n f : Nat} {args : List AV} {h : Mem} {nx : Nat} {r : AV} {k : Nat} (key : ∀ lg, lg ≤ nx → Post (xF T n f args h nx lg) fun v h' nx' tc wr => v = r ∧ nx' = nx + k ∧ wr = 0 ∧ ∀ b, b < nx → h'.blk b = h.blk b) : P1 n f args h nx r k := by
  intro lg hlg
  obtain ⟨v', h', nx', tc, wr, e, rfl, rfl, rfl, q⟩ := (key lg hlg).inv
  exact ⟨h', tc, fun j => xF_mono T (Nat.le_add_left ..) e, q⟩
theorem set1 (h : Mem) (nx : Nat) (K : Option Blk) : ∀ b, b < nx → (h.set nx K).blk b = h.blk b := fun b hb => Mem.blk_set_ne _ _ _ _ (by omega)
theorem set2 (h : Mem) (nx : Nat) (K L : Option Blk) : ∀ b, b < nx → ((h.set nx K).set (nx + 1) L).blk b = h.blk b := fun b hb => by rw [Mem.blk_set_ne _ _ _ _ (by omega), Mem.blk_set_ne _ _ _ _ (by omega)]
theorem short_yes (h : Mem) (nx b : Nat) : P1 40 28 [.agg [.int .i64 0, .int .i64 0, .nils, .slc b 0 4 (some 4)]] h nx (.bool true) 1 := P1.of fun lg hlg => by
  rw [xF_fr T28]
  simp (maxSteps := 4000000) [↓P_skip, ↓P_exit, ↓P_ret, ↓P_seq, ↓P_cond, ↓P_blk, ↓P_reg, ↓P_draw, ↓P_nil, ↓P_cons, condP_t, condP_f, dum_ab, stepR, want_none, want_some, opRun, ev_t, ev_c, put_none, put_some, resAll, res_tmp, res_cell, oneOf, minI, maxI, min2A, max2A, mn2, mx2, mx3, rdBlk, wrBlk, newBlk, partA, abin, ibin, isShift, AV.cells, AV.one, lay, sub, fillA, lenA, toN, allApart, apartFrom, Nat.testBit, Mem.blk_set_same, Mem.blk_set_ne, Mem.set_set, bit_zero, bit_self, lowBits_or, lowBits_zero, len_setT, sl_same, sl_ne, len_frame, sl_frame,↓op_len, lenOp_slc, lenOp_nils, ↓Post.some, ↓Post_bind, ↓Post_ret, ↓Post_draw, ↓PostL_nil, ↓PostL_cons, Post_fail, ofOpt_some, ofOpt_none, eA_b, eA_i, eA_s, eA_nn, eA_np, eA_pn, eA_lnn, eA_lnp, eA_lpn, eA_i2, eA_i3, blt_dec, Nat.add_assoc, keeps_refl, keeps_at, keeps_up, new_one, and_pow, bit_hi, lowBits_pow, ble_dec, fr_refl, fr_at, fr_up, fr_p, dum_ab, F28, reps]
  exact ⟨by decide, set1 _ _ _⟩
theorem short_nil (h : Mem) (nx : Nat) : P1 40 28 [.agg [.int .i64 0, .int .i64 0, .nils, .nils]] h nx (.bool true) 1 := P1.of fun lg hlg => by
  rw [xF_fr T28]
  simp (maxSteps := 4000000) [↓P_skip, ↓P_exit, ↓P_ret, ↓P_seq, ↓P_cond, ↓P_blk, ↓P_reg, ↓P_draw, ↓P_nil, ↓P_cons, condP_t, condP_f, dum_ab, stepR, want_none, want_some, opRun, ev_t, ev_c, put_none, put_some, resAll, res_tmp, res_cell, oneOf, minI, maxI, min2A, max2A, mn2, mx2, mx3, rdBlk, wrBlk, newBlk, partA, abin, ibin, isShift, AV.cells, AV.one, lay, sub, fillA, lenA, toN, allApart, apartFrom, Nat.testBit, Mem.blk_set_same, Mem.blk_set_ne, Mem.set_set, bit_zero, bit_self, lowBits_or, lowBits_zero, len_setT, sl_same, sl_ne, len_frame, sl_frame,↓op_len, lenOp_slc, lenOp_nils, ↓Post.some, ↓Post_bind, ↓Post_ret, ↓Post_draw, ↓PostL_nil, ↓PostL_cons, Post_fail, ofOpt_some, ofOpt_none, eA_b, eA_i, eA_s, eA_nn, eA_np, eA_pn, eA_lnn, eA_lnp, eA_lpn, eA_i2, eA_i3, blt_dec, Nat.add_assoc, keeps_refl, keeps_at, keeps_up, new_one, and_pow, bit_hi, lowBits_pow, ble_dec, fr_refl, fr_at, fr_up, fr_p, dum_ab, F28, reps]
  exact ⟨by decide, set1 _ _ _⟩
theorem short_no (h : Mem) (nx : Nat) : P1 40 28 [.agg [.int .i64 9, .int .i64 0, .nils, .nils]] h nx (.bool false) 1 := P1.of fun lg hlg => by
  rw [xF_fr T28]
  simp (maxSteps := 4000000) [↓P_skip, ↓P_exit, ↓P_ret, ↓P_seq, ↓P_cond, ↓P_blk, ↓P_reg, ↓P_draw, ↓P_nil, ↓P_cons, condP_t, condP_f, dum_ab, stepR, want_none, want_some, opRun, ev_t, ev_c, put_none, put_some, resAll, res_tmp, res_cell, oneOf, minI, maxI, min2A, max2A, mn2, mx2, mx3, rdBlk, wrBlk, newBlk, partA, abin, ibin, isShift, AV.cells, AV.one, lay, sub, fillA, lenA, toN, allApart, apartFrom, Nat.testBit, Mem.blk_set_same, Mem.blk_set_ne, Mem.set_set, bit_zero, bit_self, lowBits_or, lowBits_zero, len_setT, sl_same, sl_ne, len_frame, sl_frame,↓op_len, lenOp_slc, lenOp_nils, ↓Post.some, ↓Post_bind, ↓Post_ret, ↓Post_draw, ↓PostL_nil, ↓PostL_cons, Post_fail, ofOpt_some, ofOpt_none, eA_b, eA_i, eA_s, eA_nn, eA_np, eA_pn, eA_lnn, eA_lnp, eA_lpn, eA_i2, eA_i3, blt_dec, Nat.add_assoc, keeps_refl, keeps_at, keeps_up, new_one, and_pow, bit_hi, lowBits_pow, ble_dec, fr_refl, fr_at, fr_up, fr_p, dum_ab, F28, reps]
  exact set1 _ _ _
theorem ends_nil (h : Mem) (nx : Nat) : P1 40 29 [.agg [.int .i64 0, .int .i64 0, .nils, .nils]] h nx (.bool false) 1 := P1.of fun lg hlg => by
  rw [xF_fr T29]
  simp (maxSteps := 4000000) [↓P_skip, ↓P_exit, ↓P_ret, ↓P_seq, ↓P_cond, ↓P_blk, ↓P_reg, ↓P_draw, ↓P_nil, ↓P_cons, condP_t, condP_f, dum_ab, stepR, want_none, want_some, opRun, ev_t, ev_c, put_none, put_some, resAll, res_tmp, res_cell, oneOf, minI, maxI, min2A, max2A, mn2, mx2, mx3, rdBlk, wrBlk, newBlk, partA, abin, ibin, isShift, AV.cells, AV.one, lay, sub, fillA, lenA, toN, allApart, apartFrom, Nat.testBit, Mem.blk_set_same, Mem.blk_set_ne, Mem.set_set, bit_zero, bit_self, lowBits_or, lowBits_zero, len_setT, sl_same, sl_ne, len_frame, sl_frame,↓op_len, lenOp_slc, lenOp_nils, ↓Post.some, ↓Post_bind, ↓Post_ret, ↓Post_draw, ↓PostL_nil, ↓PostL_cons, Post_fail, ofOpt_some, ofOpt_none, eA_b, eA_i, eA_s, eA_nn, eA_np, eA_pn, eA_lnn, eA_lnp, eA_lpn, eA_i2, eA_i3, blt_dec, Nat.add_assoc, keeps_refl, keeps_at, keeps_up, new_one, and_pow, bit_hi, lowBits_pow, ble_dec, fr_refl, fr_at, fr_up, fr_p, dum_ab, F29, reps]
  exact set1 _ _ _
def kc : List AV := u8s [3, 0, 14, 0]
theorem ends_yes (h : Mem) (nx b : Nat) (hb : b < nx) (hK : h.blk b = some ⟨5, 1, true, false, u8s [3, 0, 14, 0]⟩) : P1 40 29 [.agg [.int .i64 0, .int .i64 0, .nils, .slc b 0 4 (some 4)]] h nx (.bool true) 1 := P1.of fun lg hlg => by
  have n0 : ¬ b = nx := by omega
  have hb' : b < nx + 1 := by omega
  have w0 : IntKind.i64.wrap (4 - 2) = 2 := by decide
  have w1 : IntKind.i64.wrap 2 = 2 := by decide
  have w2 : IntKind.i64.wrap 14 = 14 := by decide
  simp only [u8s, List.map_cons, List.map_nil] at hK
  rw [xF_fr T29]
  simp (maxSteps := 4000000) [↓P_skip, ↓P_exit, ↓P_ret, ↓P_seq, ↓P_cond, ↓P_blk, ↓P_reg, ↓P_draw, ↓P_nil, ↓P_cons, condP_t, condP_f, dum_ab, stepR, want_none, want_some, opRun, ev_t, ev_c, put_none, put_some, resAll, res_tmp, res_cell, oneOf, minI, maxI, min2A, max2A, mn2, mx2, mx3, rdBlk, wrBlk, newBlk, partA, abin, ibin, isShift, AV.cells, AV.one, lay, sub, fillA, lenA, toN, allApart, apartFrom, Nat.testBit, Mem.blk_set_same, Mem.blk_set_ne, Mem.set_set, bit_zero, bit_self, lowBits_or, lowBits_zero, len_setT, sl_same, sl_ne, len_frame, sl_frame,↓op_len, lenOp_slc, lenOp_nils, ↓Post.some, ↓Post_bind, ↓Post_ret, ↓Post_draw, ↓PostL_nil, ↓PostL_cons, Post_fail, ofOpt_some, ofOpt_none, eA_b, eA_i, eA_s, eA_nn, eA_np, eA_pn, eA_lnn, eA_lnp, eA_lpn, eA_i2, eA_i3, blt_dec, Nat.add_assoc, keeps_refl, keeps_at, keeps_up, new_one, and_pow, bit_hi, lowBits_pow, ble_dec, fr_refl, fr_at, fr_up, fr_p, dum_ab, F29, reps, n0, hb', hK, w0, w1, w2]
  exact set1 _ _ _
theorem none_lits (h : Mem) (nx p : Nat) (lg : Nat) : ∀ j, xF T (j + 60) 30 [.nils, .fn 31 [] [.ptr p 0]] h nx lg = some ⟨.bool false, h, nx, 0, 0⟩ := fun j => by
  have e : ∀ j, xF T (j + 40) 39 [.nils, .fn 31 [] [.ptr p 0]] h nx lg = some ⟨.int .i64 (-1), h, nx, 0, 0⟩ := fun j => by
    rw [xF_fr T39]; apply eq_of_Post
    simp (maxSteps := 4000000) [↓P_skip, ↓P_exit, ↓P_ret, ↓P_seq, ↓P_cond, ↓P_blk, ↓P_reg, ↓P_draw, ↓P_nil, ↓P_cons, condP_t, condP_f, dum_ab, stepR, want_none, want_some, opRun, ev_t, ev_c, put_none, put_some, resAll, res_tmp, res_cell, oneOf, minI, maxI, min2A, max2A, mn2, mx2, mx3, rdBlk, wrBlk, newBlk, partA, abin, ibin, isShift, AV.cells, AV.one, lay, sub, fillA, lenA, toN, allApart, apartFrom, Nat.testBit, Mem.blk_set_same, Mem.blk_set_ne, Mem.set_set, bit_zero, bit_self, lowBits_or, lowBits_zero, len_setT, sl_same, sl_ne, len_frame, sl_frame,↓op_len, lenOp_slc, lenOp_nils, ↓Post.some, ↓Post_bind, ↓Post_ret, ↓Post_draw, ↓PostL_nil, ↓PostL_cons, Post_fail, ofOpt_some, ofOpt_none, eA_b, eA_i, eA_s, eA_nn, eA_np, eA_pn, eA_lnn, eA_lnp, eA_lpn, eA_i2, eA_i3, blt_dec, Nat.add_assoc, keeps_refl, keeps_at, keeps_up, new_one, and_pow, bit_hi, lowBits_pow, ble_dec, fr_refl, fr_at, fr_up, fr_p, dum_ab, F39, L39_0, L39_0b, ↓P_loop, reps]
  rw [xF_fr T30]; apply eq_of_Post
  simp (maxSteps := 4000000) [↓P_skip, ↓P_exit, ↓P_ret, ↓P_seq, ↓P_cond, ↓P_blk, ↓P_reg, ↓P_draw, ↓P_nil, ↓P_cons, condP_t, condP_f, dum_ab, stepR, want_none, want_some, opRun, ev_t, ev_c, put_none, put_some, resAll, res_tmp, res_cell, oneOf, minI, maxI, min2A, max2A, mn2, mx2, mx3, rdBlk, wrBlk, newBlk, partA, abin, ibin, isShift, AV.cells, AV.one, lay, sub, fillA, lenA, toN, allApart, apartFrom, Nat.testBit, Mem.blk_set_same, Mem.blk_set_ne, Mem.set_set, bit_zero, bit_self, lowBits_or, lowBits_zero, len_setT, sl_same, sl_ne, len_frame, sl_frame,↓op_len, lenOp_slc, lenOp_nils, ↓Post.some, ↓Post_bind, ↓Post_ret, ↓Post_draw, ↓PostL_nil, ↓PostL_cons, Post_fail, ofOpt_some, ofOpt_none, eA_b, eA_i, eA_s, eA_nn, eA_np, eA_pn, eA_lnn, eA_lnp, eA_lpn, eA_i2, eA_i3, blt_dec, Nat.add_assoc, keeps_refl, keeps_at, keeps_up, new_one, and_pow, bit_hi, lowBits_pow, ble_dec, fr_refl, fr_at, fr_up, fr_p, dum_ab, F30, reps, e]
theorem inst_3 (h : Mem) (nx b : Nat) : P1 60 33 [.agg [.int .i64 0, .int .i64 0, .nils, .slc b 0 4 (some 4)], .agg [.int .i64 3, .int .i64 0], .int .i64 0] h nx (.bool true) 2 := P1.of fun lg hlg => by
  rw [xF_fr T33]
  simp (maxSteps := 4000000) [↓P_skip, ↓P_exit, ↓P_ret, ↓P_seq, ↓P_cond, ↓P_blk, ↓P_reg, ↓P_draw, ↓P_nil, ↓P_cons, condP_t, condP_f, dum_ab, stepR, want_none, want_some, opRun, ev_t, ev_c, put_none, put_some, resAll, res_tmp, res_cell, oneOf, minI, maxI, min2A, max2A, mn2, mx2, mx3, rdBlk, wrBlk, newBlk, partA, abin, ibin, isShift, AV.cells, AV.one, lay, sub, fillA, lenA, toN, allApart, apartFrom, Nat.testBit, Mem.blk_set_same, Mem.blk_set_ne, Mem.set_set, bit_zero, bit_self, lowBits_or, lowBits_zero, len_setT, sl_same, sl_ne, len_frame, sl_frame,↓op_len, lenOp_slc, lenOp_nils, ↓Post.some, ↓Post_bind, ↓Post_ret, ↓Post_draw, ↓PostL_nil, ↓PostL_cons, Post_fail, ofOpt_some, ofOpt_none, eA_b, eA_i, eA_s, eA_nn, eA_np, eA_pn, eA_lnn, eA_lnp, eA_lpn, eA_i2, eA_i3, blt_dec, Nat.add_assoc, keeps_refl, keeps_at, keeps_up, new_one, and_pow, bit_hi, lowBits_pow, ble_dec, fr_refl, fr_at, fr_up, fr_p, dum_ab, F33, reps]
  exact set2 _ _ _ _
theorem inst_14 (h : Mem) (nx b : Nat) : P1 60 33 [.agg [.int .i64 0, .int .i64 0, .nils, .slc b 0 4 (some 4)], .agg [.int .i64 14, .int .i64 0], .int .i64 2] h nx (.bool true) 2 := P1.of fun lg hlg => by
  rw [xF_fr T33]
  simp (maxSteps := 4000000) [↓P_skip, ↓P_exit, ↓P_ret, ↓P_seq, ↓P_cond, ↓P_blk, ↓P_reg, ↓P_draw, ↓P_nil, ↓P_cons, condP_t, condP_f, dum_ab, stepR, want_none, want_some, opRun, ev_t, ev_c, put_none, put_some, resAll, res_tmp, res_cell, oneOf, minI, maxI, min2A, max2A, mn2, mx2, mx3, rdBlk, wrBlk, newBlk, partA, abin, ibin, isShift, AV.cells, AV.one, lay, sub, fillA, lenA, toN, allApart, apartFrom, Nat.testBit, Mem.blk_set_same, Mem.blk_set_ne, Mem.set_set, bit_zero, bit_self, lowBits_or, lowBits_zero, len_setT, sl_same, sl_ne, len_frame, sl_frame,↓op_len, lenOp_slc, lenOp_nils, ↓Post.some, ↓Post_bind, ↓Post_ret, ↓Post_draw, ↓PostL_nil, ↓PostL_cons, Post_fail, ofOpt_some, ofOpt_none, eA_b, eA_i, eA_s, eA_nn, eA_np, eA_pn, eA_lnn, eA_lnp, eA_lpn, eA_i2, eA_i3, blt_dec, Nat.add_assoc, keeps_refl, keeps_at, keeps_up, new_one, and_pow, bit_hi, lowBits_pow, ble_dec, fr_refl, fr_at, fr_up, fr_p, dum_ab, F33, reps]
  exact set2 _ _ _ _
theorem name_22 (h : Mem) (nx : Nat) : P1 40 17 [.int .i64 22] h nx (.str ⟨⟨[]⟩⟩) 1 := P1.of fun lg hlg => by
  have b0 : bit lg nx = 0 := bit_up hlg
  rw [xF_fr T17]
  simp (maxSteps := 4000000) [↓P_skip, ↓P_exit, ↓P_ret, ↓P_seq, ↓P_cond, ↓P_blk, ↓P_reg, ↓P_draw, ↓P_nil, ↓P_cons, condP_t, condP_f, dum_ab, stepR, want_none, want_some, opRun, ev_t, ev_c, put_none, put_some, resAll, res_tmp, res_cell, oneOf, minI, maxI, min2A, max2A, mn2, mx2, mx3, rdBlk, wrBlk, newBlk, partA, abin, ibin, isShift, AV.cells, AV.one, lay, sub, fillA, lenA, toN, allApart, apartFrom, Nat.testBit, Mem.blk_set_same, Mem.blk_set_ne, Mem.set_set, bit_zero, bit_self, lowBits_or, lowBits_zero, len_setT, sl_same, sl_ne, len_frame, sl_frame,↓op_len, lenOp_slc, lenOp_nils, ↓Post.some, ↓Post_bind, ↓Post_ret, ↓Post_draw, ↓PostL_nil, ↓PostL_cons, Post_fail, ofOpt_some, ofOpt_none, eA_b, eA_i, eA_s, eA_nn, eA_np, eA_pn, eA_lnn, eA_lnp, eA_lpn, eA_i2, eA_i3, blt_dec, Nat.add_assoc, keeps_refl, keeps_at, keeps_up, new_one, and_pow, bit_hi, lowBits_pow, ble_dec, fr_refl, fr_at, fr_up, fr_p, dum_ab, F17, reps, b0]
  exact set1 _ _ _
def u0 : AV := .agg [.nils, .nils, .nils, .nils, .int .i64 0]
theorem right_nil (h : Mem) (nx : Nat) : P1 300 18 [.agg [.int .i64 0, .int .i64 0, .nils, .nils], .agg [.nils, .nils, .nils, .nils, .int .i64 0]] h nx (.int .i64 12) 4 := P1.of fun lg hlg => by
  obtain ⟨K1, hK1⟩ : ∃ K : Blk, K = ⟨37, 4, true, false, [.int .i64 0, .int .i64 0, .nils, .nils]⟩ := ⟨_, rfl⟩
  obtain ⟨H2, hH2⟩ : ∃ H2, H2 = (h.set nx (some K1)).set (nx + 1) (some ⟨27, 5, true, false, [.nils, .nils, .nils, .nils, .int .i64 0]⟩) := ⟨_, rfl⟩
  obtain ⟨h3, tc3, x3, k3⟩ := short_nil H2 (nx + 2) lg (by omega)
  obtain ⟨h4, tc4, x4, k4⟩ := ends_nil h3 (nx + 3) lg (by omega)
  have f2 : H2.blk nx = some K1 := by rw [hH2, Mem.blk_set_ne _ _ _ _ (by omega), Mem.blk_set_same]
  have f3 : h3.blk nx = some K1 := (k3 nx (by omega)).trans f2
  have kk : ∀ b, b < nx → h4.blk b = h.blk b := fun b hb => by rw [k4 b (by omega), k3 b (by omega), hH2]; exact set2 _ _ _ _ b hb
  rw [hK1] at f2 f3 hH2
  have s2 := hH2.symm
  rw [xF_fr T18]
  simp (maxSteps := 4000000) [↓P_skip, ↓P_exit, ↓P_ret, ↓P_seq, ↓P_cond, ↓P_blk, ↓P_reg, ↓P_draw, ↓P_nil, ↓P_cons, condP_t, condP_f, dum_ab, stepR, want_none, want_some, opRun, ev_t, ev_c, put_none, put_some, resAll, res_tmp, res_cell, oneOf, minI, maxI, min2A, max2A, mn2, mx2, mx3, rdBlk, wrBlk, newBlk, partA, abin, ibin, isShift, AV.cells, AV.one, lay, sub, fillA, lenA, toN, allApart, apartFrom, Nat.testBit, Mem.blk_set_same, Mem.blk_set_ne, Mem.set_set, bit_zero, bit_self, lowBits_or, lowBits_zero, len_setT, sl_same, sl_ne, len_frame, sl_frame,↓op_len, lenOp_slc, lenOp_nils, ↓Post.some, ↓Post_bind, ↓Post_ret, ↓Post_draw, ↓PostL_nil, ↓PostL_cons, Post_fail, ofOpt_some, ofOpt_none, eA_b, eA_i, eA_s, eA_nn, eA_np, eA_pn, eA_lnn, eA_lnp, eA_lpn, eA_i2, eA_i3, blt_dec, Nat.add_assoc, keeps_refl, keeps_at, keeps_up, new_one, and_pow, bit_hi, lowBits_pow, ble_dec, fr_refl, fr_at, fr_up, fr_p, dum_ab, F18, reps, s2, x3, x4, f2, f3]
  exact kk
theorem right_9 (h : Mem) (nx : Nat) : P1 300 18 [.agg [.int .i64 9, .int .i64 0, .nils, .nils], .agg [.nils, .nils, .nils, .nils, .int .i64 0]] h nx (.int .i64 3) 3 := P1.of fun lg hlg => by
  obtain ⟨K1, hK1⟩ : ∃ K : Blk, K = ⟨37, 4, true, false, [.int .i64 9, .int .i64 0, .nils, .nils]⟩ := ⟨_, rfl⟩
  obtain ⟨H2, hH2⟩ : ∃ H2, H2 = (h.set nx (some K1)).set (nx + 1) (some ⟨27, 5, true, false, [.nils, .nils, .nils, .nils, .int .i64 0]⟩) := ⟨_, rfl⟩
  obtain ⟨h3, tc3, x3, k3⟩ := short_no H2 (nx + 2) lg (by omega)
  have f2 : H2.blk nx = some K1 := by rw [hH2, Mem.blk_set_ne _ _ _ _ (by omega), Mem.blk_set_same]
  have kk : ∀ b, b < nx → h3.blk b = h.blk b := fun b hb => by rw [k3 b (by omega), hH2]; exact set2 _ _ _ _ b hb
  rw [hK1] at f2 hH2
  have s2 := hH2.symm
  rw [xF_fr T18]
  simp (maxSteps := 4000000) [↓P_skip, ↓P_exit, ↓P_ret, ↓P_seq, ↓P_cond, ↓P_blk, ↓P_reg, ↓P_draw, ↓P_nil, ↓P_cons, condP_t, condP_f, dum_ab, stepR, want_none, want_some, opRun, ev_t, ev_c, put_none, put_some, resAll, res_tmp, res_cell, oneOf, minI, maxI, min2A, max2A, mn2, mx2, mx3, rdBlk, wrBlk, newBlk, partA, abin, ibin, isShift, AV.cells, AV.one, lay, sub, fillA, lenA, toN, allApart, apartFrom, Nat.testBit, Mem.blk_set_same, Mem.blk_set_ne, Mem.set_set, bit_zero, bit_self, lowBits_or, lowBits_zero, len_setT, sl_same, sl_ne, len_frame, sl_frame,↓op_len, lenOp_slc, lenOp_nils, ↓Post.some, ↓Post_bind, ↓Post_ret, ↓Post_draw, ↓PostL_nil, ↓PostL_cons, Post_fail, ofOpt_some, ofOpt_none, eA_b, eA_i, eA_s, eA_nn, eA_np, eA_pn, eA_lnn, eA_lnp, eA_lpn, eA_i2, eA_i3, blt_dec, Nat.add_assoc, keeps_refl, keeps_at, keeps_up, new_one, and_pow, bit_hi, lowBits_pow, ble_dec, fr_refl, fr_at, fr_up, fr_p, dum_ab, F18, reps, s2, x3, f2]
  exact kk
set_option maxHeartbeats 8000000 in
theorem right_m (h : Mem) (nx b : Nat) (hb : b < nx) (hB : h.blk b = some ⟨5, 1, true, false, u8s [3, 0, 14, 0]⟩) : P1 300 18 [.agg [.int .i64 0, .int .i64 0, .nils, .slc b 0 4 (some 4)], .agg [.nils, .nils, .nils, .nils, .int .i64 0]] h nx (.int .i64 0) 14 := P1.of fun lg hlg => by
  obtain ⟨K1, hK1⟩ : ∃ K : Blk, K = ⟨37, 4, true, false, [.int .i64 0, .int .i64 0, .nils, .slc b 0 4 (some 4)]⟩ := ⟨_, rfl⟩
  obtain ⟨H2, hH2⟩ : ∃ H2, H2 = (h.set nx (some K1)).set (nx + 1) (some ⟨27, 5, true, false, [.nils, .nils, .nils, .nils, .int .i64 0]⟩) := ⟨_, rfl⟩
  have t2 : ∀ b, b < nx → H2.blk b = h.blk b := fun b hb => by rw [hH2]; exact set2 _ _ _ _ b hb
  obtain ⟨h3, tc3, x3, k3⟩ := short_yes H2 (nx + 2) b lg (by omega)
  have B3 := (k3 b (by omega)).trans ((t2 b hb).trans hB)
  obtain ⟨h4, tc4, x4, k4⟩ := ends_yes h3 (nx + 3) b (by omega) B3 lg (by omega)
  have B4 := (k4 b (by omega)).trans B3
  have f2 : H2.blk nx = some K1 := by rw [hH2, Mem.blk_set_ne _ _ _ _ (by omega), Mem.blk_set_same]
  have f3 : h3.blk nx = some K1 := (k3 nx (by omega)).trans f2
  have f4 : h4.blk nx = some K1 := (k4 nx (by omega)).trans f3
  have x5' := none_lits h4 (nx + 4) (nx + 1) lg
  have ok : ∀ x ∈ ([3, 0, 14, 0] : List Int), 0 ≤ x ∧ x < 256 := by decide
  obtain ⟨h5, tc5, x5, k5⟩ := fetch_yes (rv_lit (b := b) (m := [3, 0, 14, 0]) (by omega) B4 (some 4)) (by decide) ok 0 0 rfl (by decide) 0 0 lg (show lg ≤ nx + 4 by omega)
  obtain ⟨H5, hH5⟩ : ∃ H5, H5 = h5.set (nx + 4 + 2) (some ⟨47, 2, true, false, [.int .i64 3, .int .i64 0]⟩) := ⟨_, rfl⟩
  have t5 : ∀ b, b < nx + 4 → H5.blk b = h4.blk b := fun b hb => by rw [hH5, Mem.blk_set_ne _ _ _ _ (by omega), k5 b hb]
  obtain ⟨h6, tc6, x6, k6⟩ := inst_3 H5 (nx + 7) b lg (by omega)
  have B6 := (k6 b (by omega)).trans ((t5 b (by omega)).trans B4)
  have f5 : H5.blk nx = some K1 := (t5 nx (by omega)).trans f4
  have f6 : h6.blk nx = some K1 := (k6 nx (by omega)).trans f5
  have g5 : H5.blk (nx + 6) = some ⟨47, 2, true, false, [.int .i64 3, .int .i64 0]⟩ := by rw [hH5]; exact Mem.blk_set_same ..
  obtain ⟨h7, tc7, x7, k7⟩ := fetch_yes (rv_lit (b := b) (m := [3, 0, 14, 0]) (nx := nx + 9) (by omega) B6 (some 4)) (by decide) ok 1 2 rfl (by decide) 0 0 lg (show lg ≤ nx + 9 by omega)
  obtain ⟨H7, hH7⟩ : ∃ H7, H7 = h7.set (nx + 9 + 2) (some ⟨47, 2, true, false, [.int .i64 14, .int .i64 0]⟩) := ⟨_, rfl⟩
  have t7 : ∀ b, b < nx + 9 → H7.blk b = h6.blk b := fun b hb => by rw [hH7, Mem.blk_set_ne _ _ _ _ (by omega), k7 b hb]
  have g7 : H7.blk (nx + 11) = some ⟨47, 2, true, false, [.int .i64 14, .int .i64 0]⟩ := by rw [hH7]; exact Mem.blk_set_same ..
  obtain ⟨h8, tc8, x8, k8⟩ := inst_14 H7 (nx + 12) b lg (by omega)
  have f7 : H7.blk nx = some K1 := (t7 nx (by omega)).trans f6
  have f8 : h8.blk nx = some K1 := (k8 nx (by omega)).trans f7
  have kk : ∀ b, b < nx → h8.blk b = h.blk b := fun b hb => by rw [k8 b (by omega), t7 b (by omega), k6 b (by omega), t5 b (by omega), k4 b (by omega), k3 b (by omega), t2 b hb]
  rw [hK1] at f2 f3 f4 f5 f6 f7 f8 hH2
  have s2 := hH2.symm
  have s5 := hH5.symm
  have s7 := hH7.symm
  simp only [List.length_cons, List.length_nil, List.getElem_cons_zero, List.getElem_cons_succ, Nat.reduceAdd, Nat.add_assoc] at x5 x7 s5 s7
  simp only [show ((0 : Nat) : Int) = 0 from rfl, show ((2 : Nat) : Int) = 2 from rfl] at x5 x7
  have w2 : IntKind.i64.wrap (0 + 2) = 2 := by decide
  have w2' : IntKind.i64.wrap 2 = 2 := by decide
  have w4 : IntKind.i64.wrap (2 + 2) = 4 := by decide
  have w4' : IntKind.i64.wrap 4 = 4 := by decide
  rw [xF_fr T18]
  simp (maxSteps := 4000000) [↓P_skip, ↓P_exit, ↓P_ret, ↓P_seq, ↓P_cond, ↓P_blk, ↓P_reg, ↓P_draw, ↓P_nil, ↓P_cons, condP_t, condP_f, dum_ab, stepR, want_none, want_some, opRun, ev_t, ev_c, put_none, put_some, resAll, res_tmp, res_cell, oneOf, minI, maxI, min2A, max2A, mn2, mx2, mx3, rdBlk, wrBlk, newBlk, partA, abin, ibin, isShift, AV.cells, AV.one, lay, sub, fillA, lenA, toN, allApart, apartFrom, Nat.testBit, Mem.blk_set_same, Mem.blk_set_ne, Mem.set_set, bit_zero, bit_self, lowBits_or, lowBits_zero, len_setT, sl_same, sl_ne, len_frame, sl_frame,↓op_len, lenOp_slc, lenOp_nils, ↓Post.some, ↓Post_bind, ↓Post_ret, ↓Post_draw, ↓PostL_nil, ↓PostL_cons, Post_fail, ofOpt_some, ofOpt_none, eA_b, eA_i, eA_s, eA_nn, eA_np, eA_pn, eA_lnn, eA_lnp, eA_lpn, eA_i2, eA_i3, blt_dec, Nat.add_assoc, keeps_refl, keeps_at, keeps_up, new_one, and_pow, bit_hi, lowBits_pow, ble_dec, fr_refl, fr_at, fr_up, fr_p, dum_ab, F18, L18_0, L18_0b, ↓P_loop, reps, s2, x3, x4, x5', x5, s5, x6, x7, s7, x8, f2, f3, f4, f5, f6, f7, f8, g5, g7, w2, w2', w4, w4']
  exact ⟨⟨bit_up (by omega), bit_up (by omega)⟩, kk⟩
end Go.Proofs.YtlbjdkhpabpmiaaT
