/- Fit: known; FitLeast; FitOrder; FitTells. -/
import Derived.Test.YtamldkpcgagkpaaTotal
namespace Go.Proofs.YtamldkpcgagkpaaT
open Go Go.Proofs.YtamldkpcgagkpaaE Go.Proofs.YtamldkpcgagkpaaB
set_option linter.unusedSimpArgs false
set_option linter.unusedVariables false
attribute [local congr] Post_cg PostL_cg condP_cg

set_option maxRecDepth 100000 in
set_option maxHeartbeats 8000000 in
theorem known_ans (h : Mem) (nx : Nat) : Ans T 150 9 [] h nx (.bool true) := by
  unfold Ans
  rw [xF_fr T9]
  have r1 := fun k a b c d e p h m => right_eq k a b c d e p h m 0 (Nat.zero_le _)
  have r3 := fun k a b c d e p h m => total_eq k a b c d e p h m 0 (Nat.zero_le _)
  simp only [cfg] at r1 r3
  have f1 : fitO 2 = 0 := rfl
  have f2 : fitO 3 = 1 := rfl
  have f3 : fitO 62 = 4 := rfl
  have f4 : fitO 63 = -1 := rfl
  have f5 : fitO (-1) = -1 := rfl
  have f6 : waste 3 = 3 := rfl
  have f7 : words 5 = 0 := rfl
  have f8 : right 0 0 0 0 0 0 = 18 := by decide
  have f9 : right 1 0 0 0 0 1 = 0 := by decide
  have f10 : right 1 0 0 0 0 0 = 1 := by decide
  have f11 : total 1 1 0 0 0 1 = 12 := by decide
  simp (maxSteps := 4000000) [↓P_skip, ↓P_exit, ↓P_ret, ↓P_seq, ↓P_cond, ↓P_blk, ↓P_reg, ↓P_draw, ↓P_nil, ↓P_cons, condP_t, condP_f, dum_ab, stepR, want_none, want_some, opRun, ev_t, ev_c, put_none, put_some, resAll, res_tmp, res_cell, oneOf, minI, maxI, min2A, max2A, mn2, mx2, mx3, rdBlk, wrBlk, newBlk, partA, abin, ibin, isShift, AV.cells, AV.one, lay, sub, fillA, lenA, toN, allApart, apartFrom, Nat.testBit, Mem.blk_set_same, Mem.blk_set_ne, Mem.set_set, bit_zero, bit_self, lowBits_or, lowBits_zero, len_setT, sl_same, sl_ne, len_frame, sl_frame,↓op_len, lenOp_slc, lenOp_nils, ↓Post.some, ↓Post_bind, ↓Post_ret, ↓Post_draw, ↓PostL_nil, ↓PostL_cons, Post_fail, ofOpt_some, ofOpt_none, eA_b, eA_i, eA_s, eA_nn, eA_np, eA_pn, eA_lnn, eA_lnp, eA_lpn, eA_i2, eA_i3, blt_dec, Nat.add_assoc, keeps_refl, keeps_at, keeps_up, new_one, and_pow, bit_hi, lowBits_pow, ble_dec, fr_refl, fr_at, fr_up, fr_p, dum_ab, F9, cfb, words_eq, of_eq, waste_eq, r1, r3, f1, f2, f3, f4, f5, f6, f7, f8, f9, f10, f11, v4]

theorem fitO_is {n : Int} (h0 : 0 ≤ n) (h1 : n ≤ 62) : fitO n = if n ≤ 2 then 0 else if n ≤ 6 then 1 else if n ≤ 14 then 2 else if n ≤ 30 then 3 else 4 := by unfold fitO; rw [if_neg (by omega)]
theorem fitO_5 {n : Int} (h0 : 0 ≤ n) (h1 : n ≤ 62) : (fitO n = 0 ∧ n ≤ 2) ∨ (fitO n = 1 ∧ 3 ≤ n ∧ n ≤ 6) ∨ (fitO n = 2 ∧ 7 ≤ n ∧ n ≤ 14) ∨ (fitO n = 3 ∧ 15 ≤ n ∧ n ≤ 30) ∨ (fitO n = 4 ∧ 31 ≤ n ∧ n ≤ 62) := by
  rw [fitO_is h0 h1]; (repeat' split) <;> simp <;> omega
theorem fitO_no {n : Int} (h : 62 < n) : fitO n = -1 := by unfold fitO; rw [if_pos (.inr h)]
theorem e63 (x : Int) : Go.bits .and .i64 x 63 = x % 64 := and_mask .i64 6 (by decide) x

set_option maxRecDepth 100000 in
set_option maxHeartbeats 8000000 in
theorem least_law (a0 : Int) (w0 : (Lit.int .i64 a0).wf = true) (h : Mem) (p : Nat) : Yes T 5 [.int .i64 a0] h p := by
  refine Yes.of 400 ?_
  rw [xF_fr T5]
  obtain ⟨k, hk⟩ : ∃ k, k = a0 % 64 := ⟨_, rfl⟩
  have k0 : 0 ≤ k ∧ k ≤ 63 := by omega
  obtain ⟨h1, nx1, tq1, wq1, x1, n1, _⟩ := (known_ans h p).at
  have w2 := w64 (k + 2) (by omega)
  by_cases c : 62 < k
  · have f := fitO_no c
    have w : waste k = 0 := by unfold waste; rw [f]; rfl
    simp (maxSteps := 4000000) [↓P_skip, ↓P_exit, ↓P_ret, ↓P_seq, ↓P_cond, ↓P_blk, ↓P_reg, ↓P_draw, ↓P_nil, ↓P_cons, condP_t, condP_f, dum_ab, stepR, want_none, want_some, opRun, ev_t, ev_c, put_none, put_some, resAll, res_tmp, res_cell, oneOf, minI, maxI, min2A, max2A, mn2, mx2, mx3, rdBlk, wrBlk, newBlk, partA, abin, ibin, isShift, AV.cells, AV.one, lay, sub, fillA, lenA, toN, allApart, apartFrom, Nat.testBit, Mem.blk_set_same, Mem.blk_set_ne, Mem.set_set, bit_zero, bit_self, lowBits_or, lowBits_zero, len_setT, sl_same, sl_ne, len_frame, sl_frame,↓op_len, lenOp_slc, lenOp_nils, ↓Post.some, ↓Post_bind, ↓Post_ret, ↓Post_draw, ↓PostL_nil, ↓PostL_cons, Post_fail, ofOpt_some, ofOpt_none, eA_b, eA_i, eA_s, eA_nn, eA_np, eA_pn, eA_lnn, eA_lnp, eA_lpn, eA_i2, eA_i3, blt_dec, Nat.add_assoc, keeps_refl, keeps_at, keeps_up, new_one, and_pow, bit_hi, lowBits_pow, ble_dec, fr_refl, fr_at, fr_up, fr_p, dum_ab, F5, e63, ← hk, of_eq, waste_eq, words_eq, f, w, c, x1]
  · have hw : waste k = words (fitO k) - k - 2 := by
      unfold waste; rw [if_neg]; rcases fitO_5 k0.1 (by omega) with ⟨e, _⟩ | ⟨e, _⟩ | ⟨e, _⟩ | ⟨e, _⟩ | ⟨e, _⟩ <;> rw [e] <;> decide
    rcases fitO_5 k0.1 (by omega) with ⟨e, _⟩ | ⟨e, _, _⟩ | ⟨e, _, _⟩ | ⟨e, _, _⟩ | ⟨e, _, _⟩
    · rw [e, v0] at hw
      have w3 := w64 (4 - k) (by omega)
      have w4 := w64 (4 - k - 2) (by omega)
      have d1 : ¬ (4 : Int) < k + 2 := by omega
      simp (maxSteps := 4000000) [↓P_skip, ↓P_exit, ↓P_ret, ↓P_seq, ↓P_cond, ↓P_blk, ↓P_reg, ↓P_draw, ↓P_nil, ↓P_cons, condP_t, condP_f, dum_ab, stepR, want_none, want_some, opRun, ev_t, ev_c, put_none, put_some, resAll, res_tmp, res_cell, oneOf, minI, maxI, min2A, max2A, mn2, mx2, mx3, rdBlk, wrBlk, newBlk, partA, abin, ibin, isShift, AV.cells, AV.one, lay, sub, fillA, lenA, toN, allApart, apartFrom, Nat.testBit, Mem.blk_set_same, Mem.blk_set_ne, Mem.set_set, bit_zero, bit_self, lowBits_or, lowBits_zero, len_setT, sl_same, sl_ne, len_frame, sl_frame,↓op_len, lenOp_slc, lenOp_nils, ↓Post.some, ↓Post_bind, ↓Post_ret, ↓Post_draw, ↓PostL_nil, ↓PostL_cons, Post_fail, ofOpt_some, ofOpt_none, eA_b, eA_i, eA_s, eA_nn, eA_np, eA_pn, eA_lnn, eA_lnp, eA_lpn, eA_i2, eA_i3, blt_dec, Nat.add_assoc, keeps_refl, keeps_at, keeps_up, new_one, and_pow, bit_hi, lowBits_pow, ble_dec, fr_refl, fr_at, fr_up, fr_p, dum_ab, F5, e63, ← hk, of_eq, waste_eq, words_eq, e, v0, hw, w2, w3, w4, c, d1, x1, wr0]
    · rw [e, v1] at hw
      have w3 := w64 (8 - k) (by omega)
      have w4 := w64 (8 - k - 2) (by omega)
      have w5 := w64 (2 * (8 - k - 2)) (by omega)
      have d1 : ¬ (8 : Int) < k + 2 := by omega
      have d2 : ¬ k + 2 ≤ (4 : Int) := by omega
      have d3 : 2 * (8 - k - 2) < (8 : Int) := by omega
      simp (maxSteps := 4000000) [↓P_skip, ↓P_exit, ↓P_ret, ↓P_seq, ↓P_cond, ↓P_blk, ↓P_reg, ↓P_draw, ↓P_nil, ↓P_cons, condP_t, condP_f, dum_ab, stepR, want_none, want_some, opRun, ev_t, ev_c, put_none, put_some, resAll, res_tmp, res_cell, oneOf, minI, maxI, min2A, max2A, mn2, mx2, mx3, rdBlk, wrBlk, newBlk, partA, abin, ibin, isShift, AV.cells, AV.one, lay, sub, fillA, lenA, toN, allApart, apartFrom, Nat.testBit, Mem.blk_set_same, Mem.blk_set_ne, Mem.set_set, bit_zero, bit_self, lowBits_or, lowBits_zero, len_setT, sl_same, sl_ne, len_frame, sl_frame,↓op_len, lenOp_slc, lenOp_nils, ↓Post.some, ↓Post_bind, ↓Post_ret, ↓Post_draw, ↓PostL_nil, ↓PostL_cons, Post_fail, ofOpt_some, ofOpt_none, eA_b, eA_i, eA_s, eA_nn, eA_np, eA_pn, eA_lnn, eA_lnp, eA_lpn, eA_i2, eA_i3, blt_dec, Nat.add_assoc, keeps_refl, keeps_at, keeps_up, new_one, and_pow, bit_hi, lowBits_pow, ble_dec, fr_refl, fr_at, fr_up, fr_p, dum_ab, F5, e63, ← hk, of_eq, waste_eq, words_eq, e, v0, v1, hw, w2, w3, w4, w5, c, d1, d2, d3, x1, wr0]
    · rw [e, v2] at hw
      have w3 := w64 (16 - k) (by omega)
      have w4 := w64 (16 - k - 2) (by omega)
      have w5 := w64 (2 * (16 - k - 2)) (by omega)
      have d1 : ¬ (16 : Int) < k + 2 := by omega
      have d2 : ¬ k + 2 ≤ (8 : Int) := by omega
      have d3 : 2 * (16 - k - 2) < (16 : Int) := by omega
      simp (maxSteps := 4000000) [↓P_skip, ↓P_exit, ↓P_ret, ↓P_seq, ↓P_cond, ↓P_blk, ↓P_reg, ↓P_draw, ↓P_nil, ↓P_cons, condP_t, condP_f, dum_ab, stepR, want_none, want_some, opRun, ev_t, ev_c, put_none, put_some, resAll, res_tmp, res_cell, oneOf, minI, maxI, min2A, max2A, mn2, mx2, mx3, rdBlk, wrBlk, newBlk, partA, abin, ibin, isShift, AV.cells, AV.one, lay, sub, fillA, lenA, toN, allApart, apartFrom, Nat.testBit, Mem.blk_set_same, Mem.blk_set_ne, Mem.set_set, bit_zero, bit_self, lowBits_or, lowBits_zero, len_setT, sl_same, sl_ne, len_frame, sl_frame,↓op_len, lenOp_slc, lenOp_nils, ↓Post.some, ↓Post_bind, ↓Post_ret, ↓Post_draw, ↓PostL_nil, ↓PostL_cons, Post_fail, ofOpt_some, ofOpt_none, eA_b, eA_i, eA_s, eA_nn, eA_np, eA_pn, eA_lnn, eA_lnp, eA_lpn, eA_i2, eA_i3, blt_dec, Nat.add_assoc, keeps_refl, keeps_at, keeps_up, new_one, and_pow, bit_hi, lowBits_pow, ble_dec, fr_refl, fr_at, fr_up, fr_p, dum_ab, F5, e63, ← hk, of_eq, waste_eq, words_eq, e, v1, v2, hw, w2, w3, w4, w5, c, d1, d2, d3, x1, wr1]
    · rw [e, v3] at hw
      have w3 := w64 (32 - k) (by omega)
      have w4 := w64 (32 - k - 2) (by omega)
      have w5 := w64 (2 * (32 - k - 2)) (by omega)
      have d1 : ¬ (32 : Int) < k + 2 := by omega
      have d2 : ¬ k + 2 ≤ (16 : Int) := by omega
      have d3 : 2 * (32 - k - 2) < (32 : Int) := by omega
      simp (maxSteps := 4000000) [↓P_skip, ↓P_exit, ↓P_ret, ↓P_seq, ↓P_cond, ↓P_blk, ↓P_reg, ↓P_draw, ↓P_nil, ↓P_cons, condP_t, condP_f, dum_ab, stepR, want_none, want_some, opRun, ev_t, ev_c, put_none, put_some, resAll, res_tmp, res_cell, oneOf, minI, maxI, min2A, max2A, mn2, mx2, mx3, rdBlk, wrBlk, newBlk, partA, abin, ibin, isShift, AV.cells, AV.one, lay, sub, fillA, lenA, toN, allApart, apartFrom, Nat.testBit, Mem.blk_set_same, Mem.blk_set_ne, Mem.set_set, bit_zero, bit_self, lowBits_or, lowBits_zero, len_setT, sl_same, sl_ne, len_frame, sl_frame,↓op_len, lenOp_slc, lenOp_nils, ↓Post.some, ↓Post_bind, ↓Post_ret, ↓Post_draw, ↓PostL_nil, ↓PostL_cons, Post_fail, ofOpt_some, ofOpt_none, eA_b, eA_i, eA_s, eA_nn, eA_np, eA_pn, eA_lnn, eA_lnp, eA_lpn, eA_i2, eA_i3, blt_dec, Nat.add_assoc, keeps_refl, keeps_at, keeps_up, new_one, and_pow, bit_hi, lowBits_pow, ble_dec, fr_refl, fr_at, fr_up, fr_p, dum_ab, F5, e63, ← hk, of_eq, waste_eq, words_eq, e, v2, v3, hw, w2, w3, w4, w5, c, d1, d2, d3, x1, wr2]
    · rw [e, v4] at hw
      have w3 := w64 (64 - k) (by omega)
      have w4 := w64 (64 - k - 2) (by omega)
      have w5 := w64 (2 * (64 - k - 2)) (by omega)
      have d1 : ¬ (64 : Int) < k + 2 := by omega
      have d2 : ¬ k + 2 ≤ (32 : Int) := by omega
      have d3 : 2 * (64 - k - 2) < (64 : Int) := by omega
      simp (maxSteps := 4000000) [↓P_skip, ↓P_exit, ↓P_ret, ↓P_seq, ↓P_cond, ↓P_blk, ↓P_reg, ↓P_draw, ↓P_nil, ↓P_cons, condP_t, condP_f, dum_ab, stepR, want_none, want_some, opRun, ev_t, ev_c, put_none, put_some, resAll, res_tmp, res_cell, oneOf, minI, maxI, min2A, max2A, mn2, mx2, mx3, rdBlk, wrBlk, newBlk, partA, abin, ibin, isShift, AV.cells, AV.one, lay, sub, fillA, lenA, toN, allApart, apartFrom, Nat.testBit, Mem.blk_set_same, Mem.blk_set_ne, Mem.set_set, bit_zero, bit_self, lowBits_or, lowBits_zero, len_setT, sl_same, sl_ne, len_frame, sl_frame,↓op_len, lenOp_slc, lenOp_nils, ↓Post.some, ↓Post_bind, ↓Post_ret, ↓Post_draw, ↓PostL_nil, ↓PostL_cons, Post_fail, ofOpt_some, ofOpt_none, eA_b, eA_i, eA_s, eA_nn, eA_np, eA_pn, eA_lnn, eA_lnp, eA_lpn, eA_i2, eA_i3, blt_dec, Nat.add_assoc, keeps_refl, keeps_at, keeps_up, new_one, and_pow, bit_hi, lowBits_pow, ble_dec, fr_refl, fr_at, fr_up, fr_p, dum_ab, F5, e63, ← hk, of_eq, waste_eq, words_eq, e, v3, v4, hw, w2, w3, w4, w5, c, d1, d2, d3, x1, wr3]

theorem sh_words (s : Int) (h : 0 ≤ s ∧ s ≤ 4) : ishift .shl .i64 4 s = some (.int .i64 (words s)) := by
  obtain rfl | rfl | rfl | rfl | rfl : s = 0 ∨ s = 1 ∨ s = 2 ∨ s = 3 ∨ s = 4 := by omega
  all_goals rfl
theorem words_mono (s t : Int) (h : 0 ≤ s ∧ s ≤ t ∧ t ≤ 4) : words s ≤ words t := by
  obtain rfl | rfl | rfl | rfl | rfl : s = 0 ∨ s = 1 ∨ s = 2 ∨ s = 3 ∨ s = 4 := by omega
  all_goals (obtain rfl | rfl | rfl | rfl | rfl : t = 0 ∨ t = 1 ∨ t = 2 ∨ t = 3 ∨ t = 4 := by omega) <;> first | decide | omega
set_option maxRecDepth 100000 in
set_option maxHeartbeats 8000000 in
theorem order_law (a0 : Int) (w0 : (Lit.int .i64 a0).wf = true) (a1 : Int) (w1 : (Lit.int .i64 a1).wf = true) (h : Mem) (p : Nat) : Yes T 7 [.int .i64 a0, .int .i64 a1] h p := by
  refine Yes.of 400 ?_
  rw [xF_fr T7]
  obtain ⟨x, hx⟩ : ∃ k, k = a0 % 64 := ⟨_, rfl⟩
  obtain ⟨y, hy⟩ : ∃ k, k = a1 % 64 := ⟨_, rfl⟩
  obtain ⟨lo, hlo⟩ : ∃ k, k = if y < x then y else x := ⟨_, rfl⟩
  obtain ⟨hi, hhi⟩ : ∃ k, k = if x < y then y else x := ⟨_, rfl⟩
  have b : 0 ≤ lo ∧ lo ≤ hi ∧ hi ≤ 63 ∧ 0 ≤ x ∧ x ≤ hi := by subst hlo hhi; split <;> split <;> omega
  obtain ⟨h1, nx1, tq1, wq1, x1, n1, _⟩ := (known_ans h p).at
  by_cases c : 62 < hi
  · have f := fitO_no c
    simp (maxSteps := 4000000) [↓P_skip, ↓P_exit, ↓P_ret, ↓P_seq, ↓P_cond, ↓P_blk, ↓P_reg, ↓P_draw, ↓P_nil, ↓P_cons, condP_t, condP_f, dum_ab, stepR, want_none, want_some, opRun, ev_t, ev_c, put_none, put_some, resAll, res_tmp, res_cell, oneOf, minI, maxI, min2A, max2A, mn2, mx2, mx3, rdBlk, wrBlk, newBlk, partA, abin, ibin, isShift, AV.cells, AV.one, lay, sub, fillA, lenA, toN, allApart, apartFrom, Nat.testBit, Mem.blk_set_same, Mem.blk_set_ne, Mem.set_set, bit_zero, bit_self, lowBits_or, lowBits_zero, len_setT, sl_same, sl_ne, len_frame, sl_frame,↓op_len, lenOp_slc, lenOp_nils, ↓Post.some, ↓Post_bind, ↓Post_ret, ↓Post_draw, ↓PostL_nil, ↓PostL_cons, Post_fail, ofOpt_some, ofOpt_none, eA_b, eA_i, eA_s, eA_nn, eA_np, eA_pn, eA_lnn, eA_lnp, eA_lpn, eA_i2, eA_i3, blt_dec, Nat.add_assoc, keeps_refl, keeps_at, keeps_up, new_one, and_pow, bit_hi, lowBits_pow, ble_dec, fr_refl, fr_at, fr_up, fr_p, dum_ab, F7, e63, ← hx, ← hy, ← hlo, ← hhi, of_eq, waste_eq, words_eq, f, c, x1]
  · have fl := fitO_5 b.1 (show lo ≤ 62 by omega)
    have fh := fitO_5 (show 0 ≤ hi by omega) (show hi ≤ 62 by omega)
    have fx := fitO_5 b.2.2.2.1 (show x ≤ 62 by omega)
    have m : 0 ≤ fitO lo ∧ fitO lo ≤ fitO hi ∧ fitO hi ≤ 4 := by omega
    have ww := words_mono _ _ m
    have u : IntKind.u64.wrap (fitO lo) = fitO lo := wrap_unsigned .u64 rfl _ m.1 (by show _ < (2:Int)^64; omega)
    have sw := sh_words (fitO lo) (by omega)
    have wx : 0 ≤ waste x := by
      unfold waste
      split
      · omega
      · rcases fx with ⟨e, _⟩ | ⟨e, _, _⟩ | ⟨e, _, _⟩ | ⟨e, _, _⟩ | ⟨e, _, _⟩ <;> rw [e] <;> simp only [v0, v1, v2, v3, v4] <;> omega
    simp (maxSteps := 4000000) [↓P_skip, ↓P_exit, ↓P_ret, ↓P_seq, ↓P_cond, ↓P_blk, ↓P_reg, ↓P_draw, ↓P_nil, ↓P_cons, condP_t, condP_f, dum_ab, stepR, want_none, want_some, opRun, ev_t, ev_c, put_none, put_some, resAll, res_tmp, res_cell, oneOf, minI, maxI, min2A, max2A, mn2, mx2, mx3, rdBlk, wrBlk, newBlk, partA, abin, ibin, isShift, AV.cells, AV.one, lay, sub, fillA, lenA, toN, allApart, apartFrom, Nat.testBit, Mem.blk_set_same, Mem.blk_set_ne, Mem.set_set, bit_zero, bit_self, lowBits_or, lowBits_zero, len_setT, sl_same, sl_ne, len_frame, sl_frame,↓op_len, lenOp_slc, lenOp_nils, ↓Post.some, ↓Post_bind, ↓Post_ret, ↓Post_draw, ↓PostL_nil, ↓PostL_cons, Post_fail, ofOpt_some, ofOpt_none, eA_b, eA_i, eA_s, eA_nn, eA_np, eA_pn, eA_lnn, eA_lnp, eA_lpn, eA_i2, eA_i3, blt_dec, Nat.add_assoc, keeps_refl, keeps_at, keeps_up, new_one, and_pow, bit_hi, lowBits_pow, ble_dec, fr_refl, fr_at, fr_up, fr_p, dum_ab, F7, e63, ← hx, ← hy, ← hlo, ← hhi, of_eq, waste_eq, words_eq, c, x1, m.1, m.2.1, ww, u, sw, wx]
end Go.Proofs.YtamldkpcgagkpaaT
