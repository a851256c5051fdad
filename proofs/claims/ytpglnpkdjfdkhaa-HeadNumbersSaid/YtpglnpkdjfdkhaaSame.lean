/- Head: same is so for any numbers; known. -/
import Derived.Test.YtpglnpkdjfdkhaaFn
import Derived.Test.YtpglnpkdjfdkhaaE25
namespace Go.Proofs.YtpglnpkdjfdkhaaT
open Go Go.Proofs.YtpglnpkdjfdkhaaE Go.Proofs.YtpglnpkdjfdkhaaB
set_option linter.unusedSimpArgs false
set_option linter.unusedVariables false
attribute [local congr] Post_congr


set_option maxHeartbeats 4000000 in
theorem same_says (a b c w : Int) (h : Mem) (nx : Nat) : Says T 60 9 [.int .i64 a, .int .i64 b, .int .i64 c, .int .u32 w] h nx (.bool true) := by
  intro lg
  rw [xF_fr T9]
  cases e : (Go.bits .and .u32 w 255 == 1) with
  | true => simp (maxSteps := 2000000) [yC_skip, yC_exit, yC_ret, yC_seq, yC_cond, yC_blk, yC_reg, yC_draw, reg_nil, reg_cons, stepR, want_none, want_some, opRun, ev_t, ev_c, put_none, put_some, resAll, res_tmp, res_cell, oneOf, minI, maxI, min2A, max2A, mn2, mx2, mx3, rdBlk, wrBlk, newBlk, partA, abin, ibin, isShift, AV.cells, AV.one, lay, sub, fillA, lenA, toN, allApart, apartFrom, Nat.testBit, Mem.blk_set_same, Mem.blk_set_ne, Mem.set_set, bit_zero, bit_self, lowBits_or, lowBits_zero, len_setT, sl_same, sl_ne, len_frame, sl_frame,↓op_len, lenOp_slc, lenOp_nils, ↓Post.some, ↓Post_bind, ↓Post_ret, ↓Post_draw, ↓PostL_nil, ↓PostL_cons, Post_fail, ofOpt_some, ofOpt_none, eA_b, eA_i, eA_s, eA_nn, eA_np, eA_pn, eA_lnn, eA_lnp, eA_lpn, eA_i2, eA_i3, blt_dec, Nat.add_assoc, keeps_refl, keeps_at, keeps_up, F9, pack_eq, ref_eq, open_in _ w e, ropen_in _ w e, class_eq, size_eq, shr20, shr12, cls, siz]
  | false => simp (maxSteps := 2000000) [yC_skip, yC_exit, yC_ret, yC_seq, yC_cond, yC_blk, yC_reg, yC_draw, reg_nil, reg_cons, stepR, want_none, want_some, opRun, ev_t, ev_c, put_none, put_some, resAll, res_tmp, res_cell, oneOf, minI, maxI, min2A, max2A, mn2, mx2, mx3, rdBlk, wrBlk, newBlk, partA, abin, ibin, isShift, AV.cells, AV.one, lay, sub, fillA, lenA, toN, allApart, apartFrom, Nat.testBit, Mem.blk_set_same, Mem.blk_set_ne, Mem.set_set, bit_zero, bit_self, lowBits_or, lowBits_zero, len_setT, sl_same, sl_ne, len_frame, sl_frame,↓op_len, lenOp_slc, lenOp_nils, ↓Post.some, ↓Post_bind, ↓Post_ret, ↓Post_draw, ↓PostL_nil, ↓PostL_cons, Post_fail, ofOpt_some, ofOpt_none, eA_b, eA_i, eA_s, eA_nn, eA_np, eA_pn, eA_lnn, eA_lnp, eA_lpn, eA_i2, eA_i3, blt_dec, Nat.add_assoc, keeps_refl, keeps_at, keeps_up, F9, pack_eq, ref_eq, open_out _ w e, ropen_out _ w e, class_eq, size_eq, shr20, shr12, cls, siz]

theorem w123 : word 1 2 3 = 1057537 := by decide
theorem i123 : decide (inside 1 2 3) = true := by decide
theorem i4096 : decide (inside 4096 0 0) = false := by decide
theorem b123 : (Go.bits .and .u32 1057537 255 == 1) = true := by decide
theorem b0 : (Go.bits .and .u32 0 255 == 1) = false := by decide
theorem c123 : cls 1057537 = 1 := by decide
theorem s123 : siz 1057537 = 2 := by decide
theorem l123 : cel 1057537 = 3 := by decide
set_option maxHeartbeats 4000000 in
theorem known_says (h : Mem) (nx : Nat) : Says T 60 10 [] h nx (.bool true) := by
  intro lg
  rw [xF_fr T10]
  have p1 := fun n h nx lg => pack_eq n 1 2 3 h nx lg
  have p2 := fun n h nx lg => pack_eq n 4096 0 0 h nx lg
  have o1 := fun n h nx lg => open_in n 1057537 b123 h nx lg
  have o2 := fun n h nx lg => open_out n 0 b0 h nx lg
  have q1 := fun n h nx lg => class_eq n 1057537 h nx lg
  have q2 := fun n h nx lg => size_eq n 1057537 h nx lg
  rw [w123, i123] at p1
  rw [i4096] at p2
  rw [c123, s123, l123] at o1
  rw [c123] at q1
  rw [s123] at q2
  simp [yC_skip, yC_exit, yC_ret, yC_seq, yC_cond, yC_blk, yC_reg, yC_draw, reg_nil, reg_cons, stepR, want_none, want_some, opRun, ev_t, ev_c, put_none, put_some, resAll, res_tmp, res_cell, oneOf, minI, maxI, min2A, max2A, mn2, mx2, mx3, rdBlk, wrBlk, newBlk, partA, abin, ibin, isShift, AV.cells, AV.one, lay, sub, fillA, lenA, toN, allApart, apartFrom, Nat.testBit, Mem.blk_set_same, Mem.blk_set_ne, Mem.set_set, bit_zero, bit_self, lowBits_or, lowBits_zero, len_setT, sl_same, sl_ne, len_frame, sl_frame,↓op_len, lenOp_slc, lenOp_nils, ↓Post.some, ↓Post_bind, ↓Post_ret, ↓Post_draw, ↓PostL_nil, ↓PostL_cons, Post_fail, ofOpt_some, ofOpt_none, eA_b, eA_i, eA_s, eA_nn, eA_np, eA_pn, eA_lnn, eA_lnp, eA_lpn, eA_i2, eA_i3, blt_dec, Nat.add_assoc, keeps_refl, keeps_at, keeps_up, F10, p1, p2, o1, o2, q1, q2]
end Go.Proofs.YtpglnpkdjfdkhaaT
