/- A function of the statements' book, by a contract: a number that is brought between two others. -/
import Derived.Test.YtamfoplfbidolaaGreatDoorProg
import Derived.Test.YtamfoplfbidolaaGreatDoorX4
import Derived.KernelRfl
namespace Go.Proofs.YtamfoplfbidolaaGreatDoorT
open Go Go.Proofs.YtamfoplfbidolaaGreatDoorE Go.Proofs.YtamfoplfbidolaaGreatDoorB
set_option linter.unusedSimpArgs false
set_option linter.unusedVariables false
set_option maxRecDepth 100000
attribute [local congr] Post_cg PostL_cg condP_cg

def F7 : AF := (.mk 33 [(.tmp 6)] (.seq (.reg [(.mk (.some 6) .none (.mov (.c (.int .i64 0))))] false []) (.seq (.seq (.reg [(.mk (.some 7) .none (.mov (.t 0))), (.mk (.some 8) .none (.mov (.t 1))), (.mk (.some 9) .none (.bin .geq (.t 7) (.t 8))), (.mk (.some 10) .none (.mov (.t 9))), (.mk (.some 11) (.some (10, true)) (.mov (.t 0))), (.mk (.some 12) (.some (10, true)) (.mov (.t 2))), (.mk (.some 13) (.some (10, true)) (.bin .leq (.t 11) (.t 12))), (.mk (.some 14) .none (.pick (.t 10) (.t 13) (.c (.bool false))))] false []) (.cond (.t 14) (.seq (.reg [(.mk (.some 15) .none (.mov (.t 0))), (.mk (.some 6) .none (.mov (.t 15)))] false []) .ret) .skip)) (.seq (.reg [(.mk (.some 16) .none (.mov (.t 0))), (.mk (.some 17) .none (.mov (.t 2))), (.mk (.some 18) .none (.mov (.t 1))), (.mk (.some 19) .none (.bin .sub (.t 17) (.t 18))), (.mk (.some 20) .none (.bin .add (.t 19) (.c (.int .i64 1)))), (.mk (.some 21) .none (.bin .rem (.t 16) (.t 20))), (.mk (.some 0) .none (.mov (.t 21)))] false []) (.seq (.seq (.reg [(.mk (.some 22) .none (.mov (.t 0))), (.mk (.some 23) .none (.bin .lss (.t 22) (.c (.int .i64 0))))] false []) (.cond (.t 23) (.reg [(.mk (.some 24) .none (.mov (.t 0))), (.mk (.some 25) .none (.mov (.t 2))), (.mk (.some 26) .none (.bin .add (.t 24) (.t 25))), (.mk (.some 27) .none (.mov (.t 1))), (.mk (.some 28) .none (.bin .sub (.t 26) (.t 27))), (.mk (.some 29) .none (.bin .add (.t 28) (.c (.int .i64 1)))), (.mk (.some 0) .none (.mov (.t 29)))] false []) .skip)) (.seq (.reg [(.mk (.some 30) .none (.mov (.t 1))), (.mk (.some 31) .none (.mov (.t 0))), (.mk (.some 32) .none (.bin .add (.t 30) (.t 31))), (.mk (.some 6) .none (.mov (.t 32)))] false []) .ret))))))
theorem F7_ok : compF Tryz.prog 7 = some F7 := by kernel_rfl
theorem within_ex (x lo hi : Int) (h1 : -100000 ≤ lo) (h2 : lo ≤ hi) (h3 : hi ≤ 2000000000) : ∃ r, lo ≤ r ∧ r ≤ hi ∧ (lo ≤ x → x ≤ hi → r = x) ∧ ∀ (n : Nat) (h : Mem) (nx lg : Nat), xF (compF Tryz.prog) (n + 20) 7 [.int .i64 x, .int .i64 lo, .int .i64 hi] h nx lg = some ⟨.int .i64 r, h, nx, 0, 0⟩ := by
  generalize hT : compF Tryz.prog = T
  have TF : T 7 = some F7 := by rw [← hT]; exact F7_ok
  have w1 : IntKind.i64.wrap (hi - lo) = hi - lo := by rw [IntKind.wrap_i64]; omega
  have w2 : IntKind.i64.wrap (hi - lo + 1) = hi - lo + 1 := by rw [IntKind.wrap_i64]; omega
  have w0 : ¬ hi - lo + 1 = 0 := by omega
  have t1 := Int.tmod_lt_of_pos x (show (0 : Int) < hi - lo + 1 by omega)
  have t2 : -(hi - lo + 1) < x.tmod (hi - lo + 1) := by
    have := Int.lt_tmod_of_pos x (show (0 : Int) < hi - lo + 1 by omega)
    omega
  have w3 : IntKind.i64.wrap (x.tmod (hi - lo + 1)) = x.tmod (hi - lo + 1) := by rw [IntKind.wrap_i64]; omega
  by_cases c : lo ≤ x ∧ x ≤ hi
  · obtain ⟨c1, c2⟩ := c
    refine ⟨x, c1, c2, fun _ _ => rfl, fun n h nx lg => ?_⟩
    rw [xF_fr TF]; apply eq_of_Post
    simp [↓P_skip, ↓P_exit, ↓P_ret, ↓P_seq, ↓P_cond, ↓P_blk, ↓P_reg, ↓P_draw, ↓P_nil, ↓P_cons, condP_t, condP_f, dum_ab, stepR, want_none, want_some, opRun, ev_t, ev_c, put_none, put_some, resAll, res_tmp, res_cell, oneOf, minI, maxI, min2A, max2A, mn2, mx2, mx3, rdBlk, wrBlk, newBlk, partA, abin, ibin, isShift, AV.cells, AV.one, lay, sub, fillA, lenA, toN, allApart, apartFrom, Nat.testBit, Mem.blk_set_same, Mem.blk_set_ne, Mem.set_set, bit_zero, bit_self, lowBits_or, lowBits_zero, len_setT, sl_same, sl_ne, len_frame, sl_frame,↓op_len, lenOp_slc, lenOp_nils, ↓Post.some, ↓Post_bind, ↓Post_ret, ↓Post_draw, ↓PostL_nil, ↓PostL_cons, Post_fail, ofOpt_some, ofOpt_none, eA_b, eA_i, eA_s, eA_nn, eA_np, eA_pn, eA_lnn, eA_lnp, eA_lpn, eA_i2, eA_i3, blt_dec, Nat.add_assoc, keeps_refl, keeps_at, keeps_up, new_one, and_pow, bit_hi, lowBits_pow, ble_dec, fr_refl, fr_at, fr_up, fr_p, dum_ab, F7, c1, c2]
  · generalize hm : x.tmod (hi - lo + 1) = m at *
    by_cases c3 : m < 0
    · have w4 : IntKind.i64.wrap (m + hi) = m + hi := by rw [IntKind.wrap_i64]; omega
      have w5 : IntKind.i64.wrap (m + hi - lo) = m + hi - lo := by rw [IntKind.wrap_i64]; omega
      have w6 : IntKind.i64.wrap (m + hi - lo + 1) = m + hi - lo + 1 := by rw [IntKind.wrap_i64]; omega
      have w7 : IntKind.i64.wrap (lo + (m + hi - lo + 1)) = lo + (m + hi - lo + 1) := by rw [IntKind.wrap_i64]; omega
      refine ⟨lo + (m + hi - lo + 1), by omega, by omega, fun a b => absurd ⟨a, b⟩ c, fun n h nx lg => ?_⟩
      rw [xF_fr TF]; apply eq_of_Post
      by_cases c1 : lo ≤ x
      · have c2 : ¬ x ≤ hi := fun e => c ⟨c1, e⟩
        simp [↓P_skip, ↓P_exit, ↓P_ret, ↓P_seq, ↓P_cond, ↓P_blk, ↓P_reg, ↓P_draw, ↓P_nil, ↓P_cons, condP_t, condP_f, dum_ab, stepR, want_none, want_some, opRun, ev_t, ev_c, put_none, put_some, resAll, res_tmp, res_cell, oneOf, minI, maxI, min2A, max2A, mn2, mx2, mx3, rdBlk, wrBlk, newBlk, partA, abin, ibin, isShift, AV.cells, AV.one, lay, sub, fillA, lenA, toN, allApart, apartFrom, Nat.testBit, Mem.blk_set_same, Mem.blk_set_ne, Mem.set_set, bit_zero, bit_self, lowBits_or, lowBits_zero, len_setT, sl_same, sl_ne, len_frame, sl_frame,↓op_len, lenOp_slc, lenOp_nils, ↓Post.some, ↓Post_bind, ↓Post_ret, ↓Post_draw, ↓PostL_nil, ↓PostL_cons, Post_fail, ofOpt_some, ofOpt_none, eA_b, eA_i, eA_s, eA_nn, eA_np, eA_pn, eA_lnn, eA_lnp, eA_lpn, eA_i2, eA_i3, blt_dec, Nat.add_assoc, keeps_refl, keeps_at, keeps_up, new_one, and_pow, bit_hi, lowBits_pow, ble_dec, fr_refl, fr_at, fr_up, fr_p, dum_ab, F7, c1, c2, w0, w1, w2, w3, w4, w5, w6, w7, hm, c3]
      · simp [↓P_skip, ↓P_exit, ↓P_ret, ↓P_seq, ↓P_cond, ↓P_blk, ↓P_reg, ↓P_draw, ↓P_nil, ↓P_cons, condP_t, condP_f, dum_ab, stepR, want_none, want_some, opRun, ev_t, ev_c, put_none, put_some, resAll, res_tmp, res_cell, oneOf, minI, maxI, min2A, max2A, mn2, mx2, mx3, rdBlk, wrBlk, newBlk, partA, abin, ibin, isShift, AV.cells, AV.one, lay, sub, fillA, lenA, toN, allApart, apartFrom, Nat.testBit, Mem.blk_set_same, Mem.blk_set_ne, Mem.set_set, bit_zero, bit_self, lowBits_or, lowBits_zero, len_setT, sl_same, sl_ne, len_frame, sl_frame,↓op_len, lenOp_slc, lenOp_nils, ↓Post.some, ↓Post_bind, ↓Post_ret, ↓Post_draw, ↓PostL_nil, ↓PostL_cons, Post_fail, ofOpt_some, ofOpt_none, eA_b, eA_i, eA_s, eA_nn, eA_np, eA_pn, eA_lnn, eA_lnp, eA_lpn, eA_i2, eA_i3, blt_dec, Nat.add_assoc, keeps_refl, keeps_at, keeps_up, new_one, and_pow, bit_hi, lowBits_pow, ble_dec, fr_refl, fr_at, fr_up, fr_p, dum_ab, F7, c1, w0, w1, w2, w3, w4, w5, w6, w7, hm, c3]
    · have w7 : IntKind.i64.wrap (lo + m) = lo + m := by rw [IntKind.wrap_i64]; omega
      refine ⟨lo + m, by omega, by omega, fun a b => absurd ⟨a, b⟩ c, fun n h nx lg => ?_⟩
      rw [xF_fr TF]; apply eq_of_Post
      by_cases c1 : lo ≤ x
      · have c2 : ¬ x ≤ hi := fun e => c ⟨c1, e⟩
        simp [↓P_skip, ↓P_exit, ↓P_ret, ↓P_seq, ↓P_cond, ↓P_blk, ↓P_reg, ↓P_draw, ↓P_nil, ↓P_cons, condP_t, condP_f, dum_ab, stepR, want_none, want_some, opRun, ev_t, ev_c, put_none, put_some, resAll, res_tmp, res_cell, oneOf, minI, maxI, min2A, max2A, mn2, mx2, mx3, rdBlk, wrBlk, newBlk, partA, abin, ibin, isShift, AV.cells, AV.one, lay, sub, fillA, lenA, toN, allApart, apartFrom, Nat.testBit, Mem.blk_set_same, Mem.blk_set_ne, Mem.set_set, bit_zero, bit_self, lowBits_or, lowBits_zero, len_setT, sl_same, sl_ne, len_frame, sl_frame,↓op_len, lenOp_slc, lenOp_nils, ↓Post.some, ↓Post_bind, ↓Post_ret, ↓Post_draw, ↓PostL_nil, ↓PostL_cons, Post_fail, ofOpt_some, ofOpt_none, eA_b, eA_i, eA_s, eA_nn, eA_np, eA_pn, eA_lnn, eA_lnp, eA_lpn, eA_i2, eA_i3, blt_dec, Nat.add_assoc, keeps_refl, keeps_at, keeps_up, new_one, and_pow, bit_hi, lowBits_pow, ble_dec, fr_refl, fr_at, fr_up, fr_p, dum_ab, F7, c1, c2, w0, w1, w2, w3, w7, hm, c3]
      · simp [↓P_skip, ↓P_exit, ↓P_ret, ↓P_seq, ↓P_cond, ↓P_blk, ↓P_reg, ↓P_draw, ↓P_nil, ↓P_cons, condP_t, condP_f, dum_ab, stepR, want_none, want_some, opRun, ev_t, ev_c, put_none, put_some, resAll, res_tmp, res_cell, oneOf, minI, maxI, min2A, max2A, mn2, mx2, mx3, rdBlk, wrBlk, newBlk, partA, abin, ibin, isShift, AV.cells, AV.one, lay, sub, fillA, lenA, toN, allApart, apartFrom, Nat.testBit, Mem.blk_set_same, Mem.blk_set_ne, Mem.set_set, bit_zero, bit_self, lowBits_or, lowBits_zero, len_setT, sl_same, sl_ne, len_frame, sl_frame,↓op_len, lenOp_slc, lenOp_nils, ↓Post.some, ↓Post_bind, ↓Post_ret, ↓Post_draw, ↓PostL_nil, ↓PostL_cons, Post_fail, ofOpt_some, ofOpt_none, eA_b, eA_i, eA_s, eA_nn, eA_np, eA_pn, eA_lnn, eA_lnp, eA_lpn, eA_i2, eA_i3, blt_dec, Nat.add_assoc, keeps_refl, keeps_at, keeps_up, new_one, and_pow, bit_hi, lowBits_pow, ble_dec, fr_refl, fr_at, fr_up, fr_p, dum_ab, F7, c1, w0, w1, w2, w3, w7, hm, c3]
end Go.Proofs.YtamfoplfbidolaaGreatDoorT
