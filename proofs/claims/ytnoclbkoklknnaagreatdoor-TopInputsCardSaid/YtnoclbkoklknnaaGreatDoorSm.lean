/- The statements' small: a number that goes into a literal. -/
import Derived.Test.YtnoclbkoklknnaaGreatDoorW
namespace Go.Proofs.YtnoclbkoklknnaaGreatDoorT
open Go Go.Proofs.YtnoclbkoklknnaaGreatDoorE Go.Proofs.YtnoclbkoklknnaaGreatDoorB
set_option linter.unusedSimpArgs false
set_option linter.unusedVariables false
set_option maxRecDepth 100000
attribute [local congr] Post_cg PostL_cg condP_cg

theorem F16_ok : compF Tryz.prog 16 = some F16 := by kernel_rfl
theorem small_ex (x : Int) : ∃ r, -1073741823 ≤ r ∧ r ≤ 1073741823 ∧ ∀ (n : Nat) (h : Mem) (nx lg : Nat), xF (compF Tryz.prog) (n + 20) 16 [.int .i64 x] h nx lg = some ⟨.int .i64 r, h, nx, 0, 0⟩ := by
  generalize hT : compF Tryz.prog = T
  have TF : T 16 = some F16 := by rw [← hT]; exact F16_ok
  have t1 := Int.tmod_lt_of_pos x (show (0 : Int) < 1073741824 by omega)
  have t2 : -1073741824 < x.tmod 1073741824 := by
    have := Int.lt_tmod_of_pos x (show (0 : Int) < 1073741824 by omega)
    omega
  have w3 : IntKind.i64.wrap (x.tmod 1073741824) = x.tmod 1073741824 := by rw [IntKind.wrap_i64]; omega
  refine ⟨x.tmod 1073741824, by omega, by omega, fun n h nx lg => ?_⟩
  rw [xF_fr TF]; apply eq_of_Post
  simp [↓P_skip, ↓P_exit, ↓P_ret, ↓P_seq, ↓P_cond, ↓P_blk, ↓P_reg, ↓P_draw, ↓P_nil, ↓P_cons, condP_t, condP_f, dum_ab, stepR, want_none, want_some, opRun, ev_t, ev_c, put_none, put_some, resAll, res_tmp, res_cell, oneOf, minI, maxI, min2A, max2A, mn2, mx2, mx3, rdBlk, wrBlk, newBlk, partA, abin, ibin, isShift, AV.cells, AV.one, lay, sub, fillA, lenA, toN, allApart, apartFrom, Nat.testBit, Mem.blk_set_same, Mem.blk_set_ne, Mem.set_set, bit_zero, bit_self, lowBits_or, lowBits_zero, len_setT, sl_same, sl_ne, len_frame, sl_frame,↓op_len, lenOp_slc, lenOp_nils, ↓Post.some, ↓Post_bind, ↓Post_ret, ↓Post_draw, ↓PostL_nil, ↓PostL_cons, Post_fail, ofOpt_some, ofOpt_none, eA_b, eA_i, eA_s, eA_nn, eA_np, eA_pn, eA_lnn, eA_lnp, eA_lpn, eA_i2, eA_i3, blt_dec, Nat.add_assoc, keeps_refl, keeps_at, keeps_up, new_one, and_pow, bit_hi, lowBits_pow, ble_dec, fr_refl, fr_at, fr_up, fr_p, dum_ab, F16, w3]
end Go.Proofs.YtnoclbkoklknnaaGreatDoorT
