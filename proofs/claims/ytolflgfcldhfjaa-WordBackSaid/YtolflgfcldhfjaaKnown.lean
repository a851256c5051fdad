/- Word: known. -/
import Derived.Test.YtolflgfcldhfjaaFn
namespace Go.Proofs.YtolflgfcldhfjaaT
open Go Go.Proofs.YtolflgfcldhfjaaE Go.Proofs.YtolflgfcldhfjaaB
set_option linter.unusedSimpArgs false
set_option linter.unusedVariables false
attribute [local congr] Post_cg PostL_cg condP_cg

set_option maxRecDepth 100000 in
set_option maxHeartbeats 8000000 in
theorem known_eq (k : Nat) (h : Mem) (nx lg : Nat) : xF T (k + 150) 12 [] h nx lg = some ⟨.bool true, h, nx, 0, 0⟩ := by
  rw [xF_fr T12]; apply eq_of_Post
  have k1 : iw (-1) = 4294967295 := by decide
  have k2 : inr (-1) = true := by decide
  have k3 : inr 1073741824 = false := by decide
  have k4 : iw (-7) = 4294967283 := by decide
  have k5 : iw 2 = 5 := by decide
  have k6 : cond (dok 4294967283 5) (iw (qv (nv 4294967283) (nv 5))) 0 = 4294967289 := by decide
  have k7 : cond (dok 4294967283 5) (inr (qv (nv 4294967283) (nv 5))) false = true := by decide
  have k8 : nv 4294967289 = -4 := by decide
  have k9 : odd 4294967289 = true := by decide
  have k10 : ow 9 = 18 := by decide
  have k11 : iv 18 = 9 := by decide
  have k12 : noid 18 = false := by decide
  have k13 : bo 4294967283 5 = true := by decide
  have k14 : nv 4294967283 < nv 5 := by decide
  simp (maxSteps := 4000000) [↓P_skip, ↓P_exit, ↓P_ret, ↓P_seq, ↓P_cond, ↓P_blk, ↓P_reg, ↓P_draw, ↓P_nil, ↓P_cons, condP_t, condP_f, dum_ab, stepR, want_none, want_some, opRun, ev_t, ev_c, put_none, put_some, resAll, res_tmp, res_cell, oneOf, minI, maxI, min2A, max2A, mn2, mx2, mx3, rdBlk, wrBlk, newBlk, partA, abin, ibin, isShift, AV.cells, AV.one, lay, sub, fillA, lenA, toN, allApart, apartFrom, Nat.testBit, Mem.blk_set_same, Mem.blk_set_ne, Mem.set_set, bit_zero, bit_self, lowBits_or, lowBits_zero, len_setT, sl_same, sl_ne, len_frame, sl_frame,↓op_len, lenOp_slc, lenOp_nils, ↓Post.some, ↓Post_bind, ↓Post_ret, ↓Post_draw, ↓PostL_nil, ↓PostL_cons, Post_fail, ofOpt_some, ofOpt_none, eA_b, eA_i, eA_s, eA_nn, eA_np, eA_pn, eA_lnn, eA_lnp, eA_lpn, eA_i2, eA_i3, blt_dec, Nat.add_assoc, keeps_refl, keeps_at, keeps_up, new_one, and_pow, bit_hi, lowBits_pow, ble_dec, fr_refl, fr_at, fr_up, fr_p, dum_ab, F12, int_eq, div_eq, num_eq, oop_eq, id_eq, less_eq, k1, k2, k3, k4, k5, k6, k7, k8, k9, k10, k11, k12, k13, k14]

end Go.Proofs.YtolflgfcldhfjaaT
