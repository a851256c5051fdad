/- Pace, function by function: what the engine's run of each comes to. -/
import Derived.Test.YtjpfmmgleeccoaaT
namespace Go.Proofs.YtjpfmmgleeccoaaT
open Go Go.Proofs.YtjpfmmgleeccoaaE
set_option linter.unusedSimpArgs false
set_option linter.unusedVariables false
attribute [local congr] Post_congr

theorem held_eq (n : Nat) (x : Int) (h : Mem) (nx lg : Nat) : xF T (n + 8) 15 [.int .i64 x] h nx lg = some ⟨.int .i64 (max 0 (min x 1048576)), h, nx, 0, 0⟩ := by
  rw [xF_fr T15]; apply eq_of_Post
  simp [yC_skip, yC_exit, yC_ret, yC_seq, yC_cond, yC_blk, yC_reg, yC_draw, reg_nil, reg_cons, stepR, want_none, want_some, opRun, ev_t, ev_c, put_none, put_some, resAll, res_tmp, res_cell, oneOf, minI, maxI, min2A, max2A, mn2, mx2, mx3, rdBlk, wrBlk, newBlk, partA, abin, ibin, isShift, AV.cells, AV.one, lay, sub, fillA, eqA, eqP, eqL, eqIf, eqB, eqI, eqS, lenA, toN, allApart, apartFrom, Nat.testBit, Mem.blk_set_same, Mem.blk_set_ne, Mem.set_set, bit_zero, bit_self, lowBits_or, lowBits_zero, len_setT, sl_same, sl_ne, len_frame, sl_frame,↓op_len, lenOp_slc, lenOp_nils, ↓Post.some, ↓Post_bind, ↓Post_ret, ↓Post_draw, ↓PostL_nil, ↓PostL_cons, Post_fail, ofOpt_some, ofOpt_none, F15]

/-- A pace's block. -/
def pb (k d : Int) : Blk := ⟨32, 2, true, false, [.int .i64 k, .int .i64 d]⟩

theorem new_eq (n : Nat) (k : Int) (h : Mem) (nx lg : Nat) : xF T (n + 8) 10 [.int .i64 k] h nx lg = some ⟨.ptr nx 0, h.set nx (some (pb (max 1 (min k 16)) 0)), nx + 1, 0, 0⟩ := by
  rw [xF_fr T10]; apply eq_of_Post
  simp [yC_skip, yC_exit, yC_ret, yC_seq, yC_cond, yC_blk, yC_reg, yC_draw, reg_nil, reg_cons, stepR, want_none, want_some, opRun, ev_t, ev_c, put_none, put_some, resAll, res_tmp, res_cell, oneOf, minI, maxI, min2A, max2A, mn2, mx2, mx3, rdBlk, wrBlk, newBlk, partA, abin, ibin, isShift, AV.cells, AV.one, lay, sub, fillA, eqA, eqP, eqL, eqIf, eqB, eqI, eqS, lenA, toN, allApart, apartFrom, Nat.testBit, Mem.blk_set_same, Mem.blk_set_ne, Mem.set_set, bit_zero, bit_self, lowBits_or, lowBits_zero, len_setT, sl_same, sl_ne, len_frame, sl_frame,↓op_len, lenOp_slc, lenOp_nils, ↓Post.some, ↓Post_bind, ↓Post_ret, ↓Post_draw, ↓PostL_nil, ↓PostL_cons, Post_fail, ofOpt_some, ofOpt_none, F10, pb]

theorem give_eq (n : Nat) (x k d : Int) (h : Mem) (nx lg p : Nat) (hlt : p < nx) (hd0 : 0 ≤ d) (hd1 : d ≤ 1099511627776) (hk0 : 0 ≤ k) (hk1 : k ≤ 16) :
    xF T (n + 20) 11 [.ptr p 0, .int .i64 x] (h.set p (some (pb k d))) nx lg = some ⟨.int .i64 (min (d + k * max 0 (min x 1048576)) 1099511627776), h.set p (some (pb k (min (d + k * max 0 (min x 1048576)) 1099511627776))), nx, bit lg p, bit lg p⟩ := by
  have hb : Nat.blt p nx = true := blt_of hlt
  unfold pb
  have h1 : k * max 0 (min x 1048576) ≤ 16 * max 0 (min x 1048576) := Int.mul_le_mul_of_nonneg_right hk1 (by omega)
  have h2 : 0 ≤ k * max 0 (min x 1048576) := Int.mul_nonneg hk0 (by omega)
  have e1 : IntKind.i64.wrap (k * max 0 (min x 1048576)) = k * max 0 (min x 1048576) := by rw [IntKind.wrap_i64]; omega
  have e2 : IntKind.i64.wrap (d + k * max 0 (min x 1048576)) = d + k * max 0 (min x 1048576) := by rw [IntKind.wrap_i64]; omega
  rw [xF_fr T11]; apply eq_of_Post
  simp [yC_skip, yC_exit, yC_ret, yC_seq, yC_cond, yC_blk, yC_reg, yC_draw, reg_nil, reg_cons, stepR, want_none, want_some, opRun, ev_t, ev_c, put_none, put_some, resAll, res_tmp, res_cell, oneOf, minI, maxI, min2A, max2A, mn2, mx2, mx3, rdBlk, wrBlk, newBlk, partA, abin, ibin, isShift, AV.cells, AV.one, lay, sub, fillA, eqA, eqP, eqL, eqIf, eqB, eqI, eqS, lenA, toN, allApart, apartFrom, Nat.testBit, Mem.blk_set_same, Mem.blk_set_ne, Mem.set_set, bit_zero, bit_self, lowBits_or, lowBits_zero, len_setT, sl_same, sl_ne, len_frame, sl_frame,↓op_len, lenOp_slc, lenOp_nils, ↓Post.some, ↓Post_bind, ↓Post_ret, ↓Post_draw, ↓PostL_nil, ↓PostL_cons, Post_fail, ofOpt_some, ofOpt_none, F11, held_eq, hb, e1, e2, bit_hi hlt, lowBits_pow]

theorem did_eq (n : Nat) (x k d : Int) (h : Mem) (nx lg p : Nat) (hlt : p < nx) (hd0 : 0 ≤ d) (hd1 : d ≤ 1099511627776) :
    xF T (n + 20) 12 [.ptr p 0, .int .i64 x] (h.set p (some (pb k d))) nx lg = some ⟨.tup [], h.set p (some (pb k (max 0 (d - max 0 (min x 1048576))))), nx, bit lg p, bit lg p⟩ := by
  have hb : Nat.blt p nx = true := blt_of hlt
  unfold pb
  have e2 : IntKind.i64.wrap (d - max 0 (min x 1048576)) = d - max 0 (min x 1048576) := by rw [IntKind.wrap_i64]; omega
  have e3 : (if max 0 (min x 1048576) < d then d - max 0 (min x 1048576) else 0) = max 0 (d - max 0 (min x 1048576)) := by omega
  rw [xF_fr T12]; apply eq_of_Post
  simp [yC_skip, yC_exit, yC_ret, yC_seq, yC_cond, yC_blk, yC_reg, yC_draw, reg_nil, reg_cons, stepR, want_none, want_some, opRun, ev_t, ev_c, put_none, put_some, resAll, res_tmp, res_cell, oneOf, minI, maxI, min2A, max2A, mn2, mx2, mx3, rdBlk, wrBlk, newBlk, partA, abin, ibin, isShift, AV.cells, AV.one, lay, sub, fillA, eqA, eqP, eqL, eqIf, eqB, eqI, eqS, lenA, toN, allApart, apartFrom, Nat.testBit, Mem.blk_set_same, Mem.blk_set_ne, Mem.set_set, bit_zero, bit_self, lowBits_or, lowBits_zero, len_setT, sl_same, sl_ne, len_frame, sl_frame,↓op_len, lenOp_slc, lenOp_nils, ↓Post.some, ↓Post_bind, ↓Post_ret, ↓Post_draw, ↓PostL_nil, ↓PostL_cons, Post_fail, ofOpt_some, ofOpt_none, F12, held_eq, hb, e2, e3, bit_hi hlt, lowBits_pow]

theorem debt_eq (n : Nat) (k d : Int) (h : Mem) (nx lg p : Nat) (hlt : p < nx) :
    xF T (n + 20) 13 [.ptr p 0] (h.set p (some (pb k d))) nx lg = some ⟨.int .i64 d, h.set p (some (pb k d)), nx, bit lg p, 0⟩ := by
  have hb : Nat.blt p nx = true := blt_of hlt
  unfold pb
  rw [xF_fr T13]; apply eq_of_Post
  simp [yC_skip, yC_exit, yC_ret, yC_seq, yC_cond, yC_blk, yC_reg, yC_draw, reg_nil, reg_cons, stepR, want_none, want_some, opRun, ev_t, ev_c, put_none, put_some, resAll, res_tmp, res_cell, oneOf, minI, maxI, min2A, max2A, mn2, mx2, mx3, rdBlk, wrBlk, newBlk, partA, abin, ibin, isShift, AV.cells, AV.one, lay, sub, fillA, eqA, eqP, eqL, eqIf, eqB, eqI, eqS, lenA, toN, allApart, apartFrom, Nat.testBit, Mem.blk_set_same, Mem.blk_set_ne, Mem.set_set, bit_zero, bit_self, lowBits_or, lowBits_zero, len_setT, sl_same, sl_ne, len_frame, sl_frame,↓op_len, lenOp_slc, lenOp_nils, ↓Post.some, ↓Post_bind, ↓Post_ret, ↓Post_draw, ↓PostL_nil, ↓PostL_cons, Post_fail, ofOpt_some, ofOpt_none, F13, hb]

theorem rest_eq (n : Nat) (k d : Int) (h : Mem) (nx lg p : Nat) (hlt : p < nx) :
    xF T (n + 20) 14 [.ptr p 0] (h.set p (some (pb k d))) nx lg = some ⟨.tup [], h.set p (some (pb k 0)), nx, bit lg p, bit lg p⟩ := by
  have hb : Nat.blt p nx = true := blt_of hlt
  unfold pb
  rw [xF_fr T14]; apply eq_of_Post
  simp [yC_skip, yC_exit, yC_ret, yC_seq, yC_cond, yC_blk, yC_reg, yC_draw, reg_nil, reg_cons, stepR, want_none, want_some, opRun, ev_t, ev_c, put_none, put_some, resAll, res_tmp, res_cell, oneOf, minI, maxI, min2A, max2A, mn2, mx2, mx3, rdBlk, wrBlk, newBlk, partA, abin, ibin, isShift, AV.cells, AV.one, lay, sub, fillA, eqA, eqP, eqL, eqIf, eqB, eqI, eqS, lenA, toN, allApart, apartFrom, Nat.testBit, Mem.blk_set_same, Mem.blk_set_ne, Mem.set_set, bit_zero, bit_self, lowBits_or, lowBits_zero, len_setT, sl_same, sl_ne, len_frame, sl_frame,↓op_len, lenOp_slc, lenOp_nils, ↓Post.some, ↓Post_bind, ↓Post_ret, ↓Post_draw, ↓PostL_nil, ↓PostL_cons, Post_fail, ofOpt_some, ofOpt_none, F14, hb, bit_self]

/-- What is known of chapter 6's runs. -/
theorem known_eq (n : Nat) (h : Mem) (nx lg : Nat) : xF T (n + 60) 9 [] h nx lg = some ⟨.bool true, h.set nx (some (pb 2 0)), nx + 1, bit lg nx, bit lg nx⟩ := by
  have n1 : ∀ (n : Nat) (h : Mem) (nx lg : Nat), xF T (n + 8) 10 [.int .i64 2] h nx lg = some ⟨.ptr nx 0, h.set nx (some (pb 2 0)), nx + 1, 0, 0⟩ := fun n h nx lg => new_eq n 2 h nx lg
  have g1 : ∀ (n : Nat) (h : Mem) (nx lg p : Nat), p < nx → xF T (n + 20) 11 [.ptr p 0, .int .i64 4] (h.set p (some (pb 2 0))) nx lg = some ⟨.int .i64 8, h.set p (some (pb 2 8)), nx, bit lg p, bit lg p⟩ := fun n h nx lg p hlt => give_eq n 4 2 0 h nx lg p hlt (by decide) (by decide) (by decide) (by decide)
  have g2 : ∀ (n : Nat) (h : Mem) (nx lg p : Nat), p < nx → xF T (n + 20) 11 [.ptr p 0, .int .i64 (-1)] (h.set p (some (pb 2 0))) nx lg = some ⟨.int .i64 0, h.set p (some (pb 2 0)), nx, bit lg p, bit lg p⟩ := fun n h nx lg p hlt => give_eq n (-1) 2 0 h nx lg p hlt (by decide) (by decide) (by decide) (by decide)
  have g3 : ∀ (n : Nat) (h : Mem) (nx lg p : Nat), p < nx → xF T (n + 20) 11 [.ptr p 0, .int .i64 5] (h.set p (some (pb 2 0))) nx lg = some ⟨.int .i64 10, h.set p (some (pb 2 10)), nx, bit lg p, bit lg p⟩ := fun n h nx lg p hlt => give_eq n 5 2 0 h nx lg p hlt (by decide) (by decide) (by decide) (by decide)
  have d1 : ∀ (n : Nat) (h : Mem) (nx lg p : Nat), p < nx → xF T (n + 20) 12 [.ptr p 0, .int .i64 3] (h.set p (some (pb 2 8))) nx lg = some ⟨.tup [], h.set p (some (pb 2 5)), nx, bit lg p, bit lg p⟩ := fun n h nx lg p hlt => did_eq n 3 2 8 h nx lg p hlt (by decide) (by decide)
  have d2 : ∀ (n : Nat) (h : Mem) (nx lg p : Nat), p < nx → xF T (n + 20) 12 [.ptr p 0, .int .i64 99] (h.set p (some (pb 2 5))) nx lg = some ⟨.tup [], h.set p (some (pb 2 0)), nx, bit lg p, bit lg p⟩ := fun n h nx lg p hlt => did_eq n 99 2 5 h nx lg p hlt (by decide) (by decide)
  have hlt : nx < nx + 1 := Nat.lt_succ_self nx
  rw [xF_fr T9]; apply eq_of_Post
  simp [yC_skip, yC_exit, yC_ret, yC_seq, yC_cond, yC_blk, yC_reg, yC_draw, reg_nil, reg_cons, stepR, want_none, want_some, opRun, ev_t, ev_c, put_none, put_some, resAll, res_tmp, res_cell, oneOf, minI, maxI, min2A, max2A, mn2, mx2, mx3, rdBlk, wrBlk, newBlk, partA, abin, ibin, isShift, AV.cells, AV.one, lay, sub, fillA, eqA, eqP, eqL, eqIf, eqB, eqI, eqS, lenA, toN, allApart, apartFrom, Nat.testBit, Mem.blk_set_same, Mem.blk_set_ne, Mem.set_set, bit_zero, bit_self, lowBits_or, lowBits_zero, len_setT, sl_same, sl_ne, len_frame, sl_frame,↓op_len, lenOp_slc, lenOp_nils, ↓Post.some, ↓Post_bind, ↓Post_ret, ↓Post_draw, ↓PostL_nil, ↓PostL_cons, Post_fail, ofOpt_some, ofOpt_none, F9, n1, g1, g2, g3, d1, d2, debt_eq, rest_eq, hlt]

end Go.Proofs.YtjpfmmgleeccoaaT
