/- Head, function by function: what the engine's run of each comes to. -/
import Derived.Test.YtpglnpkdjfdkhaaT
import Derived.Test.YtpglnpkdjfdkhaaB
namespace Go.Proofs.YtpglnpkdjfdkhaaT
open Go Go.Proofs.YtpglnpkdjfdkhaaE Go.Proofs.YtpglnpkdjfdkhaaB
set_option linter.unusedSimpArgs false
set_option linter.unusedVariables false
attribute [local congr] Post_congr

theorem within_eq (n : Nat) (x y : Int) (h : Mem) (nx lg : Nat) : xF T (n + 8) 16 [.int .i64 x, .int .i64 y] h nx lg = some ⟨.bool (decide (0 ≤ x) && decide (x ≤ y)), h, nx, 0, 0⟩ := by
  rw [xF_fr T16]; apply eq_of_Post
  by_cases c : 0 ≤ x
  · simp [yC_skip, yC_exit, yC_ret, yC_seq, yC_cond, yC_blk, yC_reg, yC_draw, reg_nil, reg_cons, stepR, want_none, want_some, opRun, ev_t, ev_c, put_none, put_some, resAll, res_tmp, res_cell, oneOf, minI, maxI, min2A, max2A, mn2, mx2, mx3, rdBlk, wrBlk, newBlk, partA, abin, ibin, isShift, AV.cells, AV.one, lay, sub, fillA, eqA, eqP, eqL, eqIf, eqB, eqI, eqS, lenA, toN, allApart, apartFrom, Nat.testBit, Mem.blk_set_same, Mem.blk_set_ne, Mem.set_set, bit_zero, bit_self, lowBits_or, lowBits_zero, len_setT, sl_same, sl_ne, len_frame, sl_frame,↓op_len, lenOp_slc, lenOp_nils, ↓Post.some, ↓Post_bind, ↓Post_ret, ↓Post_draw, ↓PostL_nil, ↓PostL_cons, Post_fail, ofOpt_some, ofOpt_none, F16, c]
  · simp [yC_skip, yC_exit, yC_ret, yC_seq, yC_cond, yC_blk, yC_reg, yC_draw, reg_nil, reg_cons, stepR, want_none, want_some, opRun, ev_t, ev_c, put_none, put_some, resAll, res_tmp, res_cell, oneOf, minI, maxI, min2A, max2A, mn2, mx2, mx3, rdBlk, wrBlk, newBlk, partA, abin, ibin, isShift, AV.cells, AV.one, lay, sub, fillA, eqA, eqP, eqL, eqIf, eqB, eqI, eqS, lenA, toN, allApart, apartFrom, Nat.testBit, Mem.blk_set_same, Mem.blk_set_ne, Mem.set_set, bit_zero, bit_self, lowBits_or, lowBits_zero, len_setT, sl_same, sl_ne, len_frame, sl_frame,↓op_len, lenOp_slc, lenOp_nils, ↓Post.some, ↓Post_bind, ↓Post_ret, ↓Post_draw, ↓PostL_nil, ↓PostL_cons, Post_fail, ofOpt_some, ofOpt_none, F16, c]

theorem shr20 (w : Int) : ishift .shr .u32 w 20 = some (.int .u32 (w.fdiv 1048576)) := rfl
theorem shr12 (w : Int) : ishift .shr .u32 w 12 = some (.int .u32 (w.fdiv 4096)) := rfl
theorem shr8 (w : Int) : ishift .shr .u32 w 8 = some (.int .u32 (w.fdiv 256)) := rfl
theorem shl20 (w : Int) : ishift .shl .u32 w 20 = some (.int .u32 (IntKind.u32.wrap (w * 1048576))) := rfl
theorem shl12 (w : Int) : ishift .shl .u32 w 12 = some (.int .u32 (IntKind.u32.wrap (w * 4096))) := rfl
theorem shl8 (w : Int) : ishift .shl .u32 w 8 = some (.int .u32 (IntKind.u32.wrap (w * 256))) := rfl

def cls (w : Int) : Int := IntKind.i64.wrap (w.fdiv 1048576)
def siz (w : Int) : Int := IntKind.i64.wrap (Go.bits .and .u32 (w.fdiv 4096) 255)
def cel (w : Int) : Int := IntKind.i64.wrap (Go.bits .and .u32 (w.fdiv 256) 15)
theorem class_eq (n : Nat) (w : Int) (h : Mem) (nx lg : Nat) : xF T (n + 8) 13 [.int .u32 w] h nx lg = some ⟨.int .i64 (cls w), h, nx, 0, 0⟩ := by
  rw [xF_fr T13]; apply eq_of_Post
  simp [yC_skip, yC_exit, yC_ret, yC_seq, yC_cond, yC_blk, yC_reg, yC_draw, reg_nil, reg_cons, stepR, want_none, want_some, opRun, ev_t, ev_c, put_none, put_some, resAll, res_tmp, res_cell, oneOf, minI, maxI, min2A, max2A, mn2, mx2, mx3, rdBlk, wrBlk, newBlk, partA, abin, ibin, isShift, AV.cells, AV.one, lay, sub, fillA, eqA, eqP, eqL, eqIf, eqB, eqI, eqS, lenA, toN, allApart, apartFrom, Nat.testBit, Mem.blk_set_same, Mem.blk_set_ne, Mem.set_set, bit_zero, bit_self, lowBits_or, lowBits_zero, len_setT, sl_same, sl_ne, len_frame, sl_frame,↓op_len, lenOp_slc, lenOp_nils, ↓Post.some, ↓Post_bind, ↓Post_ret, ↓Post_draw, ↓PostL_nil, ↓PostL_cons, Post_fail, ofOpt_some, ofOpt_none, F13, shr20, cls]
theorem size_eq (n : Nat) (w : Int) (h : Mem) (nx lg : Nat) : xF T (n + 8) 14 [.int .u32 w] h nx lg = some ⟨.int .i64 (siz w), h, nx, 0, 0⟩ := by
  rw [xF_fr T14]; apply eq_of_Post
  simp [yC_skip, yC_exit, yC_ret, yC_seq, yC_cond, yC_blk, yC_reg, yC_draw, reg_nil, reg_cons, stepR, want_none, want_some, opRun, ev_t, ev_c, put_none, put_some, resAll, res_tmp, res_cell, oneOf, minI, maxI, min2A, max2A, mn2, mx2, mx3, rdBlk, wrBlk, newBlk, partA, abin, ibin, isShift, AV.cells, AV.one, lay, sub, fillA, eqA, eqP, eqL, eqIf, eqB, eqI, eqS, lenA, toN, allApart, apartFrom, Nat.testBit, Mem.blk_set_same, Mem.blk_set_ne, Mem.set_set, bit_zero, bit_self, lowBits_or, lowBits_zero, len_setT, sl_same, sl_ne, len_frame, sl_frame,↓op_len, lenOp_slc, lenOp_nils, ↓Post.some, ↓Post_bind, ↓Post_ret, ↓Post_draw, ↓PostL_nil, ↓PostL_cons, Post_fail, ofOpt_some, ofOpt_none, F14, shr12, siz]

def packed (a b c : Int) : Int := Go.bits .or .u32 (Go.bits .or .u32 (Go.bits .or .u32 (IntKind.u32.wrap (IntKind.u32.wrap a * 1048576)) (IntKind.u32.wrap (IntKind.u32.wrap b * 4096))) (IntKind.u32.wrap (IntKind.u32.wrap c * 256))) 1
def inside (a b c : Int) : Prop := (0 ≤ a ∧ a ≤ 4095) ∧ (0 ≤ b ∧ b ≤ 255) ∧ (0 ≤ c ∧ c ≤ 15)

instance (a b c : Int) : Decidable (inside a b c) := inferInstanceAs (Decidable ((0 ≤ a ∧ a ≤ 4095) ∧ (0 ≤ b ∧ b ≤ 255) ∧ (0 ≤ c ∧ c ≤ 15)))
def word (a b c : Int) : Int := if inside a b c then packed a b c else 0
set_option maxHeartbeats 4000000 in
theorem ref_eq (n : Nat) (a b c : Int) (h : Mem) (nx lg : Nat) : xF T (n + 20) 8 [.int .i64 a, .int .i64 b, .int .i64 c] h nx lg = some ⟨.tup [.int .u32 (word a b c), .bool (decide (inside a b c))], h, nx, 0, 0⟩ := by
  rw [xF_fr T8]; apply eq_of_Post
  by_cases c1 : a < 0
  · have i : ¬ inside a b c := by unfold inside; omega
    simp [yC_skip, yC_exit, yC_ret, yC_seq, yC_cond, yC_blk, yC_reg, yC_draw, reg_nil, reg_cons, stepR, want_none, want_some, opRun, ev_t, ev_c, put_none, put_some, resAll, res_tmp, res_cell, oneOf, minI, maxI, min2A, max2A, mn2, mx2, mx3, rdBlk, wrBlk, newBlk, partA, abin, ibin, isShift, AV.cells, AV.one, lay, sub, fillA, eqA, eqP, eqL, eqIf, eqB, eqI, eqS, lenA, toN, allApart, apartFrom, Nat.testBit, Mem.blk_set_same, Mem.blk_set_ne, Mem.set_set, bit_zero, bit_self, lowBits_or, lowBits_zero, len_setT, sl_same, sl_ne, len_frame, sl_frame,↓op_len, lenOp_slc, lenOp_nils, ↓Post.some, ↓Post_bind, ↓Post_ret, ↓Post_draw, ↓PostL_nil, ↓PostL_cons, Post_fail, ofOpt_some, ofOpt_none, F8, c1, word, i]
  by_cases c2 : 4095 < a
  · have i : ¬ inside a b c := by unfold inside; omega
    simp [yC_skip, yC_exit, yC_ret, yC_seq, yC_cond, yC_blk, yC_reg, yC_draw, reg_nil, reg_cons, stepR, want_none, want_some, opRun, ev_t, ev_c, put_none, put_some, resAll, res_tmp, res_cell, oneOf, minI, maxI, min2A, max2A, mn2, mx2, mx3, rdBlk, wrBlk, newBlk, partA, abin, ibin, isShift, AV.cells, AV.one, lay, sub, fillA, eqA, eqP, eqL, eqIf, eqB, eqI, eqS, lenA, toN, allApart, apartFrom, Nat.testBit, Mem.blk_set_same, Mem.blk_set_ne, Mem.set_set, bit_zero, bit_self, lowBits_or, lowBits_zero, len_setT, sl_same, sl_ne, len_frame, sl_frame,↓op_len, lenOp_slc, lenOp_nils, ↓Post.some, ↓Post_bind, ↓Post_ret, ↓Post_draw, ↓PostL_nil, ↓PostL_cons, Post_fail, ofOpt_some, ofOpt_none, F8, c1, c2, word, i]
  by_cases c3 : b < 0
  · have i : ¬ inside a b c := by unfold inside; omega
    simp [yC_skip, yC_exit, yC_ret, yC_seq, yC_cond, yC_blk, yC_reg, yC_draw, reg_nil, reg_cons, stepR, want_none, want_some, opRun, ev_t, ev_c, put_none, put_some, resAll, res_tmp, res_cell, oneOf, minI, maxI, min2A, max2A, mn2, mx2, mx3, rdBlk, wrBlk, newBlk, partA, abin, ibin, isShift, AV.cells, AV.one, lay, sub, fillA, eqA, eqP, eqL, eqIf, eqB, eqI, eqS, lenA, toN, allApart, apartFrom, Nat.testBit, Mem.blk_set_same, Mem.blk_set_ne, Mem.set_set, bit_zero, bit_self, lowBits_or, lowBits_zero, len_setT, sl_same, sl_ne, len_frame, sl_frame,↓op_len, lenOp_slc, lenOp_nils, ↓Post.some, ↓Post_bind, ↓Post_ret, ↓Post_draw, ↓PostL_nil, ↓PostL_cons, Post_fail, ofOpt_some, ofOpt_none, F8, c1, c2, c3, word, i]
  by_cases c4 : 255 < b
  · have i : ¬ inside a b c := by unfold inside; omega
    simp [yC_skip, yC_exit, yC_ret, yC_seq, yC_cond, yC_blk, yC_reg, yC_draw, reg_nil, reg_cons, stepR, want_none, want_some, opRun, ev_t, ev_c, put_none, put_some, resAll, res_tmp, res_cell, oneOf, minI, maxI, min2A, max2A, mn2, mx2, mx3, rdBlk, wrBlk, newBlk, partA, abin, ibin, isShift, AV.cells, AV.one, lay, sub, fillA, eqA, eqP, eqL, eqIf, eqB, eqI, eqS, lenA, toN, allApart, apartFrom, Nat.testBit, Mem.blk_set_same, Mem.blk_set_ne, Mem.set_set, bit_zero, bit_self, lowBits_or, lowBits_zero, len_setT, sl_same, sl_ne, len_frame, sl_frame,↓op_len, lenOp_slc, lenOp_nils, ↓Post.some, ↓Post_bind, ↓Post_ret, ↓Post_draw, ↓PostL_nil, ↓PostL_cons, Post_fail, ofOpt_some, ofOpt_none, F8, c1, c2, c3, c4, word, i]
  by_cases c5 : c < 0
  · have i : ¬ inside a b c := by unfold inside; omega
    simp [yC_skip, yC_exit, yC_ret, yC_seq, yC_cond, yC_blk, yC_reg, yC_draw, reg_nil, reg_cons, stepR, want_none, want_some, opRun, ev_t, ev_c, put_none, put_some, resAll, res_tmp, res_cell, oneOf, minI, maxI, min2A, max2A, mn2, mx2, mx3, rdBlk, wrBlk, newBlk, partA, abin, ibin, isShift, AV.cells, AV.one, lay, sub, fillA, eqA, eqP, eqL, eqIf, eqB, eqI, eqS, lenA, toN, allApart, apartFrom, Nat.testBit, Mem.blk_set_same, Mem.blk_set_ne, Mem.set_set, bit_zero, bit_self, lowBits_or, lowBits_zero, len_setT, sl_same, sl_ne, len_frame, sl_frame,↓op_len, lenOp_slc, lenOp_nils, ↓Post.some, ↓Post_bind, ↓Post_ret, ↓Post_draw, ↓PostL_nil, ↓PostL_cons, Post_fail, ofOpt_some, ofOpt_none, F8, c1, c2, c3, c4, c5, word, i]
  by_cases c6 : 15 < c
  · have i : ¬ inside a b c := by unfold inside; omega
    simp [yC_skip, yC_exit, yC_ret, yC_seq, yC_cond, yC_blk, yC_reg, yC_draw, reg_nil, reg_cons, stepR, want_none, want_some, opRun, ev_t, ev_c, put_none, put_some, resAll, res_tmp, res_cell, oneOf, minI, maxI, min2A, max2A, mn2, mx2, mx3, rdBlk, wrBlk, newBlk, partA, abin, ibin, isShift, AV.cells, AV.one, lay, sub, fillA, eqA, eqP, eqL, eqIf, eqB, eqI, eqS, lenA, toN, allApart, apartFrom, Nat.testBit, Mem.blk_set_same, Mem.blk_set_ne, Mem.set_set, bit_zero, bit_self, lowBits_or, lowBits_zero, len_setT, sl_same, sl_ne, len_frame, sl_frame,↓op_len, lenOp_slc, lenOp_nils, ↓Post.some, ↓Post_bind, ↓Post_ret, ↓Post_draw, ↓PostL_nil, ↓PostL_cons, Post_fail, ofOpt_some, ofOpt_none, F8, c1, c2, c3, c4, c5, c6, word, i]
  · have i : inside a b c := by unfold inside; omega
    simp [yC_skip, yC_exit, yC_ret, yC_seq, yC_cond, yC_blk, yC_reg, yC_draw, reg_nil, reg_cons, stepR, want_none, want_some, opRun, ev_t, ev_c, put_none, put_some, resAll, res_tmp, res_cell, oneOf, minI, maxI, min2A, max2A, mn2, mx2, mx3, rdBlk, wrBlk, newBlk, partA, abin, ibin, isShift, AV.cells, AV.one, lay, sub, fillA, eqA, eqP, eqL, eqIf, eqB, eqI, eqS, lenA, toN, allApart, apartFrom, Nat.testBit, Mem.blk_set_same, Mem.blk_set_ne, Mem.set_set, bit_zero, bit_self, lowBits_or, lowBits_zero, len_setT, sl_same, sl_ne, len_frame, sl_frame,↓op_len, lenOp_slc, lenOp_nils, ↓Post.some, ↓Post_bind, ↓Post_ret, ↓Post_draw, ↓PostL_nil, ↓PostL_cons, Post_fail, ofOpt_some, ofOpt_none, F8, c1, c2, c3, c4, c5, c6, word, i, shl20, shl12, shl8, packed]

/-- A head's block. -/
def hb (a b c : Int) : Blk := ⟨30, 3, true, false, [.int .i64 a, .int .i64 b, .int .i64 c]⟩
set_option maxHeartbeats 4000000 in
theorem pack_eq (n : Nat) (a b c : Int) (h : Mem) (nx lg : Nat) : xF T (n + 20) 11 [.agg [.int .i64 a, .int .i64 b, .int .i64 c]] h nx lg = some ⟨.tup [.int .u32 (word a b c), .bool (decide (inside a b c))], h.set nx (some (hb a b c)), nx + 1, bit lg nx, 0⟩ := by
  rw [xF_fr T11]; apply eq_of_Post
  have hlt : Nat.blt nx (nx + 1) = true := blt_of (Nat.lt_succ_self _)
  have wi : ∀ (x y : Int) (v : Bool), decide (0 ≤ x ∧ x ≤ y) = v → ∀ (n : Nat) (h : Mem) (nx lg : Nat), xF T (n + 8) 16 [.int .i64 x, .int .i64 y] h nx lg = some ⟨.bool v, h, nx, 0, 0⟩ := fun x y v e n h nx lg => by
    rw [within_eq, ← Bool.decide_and, e]
  by_cases c1 : 0 ≤ a ∧ a ≤ 4095
  · have w1 := wi a 4095 true (decide_eq_true c1)
    by_cases c2 : 0 ≤ b ∧ b ≤ 255
    · have w2 := wi b 255 true (decide_eq_true c2)
      by_cases c3 : 0 ≤ c ∧ c ≤ 15
      · have w3 := wi c 15 true (decide_eq_true c3)
        have i : inside a b c := ⟨c1, c2, c3⟩
        simp [yC_skip, yC_exit, yC_ret, yC_seq, yC_cond, yC_blk, yC_reg, yC_draw, reg_nil, reg_cons, stepR, want_none, want_some, opRun, ev_t, ev_c, put_none, put_some, resAll, res_tmp, res_cell, oneOf, minI, maxI, min2A, max2A, mn2, mx2, mx3, rdBlk, wrBlk, newBlk, partA, abin, ibin, isShift, AV.cells, AV.one, lay, sub, fillA, eqA, eqP, eqL, eqIf, eqB, eqI, eqS, lenA, toN, allApart, apartFrom, Nat.testBit, Mem.blk_set_same, Mem.blk_set_ne, Mem.set_set, bit_zero, bit_self, lowBits_or, lowBits_zero, len_setT, sl_same, sl_ne, len_frame, sl_frame,↓op_len, lenOp_slc, lenOp_nils, ↓Post.some, ↓Post_bind, ↓Post_ret, ↓Post_draw, ↓PostL_nil, ↓PostL_cons, Post_fail, ofOpt_some, ofOpt_none, F11, w1, w2, w3, hlt, word, i, shl20, shl12, shl8, packed, hb]
      · have w3 := wi c 15 false (decide_eq_false c3)
        have i : ¬ inside a b c := fun x => c3 x.2.2
        simp [yC_skip, yC_exit, yC_ret, yC_seq, yC_cond, yC_blk, yC_reg, yC_draw, reg_nil, reg_cons, stepR, want_none, want_some, opRun, ev_t, ev_c, put_none, put_some, resAll, res_tmp, res_cell, oneOf, minI, maxI, min2A, max2A, mn2, mx2, mx3, rdBlk, wrBlk, newBlk, partA, abin, ibin, isShift, AV.cells, AV.one, lay, sub, fillA, eqA, eqP, eqL, eqIf, eqB, eqI, eqS, lenA, toN, allApart, apartFrom, Nat.testBit, Mem.blk_set_same, Mem.blk_set_ne, Mem.set_set, bit_zero, bit_self, lowBits_or, lowBits_zero, len_setT, sl_same, sl_ne, len_frame, sl_frame,↓op_len, lenOp_slc, lenOp_nils, ↓Post.some, ↓Post_bind, ↓Post_ret, ↓Post_draw, ↓PostL_nil, ↓PostL_cons, Post_fail, ofOpt_some, ofOpt_none, F11, w1, w2, w3, hlt, word, i, hb]
    · have w2 := wi b 255 false (decide_eq_false c2)
      have i : ¬ inside a b c := fun x => c2 x.2.1
      simp [yC_skip, yC_exit, yC_ret, yC_seq, yC_cond, yC_blk, yC_reg, yC_draw, reg_nil, reg_cons, stepR, want_none, want_some, opRun, ev_t, ev_c, put_none, put_some, resAll, res_tmp, res_cell, oneOf, minI, maxI, min2A, max2A, mn2, mx2, mx3, rdBlk, wrBlk, newBlk, partA, abin, ibin, isShift, AV.cells, AV.one, lay, sub, fillA, eqA, eqP, eqL, eqIf, eqB, eqI, eqS, lenA, toN, allApart, apartFrom, Nat.testBit, Mem.blk_set_same, Mem.blk_set_ne, Mem.set_set, bit_zero, bit_self, lowBits_or, lowBits_zero, len_setT, sl_same, sl_ne, len_frame, sl_frame,↓op_len, lenOp_slc, lenOp_nils, ↓Post.some, ↓Post_bind, ↓Post_ret, ↓Post_draw, ↓PostL_nil, ↓PostL_cons, Post_fail, ofOpt_some, ofOpt_none, F11, w1, w2, hlt, word, i, hb]
  · have w1 := wi a 4095 false (decide_eq_false c1)
    have i : ¬ inside a b c := fun x => c1 x.1
    simp [yC_skip, yC_exit, yC_ret, yC_seq, yC_cond, yC_blk, yC_reg, yC_draw, reg_nil, reg_cons, stepR, want_none, want_some, opRun, ev_t, ev_c, put_none, put_some, resAll, res_tmp, res_cell, oneOf, minI, maxI, min2A, max2A, mn2, mx2, mx3, rdBlk, wrBlk, newBlk, partA, abin, ibin, isShift, AV.cells, AV.one, lay, sub, fillA, eqA, eqP, eqL, eqIf, eqB, eqI, eqS, lenA, toN, allApart, apartFrom, Nat.testBit, Mem.blk_set_same, Mem.blk_set_ne, Mem.set_set, bit_zero, bit_self, lowBits_or, lowBits_zero, len_setT, sl_same, sl_ne, len_frame, sl_frame,↓op_len, lenOp_slc, lenOp_nils, ↓Post.some, ↓Post_bind, ↓Post_ret, ↓Post_draw, ↓PostL_nil, ↓PostL_cons, Post_fail, ofOpt_some, ofOpt_none, F11, w1, hlt, word, i, hb]

def mk (w : Int) : Bool := Go.bits .and .u32 w 255 == 1
theorem open_in (n : Nat) (w : Int) (e : (Go.bits .and .u32 w 255 == 1) = true) (h : Mem) (nx lg : Nat) : xF T (n + 30) 12 [.int .u32 w] h nx lg = some ⟨.tup [.agg [.int .i64 (cls w), .int .i64 (siz w), .int .i64 (cel w)], .bool true], h.set nx (some (hb (cls w) (siz w) (cel w))), nx + 1, bit lg nx, bit lg nx⟩ := by
  rw [xF_fr T12]; apply eq_of_Post
  have hlt : Nat.blt nx (nx + 1) = true := blt_of (Nat.lt_succ_self _)
  have e' : (Go.bits .and .u32 w 255 != 1) = false := by unfold bne; rw [e]; rfl
  simp [yC_skip, yC_exit, yC_ret, yC_seq, yC_cond, yC_blk, yC_reg, yC_draw, reg_nil, reg_cons, stepR, want_none, want_some, opRun, ev_t, ev_c, put_none, put_some, resAll, res_tmp, res_cell, oneOf, minI, maxI, min2A, max2A, mn2, mx2, mx3, rdBlk, wrBlk, newBlk, partA, abin, ibin, isShift, AV.cells, AV.one, lay, sub, fillA, eqA, eqP, eqL, eqIf, eqB, eqI, eqS, lenA, toN, allApart, apartFrom, Nat.testBit, Mem.blk_set_same, Mem.blk_set_ne, Mem.set_set, bit_zero, bit_self, lowBits_or, lowBits_zero, len_setT, sl_same, sl_ne, len_frame, sl_frame,↓op_len, lenOp_slc, lenOp_nils, ↓Post.some, ↓Post_bind, ↓Post_ret, ↓Post_draw, ↓PostL_nil, ↓PostL_cons, Post_fail, ofOpt_some, ofOpt_none, F12, e', class_eq, size_eq, shr8, hlt, hb, cel]
theorem open_out (n : Nat) (w : Int) (e : (Go.bits .and .u32 w 255 == 1) = false) (h : Mem) (nx lg : Nat) : xF T (n + 30) 12 [.int .u32 w] h nx lg = some ⟨.tup [.agg [.int .i64 0, .int .i64 0, .int .i64 0], .bool false], h.set nx (some (hb 0 0 0)), nx + 1, bit lg nx, bit lg nx⟩ := by
  rw [xF_fr T12]; apply eq_of_Post
  have hlt : Nat.blt nx (nx + 1) = true := blt_of (Nat.lt_succ_self _)
  have e' : (Go.bits .and .u32 w 255 != 1) = true := by unfold bne; rw [e]; rfl
  simp [yC_skip, yC_exit, yC_ret, yC_seq, yC_cond, yC_blk, yC_reg, yC_draw, reg_nil, reg_cons, stepR, want_none, want_some, opRun, ev_t, ev_c, put_none, put_some, resAll, res_tmp, res_cell, oneOf, minI, maxI, min2A, max2A, mn2, mx2, mx3, rdBlk, wrBlk, newBlk, partA, abin, ibin, isShift, AV.cells, AV.one, lay, sub, fillA, eqA, eqP, eqL, eqIf, eqB, eqI, eqS, lenA, toN, allApart, apartFrom, Nat.testBit, Mem.blk_set_same, Mem.blk_set_ne, Mem.set_set, bit_zero, bit_self, lowBits_or, lowBits_zero, len_setT, sl_same, sl_ne, len_frame, sl_frame,↓op_len, lenOp_slc, lenOp_nils, ↓Post.some, ↓Post_bind, ↓Post_ret, ↓Post_draw, ↓PostL_nil, ↓PostL_cons, Post_fail, ofOpt_some, ofOpt_none, F12, e', hlt, hb]

theorem ropen_in (n : Nat) (w : Int) (e : (Go.bits .and .u32 w 255 == 1) = true) (h : Mem) (nx lg : Nat) : xF T (n + 30) 15 [.int .u32 w] h nx lg = some ⟨.tup [.int .i64 (cls w), .int .i64 (siz w), .int .i64 (cel w), .bool true], h, nx, 0, 0⟩ := by
  rw [xF_fr T15]; apply eq_of_Post
  have e' : (Go.bits .and .u32 w 255 != 1) = false := by unfold bne; rw [e]; rfl
  simp [yC_skip, yC_exit, yC_ret, yC_seq, yC_cond, yC_blk, yC_reg, yC_draw, reg_nil, reg_cons, stepR, want_none, want_some, opRun, ev_t, ev_c, put_none, put_some, resAll, res_tmp, res_cell, oneOf, minI, maxI, min2A, max2A, mn2, mx2, mx3, rdBlk, wrBlk, newBlk, partA, abin, ibin, isShift, AV.cells, AV.one, lay, sub, fillA, eqA, eqP, eqL, eqIf, eqB, eqI, eqS, lenA, toN, allApart, apartFrom, Nat.testBit, Mem.blk_set_same, Mem.blk_set_ne, Mem.set_set, bit_zero, bit_self, lowBits_or, lowBits_zero, len_setT, sl_same, sl_ne, len_frame, sl_frame,↓op_len, lenOp_slc, lenOp_nils, ↓Post.some, ↓Post_bind, ↓Post_ret, ↓Post_draw, ↓PostL_nil, ↓PostL_cons, Post_fail, ofOpt_some, ofOpt_none, F15, e', shr8, shr12, shr20, cls, siz, cel]
theorem ropen_out (n : Nat) (w : Int) (e : (Go.bits .and .u32 w 255 == 1) = false) (h : Mem) (nx lg : Nat) : xF T (n + 30) 15 [.int .u32 w] h nx lg = some ⟨.tup [.int .i64 0, .int .i64 0, .int .i64 0, .bool false], h, nx, 0, 0⟩ := by
  rw [xF_fr T15]; apply eq_of_Post
  have e' : (Go.bits .and .u32 w 255 != 1) = true := by unfold bne; rw [e]; rfl
  simp [yC_skip, yC_exit, yC_ret, yC_seq, yC_cond, yC_blk, yC_reg, yC_draw, reg_nil, reg_cons, stepR, want_none, want_some, opRun, ev_t, ev_c, put_none, put_some, resAll, res_tmp, res_cell, oneOf, minI, maxI, min2A, max2A, mn2, mx2, mx3, rdBlk, wrBlk, newBlk, partA, abin, ibin, isShift, AV.cells, AV.one, lay, sub, fillA, eqA, eqP, eqL, eqIf, eqB, eqI, eqS, lenA, toN, allApart, apartFrom, Nat.testBit, Mem.blk_set_same, Mem.blk_set_ne, Mem.set_set, bit_zero, bit_self, lowBits_or, lowBits_zero, len_setT, sl_same, sl_ne, len_frame, sl_frame,↓op_len, lenOp_slc, lenOp_nils, ↓Post.some, ↓Post_bind, ↓Post_ret, ↓Post_draw, ↓PostL_nil, ↓PostL_cons, Post_fail, ofOpt_some, ofOpt_none, F15, e']

end Go.Proofs.YtpglnpkdjfdkhaaT
