/- Pace: PaceRest. -/
import Derived.Test.YtjpfmmgleeccoaaDebt
namespace Go.Proofs.YtjpfmmgleeccoaaT
open Go Go.Proofs.YtjpfmmgleeccoaaE Go.Proofs.YtjpfmmgleeccoaaB
set_option linter.unusedSimpArgs false
set_option linter.unusedVariables false
attribute [local congr] Post_congr

theorem and63 (x : Int) : Go.bits .and .i64 x 63 = x % 64 := and_mask .i64 6 (by decide) x
theorem and7 (x : Int) : Go.bits .and .i64 x 7 = x % 8 := and_mask .i64 3 (by decide) x
theorem and127 (x : Int) : Go.bits .and .i64 x 127 = x % 128 := and_mask .i64 7 (by decide) x
theorem and31 (x : Int) : Go.bits .and .i64 x 31 = x % 32 := and_mask .i64 5 (by decide) x

/-- What PaceRest's loop keeps. -/
def RestI (v : AV) (h0 : Mem) (p : Nat) (n : Int) (m : Nat) (ts : List AV) (h : Mem) (nx tc wr : Nat) : Prop := h = h0.set p (some (pb n 0)) ∧ nx = p + 1 ∧ ∃ i : Nat, m = 40 - i ∧ i ≤ 40 ∧ ts.length = 53 ∧ sl ts 6 = .int .i64 i ∧ sl ts 1 = v ∧ sl ts 5 = .ptr p 0
def RestR (h0 : Mem) (p : Nat) (n : Int) (e : Ex) (ts : List AV) (h : Mem) (nx tc wr : Nat) : Prop := e = .exit 0 ∧ h = h0.set p (some (pb n 0)) ∧ nx = p + 1 ∧ ts.length = 53

set_option maxHeartbeats 1000000 in
theorem rest_round (l : List Int) (v : AV) (h0 : Mem) (p : Nat) (n : Int) (hn0 : 1 ≤ n) (hn : n ≤ 16) (hr : IRow .i64 v h0 p l) (m : Nat) (ts : List AV) (h : Mem) (nx tc wr : Nat) (hi : RestI v h0 p n m ts h nx tc wr) :
    Post (xC T 200 L7_0b ts h nx 0) fun v' h' nx' tc' wr' => Round (RestI v h0 p n) (RestR h0 p n) m v' h' nx' (tc ||| tc') (wr ||| wr') := by
  obtain ⟨rfl, rfl, i, rfl, hi, hl, h6, h1, h5⟩ := hi
  have hlen := hr.lenOp
  by_cases c1 : i < l.length
  · have c1' : (i : Int) < (l.length : Int) := by omega
    by_cases c2 : i < 40
    · obtain ⟨b, c, K, rfl, hb, hK, hc⟩ := hr.at c1
      have hb1 : Nat.blt b (p + 1) = true := blt_of (by omega)
      have hbp : ¬ b = p := by omega
      have hs : ∀ K', (h0.set p K').blk b = some K := fun K' => by rw [Mem.blk_set_ne _ _ _ _ hbp]; exact hK
      have i1 : IntKind.i64.wrap ((i : Int) + 1) = ((i + 1 : Nat) : Int) := by rw [IntKind.wrap_i64]; omega
      have c2' : (i : Int) < 40 := by omega
      have hlt : p < p + 1 := by omega
      generalize l[i] = x at hc
      have y0 : 0 ≤ x % 64 ∧ x % 64 < 64 := by omega
      have y1 : 0 ≤ x % 8 ∧ x % 8 < 8 := by omega
      have g1 : ∃ a, 0 ≤ a ∧ a ≤ 1008 ∧ ∀ (k : Nat) (h : Mem) (lg : Nat), xF T (k + 20) 11 [.ptr p 0, .int .i64 (x % 64)] (h.set p (some (pb n 0))) (p + 1) lg = some ⟨.int .i64 a, h.set p (some (pb n a)), p + 1, bit lg p, bit lg p⟩ := by
        have b1 : n * (x % 64) ≤ 16 * (x % 64) := Int.mul_le_mul_of_nonneg_right hn (by omega)
        have b0 : 0 ≤ n * (x % 64) := Int.mul_nonneg (by omega) (by omega)
        refine ⟨n * (x % 64), b0, by omega, fun k h lg => ?_⟩
        rw [give_eq k (x % 64) n 0 h (p + 1) lg p hlt (by omega) (by omega) (by omega) (by omega)]
        have m1 : max 0 (min (x % 64) 1048576) = x % 64 := by omega
        have m2 : min (0 + n * (x % 64)) 1099511627776 = n * (x % 64) := by omega
        rw [m1, m2]
      obtain ⟨a, ha0, ha1, g1⟩ := g1
      have g0 : ∀ (k : Nat) (h : Mem) (lg : Nat), xF T (k + 20) 11 [.ptr p 0, .int .i64 0] (h.set p (some (pb n 0))) (p + 1) lg = some ⟨.int .i64 0, h.set p (some (pb n 0)), p + 1, bit lg p, bit lg p⟩ := fun k h lg => by
        rw [give_eq k 0 n 0 h (p + 1) lg p hlt (by omega) (by omega) (by omega) (by omega)]
        have m1 : max 0 (min (0 : Int) 1048576) = 0 := by decide
        have m2 : min ((0 : Int) + n * 0) 1099511627776 = 0 := by rw [Int.mul_zero]; decide
        rw [m1, m2]
      have d1 : ∀ (k : Nat) (h : Mem) (lg : Nat), xF T (k + 20) 12 [.ptr p 0, .int .i64 (a + 1 + x % 8)] (h.set p (some (pb n a))) (p + 1) lg = some ⟨.tup [], h.set p (some (pb n 0)), p + 1, bit lg p, bit lg p⟩ := fun k h lg => by
        rw [did_eq k (a + 1 + x % 8) n a h (p + 1) lg p hlt (by omega) (by omega)]
        have m3 : max 0 (a - max 0 (min (a + 1 + x % 8) 1048576)) = 0 := by omega
        rw [m3]
      have w1 : IntKind.i64.wrap (a + 1) = a + 1 := by rw [IntKind.wrap_i64]; omega
      have w2 : IntKind.i64.wrap (a + 1 + x % 8) = a + 1 + x % 8 := by rw [IntKind.wrap_i64]; omega
      by_cases c3 : (i : Int).tmod 2 = 0
      · simp [yC_skip, yC_exit, yC_ret, yC_seq, yC_cond, yC_blk, yC_reg, yC_draw, reg_nil, reg_cons, stepR, want_none, want_some, opRun, ev_t, ev_c, put_none, put_some, resAll, res_tmp, res_cell, oneOf, minI, maxI, min2A, max2A, mn2, mx2, mx3, rdBlk, wrBlk, newBlk, partA, abin, ibin, isShift, AV.cells, AV.one, lay, sub, fillA, eqA, eqP, eqL, eqIf, eqB, eqI, eqS, lenA, toN, allApart, apartFrom, Nat.testBit, Mem.blk_set_same, Mem.blk_set_ne, Mem.set_set, bit_zero, bit_self, lowBits_or, lowBits_zero, len_setT, sl_same, sl_ne, len_frame, sl_frame,↓op_len, lenOp_slc, lenOp_nils, ↓Post.some, ↓Post_bind, ↓Post_ret, ↓Post_draw, ↓PostL_nil, ↓PostL_cons, Post_fail, ofOpt_some, ofOpt_none, L7_0b, hl, h6, h1, h5, c1', c2', toN_nat c1, hb1, hs, hc, and63, and7, g1, g0, d1, debt_eq, rest_eq, hlt, i1, w1, w2, c3]
        refine Round.nor (m' := 40 - (i + 1)) (by omega) ⟨rfl, rfl, i + 1, rfl, by omega, ?_⟩
        simp [yC_skip, yC_exit, yC_ret, yC_seq, yC_cond, yC_blk, yC_reg, yC_draw, reg_nil, reg_cons, stepR, want_none, want_some, opRun, ev_t, ev_c, put_none, put_some, resAll, res_tmp, res_cell, oneOf, minI, maxI, min2A, max2A, mn2, mx2, mx3, rdBlk, wrBlk, newBlk, partA, abin, ibin, isShift, AV.cells, AV.one, lay, sub, fillA, eqA, eqP, eqL, eqIf, eqB, eqI, eqS, lenA, toN, allApart, apartFrom, Nat.testBit, Mem.blk_set_same, Mem.blk_set_ne, Mem.set_set, bit_zero, bit_self, lowBits_or, lowBits_zero, len_setT, sl_same, sl_ne, len_frame, sl_frame,↓op_len, lenOp_slc, lenOp_nils, ↓Post.some, ↓Post_bind, ↓Post_ret, ↓Post_draw, ↓PostL_nil, ↓PostL_cons, Post_fail, ofOpt_some, ofOpt_none, hl, h1, h5, h6]
      · have c3' : ((i : Int).tmod 2 == 0) = false := beq_eq_false_iff_ne.2 c3
        simp [yC_skip, yC_exit, yC_ret, yC_seq, yC_cond, yC_blk, yC_reg, yC_draw, reg_nil, reg_cons, stepR, want_none, want_some, opRun, ev_t, ev_c, put_none, put_some, resAll, res_tmp, res_cell, oneOf, minI, maxI, min2A, max2A, mn2, mx2, mx3, rdBlk, wrBlk, newBlk, partA, abin, ibin, isShift, AV.cells, AV.one, lay, sub, fillA, eqA, eqP, eqL, eqIf, eqB, eqI, eqS, lenA, toN, allApart, apartFrom, Nat.testBit, Mem.blk_set_same, Mem.blk_set_ne, Mem.set_set, bit_zero, bit_self, lowBits_or, lowBits_zero, len_setT, sl_same, sl_ne, len_frame, sl_frame,↓op_len, lenOp_slc, lenOp_nils, ↓Post.some, ↓Post_bind, ↓Post_ret, ↓Post_draw, ↓PostL_nil, ↓PostL_cons, Post_fail, ofOpt_some, ofOpt_none, L7_0b, hl, h6, h1, h5, c1', c2', toN_nat c1, hb1, hs, hc, and63, and7, g1, g0, d1, debt_eq, rest_eq, hlt, i1, w1, w2, c3']
        refine Round.nor (m' := 40 - (i + 1)) (by omega) ⟨rfl, rfl, i + 1, rfl, by omega, ?_⟩
        simp [yC_skip, yC_exit, yC_ret, yC_seq, yC_cond, yC_blk, yC_reg, yC_draw, reg_nil, reg_cons, stepR, want_none, want_some, opRun, ev_t, ev_c, put_none, put_some, resAll, res_tmp, res_cell, oneOf, minI, maxI, min2A, max2A, mn2, mx2, mx3, rdBlk, wrBlk, newBlk, partA, abin, ibin, isShift, AV.cells, AV.one, lay, sub, fillA, eqA, eqP, eqL, eqIf, eqB, eqI, eqS, lenA, toN, allApart, apartFrom, Nat.testBit, Mem.blk_set_same, Mem.blk_set_ne, Mem.set_set, bit_zero, bit_self, lowBits_or, lowBits_zero, len_setT, sl_same, sl_ne, len_frame, sl_frame,↓op_len, lenOp_slc, lenOp_nils, ↓Post.some, ↓Post_bind, ↓Post_ret, ↓Post_draw, ↓PostL_nil, ↓PostL_cons, Post_fail, ofOpt_some, ofOpt_none, hl, h1, h5, h6]
    · have c2' : ¬ (i : Int) < 40 := by omega
      obtain ⟨b, c, K, rfl, hb, hK, hc⟩ := hr.at c1
      simp [yC_skip, yC_exit, yC_ret, yC_seq, yC_cond, yC_blk, yC_reg, yC_draw, reg_nil, reg_cons, stepR, want_none, want_some, opRun, ev_t, ev_c, put_none, put_some, resAll, res_tmp, res_cell, oneOf, minI, maxI, min2A, max2A, mn2, mx2, mx3, rdBlk, wrBlk, newBlk, partA, abin, ibin, isShift, AV.cells, AV.one, lay, sub, fillA, eqA, eqP, eqL, eqIf, eqB, eqI, eqS, lenA, toN, allApart, apartFrom, Nat.testBit, Mem.blk_set_same, Mem.blk_set_ne, Mem.set_set, bit_zero, bit_self, lowBits_or, lowBits_zero, len_setT, sl_same, sl_ne, len_frame, sl_frame,↓op_len, lenOp_slc, lenOp_nils, ↓Post.some, ↓Post_bind, ↓Post_ret, ↓Post_draw, ↓PostL_nil, ↓PostL_cons, Post_fail, ofOpt_some, ofOpt_none, L7_0b, hl, h6, h1, h5, hlen, c1', c2']
      refine Round.exit (R := RestR h0 p n) ?_
      exact ⟨rfl, rfl, rfl, by simp [yC_skip, yC_exit, yC_ret, yC_seq, yC_cond, yC_blk, yC_reg, yC_draw, reg_nil, reg_cons, stepR, want_none, want_some, opRun, ev_t, ev_c, put_none, put_some, resAll, res_tmp, res_cell, oneOf, minI, maxI, min2A, max2A, mn2, mx2, mx3, rdBlk, wrBlk, newBlk, partA, abin, ibin, isShift, AV.cells, AV.one, lay, sub, fillA, eqA, eqP, eqL, eqIf, eqB, eqI, eqS, lenA, toN, allApart, apartFrom, Nat.testBit, Mem.blk_set_same, Mem.blk_set_ne, Mem.set_set, bit_zero, bit_self, lowBits_or, lowBits_zero, len_setT, sl_same, sl_ne, len_frame, sl_frame,↓op_len, lenOp_slc, lenOp_nils, ↓Post.some, ↓Post_bind, ↓Post_ret, ↓Post_draw, ↓PostL_nil, ↓PostL_cons, Post_fail, ofOpt_some, ofOpt_none, hl]⟩
  · have c1' : ¬ (i : Int) < (l.length : Int) := by omega
    rcases hr with ⟨rfl, rfl⟩ | ⟨b, c, rfl, _⟩
    · have c1'' : ¬ (i : Int) < 0 := by omega
      simp [yC_skip, yC_exit, yC_ret, yC_seq, yC_cond, yC_blk, yC_reg, yC_draw, reg_nil, reg_cons, stepR, want_none, want_some, opRun, ev_t, ev_c, put_none, put_some, resAll, res_tmp, res_cell, oneOf, minI, maxI, min2A, max2A, mn2, mx2, mx3, rdBlk, wrBlk, newBlk, partA, abin, ibin, isShift, AV.cells, AV.one, lay, sub, fillA, eqA, eqP, eqL, eqIf, eqB, eqI, eqS, lenA, toN, allApart, apartFrom, Nat.testBit, Mem.blk_set_same, Mem.blk_set_ne, Mem.set_set, bit_zero, bit_self, lowBits_or, lowBits_zero, len_setT, sl_same, sl_ne, len_frame, sl_frame,↓op_len, lenOp_slc, lenOp_nils, ↓Post.some, ↓Post_bind, ↓Post_ret, ↓Post_draw, ↓PostL_nil, ↓PostL_cons, Post_fail, ofOpt_some, ofOpt_none, L7_0b, hl, h6, h1, h5, c1'']
      refine Round.exit (R := RestR h0 p n) ?_
      exact ⟨rfl, rfl, rfl, by simp [yC_skip, yC_exit, yC_ret, yC_seq, yC_cond, yC_blk, yC_reg, yC_draw, reg_nil, reg_cons, stepR, want_none, want_some, opRun, ev_t, ev_c, put_none, put_some, resAll, res_tmp, res_cell, oneOf, minI, maxI, min2A, max2A, mn2, mx2, mx3, rdBlk, wrBlk, newBlk, partA, abin, ibin, isShift, AV.cells, AV.one, lay, sub, fillA, eqA, eqP, eqL, eqIf, eqB, eqI, eqS, lenA, toN, allApart, apartFrom, Nat.testBit, Mem.blk_set_same, Mem.blk_set_ne, Mem.set_set, bit_zero, bit_self, lowBits_or, lowBits_zero, len_setT, sl_same, sl_ne, len_frame, sl_frame,↓op_len, lenOp_slc, lenOp_nils, ↓Post.some, ↓Post_bind, ↓Post_ret, ↓Post_draw, ↓PostL_nil, ↓PostL_cons, Post_fail, ofOpt_some, ofOpt_none, hl]⟩
    · simp [yC_skip, yC_exit, yC_ret, yC_seq, yC_cond, yC_blk, yC_reg, yC_draw, reg_nil, reg_cons, stepR, want_none, want_some, opRun, ev_t, ev_c, put_none, put_some, resAll, res_tmp, res_cell, oneOf, minI, maxI, min2A, max2A, mn2, mx2, mx3, rdBlk, wrBlk, newBlk, partA, abin, ibin, isShift, AV.cells, AV.one, lay, sub, fillA, eqA, eqP, eqL, eqIf, eqB, eqI, eqS, lenA, toN, allApart, apartFrom, Nat.testBit, Mem.blk_set_same, Mem.blk_set_ne, Mem.set_set, bit_zero, bit_self, lowBits_or, lowBits_zero, len_setT, sl_same, sl_ne, len_frame, sl_frame,↓op_len, lenOp_slc, lenOp_nils, ↓Post.some, ↓Post_bind, ↓Post_ret, ↓Post_draw, ↓PostL_nil, ↓PostL_cons, Post_fail, ofOpt_some, ofOpt_none, L7_0b, hl, h6, h1, h5, c1']
      refine Round.exit (R := RestR h0 p n) ?_
      exact ⟨rfl, rfl, rfl, by simp [yC_skip, yC_exit, yC_ret, yC_seq, yC_cond, yC_blk, yC_reg, yC_draw, reg_nil, reg_cons, stepR, want_none, want_some, opRun, ev_t, ev_c, put_none, put_some, resAll, res_tmp, res_cell, oneOf, minI, maxI, min2A, max2A, mn2, mx2, mx3, rdBlk, wrBlk, newBlk, partA, abin, ibin, isShift, AV.cells, AV.one, lay, sub, fillA, eqA, eqP, eqL, eqIf, eqB, eqI, eqS, lenA, toN, allApart, apartFrom, Nat.testBit, Mem.blk_set_same, Mem.blk_set_ne, Mem.set_set, bit_zero, bit_self, lowBits_or, lowBits_zero, len_setT, sl_same, sl_ne, len_frame, sl_frame,↓op_len, lenOp_slc, lenOp_nils, ↓Post.some, ↓Post_bind, ↓Post_ret, ↓Post_draw, ↓PostL_nil, ↓PostL_cons, Post_fail, ofOpt_some, ofOpt_none, hl]⟩

theorem rest_law (k : Int) (w0 : (Lit.int .i64 k).wf = true) (l : List Int) (v : AV) (y : l.length * 8 ≤ 140737488351232) (q : ∀ x ∈ l, (Lit.int .i64 x).wf = true) (h0 : Mem) (p : Nat) (hr : IRow .i64 v h0 p l) : Yes T 7 [.int .i64 k, v] h0 p := by
  have hlt : p < p + 1 := Nat.lt_succ_self p
  have hn : 1 ≤ max 1 (min k 16) ∧ max 1 (min k 16) ≤ 16 := by omega
  refine Yes.of 400 ?_
  rw [xF_fr T7]
  simp [yC_skip, yC_exit, yC_ret, yC_seq, yC_cond, yC_blk, yC_reg, yC_draw, reg_nil, reg_cons, stepR, want_none, want_some, opRun, ev_t, ev_c, put_none, put_some, resAll, res_tmp, res_cell, oneOf, minI, maxI, min2A, max2A, mn2, mx2, mx3, rdBlk, wrBlk, newBlk, partA, abin, ibin, isShift, AV.cells, AV.one, lay, sub, fillA, eqA, eqP, eqL, eqIf, eqB, eqI, eqS, lenA, toN, allApart, apartFrom, Nat.testBit, Mem.blk_set_same, Mem.blk_set_ne, Mem.set_set, bit_zero, bit_self, lowBits_or, lowBits_zero, len_setT, sl_same, sl_ne, len_frame, sl_frame,↓op_len, lenOp_slc, lenOp_nils, ↓Post.some, ↓Post_bind, ↓Post_ret, ↓Post_draw, ↓PostL_nil, ↓PostL_cons, Post_fail, ofOpt_some, ofOpt_none, F7, new_eq]
  refine Post.loop (rest_round l v h0 p (max 1 (min k 16)) hn.1 hn.2 hr) 40 ⟨rfl, rfl, 0, rfl, by omega, by simp [yC_skip, yC_exit, yC_ret, yC_seq, yC_cond, yC_blk, yC_reg, yC_draw, reg_nil, reg_cons, stepR, want_none, want_some, opRun, ev_t, ev_c, put_none, put_some, resAll, res_tmp, res_cell, oneOf, minI, maxI, min2A, max2A, mn2, mx2, mx3, rdBlk, wrBlk, newBlk, partA, abin, ibin, isShift, AV.cells, AV.one, lay, sub, fillA, eqA, eqP, eqL, eqIf, eqB, eqI, eqS, lenA, toN, allApart, apartFrom, Nat.testBit, Mem.blk_set_same, Mem.blk_set_ne, Mem.set_set, bit_zero, bit_self, lowBits_or, lowBits_zero, len_setT, sl_same, sl_ne, len_frame, sl_frame,↓op_len, lenOp_slc, lenOp_nils, ↓Post.some, ↓Post_bind, ↓Post_ret, ↓Post_draw, ↓PostL_nil, ↓PostL_cons, Post_fail, ofOpt_some, ofOpt_none]⟩ (by omega) ?_
  rintro e ts' h' nx' tc wr ⟨rfl, rfl, rfl, hl⟩
  simp [yC_skip, yC_exit, yC_ret, yC_seq, yC_cond, yC_blk, yC_reg, yC_draw, reg_nil, reg_cons, stepR, want_none, want_some, opRun, ev_t, ev_c, put_none, put_some, resAll, res_tmp, res_cell, oneOf, minI, maxI, min2A, max2A, mn2, mx2, mx3, rdBlk, wrBlk, newBlk, partA, abin, ibin, isShift, AV.cells, AV.one, lay, sub, fillA, eqA, eqP, eqL, eqIf, eqB, eqI, eqS, lenA, toN, allApart, apartFrom, Nat.testBit, Mem.blk_set_same, Mem.blk_set_ne, Mem.set_set, bit_zero, bit_self, lowBits_or, lowBits_zero, len_setT, sl_same, sl_ne, len_frame, sl_frame,↓op_len, lenOp_slc, lenOp_nils, ↓Post.some, ↓Post_bind, ↓Post_ret, ↓Post_draw, ↓PostL_nil, ↓PostL_cons, Post_fail, ofOpt_some, ofOpt_none, known_eq, hl]

end Go.Proofs.YtjpfmmgleeccoaaT
