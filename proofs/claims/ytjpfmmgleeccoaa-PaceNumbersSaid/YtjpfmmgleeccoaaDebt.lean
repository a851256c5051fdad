/- Pace: PaceDebt. -/
import Derived.Test.YtjpfmmgleeccoaaFn
import Derived.Test.YtjpfmmgleeccoaaB
namespace Go.Proofs.YtjpfmmgleeccoaaT
open Go Go.Proofs.YtjpfmmgleeccoaaE Go.Proofs.YtjpfmmgleeccoaaB
set_option linter.unusedSimpArgs false
set_option linter.unusedVariables false
attribute [local congr] Post_congr

theorem and15 (x : Int) : Go.bits .and .i64 x 15 = x % 16 := and_mask .i64 4 (by decide) x
theorem and3 (x : Int) : Go.bits .and .i64 x 3 = x % 4 := and_mask .i64 2 (by decide) x

/-- What PaceDebt's loop keeps. -/
def DebtI (v : AV) (h0 : Mem) (p n : Nat) (m : Nat) (ts : List AV) (h : Mem) (nx tc wr : Nat) : Prop := h = h0.set p (some (pb n 0)) ∧ nx = p + 1 ∧ ∃ i : Nat, m = 60 - i ∧ i ≤ 60 ∧ ts.length = 51 ∧ sl ts 7 = .int .i64 i ∧ sl ts 1 = v ∧ sl ts 5 = .int .i64 n ∧ sl ts 6 = .ptr p 0

def DebtR (h0 : Mem) (p n : Nat) (e : Ex) (ts : List AV) (h : Mem) (nx tc wr : Nat) : Prop := e = .exit 0 ∧ h = h0.set p (some (pb n 0)) ∧ nx = p + 1 ∧ ts.length = 51

set_option maxHeartbeats 1000000 in
theorem debt_round (l : List Int) (v : AV) (h0 : Mem) (p n : Nat) (hn0 : 1 ≤ n) (hn : n ≤ 16) (hr : IRow .i64 v h0 p l) (m : Nat) (ts : List AV) (h : Mem) (nx tc wr : Nat) (hi : DebtI v h0 p n m ts h nx tc wr) :
    Post (xC T 200 L5_0b ts h nx 0) fun v' h' nx' tc' wr' => Round (DebtI v h0 p n) (DebtR h0 p n) m v' h' nx' (tc ||| tc') (wr ||| wr') := by
  obtain ⟨rfl, rfl, i, rfl, hi, hl, h7, h1, h5, h6⟩ := hi
  have hlen := hr.len
  by_cases c1 : i < l.length
  · have c1' : (i : Int) < (l.length : Int) := by omega
    by_cases c2 : i < 60
    · obtain ⟨b, c, K, rfl, hb, hK, hc⟩ := hr.at c1
      have hb1 : Nat.blt b (p + 1) = true := blt_of (by omega)
      have hbp : ¬ b = p := by omega
      have hs : (h0.set p (some (pb n 0))).blk b = some K := by rw [Mem.blk_set_ne _ _ _ _ hbp]; exact hK
      have i1 : IntKind.i64.wrap ((i : Int) + 1) = ((i + 1 : Nat) : Int) := by rw [IntKind.wrap_i64]; omega
      have c2' : (i : Int) < 60 := by omega
      have hlt : p < p + 1 := by omega
      generalize l[i] = x at hc
      obtain ⟨w, hw0, hw1, hsh⟩ : ∃ w : Int, 4 ≤ w ∧ w ≤ 32 ∧ ishift .shl .i64 4 (IntKind.u64.wrap (x % 4)) = some (.int .i64 w) := by
        have hx : x % 4 = 0 ∨ x % 4 = 1 ∨ x % 4 = 2 ∨ x % 4 = 3 := by omega
        rcases hx with hx | hx | hx | hx <;> rw [hx]
        · exact ⟨4, by decide, by decide, rfl⟩
        · exact ⟨8, by decide, by decide, rfl⟩
        · exact ⟨16, by decide, by decide, rfl⟩
        · exact ⟨32, by decide, by decide, rfl⟩
      have b1 : (n : Int) * w ≤ 16 * w := Int.mul_le_mul_of_nonneg_right (by omega) (by omega)
      have b0 : 0 ≤ (n : Int) * w := Int.mul_nonneg (by omega) (by omega)
      have e1 : IntKind.i64.wrap ((n : Int) * w) = n * w := by rw [IntKind.wrap_i64]; omega
      have m1 : max 0 (min w 1048576) = w := by omega
      have m2 : min (0 + (n : Int) * w) 1099511627776 = n * w := by omega
      have m3 : max 0 ((n : Int) * w - max 0 (min ((n : Int) * w) 1048576)) = 0 := by omega
      have g1 : ∀ (k : Nat) (h : Mem) (lg : Nat), xF T (k + 20) 11 [.ptr p 0, .int .i64 w] (h.set p (some (pb n 0))) (p + 1) lg = some ⟨.int .i64 (n * w), h.set p (some (pb n (n * w))), p + 1, bit lg p, bit lg p⟩ := fun k h lg => by
        rw [give_eq k w n 0 h (p + 1) lg p hlt (by omega) (by omega) (by omega) (by omega), m1, m2]
      have d1 : ∀ (k : Nat) (h : Mem) (lg : Nat), xF T (k + 20) 12 [.ptr p 0, .int .i64 (n * w)] (h.set p (some (pb n (n * w)))) (p + 1) lg = some ⟨.tup [], h.set p (some (pb n 0)), p + 1, bit lg p, bit lg p⟩ := fun k h lg => by
        rw [did_eq k (n * w) n (n * w) h (p + 1) lg p hlt (by omega) (by omega), m3]
      simp [yC_skip, yC_exit, yC_ret, yC_seq, yC_cond, yC_blk, yC_reg, yC_draw, reg_nil, reg_cons, stepR, want_none, want_some, opRun, ev_t, ev_c, put_none, put_some, resAll, res_tmp, res_cell, oneOf, minI, maxI, min2A, max2A, mn2, mx2, mx3, rdBlk, wrBlk, newBlk, partA, abin, ibin, isShift, AV.cells, AV.one, lay, sub, fillA, eqA, eqP, eqL, eqIf, eqB, eqI, eqS, lenA, toN, allApart, apartFrom, Nat.testBit, Mem.blk_set_same, Mem.blk_set_ne, Mem.set_set, bit_zero, bit_self, lowBits_or, lowBits_zero, len_setT, sl_same, sl_ne, len_frame, sl_frame,↓op_len, lenOp_slc, lenOp_nils, ↓Post.some, ↓Post_bind, ↓Post_ret, ↓Post_draw, ↓PostL_nil, ↓PostL_cons, Post_fail, ofOpt_some, ofOpt_none, L5_0b, hl, h7, h1, h5, h6, c1', c2', toN_nat c1, hb1, hs, hc, and3, hsh, e1, g1, d1, debt_eq, hlt, i1]
      refine Round.nor (m' := 60 - (i + 1)) (by omega) ⟨rfl, rfl, i + 1, rfl, by omega, ?_⟩
      simp [yC_skip, yC_exit, yC_ret, yC_seq, yC_cond, yC_blk, yC_reg, yC_draw, reg_nil, reg_cons, stepR, want_none, want_some, opRun, ev_t, ev_c, put_none, put_some, resAll, res_tmp, res_cell, oneOf, minI, maxI, min2A, max2A, mn2, mx2, mx3, rdBlk, wrBlk, newBlk, partA, abin, ibin, isShift, AV.cells, AV.one, lay, sub, fillA, eqA, eqP, eqL, eqIf, eqB, eqI, eqS, lenA, toN, allApart, apartFrom, Nat.testBit, Mem.blk_set_same, Mem.blk_set_ne, Mem.set_set, bit_zero, bit_self, lowBits_or, lowBits_zero, len_setT, sl_same, sl_ne, len_frame, sl_frame,↓op_len, lenOp_slc, lenOp_nils, ↓Post.some, ↓Post_bind, ↓Post_ret, ↓Post_draw, ↓PostL_nil, ↓PostL_cons, Post_fail, ofOpt_some, ofOpt_none, hl, h1, h5, h6]
    · have c2' : ¬ (i : Int) < 60 := by omega
      obtain ⟨b, c, K, rfl, hb, hK, hc⟩ := hr.at c1
      simp [yC_skip, yC_exit, yC_ret, yC_seq, yC_cond, yC_blk, yC_reg, yC_draw, reg_nil, reg_cons, stepR, want_none, want_some, opRun, ev_t, ev_c, put_none, put_some, resAll, res_tmp, res_cell, oneOf, minI, maxI, min2A, max2A, mn2, mx2, mx3, rdBlk, wrBlk, newBlk, partA, abin, ibin, isShift, AV.cells, AV.one, lay, sub, fillA, eqA, eqP, eqL, eqIf, eqB, eqI, eqS, lenA, toN, allApart, apartFrom, Nat.testBit, Mem.blk_set_same, Mem.blk_set_ne, Mem.set_set, bit_zero, bit_self, lowBits_or, lowBits_zero, len_setT, sl_same, sl_ne, len_frame, sl_frame,↓op_len, lenOp_slc, lenOp_nils, ↓Post.some, ↓Post_bind, ↓Post_ret, ↓Post_draw, ↓PostL_nil, ↓PostL_cons, Post_fail, ofOpt_some, ofOpt_none, L5_0b, hl, h7, h1, h5, h6, hlen, c1', c2']
      refine Round.exit (R := DebtR h0 p n) ?_
      exact ⟨rfl, rfl, rfl, by simp [yC_skip, yC_exit, yC_ret, yC_seq, yC_cond, yC_blk, yC_reg, yC_draw, reg_nil, reg_cons, stepR, want_none, want_some, opRun, ev_t, ev_c, put_none, put_some, resAll, res_tmp, res_cell, oneOf, minI, maxI, min2A, max2A, mn2, mx2, mx3, rdBlk, wrBlk, newBlk, partA, abin, ibin, isShift, AV.cells, AV.one, lay, sub, fillA, eqA, eqP, eqL, eqIf, eqB, eqI, eqS, lenA, toN, allApart, apartFrom, Nat.testBit, Mem.blk_set_same, Mem.blk_set_ne, Mem.set_set, bit_zero, bit_self, lowBits_or, lowBits_zero, len_setT, sl_same, sl_ne, len_frame, sl_frame,↓op_len, lenOp_slc, lenOp_nils, ↓Post.some, ↓Post_bind, ↓Post_ret, ↓Post_draw, ↓PostL_nil, ↓PostL_cons, Post_fail, ofOpt_some, ofOpt_none, hl]⟩
  · have c1' : ¬ (i : Int) < (l.length : Int) := by omega
    rcases hr with ⟨rfl, rfl⟩ | ⟨b, c, rfl, _⟩
    · have c1'' : ¬ (i : Int) < 0 := by omega
      simp [yC_skip, yC_exit, yC_ret, yC_seq, yC_cond, yC_blk, yC_reg, yC_draw, reg_nil, reg_cons, stepR, want_none, want_some, opRun, ev_t, ev_c, put_none, put_some, resAll, res_tmp, res_cell, oneOf, minI, maxI, min2A, max2A, mn2, mx2, mx3, rdBlk, wrBlk, newBlk, partA, abin, ibin, isShift, AV.cells, AV.one, lay, sub, fillA, eqA, eqP, eqL, eqIf, eqB, eqI, eqS, lenA, toN, allApart, apartFrom, Nat.testBit, Mem.blk_set_same, Mem.blk_set_ne, Mem.set_set, bit_zero, bit_self, lowBits_or, lowBits_zero, len_setT, sl_same, sl_ne, len_frame, sl_frame,↓op_len, lenOp_slc, lenOp_nils, ↓Post.some, ↓Post_bind, ↓Post_ret, ↓Post_draw, ↓PostL_nil, ↓PostL_cons, Post_fail, ofOpt_some, ofOpt_none, L5_0b, hl, h7, h1, h5, h6, c1'']
      refine Round.exit (R := DebtR h0 p n) ?_
      exact ⟨rfl, rfl, rfl, by simp [yC_skip, yC_exit, yC_ret, yC_seq, yC_cond, yC_blk, yC_reg, yC_draw, reg_nil, reg_cons, stepR, want_none, want_some, opRun, ev_t, ev_c, put_none, put_some, resAll, res_tmp, res_cell, oneOf, minI, maxI, min2A, max2A, mn2, mx2, mx3, rdBlk, wrBlk, newBlk, partA, abin, ibin, isShift, AV.cells, AV.one, lay, sub, fillA, eqA, eqP, eqL, eqIf, eqB, eqI, eqS, lenA, toN, allApart, apartFrom, Nat.testBit, Mem.blk_set_same, Mem.blk_set_ne, Mem.set_set, bit_zero, bit_self, lowBits_or, lowBits_zero, len_setT, sl_same, sl_ne, len_frame, sl_frame,↓op_len, lenOp_slc, lenOp_nils, ↓Post.some, ↓Post_bind, ↓Post_ret, ↓Post_draw, ↓PostL_nil, ↓PostL_cons, Post_fail, ofOpt_some, ofOpt_none, hl]⟩
    · simp [yC_skip, yC_exit, yC_ret, yC_seq, yC_cond, yC_blk, yC_reg, yC_draw, reg_nil, reg_cons, stepR, want_none, want_some, opRun, ev_t, ev_c, put_none, put_some, resAll, res_tmp, res_cell, oneOf, minI, maxI, min2A, max2A, mn2, mx2, mx3, rdBlk, wrBlk, newBlk, partA, abin, ibin, isShift, AV.cells, AV.one, lay, sub, fillA, eqA, eqP, eqL, eqIf, eqB, eqI, eqS, lenA, toN, allApart, apartFrom, Nat.testBit, Mem.blk_set_same, Mem.blk_set_ne, Mem.set_set, bit_zero, bit_self, lowBits_or, lowBits_zero, len_setT, sl_same, sl_ne, len_frame, sl_frame,↓op_len, lenOp_slc, lenOp_nils, ↓Post.some, ↓Post_bind, ↓Post_ret, ↓Post_draw, ↓PostL_nil, ↓PostL_cons, Post_fail, ofOpt_some, ofOpt_none, L5_0b, hl, h7, h1, h5, h6, c1']
      refine Round.exit (R := DebtR h0 p n) ?_
      exact ⟨rfl, rfl, rfl, by simp [yC_skip, yC_exit, yC_ret, yC_seq, yC_cond, yC_blk, yC_reg, yC_draw, reg_nil, reg_cons, stepR, want_none, want_some, opRun, ev_t, ev_c, put_none, put_some, resAll, res_tmp, res_cell, oneOf, minI, maxI, min2A, max2A, mn2, mx2, mx3, rdBlk, wrBlk, newBlk, partA, abin, ibin, isShift, AV.cells, AV.one, lay, sub, fillA, eqA, eqP, eqL, eqIf, eqB, eqI, eqS, lenA, toN, allApart, apartFrom, Nat.testBit, Mem.blk_set_same, Mem.blk_set_ne, Mem.set_set, bit_zero, bit_self, lowBits_or, lowBits_zero, len_setT, sl_same, sl_ne, len_frame, sl_frame,↓op_len, lenOp_slc, lenOp_nils, ↓Post.some, ↓Post_bind, ↓Post_ret, ↓Post_draw, ↓PostL_nil, ↓PostL_cons, Post_fail, ofOpt_some, ofOpt_none, hl]⟩

theorem debt_law (k : Int) (w0 : (Lit.int .i64 k).wf = true) (l : List Int) (v : AV) (y : l.length * 8 ≤ 140737488351232) (q : ∀ x ∈ l, (Lit.int .i64 x).wf = true) (h0 : Mem) (p : Nat) (hr : IRow .i64 v h0 p l) : Yes T 5 [.int .i64 k, v] h0 p := by
  have hk : 0 ≤ k % 16 ∧ k % 16 < 16 := by omega
  obtain ⟨n, hn⟩ : ∃ n : Nat, (n : Int) = 1 + k % 16 := ⟨(1 + k % 16).toNat, by omega⟩
  have hw : IntKind.i64.wrap (1 + k % 16) = (n : Int) := by rw [hn, IntKind.wrap_i64]; omega
  have hlt : p < p + 1 := Nat.lt_succ_self p
  have n1 : ∀ (f : Nat) (h : Mem) (lg : Nat), xF T (f + 8) 10 [.int .i64 (n : Int)] h p lg = some ⟨.ptr p 0, h.set p (some (pb n 0)), p + 1, 0, 0⟩ := fun f h lg => by
    rw [new_eq]
    have : max 1 (min (n : Int) 16) = n := by omega
    rw [this]
  refine Yes.of 400 ?_
  rw [xF_fr T5]
  simp [yC_skip, yC_exit, yC_ret, yC_seq, yC_cond, yC_blk, yC_reg, yC_draw, reg_nil, reg_cons, stepR, want_none, want_some, opRun, ev_t, ev_c, put_none, put_some, resAll, res_tmp, res_cell, oneOf, minI, maxI, min2A, max2A, mn2, mx2, mx3, rdBlk, wrBlk, newBlk, partA, abin, ibin, isShift, AV.cells, AV.one, lay, sub, fillA, eqA, eqP, eqL, eqIf, eqB, eqI, eqS, lenA, toN, allApart, apartFrom, Nat.testBit, Mem.blk_set_same, Mem.blk_set_ne, Mem.set_set, bit_zero, bit_self, lowBits_or, lowBits_zero, len_setT, sl_same, sl_ne, len_frame, sl_frame,↓op_len, lenOp_slc, lenOp_nils, ↓Post.some, ↓Post_bind, ↓Post_ret, ↓Post_draw, ↓PostL_nil, ↓PostL_cons, Post_fail, ofOpt_some, ofOpt_none, F5, and15, hw, n1]
  refine Post.loop (debt_round l v h0 p n (by omega) (by omega) hr) 60 ⟨rfl, rfl, 0, rfl, by omega, by simp [yC_skip, yC_exit, yC_ret, yC_seq, yC_cond, yC_blk, yC_reg, yC_draw, reg_nil, reg_cons, stepR, want_none, want_some, opRun, ev_t, ev_c, put_none, put_some, resAll, res_tmp, res_cell, oneOf, minI, maxI, min2A, max2A, mn2, mx2, mx3, rdBlk, wrBlk, newBlk, partA, abin, ibin, isShift, AV.cells, AV.one, lay, sub, fillA, eqA, eqP, eqL, eqIf, eqB, eqI, eqS, lenA, toN, allApart, apartFrom, Nat.testBit, Mem.blk_set_same, Mem.blk_set_ne, Mem.set_set, bit_zero, bit_self, lowBits_or, lowBits_zero, len_setT, sl_same, sl_ne, len_frame, sl_frame,↓op_len, lenOp_slc, lenOp_nils, ↓Post.some, ↓Post_bind, ↓Post_ret, ↓Post_draw, ↓PostL_nil, ↓PostL_cons, Post_fail, ofOpt_some, ofOpt_none]⟩ (by omega) ?_
  rintro e ts' h' nx' tc wr ⟨rfl, rfl, rfl, hl⟩
  simp [yC_skip, yC_exit, yC_ret, yC_seq, yC_cond, yC_blk, yC_reg, yC_draw, reg_nil, reg_cons, stepR, want_none, want_some, opRun, ev_t, ev_c, put_none, put_some, resAll, res_tmp, res_cell, oneOf, minI, maxI, min2A, max2A, mn2, mx2, mx3, rdBlk, wrBlk, newBlk, partA, abin, ibin, isShift, AV.cells, AV.one, lay, sub, fillA, eqA, eqP, eqL, eqIf, eqB, eqI, eqS, lenA, toN, allApart, apartFrom, Nat.testBit, Mem.blk_set_same, Mem.blk_set_ne, Mem.set_set, bit_zero, bit_self, lowBits_or, lowBits_zero, len_setT, sl_same, sl_ne, len_frame, sl_frame,↓op_len, lenOp_slc, lenOp_nils, ↓Post.some, ↓Post_bind, ↓Post_ret, ↓Post_draw, ↓PostL_nil, ↓PostL_cons, Post_fail, ofOpt_some, ofOpt_none, known_eq, hl]

end Go.Proofs.YtjpfmmgleeccoaaT
