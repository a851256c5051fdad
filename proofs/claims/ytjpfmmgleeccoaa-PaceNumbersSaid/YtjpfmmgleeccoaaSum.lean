/- Pace: PaceSum. -/
import Derived.Test.YtjpfmmgleeccoaaRest
namespace Go.Proofs.YtjpfmmgleeccoaaT
open Go Go.Proofs.YtjpfmmgleeccoaaE Go.Proofs.YtjpfmmgleeccoaaB
set_option linter.unusedSimpArgs false
set_option linter.unusedVariables false
attribute [local congr] Post_congr

/-- What PaceSum's loop keeps. -/
def SumI (v : AV) (h0 : Mem) (p : Nat) (n : Int) (m : Nat) (ts : List AV) (h : Mem) (nx tc wr : Nat) : Prop := nx = p + 2 ∧ ∃ (i : Nat) (s : Int), h = (h0.set (p + 1) (some (pb n 0))).set p (some (pb n (n * s))) ∧ 0 ≤ s ∧ s ≤ 127 * i ∧ m = 50 - i ∧ i ≤ 50 ∧ ts.length = 75 ∧ sl ts 8 = .int .i64 i ∧ sl ts 7 = .int .i64 s ∧ sl ts 1 = v ∧ sl ts 5 = .ptr p 0 ∧ sl ts 6 = .ptr (p + 1) 0
def SumR (h0 : Mem) (p : Nat) (n : Int) (e : Ex) (ts : List AV) (h : Mem) (nx tc wr : Nat) : Prop := e = .exit 0 ∧ nx = p + 2 ∧ ∃ s : Int, h = (h0.set (p + 1) (some (pb n 0))).set p (some (pb n (n * s))) ∧ 0 ≤ s ∧ s ≤ 6350 ∧ ts.length = 75 ∧ sl ts 7 = .int .i64 s ∧ sl ts 5 = .ptr p 0 ∧ sl ts 6 = .ptr (p + 1) 0

set_option maxHeartbeats 1000000 in
theorem sum_round (l : List Int) (v : AV) (h0 : Mem) (p : Nat) (n : Int) (hn0 : 1 ≤ n) (hn : n ≤ 16) (hr : IRow .i64 v h0 p l) (m : Nat) (ts : List AV) (h : Mem) (nx tc wr : Nat) (hi : SumI v h0 p n m ts h nx tc wr) :
    Post (xC T 200 L6_0b ts h nx 0) fun v' h' nx' tc' wr' => Round (SumI v h0 p n) (SumR h0 p n) m v' h' nx' (tc ||| tc') (wr ||| wr') := by
  obtain ⟨rfl, i, s, rfl, hs0, hs1, rfl, hi, hl, h8, h7, h1, h5, h6⟩ := hi
  by_cases c1 : i < l.length
  · have c1' : (i : Int) < (l.length : Int) := by omega
    by_cases c2 : i < 50
    · obtain ⟨b, c, K, rfl, hb, hK, hc⟩ := hr.at c1
      have hb1 : Nat.blt b (p + 2) = true := blt_of (by omega)
      have hbp : ¬ b = p := by omega
      have hbp1 : ¬ b = p + 1 := by omega
      have hs : ∀ K' K'', ((h0.set (p + 1) K'').set p K').blk b = some K := fun K' K'' => by rw [Mem.blk_set_ne _ _ _ _ hbp, Mem.blk_set_ne _ _ _ _ hbp1]; exact hK
      have i1 : IntKind.i64.wrap ((i : Int) + 1) = ((i + 1 : Nat) : Int) := by rw [IntKind.wrap_i64]; omega
      have c2' : (i : Int) < 50 := by omega
      have hlt : p < p + 2 := by omega
      generalize l[i] = x at hc
      have y0 : 0 ≤ x % 128 ∧ x % 128 < 128 := by omega
      have e2 : IntKind.i64.wrap (s + x % 128) = s + x % 128 := by rw [IntKind.wrap_i64]; omega
      have g1 : ∀ (k : Nat) (h : Mem) (lg : Nat), xF T (k + 20) 11 [.ptr p 0, .int .i64 (x % 128)] (h.set p (some (pb n (n * s)))) (p + 2) lg = some ⟨.int .i64 (n * (s + x % 128)), h.set p (some (pb n (n * (s + x % 128)))), p + 2, bit lg p, bit lg p⟩ := fun k h lg => by
        have b1 : n * (x % 128) ≤ 16 * (x % 128) := Int.mul_le_mul_of_nonneg_right hn (by omega)
        have b0 : 0 ≤ n * (x % 128) := Int.mul_nonneg (by omega) (by omega)
        have b3 : n * s ≤ 16 * s := Int.mul_le_mul_of_nonneg_right hn (by omega)
        have b4 : 0 ≤ n * s := Int.mul_nonneg (by omega) (by omega)
        rw [give_eq k (x % 128) n (n * s) h (p + 2) lg p hlt (by omega) (by omega) (by omega) (by omega)]
        have m1 : max 0 (min (x % 128) 1048576) = x % 128 := by omega
        have m2 : min (n * s + n * (x % 128)) 1099511627776 = n * (s + x % 128) := by rw [Int.mul_add]; omega
        rw [m1, m2]
      simp [yC_skip, yC_exit, yC_ret, yC_seq, yC_cond, yC_blk, yC_reg, yC_draw, reg_nil, reg_cons, stepR, want_none, want_some, opRun, ev_t, ev_c, put_none, put_some, resAll, res_tmp, res_cell, oneOf, minI, maxI, min2A, max2A, mn2, mx2, mx3, rdBlk, wrBlk, newBlk, partA, abin, ibin, isShift, AV.cells, AV.one, lay, sub, fillA, eqA, eqP, eqL, eqIf, eqB, eqI, eqS, lenA, toN, allApart, apartFrom, Nat.testBit, Mem.blk_set_same, Mem.blk_set_ne, Mem.set_set, bit_zero, bit_self, lowBits_or, lowBits_zero, len_setT, sl_same, sl_ne, len_frame, sl_frame,↓op_len, lenOp_slc, lenOp_nils, ↓Post.some, ↓Post_bind, ↓Post_ret, ↓Post_draw, ↓PostL_nil, ↓PostL_cons, Post_fail, ofOpt_some, ofOpt_none, L6_0b, hl, h8, h7, h6, h1, h5, c1', c2', toN_nat c1, hb1, hs, hc, and127, g1, hlt, i1, e2]
      refine Round.nor (m' := 50 - (i + 1)) (by omega) ⟨rfl, i + 1, s + x % 128, rfl, by omega, by omega, rfl, by omega, ?_⟩
      simp [yC_skip, yC_exit, yC_ret, yC_seq, yC_cond, yC_blk, yC_reg, yC_draw, reg_nil, reg_cons, stepR, want_none, want_some, opRun, ev_t, ev_c, put_none, put_some, resAll, res_tmp, res_cell, oneOf, minI, maxI, min2A, max2A, mn2, mx2, mx3, rdBlk, wrBlk, newBlk, partA, abin, ibin, isShift, AV.cells, AV.one, lay, sub, fillA, eqA, eqP, eqL, eqIf, eqB, eqI, eqS, lenA, toN, allApart, apartFrom, Nat.testBit, Mem.blk_set_same, Mem.blk_set_ne, Mem.set_set, bit_zero, bit_self, lowBits_or, lowBits_zero, len_setT, sl_same, sl_ne, len_frame, sl_frame,↓op_len, lenOp_slc, lenOp_nils, ↓Post.some, ↓Post_bind, ↓Post_ret, ↓Post_draw, ↓PostL_nil, ↓PostL_cons, Post_fail, ofOpt_some, ofOpt_none, hl, h1, h5, h6]
    · have c2' : ¬ (i : Int) < 50 := by omega
      obtain ⟨b, c, K, rfl, hb, hK, hc⟩ := hr.at c1
      simp [yC_skip, yC_exit, yC_ret, yC_seq, yC_cond, yC_blk, yC_reg, yC_draw, reg_nil, reg_cons, stepR, want_none, want_some, opRun, ev_t, ev_c, put_none, put_some, resAll, res_tmp, res_cell, oneOf, minI, maxI, min2A, max2A, mn2, mx2, mx3, rdBlk, wrBlk, newBlk, partA, abin, ibin, isShift, AV.cells, AV.one, lay, sub, fillA, eqA, eqP, eqL, eqIf, eqB, eqI, eqS, lenA, toN, allApart, apartFrom, Nat.testBit, Mem.blk_set_same, Mem.blk_set_ne, Mem.set_set, bit_zero, bit_self, lowBits_or, lowBits_zero, len_setT, sl_same, sl_ne, len_frame, sl_frame,↓op_len, lenOp_slc, lenOp_nils, ↓Post.some, ↓Post_bind, ↓Post_ret, ↓Post_draw, ↓PostL_nil, ↓PostL_cons, Post_fail, ofOpt_some, ofOpt_none, L6_0b, hl, h8, h6, h1, h5, c1', c2']
      refine Round.exit (R := SumR h0 p n) ?_
      exact ⟨rfl, rfl, s, rfl, by omega, by omega, by simp [yC_skip, yC_exit, yC_ret, yC_seq, yC_cond, yC_blk, yC_reg, yC_draw, reg_nil, reg_cons, stepR, want_none, want_some, opRun, ev_t, ev_c, put_none, put_some, resAll, res_tmp, res_cell, oneOf, minI, maxI, min2A, max2A, mn2, mx2, mx3, rdBlk, wrBlk, newBlk, partA, abin, ibin, isShift, AV.cells, AV.one, lay, sub, fillA, eqA, eqP, eqL, eqIf, eqB, eqI, eqS, lenA, toN, allApart, apartFrom, Nat.testBit, Mem.blk_set_same, Mem.blk_set_ne, Mem.set_set, bit_zero, bit_self, lowBits_or, lowBits_zero, len_setT, sl_same, sl_ne, len_frame, sl_frame,↓op_len, lenOp_slc, lenOp_nils, ↓Post.some, ↓Post_bind, ↓Post_ret, ↓Post_draw, ↓PostL_nil, ↓PostL_cons, Post_fail, ofOpt_some, ofOpt_none, hl, h7, h5, h6]⟩
  · have c1' : ¬ (i : Int) < (l.length : Int) := by omega
    rcases hr with ⟨rfl, rfl⟩ | ⟨b, c, rfl, _⟩
    · have c1'' : ¬ (i : Int) < 0 := by omega
      simp [yC_skip, yC_exit, yC_ret, yC_seq, yC_cond, yC_blk, yC_reg, yC_draw, reg_nil, reg_cons, stepR, want_none, want_some, opRun, ev_t, ev_c, put_none, put_some, resAll, res_tmp, res_cell, oneOf, minI, maxI, min2A, max2A, mn2, mx2, mx3, rdBlk, wrBlk, newBlk, partA, abin, ibin, isShift, AV.cells, AV.one, lay, sub, fillA, eqA, eqP, eqL, eqIf, eqB, eqI, eqS, lenA, toN, allApart, apartFrom, Nat.testBit, Mem.blk_set_same, Mem.blk_set_ne, Mem.set_set, bit_zero, bit_self, lowBits_or, lowBits_zero, len_setT, sl_same, sl_ne, len_frame, sl_frame,↓op_len, lenOp_slc, lenOp_nils, ↓Post.some, ↓Post_bind, ↓Post_ret, ↓Post_draw, ↓PostL_nil, ↓PostL_cons, Post_fail, ofOpt_some, ofOpt_none, L6_0b, hl, h8, h6, h1, h5, c1'']
      refine Round.exit (R := SumR h0 p n) ?_
      exact ⟨rfl, rfl, s, rfl, by omega, by omega, by simp [yC_skip, yC_exit, yC_ret, yC_seq, yC_cond, yC_blk, yC_reg, yC_draw, reg_nil, reg_cons, stepR, want_none, want_some, opRun, ev_t, ev_c, put_none, put_some, resAll, res_tmp, res_cell, oneOf, minI, maxI, min2A, max2A, mn2, mx2, mx3, rdBlk, wrBlk, newBlk, partA, abin, ibin, isShift, AV.cells, AV.one, lay, sub, fillA, eqA, eqP, eqL, eqIf, eqB, eqI, eqS, lenA, toN, allApart, apartFrom, Nat.testBit, Mem.blk_set_same, Mem.blk_set_ne, Mem.set_set, bit_zero, bit_self, lowBits_or, lowBits_zero, len_setT, sl_same, sl_ne, len_frame, sl_frame,↓op_len, lenOp_slc, lenOp_nils, ↓Post.some, ↓Post_bind, ↓Post_ret, ↓Post_draw, ↓PostL_nil, ↓PostL_cons, Post_fail, ofOpt_some, ofOpt_none, hl, h7, h5, h6]⟩
    · simp [yC_skip, yC_exit, yC_ret, yC_seq, yC_cond, yC_blk, yC_reg, yC_draw, reg_nil, reg_cons, stepR, want_none, want_some, opRun, ev_t, ev_c, put_none, put_some, resAll, res_tmp, res_cell, oneOf, minI, maxI, min2A, max2A, mn2, mx2, mx3, rdBlk, wrBlk, newBlk, partA, abin, ibin, isShift, AV.cells, AV.one, lay, sub, fillA, eqA, eqP, eqL, eqIf, eqB, eqI, eqS, lenA, toN, allApart, apartFrom, Nat.testBit, Mem.blk_set_same, Mem.blk_set_ne, Mem.set_set, bit_zero, bit_self, lowBits_or, lowBits_zero, len_setT, sl_same, sl_ne, len_frame, sl_frame,↓op_len, lenOp_slc, lenOp_nils, ↓Post.some, ↓Post_bind, ↓Post_ret, ↓Post_draw, ↓PostL_nil, ↓PostL_cons, Post_fail, ofOpt_some, ofOpt_none, L6_0b, hl, h8, h6, h1, h5, c1']
      refine Round.exit (R := SumR h0 p n) ?_
      exact ⟨rfl, rfl, s, rfl, by omega, by omega, by simp [yC_skip, yC_exit, yC_ret, yC_seq, yC_cond, yC_blk, yC_reg, yC_draw, reg_nil, reg_cons, stepR, want_none, want_some, opRun, ev_t, ev_c, put_none, put_some, resAll, res_tmp, res_cell, oneOf, minI, maxI, min2A, max2A, mn2, mx2, mx3, rdBlk, wrBlk, newBlk, partA, abin, ibin, isShift, AV.cells, AV.one, lay, sub, fillA, eqA, eqP, eqL, eqIf, eqB, eqI, eqS, lenA, toN, allApart, apartFrom, Nat.testBit, Mem.blk_set_same, Mem.blk_set_ne, Mem.set_set, bit_zero, bit_self, lowBits_or, lowBits_zero, len_setT, sl_same, sl_ne, len_frame, sl_frame,↓op_len, lenOp_slc, lenOp_nils, ↓Post.some, ↓Post_bind, ↓Post_ret, ↓Post_draw, ↓PostL_nil, ↓PostL_cons, Post_fail, ofOpt_some, ofOpt_none, hl, h7, h5, h6]⟩

theorem sum_law (k : Int) (w0 : (Lit.int .i64 k).wf = true) (l : List Int) (v : AV) (y : l.length * 8 ≤ 140737488351232) (q : ∀ x ∈ l, (Lit.int .i64 x).wf = true) (h0 : Mem) (p : Nat) (hr : IRow .i64 v h0 p l) : Yes T 6 [.int .i64 k, v] h0 p := by
  obtain ⟨n, hn⟩ : ∃ n, n = max 1 (min k 16) := ⟨_, rfl⟩
  have hn1 : 1 ≤ n ∧ n ≤ 16 := by omega
  have hne : p ≠ p + 1 := by omega
  have sc : ∀ (h : Mem) A B, (h.set p A).set (p + 1) B = (h.set (p + 1) B).set p A := fun h A B => Mem.set_comm h A B hne
  have n1 : ∀ (f : Nat) (h : Mem) (nx lg : Nat), xF T (f + 8) 10 [.int .i64 k] h nx lg = some ⟨.ptr nx 0, h.set nx (some (pb n 0)), nx + 1, 0, 0⟩ := fun f h nx lg => by rw [new_eq, hn]
  refine Yes.of 400 ?_
  rw [xF_fr T6]
  simp [yC_skip, yC_exit, yC_ret, yC_seq, yC_cond, yC_blk, yC_reg, yC_draw, reg_nil, reg_cons, stepR, want_none, want_some, opRun, ev_t, ev_c, put_none, put_some, resAll, res_tmp, res_cell, oneOf, minI, maxI, min2A, max2A, mn2, mx2, mx3, rdBlk, wrBlk, newBlk, partA, abin, ibin, isShift, AV.cells, AV.one, lay, sub, fillA, eqA, eqP, eqL, eqIf, eqB, eqI, eqS, lenA, toN, allApart, apartFrom, Nat.testBit, Mem.blk_set_same, Mem.blk_set_ne, Mem.set_set, bit_zero, bit_self, lowBits_or, lowBits_zero, len_setT, sl_same, sl_ne, len_frame, sl_frame,↓op_len, lenOp_slc, lenOp_nils, ↓Post.some, ↓Post_bind, ↓Post_ret, ↓Post_draw, ↓PostL_nil, ↓PostL_cons, Post_fail, ofOpt_some, ofOpt_none, F6, n1]
  rw [sc]
  refine Post.loop (sum_round l v h0 p n hn1.1 hn1.2 hr) 50 ⟨rfl, 0, 0, by rw [Int.mul_zero], by omega, by omega, rfl, by omega, by simp [yC_skip, yC_exit, yC_ret, yC_seq, yC_cond, yC_blk, yC_reg, yC_draw, reg_nil, reg_cons, stepR, want_none, want_some, opRun, ev_t, ev_c, put_none, put_some, resAll, res_tmp, res_cell, oneOf, minI, maxI, min2A, max2A, mn2, mx2, mx3, rdBlk, wrBlk, newBlk, partA, abin, ibin, isShift, AV.cells, AV.one, lay, sub, fillA, eqA, eqP, eqL, eqIf, eqB, eqI, eqS, lenA, toN, allApart, apartFrom, Nat.testBit, Mem.blk_set_same, Mem.blk_set_ne, Mem.set_set, bit_zero, bit_self, lowBits_or, lowBits_zero, len_setT, sl_same, sl_ne, len_frame, sl_frame,↓op_len, lenOp_slc, lenOp_nils, ↓Post.some, ↓Post_bind, ↓Post_ret, ↓Post_draw, ↓PostL_nil, ↓PostL_cons, Post_fail, ofOpt_some, ofOpt_none]⟩ (by omega) ?_
  rintro e ts' h' nx' tc wr ⟨rfl, rfl, s, rfl, hs0, hs1, hl, h7, h5, h6⟩
  have b3 : n * s ≤ 16 * s := Int.mul_le_mul_of_nonneg_right hn1.2 (by omega)
  have b5 : 1 * s ≤ n * s := Int.mul_le_mul_of_nonneg_right hn1.1 (by omega)
  have hlt : p < p + 2 := by omega
  have hlt1 : p + 1 < p + 2 := by omega
  have g2 : ∀ (f : Nat) (h : Mem) (A : Option Blk) (lg : Nat), xF T (f + 20) 11 [.ptr (p + 1) 0, .int .i64 s] ((h.set (p + 1) (some (pb n 0))).set p A) (p + 2) lg = some ⟨.int .i64 (n * s), (h.set (p + 1) (some (pb n (n * s)))).set p A, p + 2, bit lg (p + 1), bit lg (p + 1)⟩ := fun f h A lg => by
    rw [← sc, give_eq f s n 0 _ (p + 2) lg (p + 1) hlt1 (by omega) (by omega) (by omega) (by omega), sc]
    have m1 : max 0 (min s 1048576) = s := by omega
    have m2 : min (0 + n * s) 1099511627776 = n * s := by omega
    rw [m1, m2]
  have d1 : ∀ (f : Nat) (h : Mem) (lg : Nat), xF T (f + 20) 12 [.ptr p 0, .int .i64 (n * s)] (h.set p (some (pb n (n * s)))) (p + 2) lg = some ⟨.tup [], h.set p (some (pb n 0)), p + 2, bit lg p, bit lg p⟩ := fun f h lg => by
    rw [did_eq f (n * s) n (n * s) h (p + 2) lg p hlt (by omega) (by omega)]
    have m3 : max 0 (n * s - max 0 (min (n * s) 1048576)) = 0 := by omega
    rw [m3]
  have t1 : ∀ (f : Nat) (h : Mem) (lg : Nat) (d : Int), xF T (f + 20) 13 [.ptr p 0] (h.set p (some (pb n d))) (p + 2) lg = some ⟨.int .i64 d, h.set p (some (pb n d)), p + 2, bit lg p, 0⟩ := fun f h lg d => debt_eq f n d h (p + 2) lg p hlt
  have t2 : ∀ (f : Nat) (h : Mem) (A : Option Blk) (lg : Nat) (d : Int), xF T (f + 20) 13 [.ptr (p + 1) 0] ((h.set (p + 1) (some (pb n d))).set p A) (p + 2) lg = some ⟨.int .i64 d, (h.set (p + 1) (some (pb n d))).set p A, p + 2, bit lg (p + 1), 0⟩ := fun f h A lg d => by
    rw [← sc, debt_eq f n d _ (p + 2) lg (p + 1) hlt1]
  have w16 : IntKind.i64.wrap (16 * s) = 16 * s := by rw [IntKind.wrap_i64]; omega
  have c1 : s ≤ n * s := by omega
  simp [yC_skip, yC_exit, yC_ret, yC_seq, yC_cond, yC_blk, yC_reg, yC_draw, reg_nil, reg_cons, stepR, want_none, want_some, opRun, ev_t, ev_c, put_none, put_some, resAll, res_tmp, res_cell, oneOf, minI, maxI, min2A, max2A, mn2, mx2, mx3, rdBlk, wrBlk, newBlk, partA, abin, ibin, isShift, AV.cells, AV.one, lay, sub, fillA, eqA, eqP, eqL, eqIf, eqB, eqI, eqS, lenA, toN, allApart, apartFrom, Nat.testBit, Mem.blk_set_same, Mem.blk_set_ne, Mem.set_set, bit_zero, bit_self, lowBits_or, lowBits_zero, len_setT, sl_same, sl_ne, len_frame, sl_frame,↓op_len, lenOp_slc, lenOp_nils, ↓Post.some, ↓Post_bind, ↓Post_ret, ↓Post_draw, ↓PostL_nil, ↓PostL_cons, Post_fail, ofOpt_some, ofOpt_none, g2, d1, t1, t2, w16, c1, b3, known_eq, hl, h5, h6, h7]

end Go.Proofs.YtjpfmmgleeccoaaT
