/- Pace: PaceNumbers: it is so for any numbers, so for these. -/
import Derived.Test.YtjpfmmgleeccoaaTells
namespace Go.Proofs.YtjpfmmgleeccoaaT
open Go Go.Proofs.YtjpfmmgleeccoaaE Go.Proofs.YtjpfmmgleeccoaaB
set_option linter.unusedSimpArgs false
set_option linter.unusedVariables false
attribute [local congr] Post_congr

theorem irow_lit {k : IntKind} (l : List Int) {b nx ty : Nat} {o g : Bool} {c : Option Nat} (h : Mem) (hb : b < nx) : IRow k (.slc b 0 l.length c) (h.set b (some ⟨ty, 1, o, g, l.map (AV.int k ·)⟩)) nx l :=
  .inr ⟨b, c, rfl, fun _ => ⟨hb, _, Mem.blk_set_same .., fun i hi => by
    simp only
    rw [List.getElem?_map, List.getElem?_eq_getElem hi]
    rfl⟩⟩

/-- What the making of the numbers keeps. -/
def NumI (k : Int) (m : Nat) (ts : List AV) (h : Mem) (nx tc wr : Nat) : Prop := ∃ (i : Nat) (s : AV) (L : List Int), GRow s h 0 nx (L.map (AV.int .i64 ·)) ∧ L.length = i ∧ m = 60 - i ∧ i ≤ 60 ∧ ts.length = 36 ∧ sl ts 3 = .int .i64 i ∧ sl ts 2 = s ∧ sl ts 1 = .int .i64 k
def NumR (k : Int) (e : Ex) (ts : List AV) (h : Mem) (nx tc wr : Nat) : Prop := e = .exit 2 ∧ ∃ (s : AV) (L : List Int), GRow s h 0 nx (L.map (AV.int .i64 ·)) ∧ ts.length = 36 ∧ sl ts 2 = s ∧ sl ts 1 = .int .i64 k

set_option maxHeartbeats 2000000 in
theorem num_round (k : Int) (m : Nat) (ts : List AV) (h : Mem) (nx tc wr : Nat) (hi : NumI k m ts h nx tc wr) :
    Post (xC T 100 L3_0b ts h nx 0) fun v' h' nx' tc' wr' => Round (NumI k) (NumR k) m v' h' nx' (tc ||| tc') (wr ||| wr') := by
  obtain ⟨i, s, L, hg, hL, rfl, hi, hl, h3, h2, h1⟩ := hi
  by_cases c1 : i < 60
  · have c1' : (i : Int) < 60 := by omega
    have i1 : IntKind.i64.wrap ((i : Int) + 1) = ((i + 1 : Nat) : Int) := by rw [IntKind.wrap_i64]; omega
    have hb2 : Nat.blt nx (nx + 1) = true := blt_of (by omega)
    simp [yC_skip, yC_exit, yC_ret, yC_seq, yC_cond, yC_blk, yC_reg, yC_draw, reg_nil, reg_cons, stepR, want_none, want_some, opRun, ev_t, ev_c, put_none, put_some, resAll, res_tmp, res_cell, oneOf, minI, maxI, min2A, max2A, mn2, mx2, mx3, rdBlk, wrBlk, newBlk, partA, abin, ibin, isShift, AV.cells, AV.one, lay, sub, fillA, eqA, eqP, eqL, eqIf, eqB, eqI, eqS, lenA, toN, allApart, apartFrom, Nat.testBit, Mem.blk_set_same, Mem.blk_set_ne, Mem.set_set, bit_zero, bit_self, lowBits_or, lowBits_zero, len_setT, sl_same, sl_ne, len_frame, sl_frame,↓op_len, lenOp_slc, lenOp_nils, ↓Post.some, ↓Post_bind, ↓Post_ret, ↓Post_draw, ↓PostL_nil, ↓PostL_cons, Post_fail, ofOpt_some, ofOpt_none, L3_0b, hl, h3, h2, h1, c1', hb2, reps, rdEls]
    refine (app_one 3 8 _ (hg.new _) (Nat.zero_le _) (by omega) ?_ rfl).mono ?_
    · simp only [List.length_map]
      unfold fits
      rw [Nat.ble_eq_true_of_le (by omega), Nat.ble_eq_true_of_le (by omega)]
      rfl
    · rintro s' h' nx' tc' wr' ⟨rfl, g', hk', rfl, rfl⟩
      simp [yC_skip, yC_exit, yC_ret, yC_seq, yC_cond, yC_blk, yC_reg, yC_draw, reg_nil, reg_cons, stepR, want_none, want_some, opRun, ev_t, ev_c, put_none, put_some, resAll, res_tmp, res_cell, oneOf, minI, maxI, min2A, max2A, mn2, mx2, mx3, rdBlk, wrBlk, newBlk, partA, abin, ibin, isShift, AV.cells, AV.one, lay, sub, fillA, eqA, eqP, eqL, eqIf, eqB, eqI, eqS, lenA, toN, allApart, apartFrom, Nat.testBit, Mem.blk_set_same, Mem.blk_set_ne, Mem.set_set, bit_zero, bit_self, lowBits_or, lowBits_zero, len_setT, sl_same, sl_ne, len_frame, sl_frame,↓op_len, lenOp_slc, lenOp_nils, ↓Post.some, ↓Post_bind, ↓Post_ret, ↓Post_draw, ↓PostL_nil, ↓PostL_cons, Post_fail, ofOpt_some, ofOpt_none, hl, h3, h2, h1, i1]
      refine Round.nor (m' := 60 - (i + 1)) (by omega) ⟨i + 1, s', L ++ [_], by rw [List.map_append]; exact g', by rw [List.length_append, hL]; rfl, rfl, by omega, by simp [yC_skip, yC_exit, yC_ret, yC_seq, yC_cond, yC_blk, yC_reg, yC_draw, reg_nil, reg_cons, stepR, want_none, want_some, opRun, ev_t, ev_c, put_none, put_some, resAll, res_tmp, res_cell, oneOf, minI, maxI, min2A, max2A, mn2, mx2, mx3, rdBlk, wrBlk, newBlk, partA, abin, ibin, isShift, AV.cells, AV.one, lay, sub, fillA, eqA, eqP, eqL, eqIf, eqB, eqI, eqS, lenA, toN, allApart, apartFrom, Nat.testBit, Mem.blk_set_same, Mem.blk_set_ne, Mem.set_set, bit_zero, bit_self, lowBits_or, lowBits_zero, len_setT, sl_same, sl_ne, len_frame, sl_frame,↓op_len, lenOp_slc, lenOp_nils, ↓Post.some, ↓Post_bind, ↓Post_ret, ↓Post_draw, ↓PostL_nil, ↓PostL_cons, Post_fail, ofOpt_some, ofOpt_none, hl, h3, h2, h1]⟩
  · have c1' : ¬ (i : Int) < 60 := by omega
    simp [yC_skip, yC_exit, yC_ret, yC_seq, yC_cond, yC_blk, yC_reg, yC_draw, reg_nil, reg_cons, stepR, want_none, want_some, opRun, ev_t, ev_c, put_none, put_some, resAll, res_tmp, res_cell, oneOf, minI, maxI, min2A, max2A, mn2, mx2, mx3, rdBlk, wrBlk, newBlk, partA, abin, ibin, isShift, AV.cells, AV.one, lay, sub, fillA, eqA, eqP, eqL, eqIf, eqB, eqI, eqS, lenA, toN, allApart, apartFrom, Nat.testBit, Mem.blk_set_same, Mem.blk_set_ne, Mem.set_set, bit_zero, bit_self, lowBits_or, lowBits_zero, len_setT, sl_same, sl_ne, len_frame, sl_frame,↓op_len, lenOp_slc, lenOp_nils, ↓Post.some, ↓Post_bind, ↓Post_ret, ↓Post_draw, ↓PostL_nil, ↓PostL_cons, Post_fail, ofOpt_some, ofOpt_none, L3_0b, hl, h3, h2, h1, c1']
    refine Round.exit (R := NumR k) ?_
    exact ⟨rfl, s, L, hg, by simp [yC_skip, yC_exit, yC_ret, yC_seq, yC_cond, yC_blk, yC_reg, yC_draw, reg_nil, reg_cons, stepR, want_none, want_some, opRun, ev_t, ev_c, put_none, put_some, resAll, res_tmp, res_cell, oneOf, minI, maxI, min2A, max2A, mn2, mx2, mx3, rdBlk, wrBlk, newBlk, partA, abin, ibin, isShift, AV.cells, AV.one, lay, sub, fillA, eqA, eqP, eqL, eqIf, eqB, eqI, eqS, lenA, toN, allApart, apartFrom, Nat.testBit, Mem.blk_set_same, Mem.blk_set_ne, Mem.set_set, bit_zero, bit_self, lowBits_or, lowBits_zero, len_setT, sl_same, sl_ne, len_frame, sl_frame,↓op_len, lenOp_slc, lenOp_nils, ↓Post.some, ↓Post_bind, ↓Post_ret, ↓Post_draw, ↓PostL_nil, ↓PostL_cons, Post_fail, ofOpt_some, ofOpt_none, hl, h2, h1]⟩

def NumJ (m : Nat) (ts : List AV) (h : Mem) (nx tc wr : Nat) : Prop := ∃ j : Nat, m = 22 - j ∧ j ≤ 22 ∧ ts.length = 36 ∧ sl ts 1 = .int .i64 ((j : Int) - 2)
def NumS (e : Ex) (ts : List AV) (h : Mem) (nx tc wr : Nat) : Prop := e = .exit 0 ∧ ts.length = 36

set_option maxHeartbeats 2000000 in
theorem nums_round (m : Nat) (ts : List AV) (h : Mem) (nx tc wr : Nat) (hi : NumJ m ts h nx tc wr) :
    Post (xC T 1000 L3_1b ts h nx 0) fun v' h' nx' tc' wr' => Round NumJ NumS m v' h' nx' (tc ||| tc') (wr ||| wr') := by
  obtain ⟨j, rfl, hj, hl, h1⟩ := hi
  by_cases c1 : j < 22
  · have c1' : (j : Int) - 2 < 20 := by omega
    have i1 : IntKind.i64.wrap ((j : Int) - 2 + 1) = ((j + 1 : Nat) : Int) - 2 := by rw [IntKind.wrap_i64]; omega
    simp [yC_skip, yC_exit, yC_ret, yC_seq, yC_cond, yC_blk, yC_reg, yC_draw, reg_nil, reg_cons, stepR, want_none, want_some, opRun, ev_t, ev_c, put_none, put_some, resAll, res_tmp, res_cell, oneOf, minI, maxI, min2A, max2A, mn2, mx2, mx3, rdBlk, wrBlk, newBlk, partA, abin, ibin, isShift, AV.cells, AV.one, lay, sub, fillA, eqA, eqP, eqL, eqIf, eqB, eqI, eqS, lenA, toN, allApart, apartFrom, Nat.testBit, Mem.blk_set_same, Mem.blk_set_ne, Mem.set_set, bit_zero, bit_self, lowBits_or, lowBits_zero, len_setT, sl_same, sl_ne, len_frame, sl_frame,↓op_len, lenOp_slc, lenOp_nils, ↓Post.some, ↓Post_bind, ↓Post_ret, ↓Post_draw, ↓PostL_nil, ↓PostL_cons, Post_fail, ofOpt_some, ofOpt_none, L3_1b, hl, h1, c1']
    refine Post.loop (num_round ((j : Int) - 2)) 60 ⟨0, .nils, [], GRow.nil .., rfl, rfl, by omega, by simp [yC_skip, yC_exit, yC_ret, yC_seq, yC_cond, yC_blk, yC_reg, yC_draw, reg_nil, reg_cons, stepR, want_none, want_some, opRun, ev_t, ev_c, put_none, put_some, resAll, res_tmp, res_cell, oneOf, minI, maxI, min2A, max2A, mn2, mx2, mx3, rdBlk, wrBlk, newBlk, partA, abin, ibin, isShift, AV.cells, AV.one, lay, sub, fillA, eqA, eqP, eqL, eqIf, eqB, eqI, eqS, lenA, toN, allApart, apartFrom, Nat.testBit, Mem.blk_set_same, Mem.blk_set_ne, Mem.set_set, bit_zero, bit_self, lowBits_or, lowBits_zero, len_setT, sl_same, sl_ne, len_frame, sl_frame,↓op_len, lenOp_slc, lenOp_nils, ↓Post.some, ↓Post_bind, ↓Post_ret, ↓Post_draw, ↓PostL_nil, ↓PostL_cons, Post_fail, ofOpt_some, ofOpt_none, hl, h1]⟩ (by omega) ?_
    rintro e ts' h' nx' tc' wr' ⟨rfl, s, L, hg, hl', h2', h1'⟩
    obtain ⟨K1, tc1, wr1, e1⟩ := play_at ((j : Int) - 2) L s h' nx' hg.irow
    obtain ⟨K2, tc2, wr2, e2⟩ := play_at ((j : Int) - 2) [9223372036854775807, 1048576, 1048577, -9223372036854775808, 5, 7, 1, 1099511627776] (.slc (nx' + 1) 0 8 (some 8)) ((h'.set nx' (some K1)).set (nx' + 1) (some ⟨3, 1, true, false, [.int .i64 9223372036854775807, .int .i64 1048576, .int .i64 1048577, .int .i64 (-9223372036854775808), .int .i64 5, .int .i64 7, .int .i64 1, .int .i64 1099511627776]⟩)) (nx' + 2) (irow_lit (b := nx' + 1) (nx := nx' + 2) [9223372036854775807, 1048576, 1048577, -9223372036854775808, 5, 7, 1, 1099511627776] _ (by omega))
    simp [yC_skip, yC_exit, yC_ret, yC_seq, yC_cond, yC_blk, yC_reg, yC_draw, reg_nil, reg_cons, stepR, want_none, want_some, opRun, ev_t, ev_c, put_none, put_some, resAll, res_tmp, res_cell, oneOf, minI, maxI, min2A, max2A, mn2, mx2, mx3, rdBlk, wrBlk, newBlk, partA, abin, ibin, isShift, AV.cells, AV.one, lay, sub, fillA, eqA, eqP, eqL, eqIf, eqB, eqI, eqS, lenA, toN, allApart, apartFrom, Nat.testBit, Mem.blk_set_same, Mem.blk_set_ne, Mem.set_set, bit_zero, bit_self, lowBits_or, lowBits_zero, len_setT, sl_same, sl_ne, len_frame, sl_frame,↓op_len, lenOp_slc, lenOp_nils, ↓Post.some, ↓Post_bind, ↓Post_ret, ↓Post_draw, ↓PostL_nil, ↓PostL_cons, Post_fail, ofOpt_some, ofOpt_none, hl', h2', h1', e1, e2, reps, i1]
    exact Round.nor (m' := 22 - (j + 1)) (by omega) ⟨j + 1, rfl, by omega, by simp [yC_skip, yC_exit, yC_ret, yC_seq, yC_cond, yC_blk, yC_reg, yC_draw, reg_nil, reg_cons, stepR, want_none, want_some, opRun, ev_t, ev_c, put_none, put_some, resAll, res_tmp, res_cell, oneOf, minI, maxI, min2A, max2A, mn2, mx2, mx3, rdBlk, wrBlk, newBlk, partA, abin, ibin, isShift, AV.cells, AV.one, lay, sub, fillA, eqA, eqP, eqL, eqIf, eqB, eqI, eqS, lenA, toN, allApart, apartFrom, Nat.testBit, Mem.blk_set_same, Mem.blk_set_ne, Mem.set_set, bit_zero, bit_self, lowBits_or, lowBits_zero, len_setT, sl_same, sl_ne, len_frame, sl_frame,↓op_len, lenOp_slc, lenOp_nils, ↓Post.some, ↓Post_bind, ↓Post_ret, ↓Post_draw, ↓PostL_nil, ↓PostL_cons, Post_fail, ofOpt_some, ofOpt_none, hl', h1']⟩
  · have c1' : ¬ (j : Int) - 2 < 20 := by omega
    simp [yC_skip, yC_exit, yC_ret, yC_seq, yC_cond, yC_blk, yC_reg, yC_draw, reg_nil, reg_cons, stepR, want_none, want_some, opRun, ev_t, ev_c, put_none, put_some, resAll, res_tmp, res_cell, oneOf, minI, maxI, min2A, max2A, mn2, mx2, mx3, rdBlk, wrBlk, newBlk, partA, abin, ibin, isShift, AV.cells, AV.one, lay, sub, fillA, eqA, eqP, eqL, eqIf, eqB, eqI, eqS, lenA, toN, allApart, apartFrom, Nat.testBit, Mem.blk_set_same, Mem.blk_set_ne, Mem.set_set, bit_zero, bit_self, lowBits_or, lowBits_zero, len_setT, sl_same, sl_ne, len_frame, sl_frame,↓op_len, lenOp_slc, lenOp_nils, ↓Post.some, ↓Post_bind, ↓Post_ret, ↓Post_draw, ↓PostL_nil, ↓PostL_cons, Post_fail, ofOpt_some, ofOpt_none, L3_1b, hl, h1, c1']
    refine Round.exit (R := NumS) ?_
    exact ⟨rfl, by simp [yC_skip, yC_exit, yC_ret, yC_seq, yC_cond, yC_blk, yC_reg, yC_draw, reg_nil, reg_cons, stepR, want_none, want_some, opRun, ev_t, ev_c, put_none, put_some, resAll, res_tmp, res_cell, oneOf, minI, maxI, min2A, max2A, mn2, mx2, mx3, rdBlk, wrBlk, newBlk, partA, abin, ibin, isShift, AV.cells, AV.one, lay, sub, fillA, eqA, eqP, eqL, eqIf, eqB, eqI, eqS, lenA, toN, allApart, apartFrom, Nat.testBit, Mem.blk_set_same, Mem.blk_set_ne, Mem.set_set, bit_zero, bit_self, lowBits_or, lowBits_zero, len_setT, sl_same, sl_ne, len_frame, sl_frame,↓op_len, lenOp_slc, lenOp_nils, ↓Post.some, ↓Post_bind, ↓Post_ret, ↓Post_draw, ↓PostL_nil, ↓PostL_cons, Post_fail, ofOpt_some, ofOpt_none, hl]⟩

theorem numbers_law (h0 : Mem) (p : Nat) : Yes T 3 [] h0 p := by
  refine Yes.of 1200 ?_
  rw [xF_fr T3]
  simp [yC_skip, yC_exit, yC_ret, yC_seq, yC_cond, yC_blk, yC_reg, yC_draw, reg_nil, reg_cons, stepR, want_none, want_some, opRun, ev_t, ev_c, put_none, put_some, resAll, res_tmp, res_cell, oneOf, minI, maxI, min2A, max2A, mn2, mx2, mx3, rdBlk, wrBlk, newBlk, partA, abin, ibin, isShift, AV.cells, AV.one, lay, sub, fillA, eqA, eqP, eqL, eqIf, eqB, eqI, eqS, lenA, toN, allApart, apartFrom, Nat.testBit, Mem.blk_set_same, Mem.blk_set_ne, Mem.set_set, bit_zero, bit_self, lowBits_or, lowBits_zero, len_setT, sl_same, sl_ne, len_frame, sl_frame,↓op_len, lenOp_slc, lenOp_nils, ↓Post.some, ↓Post_bind, ↓Post_ret, ↓Post_draw, ↓PostL_nil, ↓PostL_cons, Post_fail, ofOpt_some, ofOpt_none, F3]
  refine Post.loop nums_round 22 ⟨0, rfl, by omega, by simp [yC_skip, yC_exit, yC_ret, yC_seq, yC_cond, yC_blk, yC_reg, yC_draw, reg_nil, reg_cons, stepR, want_none, want_some, opRun, ev_t, ev_c, put_none, put_some, resAll, res_tmp, res_cell, oneOf, minI, maxI, min2A, max2A, mn2, mx2, mx3, rdBlk, wrBlk, newBlk, partA, abin, ibin, isShift, AV.cells, AV.one, lay, sub, fillA, eqA, eqP, eqL, eqIf, eqB, eqI, eqS, lenA, toN, allApart, apartFrom, Nat.testBit, Mem.blk_set_same, Mem.blk_set_ne, Mem.set_set, bit_zero, bit_self, lowBits_or, lowBits_zero, len_setT, sl_same, sl_ne, len_frame, sl_frame,↓op_len, lenOp_slc, lenOp_nils, ↓Post.some, ↓Post_bind, ↓Post_ret, ↓Post_draw, ↓PostL_nil, ↓PostL_cons, Post_fail, ofOpt_some, ofOpt_none]⟩ (by omega) ?_
  rintro e ts' h' nx' tc wr ⟨rfl, hl⟩
  obtain ⟨K1, tc1, wr1, e1⟩ := play_at 9223372036854775807 [1] (.slc nx' 0 1 (some 1)) (h'.set nx' (some ⟨3, 1, true, false, [.int .i64 1]⟩)) (nx' + 1) (irow_lit (b := nx') (nx := nx' + 1) [1] _ (by omega))
  simp [yC_skip, yC_exit, yC_ret, yC_seq, yC_cond, yC_blk, yC_reg, yC_draw, reg_nil, reg_cons, stepR, want_none, want_some, opRun, ev_t, ev_c, put_none, put_some, resAll, res_tmp, res_cell, oneOf, minI, maxI, min2A, max2A, mn2, mx2, mx3, rdBlk, wrBlk, newBlk, partA, abin, ibin, isShift, AV.cells, AV.one, lay, sub, fillA, eqA, eqP, eqL, eqIf, eqB, eqI, eqS, lenA, toN, allApart, apartFrom, Nat.testBit, Mem.blk_set_same, Mem.blk_set_ne, Mem.set_set, bit_zero, bit_self, lowBits_or, lowBits_zero, len_setT, sl_same, sl_ne, len_frame, sl_frame,↓op_len, lenOp_slc, lenOp_nils, ↓Post.some, ↓Post_bind, ↓Post_ret, ↓Post_draw, ↓PostL_nil, ↓PostL_cons, Post_fail, ofOpt_some, ofOpt_none, hl, e1, known_eq, reps]

end Go.Proofs.YtjpfmmgleeccoaaT
