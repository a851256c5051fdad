/- Ring: New; the document's ring. -/
import Derived.Test.YtmgilbjhgpcjgaaRWalk
namespace Go.Proofs.YtmgilbjhgpcjgaaT
open Go Go.Proofs.YtmgilbjhgpcjgaaE Go.Proofs.YtmgilbjhgpcjgaaB
set_option linter.unusedSimpArgs false
set_option linter.unusedVariables false
attribute [local congr] Post_cg PostL_cg condP_cg

def newX (n : Nat) : List Int := (List.range n).map fun (i : Nat) => ((i : Int) + 1).tmod n
def newY (n : Nat) : List Int := (List.range n).map fun (i : Nat) => ((i : Int) + n - 1).tmod n
def part (l : List Int) (j : Nat) : List Int := l.take j ++ List.replicate (l.length - j) 0
theorem part_len (l : List Int) {j : Nat} (h : j ≤ l.length) : (part l j).length = l.length := by unfold part; simp; omega
theorem part_set (l : List Int) {j : Nat} (h : j < l.length) : (part l j).set j l[j] = part l (j + 1) := by
  unfold part
  rw [List.set_append_right _ _ (by simp; omega), List.length_take, Nat.min_eq_left (by omega), Nat.sub_self, show l.length - j = (l.length - (j + 1)) + 1 by omega, List.replicate_succ, List.set_cons_zero, List.take_succ_eq_append_getElem h, List.append_assoc]
  rfl
theorem part_zero (l : List Int) : part l 0 = List.replicate l.length 0 := by unfold part; simp
theorem part_all (l : List Int) : part l l.length = l := by unfold part; simp
theorem reps_ints (n : Nat) : reps n [AV.int .i64 0] = ints (List.replicate n 0) := by
  unfold ints
  induction n with
  | zero => rfl
  | succ n ih => simp only [reps, ih, List.replicate_succ, List.map_cons]; rfl
theorem new_no (n : Int) (hn : n < 1 ∨ 4096 < n) (h : Mem) (nx : Nat) : Rd 60 26 [.int .i64 n] h nx .null := by
  intro lg hlg
  rw [xF_fr T26]
  by_cases c1 : n < 1
  · simp (maxSteps := 4000000) [↓P_skip, ↓P_exit, ↓P_ret, ↓P_seq, ↓P_cond, ↓P_blk, ↓P_reg, ↓P_draw, ↓P_nil, ↓P_cons, condP_t, condP_f, dum_ab, stepR, want_none, want_some, opRun, ev_t, ev_c, put_none, put_some, resAll, res_tmp, res_cell, oneOf, minI, maxI, min2A, max2A, mn2, mx2, mx3, rdBlk, wrBlk, newBlk, partA, abin, ibin, isShift, AV.cells, AV.one, lay, sub, fillA, lenA, toN, allApart, apartFrom, Nat.testBit, Mem.blk_set_same, Mem.blk_set_ne, Mem.set_set, bit_zero, bit_self, lowBits_or, lowBits_zero, len_setT, sl_same, sl_ne, len_frame, sl_frame,↓op_len, lenOp_slc, lenOp_nils, ↓Post.some, ↓Post_bind, ↓Post_ret, ↓Post_draw, ↓PostL_nil, ↓PostL_cons, Post_fail, ofOpt_some, ofOpt_none, eA_b, eA_i, eA_s, eA_nn, eA_np, eA_pn, eA_lnn, eA_lnp, eA_lpn, eA_i2, eA_i3, blt_dec, Nat.add_assoc, keeps_refl, keeps_at, keeps_up, new_one, and_pow, bit_hi, lowBits_pow, ble_dec, fr_refl, fr_at, fr_up, fr_p, dum_ab, F26, c1]
  · have c2 : 4096 < n := by omega
    simp (maxSteps := 4000000) [↓P_skip, ↓P_exit, ↓P_ret, ↓P_seq, ↓P_cond, ↓P_blk, ↓P_reg, ↓P_draw, ↓P_nil, ↓P_cons, condP_t, condP_f, dum_ab, stepR, want_none, want_some, opRun, ev_t, ev_c, put_none, put_some, resAll, res_tmp, res_cell, oneOf, minI, maxI, min2A, max2A, mn2, mx2, mx3, rdBlk, wrBlk, newBlk, partA, abin, ibin, isShift, AV.cells, AV.one, lay, sub, fillA, lenA, toN, allApart, apartFrom, Nat.testBit, Mem.blk_set_same, Mem.blk_set_ne, Mem.set_set, bit_zero, bit_self, lowBits_or, lowBits_zero, len_setT, sl_same, sl_ne, len_frame, sl_frame,↓op_len, lenOp_slc, lenOp_nils, ↓Post.some, ↓Post_bind, ↓Post_ret, ↓Post_draw, ↓PostL_nil, ↓PostL_cons, Post_fail, ofOpt_some, ofOpt_none, eA_b, eA_i, eA_s, eA_nn, eA_np, eA_pn, eA_lnn, eA_lnp, eA_lpn, eA_i2, eA_i3, blt_dec, Nat.add_assoc, keeps_refl, keeps_at, keeps_up, new_one, and_pow, bit_hi, lowBits_pow, ble_dec, fr_refl, fr_at, fr_up, fr_p, dum_ab, F26, c1, c2]
def NwI (n : Nat) (h0 : Mem) (nx0 : Nat) (m : Nat) (ts : List AV) (h : Mem) (nx tc wr : Nat) : Prop := ∃ j : Nat, m = n - j ∧ j ≤ n ∧ ts.length = 46 ∧ sl ts 0 = .int .i64 n ∧ sl ts 18 = .int .i64 n ∧ sl ts 19 = .int .i64 j ∧ sl ts 3 = .ptr (nx0 + 2) 0 ∧ nx = nx0 + 3 ∧ Rg h nx (nx0 + 2) nx0 (nx0 + 1) (part (newX n) j) (part (newY n) j) n ∧ Keeps nx0 h0 h
def NwR (n : Nat) (h0 : Mem) (nx0 : Nat) (e : Ex) (ts : List AV) (h : Mem) (nx tc wr : Nat) : Prop := e = .exit 0 ∧ ts.length = 46 ∧ sl ts 3 = .ptr (nx0 + 2) 0 ∧ nx = nx0 + 3 ∧ Rg h nx (nx0 + 2) nx0 (nx0 + 1) (newX n) (newY n) n ∧ Keeps nx0 h0 h
set_option maxHeartbeats 8000000 in
theorem nw_round (n : Nat) (hn : 1 ≤ n ∧ n ≤ 4096) (h0 : Mem) (nx0 lg : Nat) (hlg : lg ≤ nx0) (m : Nat) (ts : List AV) (h : Mem) (nx tc wr : Nat) (hi : NwI n h0 nx0 m ts h nx tc wr) :
    Post (xC T 60 L26_0b ts h nx lg) fun v' h' nx' tc' wr' => Round (NwI n h0 nx0) (NwR n h0 nx0) m v' h' nx' (tc ||| tc') (wr ||| wr') := by
  obtain ⟨j, rfl, hj, hlen, g0, g18, g19, g3, rfl, r, kp⟩ := hi
  have lX : (newX n).length = n := by unfold newX; simp
  have lY : (newY n).length = n := by unfold newY; simp
  by_cases c1 : j < n
  · have c1' : (j : Int) < (n : Int) := by omega
    obtain ⟨⟨t0, q0⟩, ⟨t1, q1⟩, ⟨t2, q2⟩, hs, hp, hbn, hbp, d1, d2, d3⟩ := r
    have pX := part_len (newX n) (j := j) (by omega)
    have pY := part_len (newY n) (j := j) (by omega)
    have sX := part_set (newX n) (j := j) (by omega)
    have sY := part_set (newY n) (j := j) (by omega)
    have eX : (newX n)[j]'(by omega) = ((j : Int) + 1).tmod n := by unfold newX; simp
    have eY : (newY n)[j]'(by omega) = ((j : Int) + n - 1).tmod n := by unfold newY; simp
    have tX := Int.tmod_nonneg (n : Int) (show (0 : Int) ≤ (j : Int) + 1 by omega)
    have tX2 := Int.tmod_lt_of_pos ((j : Int) + 1) (show (0 : Int) < n by omega)
    have tY := Int.tmod_nonneg (n : Int) (show (0 : Int) ≤ (j : Int) + n - 1 by omega)
    have tY2 := Int.tmod_lt_of_pos ((j : Int) + n - 1) (show (0 : Int) < n by omega)
    rw [eX] at sX
    rw [eY] at sY
    rw [lX] at pX
    rw [lY] at pY
    have w1 : IntKind.i64.wrap ((j : Int) + 1) = (j : Int) + 1 := by rw [IntKind.wrap_i64]; omega
    have w2 : IntKind.i64.wrap ((j : Int) + n) = (j : Int) + n := by rw [IntKind.wrap_i64]; omega
    have w3 : IntKind.i64.wrap ((j : Int) + n - 1) = (j : Int) + n - 1 := by rw [IntKind.wrap_i64]; omega
    have w4 : IntKind.i64.wrap (((j : Int) + 1).tmod n) = ((j : Int) + 1).tmod n := by rw [IntKind.wrap_i64]; omega
    have w5 : IntKind.i64.wrap (((j : Int) + n - 1).tmod n) = ((j : Int) + n - 1).tmod n := by rw [IntKind.wrap_i64]; omega
    have iX := ints_lay (l := part (newX n) j) (i := j) (by omega) (((j : Int) + 1).tmod n)
    have iY := ints_lay (l := part (newY n) j) (i := j) (by omega) (((j : Int) + n - 1).tmod n)
    rw [sX] at iX
    rw [sY] at iY
    have nX := part_len (newX n) (j := j + 1) (by omega)
    have nY := part_len (newY n) (j := j + 1) (by omega)
    rw [lX] at nX
    rw [lY] at nY
    have kX := ints_len (part (newX n) j)
    have kY := ints_len (part (newY n) j)
    have kX2 := ints_len (part (newX n) (j + 1))
    have kY2 := ints_len (part (newY n) (j + 1))
    have n0 : ¬ n = 0 := by omega
    have n1 : j + 1 ≤ n := by omega
    have b0 : bit lg nx0 = 0 := bit_up hlg
    have b1 := fun k => bit_upk (lg := lg) (n := nx0) k hlg
    have u1 : ∀ a b : Nat, a ≠ b → ¬ nx0 + a = nx0 + b := fun a b h => by omega
    rw [pX] at kX q0
    rw [pY] at kY
    rw [nX] at kX2
    rw [nY] at kY2
    simp (maxSteps := 4000000) [↓P_skip, ↓P_exit, ↓P_ret, ↓P_seq, ↓P_cond, ↓P_blk, ↓P_reg, ↓P_draw, ↓P_nil, ↓P_cons, condP_t, condP_f, dum_ab, stepR, want_none, want_some, opRun, ev_t, ev_c, put_none, put_some, resAll, res_tmp, res_cell, oneOf, minI, maxI, min2A, max2A, mn2, mx2, mx3, rdBlk, wrBlk, newBlk, partA, abin, ibin, isShift, AV.cells, AV.one, sub, fillA, lenA, toN, allApart, apartFrom, Nat.testBit, Mem.blk_set_same, Mem.blk_set_ne, Mem.set_set, bit_zero, bit_self, lowBits_or, lowBits_zero, len_setT, sl_same, sl_ne, len_frame, sl_frame,↓op_len, lenOp_slc, lenOp_nils, ↓Post.some, ↓Post_bind, ↓Post_ret, ↓Post_draw, ↓PostL_nil, ↓PostL_cons, Post_fail, ofOpt_some, ofOpt_none, eA_b, eA_i, eA_s, eA_nn, eA_np, eA_pn, eA_lnn, eA_lnp, eA_lpn, eA_i2, eA_i3, blt_dec, Nat.add_assoc, keeps_refl, keeps_at, keeps_up, new_one, and_pow, bit_hi, lowBits_pow, ble_dec, fr_refl, fr_at, fr_up, fr_p, dum_ab, L26_0b, hlen, g0, g18, g19, g3, c1, c1', q0, q1, q2, hp, hbn, hbp, d1, d2, d3, w1, w2, w3, w4, w5, iX, iY, kX, kY, kX2, kY2, n0, n1, b0, b1]
    refine Round.nor (m' := n - (j + 1)) (by omega) ⟨j + 1, rfl, by omega, by simp [↓P_skip, ↓P_exit, ↓P_ret, ↓P_seq, ↓P_cond, ↓P_blk, ↓P_reg, ↓P_draw, ↓P_nil, ↓P_cons, condP_t, condP_f, dum_ab, stepR, want_none, want_some, opRun, ev_t, ev_c, put_none, put_some, resAll, res_tmp, res_cell, oneOf, minI, maxI, min2A, max2A, mn2, mx2, mx3, rdBlk, wrBlk, newBlk, partA, abin, ibin, isShift, AV.cells, AV.one, lay, sub, fillA, lenA, toN, allApart, apartFrom, Nat.testBit, Mem.blk_set_same, Mem.blk_set_ne, Mem.set_set, bit_zero, bit_self, lowBits_or, lowBits_zero, len_setT, sl_same, sl_ne, len_frame, sl_frame,↓op_len, lenOp_slc, lenOp_nils, ↓Post.some, ↓Post_bind, ↓Post_ret, ↓Post_draw, ↓PostL_nil, ↓PostL_cons, Post_fail, ofOpt_some, ofOpt_none, eA_b, eA_i, eA_s, eA_nn, eA_np, eA_pn, eA_lnn, eA_lnp, eA_lpn, eA_i2, eA_i3, blt_dec, Nat.add_assoc, keeps_refl, keeps_at, keeps_up, hlen], by simp [↓P_skip, ↓P_exit, ↓P_ret, ↓P_seq, ↓P_cond, ↓P_blk, ↓P_reg, ↓P_draw, ↓P_nil, ↓P_cons, condP_t, condP_f, dum_ab, stepR, want_none, want_some, opRun, ev_t, ev_c, put_none, put_some, resAll, res_tmp, res_cell, oneOf, minI, maxI, min2A, max2A, mn2, mx2, mx3, rdBlk, wrBlk, newBlk, partA, abin, ibin, isShift, AV.cells, AV.one, lay, sub, fillA, lenA, toN, allApart, apartFrom, Nat.testBit, Mem.blk_set_same, Mem.blk_set_ne, Mem.set_set, bit_zero, bit_self, lowBits_or, lowBits_zero, len_setT, sl_same, sl_ne, len_frame, sl_frame,↓op_len, lenOp_slc, lenOp_nils, ↓Post.some, ↓Post_bind, ↓Post_ret, ↓Post_draw, ↓PostL_nil, ↓PostL_cons, Post_fail, ofOpt_some, ofOpt_none, eA_b, eA_i, eA_s, eA_nn, eA_np, eA_pn, eA_lnn, eA_lnp, eA_lpn, eA_i2, eA_i3, blt_dec, Nat.add_assoc, keeps_refl, keeps_at, keeps_up, hlen, g0], by simp [↓P_skip, ↓P_exit, ↓P_ret, ↓P_seq, ↓P_cond, ↓P_blk, ↓P_reg, ↓P_draw, ↓P_nil, ↓P_cons, condP_t, condP_f, dum_ab, stepR, want_none, want_some, opRun, ev_t, ev_c, put_none, put_some, resAll, res_tmp, res_cell, oneOf, minI, maxI, min2A, max2A, mn2, mx2, mx3, rdBlk, wrBlk, newBlk, partA, abin, ibin, isShift, AV.cells, AV.one, lay, sub, fillA, lenA, toN, allApart, apartFrom, Nat.testBit, Mem.blk_set_same, Mem.blk_set_ne, Mem.set_set, bit_zero, bit_self, lowBits_or, lowBits_zero, len_setT, sl_same, sl_ne, len_frame, sl_frame,↓op_len, lenOp_slc, lenOp_nils, ↓Post.some, ↓Post_bind, ↓Post_ret, ↓Post_draw, ↓PostL_nil, ↓PostL_cons, Post_fail, ofOpt_some, ofOpt_none, eA_b, eA_i, eA_s, eA_nn, eA_np, eA_pn, eA_lnn, eA_lnp, eA_lpn, eA_i2, eA_i3, blt_dec, Nat.add_assoc, keeps_refl, keeps_at, keeps_up, hlen, g18], by simp [↓P_skip, ↓P_exit, ↓P_ret, ↓P_seq, ↓P_cond, ↓P_blk, ↓P_reg, ↓P_draw, ↓P_nil, ↓P_cons, condP_t, condP_f, dum_ab, stepR, want_none, want_some, opRun, ev_t, ev_c, put_none, put_some, resAll, res_tmp, res_cell, oneOf, minI, maxI, min2A, max2A, mn2, mx2, mx3, rdBlk, wrBlk, newBlk, partA, abin, ibin, isShift, AV.cells, AV.one, lay, sub, fillA, lenA, toN, allApart, apartFrom, Nat.testBit, Mem.blk_set_same, Mem.blk_set_ne, Mem.set_set, bit_zero, bit_self, lowBits_or, lowBits_zero, len_setT, sl_same, sl_ne, len_frame, sl_frame,↓op_len, lenOp_slc, lenOp_nils, ↓Post.some, ↓Post_bind, ↓Post_ret, ↓Post_draw, ↓PostL_nil, ↓PostL_cons, Post_fail, ofOpt_some, ofOpt_none, eA_b, eA_i, eA_s, eA_nn, eA_np, eA_pn, eA_lnn, eA_lnp, eA_lpn, eA_i2, eA_i3, blt_dec, Nat.add_assoc, keeps_refl, keeps_at, keeps_up, hlen], by simp [↓P_skip, ↓P_exit, ↓P_ret, ↓P_seq, ↓P_cond, ↓P_blk, ↓P_reg, ↓P_draw, ↓P_nil, ↓P_cons, condP_t, condP_f, dum_ab, stepR, want_none, want_some, opRun, ev_t, ev_c, put_none, put_some, resAll, res_tmp, res_cell, oneOf, minI, maxI, min2A, max2A, mn2, mx2, mx3, rdBlk, wrBlk, newBlk, partA, abin, ibin, isShift, AV.cells, AV.one, lay, sub, fillA, lenA, toN, allApart, apartFrom, Nat.testBit, Mem.blk_set_same, Mem.blk_set_ne, Mem.set_set, bit_zero, bit_self, lowBits_or, lowBits_zero, len_setT, sl_same, sl_ne, len_frame, sl_frame,↓op_len, lenOp_slc, lenOp_nils, ↓Post.some, ↓Post_bind, ↓Post_ret, ↓Post_draw, ↓PostL_nil, ↓PostL_cons, Post_fail, ofOpt_some, ofOpt_none, eA_b, eA_i, eA_s, eA_nn, eA_np, eA_pn, eA_lnn, eA_lnp, eA_lpn, eA_i2, eA_i3, blt_dec, Nat.add_assoc, keeps_refl, keeps_at, keeps_up, hlen, g3], rfl, ⟨⟨t0, ?_⟩, ⟨t1, ?_⟩, ⟨t2, ?_⟩, by omega, by omega, by omega, by omega, by omega, by omega, by omega⟩, ?_⟩
    · rw [Mem.blk_set_ne _ _ _ _ (by omega), Mem.blk_set_ne _ _ _ _ (by omega), q0, nX]
    · rw [Mem.blk_set_ne _ _ _ _ (by omega), Mem.blk_set_same]
    · rw [Mem.blk_set_same]
    · exact (kp.set _ (by omega)).set _ (by omega)
  · have : j = n := by omega
    subst this
    have eX := part_all (newX j)
    have eY := part_all (newY j)
    rw [lX] at eX
    rw [lY] at eY
    rw [eX, eY] at r
    have c1' : ¬ (j : Int) < (j : Int) := by omega
    simp (maxSteps := 4000000) [↓P_skip, ↓P_exit, ↓P_ret, ↓P_seq, ↓P_cond, ↓P_blk, ↓P_reg, ↓P_draw, ↓P_nil, ↓P_cons, condP_t, condP_f, dum_ab, stepR, want_none, want_some, opRun, ev_t, ev_c, put_none, put_some, resAll, res_tmp, res_cell, oneOf, minI, maxI, min2A, max2A, mn2, mx2, mx3, rdBlk, wrBlk, newBlk, partA, abin, ibin, isShift, AV.cells, AV.one, lay, sub, fillA, lenA, toN, allApart, apartFrom, Nat.testBit, Mem.blk_set_same, Mem.blk_set_ne, Mem.set_set, bit_zero, bit_self, lowBits_or, lowBits_zero, len_setT, sl_same, sl_ne, len_frame, sl_frame,↓op_len, lenOp_slc, lenOp_nils, ↓Post.some, ↓Post_bind, ↓Post_ret, ↓Post_draw, ↓PostL_nil, ↓PostL_cons, Post_fail, ofOpt_some, ofOpt_none, eA_b, eA_i, eA_s, eA_nn, eA_np, eA_pn, eA_lnn, eA_lnp, eA_lpn, eA_i2, eA_i3, blt_dec, Nat.add_assoc, keeps_refl, keeps_at, keeps_up, new_one, and_pow, bit_hi, lowBits_pow, ble_dec, fr_refl, fr_at, fr_up, fr_p, dum_ab, L26_0b, hlen, g0, g18, g19, g3]
    exact Round.exit (R := NwR j h0 nx0) ⟨rfl, by simp [↓P_skip, ↓P_exit, ↓P_ret, ↓P_seq, ↓P_cond, ↓P_blk, ↓P_reg, ↓P_draw, ↓P_nil, ↓P_cons, condP_t, condP_f, dum_ab, stepR, want_none, want_some, opRun, ev_t, ev_c, put_none, put_some, resAll, res_tmp, res_cell, oneOf, minI, maxI, min2A, max2A, mn2, mx2, mx3, rdBlk, wrBlk, newBlk, partA, abin, ibin, isShift, AV.cells, AV.one, lay, sub, fillA, lenA, toN, allApart, apartFrom, Nat.testBit, Mem.blk_set_same, Mem.blk_set_ne, Mem.set_set, bit_zero, bit_self, lowBits_or, lowBits_zero, len_setT, sl_same, sl_ne, len_frame, sl_frame,↓op_len, lenOp_slc, lenOp_nils, ↓Post.some, ↓Post_bind, ↓Post_ret, ↓Post_draw, ↓PostL_nil, ↓PostL_cons, Post_fail, ofOpt_some, ofOpt_none, eA_b, eA_i, eA_s, eA_nn, eA_np, eA_pn, eA_lnn, eA_lnp, eA_lpn, eA_i2, eA_i3, blt_dec, Nat.add_assoc, keeps_refl, keeps_at, keeps_up, hlen], by simp [↓P_skip, ↓P_exit, ↓P_ret, ↓P_seq, ↓P_cond, ↓P_blk, ↓P_reg, ↓P_draw, ↓P_nil, ↓P_cons, condP_t, condP_f, dum_ab, stepR, want_none, want_some, opRun, ev_t, ev_c, put_none, put_some, resAll, res_tmp, res_cell, oneOf, minI, maxI, min2A, max2A, mn2, mx2, mx3, rdBlk, wrBlk, newBlk, partA, abin, ibin, isShift, AV.cells, AV.one, lay, sub, fillA, lenA, toN, allApart, apartFrom, Nat.testBit, Mem.blk_set_same, Mem.blk_set_ne, Mem.set_set, bit_zero, bit_self, lowBits_or, lowBits_zero, len_setT, sl_same, sl_ne, len_frame, sl_frame,↓op_len, lenOp_slc, lenOp_nils, ↓Post.some, ↓Post_bind, ↓Post_ret, ↓Post_draw, ↓PostL_nil, ↓PostL_cons, Post_fail, ofOpt_some, ofOpt_none, eA_b, eA_i, eA_s, eA_nn, eA_np, eA_pn, eA_lnn, eA_lnp, eA_lpn, eA_i2, eA_i3, blt_dec, Nat.add_assoc, keeps_refl, keeps_at, keeps_up, hlen, g3], rfl, r, kp⟩
set_option maxHeartbeats 8000000 in
theorem new_run (n : Nat) (hn : 1 ≤ n ∧ n ≤ 4096) (h : Mem) (nx lg : Nat) (hlg : lg ≤ nx) : Post (xF T 4400 26 [.int .i64 n] h nx lg) fun v h' nx' tc wr => v = .ptr (nx + 2) 0 ∧ nx' = nx + 3 ∧ Rg h' nx' (nx + 2) nx (nx + 1) (newX n) (newY n) n ∧ Keeps nx h h' := by
  rw [xF_fr T26]
  have c1 : ¬ (n : Int) < 1 := by omega
  have c2 : ¬ (4096 : Int) < (n : Int) := by omega
  have c3 : (n : Int) ≤ 70368744177664 := by omega
  have c4 : 8 * n ≤ 70368744177664 := by omega
  have c5 : n ≤ 70368744177664 := by omega
  have b0 : bit lg nx = 0 := bit_up hlg
  have b1 := fun k => bit_upk (lg := lg) (n := nx) k hlg
  have lX : (newX n).length = n := by unfold newX; simp
  have lY : (newY n).length = n := by unfold newY; simp
  simp (maxSteps := 4000000) [↓P_skip, ↓P_exit, ↓P_ret, ↓P_seq, ↓P_cond, ↓P_blk, ↓P_reg, ↓P_draw, ↓P_nil, ↓P_cons, condP_t, condP_f, dum_ab, stepR, want_none, want_some, opRun, ev_t, ev_c, put_none, put_some, resAll, res_tmp, res_cell, oneOf, minI, maxI, min2A, max2A, mn2, mx2, mx3, rdBlk, wrBlk, newBlk, partA, abin, ibin, isShift, AV.cells, AV.one, lay, sub, fillA, lenA, toN, allApart, apartFrom, Nat.testBit, Mem.blk_set_same, Mem.blk_set_ne, Mem.set_set, bit_zero, bit_self, lowBits_or, lowBits_zero, len_setT, sl_same, sl_ne, len_frame, sl_frame,↓op_len, lenOp_slc, lenOp_nils, ↓Post.some, ↓Post_bind, ↓Post_ret, ↓Post_draw, ↓PostL_nil, ↓PostL_cons, Post_fail, ofOpt_some, ofOpt_none, eA_b, eA_i, eA_s, eA_nn, eA_np, eA_pn, eA_lnn, eA_lnp, eA_lpn, eA_i2, eA_i3, blt_dec, Nat.add_assoc, keeps_refl, keeps_at, keeps_up, new_one, and_pow, bit_hi, lowBits_pow, ble_dec, fr_refl, fr_at, fr_up, fr_p, dum_ab, F26, c1, c2, c3, c4, c5, toNle, b0, b1]
  refine Post.loop (nw_round n hn h nx lg hlg) n ⟨0, rfl, by omega, by simp [↓P_skip, ↓P_exit, ↓P_ret, ↓P_seq, ↓P_cond, ↓P_blk, ↓P_reg, ↓P_draw, ↓P_nil, ↓P_cons, condP_t, condP_f, dum_ab, stepR, want_none, want_some, opRun, ev_t, ev_c, put_none, put_some, resAll, res_tmp, res_cell, oneOf, minI, maxI, min2A, max2A, mn2, mx2, mx3, rdBlk, wrBlk, newBlk, partA, abin, ibin, isShift, AV.cells, AV.one, lay, sub, fillA, lenA, toN, allApart, apartFrom, Nat.testBit, Mem.blk_set_same, Mem.blk_set_ne, Mem.set_set, bit_zero, bit_self, lowBits_or, lowBits_zero, len_setT, sl_same, sl_ne, len_frame, sl_frame,↓op_len, lenOp_slc, lenOp_nils, ↓Post.some, ↓Post_bind, ↓Post_ret, ↓Post_draw, ↓PostL_nil, ↓PostL_cons, Post_fail, ofOpt_some, ofOpt_none, eA_b, eA_i, eA_s, eA_nn, eA_np, eA_pn, eA_lnn, eA_lnp, eA_lpn, eA_i2, eA_i3, blt_dec, Nat.add_assoc, keeps_refl, keeps_at, keeps_up], by simp [↓P_skip, ↓P_exit, ↓P_ret, ↓P_seq, ↓P_cond, ↓P_blk, ↓P_reg, ↓P_draw, ↓P_nil, ↓P_cons, condP_t, condP_f, dum_ab, stepR, want_none, want_some, opRun, ev_t, ev_c, put_none, put_some, resAll, res_tmp, res_cell, oneOf, minI, maxI, min2A, max2A, mn2, mx2, mx3, rdBlk, wrBlk, newBlk, partA, abin, ibin, isShift, AV.cells, AV.one, lay, sub, fillA, lenA, toN, allApart, apartFrom, Nat.testBit, Mem.blk_set_same, Mem.blk_set_ne, Mem.set_set, bit_zero, bit_self, lowBits_or, lowBits_zero, len_setT, sl_same, sl_ne, len_frame, sl_frame,↓op_len, lenOp_slc, lenOp_nils, ↓Post.some, ↓Post_bind, ↓Post_ret, ↓Post_draw, ↓PostL_nil, ↓PostL_cons, Post_fail, ofOpt_some, ofOpt_none, eA_b, eA_i, eA_s, eA_nn, eA_np, eA_pn, eA_lnn, eA_lnp, eA_lpn, eA_i2, eA_i3, blt_dec, Nat.add_assoc, keeps_refl, keeps_at, keeps_up], by simp [↓P_skip, ↓P_exit, ↓P_ret, ↓P_seq, ↓P_cond, ↓P_blk, ↓P_reg, ↓P_draw, ↓P_nil, ↓P_cons, condP_t, condP_f, dum_ab, stepR, want_none, want_some, opRun, ev_t, ev_c, put_none, put_some, resAll, res_tmp, res_cell, oneOf, minI, maxI, min2A, max2A, mn2, mx2, mx3, rdBlk, wrBlk, newBlk, partA, abin, ibin, isShift, AV.cells, AV.one, lay, sub, fillA, lenA, toN, allApart, apartFrom, Nat.testBit, Mem.blk_set_same, Mem.blk_set_ne, Mem.set_set, bit_zero, bit_self, lowBits_or, lowBits_zero, len_setT, sl_same, sl_ne, len_frame, sl_frame,↓op_len, lenOp_slc, lenOp_nils, ↓Post.some, ↓Post_bind, ↓Post_ret, ↓Post_draw, ↓PostL_nil, ↓PostL_cons, Post_fail, ofOpt_some, ofOpt_none, eA_b, eA_i, eA_s, eA_nn, eA_np, eA_pn, eA_lnn, eA_lnp, eA_lpn, eA_i2, eA_i3, blt_dec, Nat.add_assoc, keeps_refl, keeps_at, keeps_up], by simp [↓P_skip, ↓P_exit, ↓P_ret, ↓P_seq, ↓P_cond, ↓P_blk, ↓P_reg, ↓P_draw, ↓P_nil, ↓P_cons, condP_t, condP_f, dum_ab, stepR, want_none, want_some, opRun, ev_t, ev_c, put_none, put_some, resAll, res_tmp, res_cell, oneOf, minI, maxI, min2A, max2A, mn2, mx2, mx3, rdBlk, wrBlk, newBlk, partA, abin, ibin, isShift, AV.cells, AV.one, lay, sub, fillA, lenA, toN, allApart, apartFrom, Nat.testBit, Mem.blk_set_same, Mem.blk_set_ne, Mem.set_set, bit_zero, bit_self, lowBits_or, lowBits_zero, len_setT, sl_same, sl_ne, len_frame, sl_frame,↓op_len, lenOp_slc, lenOp_nils, ↓Post.some, ↓Post_bind, ↓Post_ret, ↓Post_draw, ↓PostL_nil, ↓PostL_cons, Post_fail, ofOpt_some, ofOpt_none, eA_b, eA_i, eA_s, eA_nn, eA_np, eA_pn, eA_lnn, eA_lnp, eA_lpn, eA_i2, eA_i3, blt_dec, Nat.add_assoc, keeps_refl, keeps_at, keeps_up], by simp [↓P_skip, ↓P_exit, ↓P_ret, ↓P_seq, ↓P_cond, ↓P_blk, ↓P_reg, ↓P_draw, ↓P_nil, ↓P_cons, condP_t, condP_f, dum_ab, stepR, want_none, want_some, opRun, ev_t, ev_c, put_none, put_some, resAll, res_tmp, res_cell, oneOf, minI, maxI, min2A, max2A, mn2, mx2, mx3, rdBlk, wrBlk, newBlk, partA, abin, ibin, isShift, AV.cells, AV.one, lay, sub, fillA, lenA, toN, allApart, apartFrom, Nat.testBit, Mem.blk_set_same, Mem.blk_set_ne, Mem.set_set, bit_zero, bit_self, lowBits_or, lowBits_zero, len_setT, sl_same, sl_ne, len_frame, sl_frame,↓op_len, lenOp_slc, lenOp_nils, ↓Post.some, ↓Post_bind, ↓Post_ret, ↓Post_draw, ↓PostL_nil, ↓PostL_cons, Post_fail, ofOpt_some, ofOpt_none, eA_b, eA_i, eA_s, eA_nn, eA_np, eA_pn, eA_lnn, eA_lnp, eA_lpn, eA_i2, eA_i3, blt_dec, Nat.add_assoc, keeps_refl, keeps_at, keeps_up], rfl, ⟨⟨56, ?_⟩, ⟨3, ?_⟩, ⟨3, ?_⟩, ?_, by omega, by omega, by omega, by omega, by omega, by omega⟩, ?_⟩ (by omega) ?_
  · rw [part_zero, List.length_replicate, lX]; rw [Mem.blk_set_same]
  · rw [part_zero, lX, Mem.blk_set_ne _ _ _ _ (by omega), Mem.blk_set_ne _ _ _ _ (by omega), Mem.blk_set_same, reps_ints]
  · rw [part_zero, lY, Mem.blk_set_ne _ _ _ _ (by omega), Mem.blk_set_same, reps_ints]
  · rw [part_zero, part_zero, List.length_replicate, List.length_replicate, lX, lY]
  · simp [↓P_skip, ↓P_exit, ↓P_ret, ↓P_seq, ↓P_cond, ↓P_blk, ↓P_reg, ↓P_draw, ↓P_nil, ↓P_cons, condP_t, condP_f, dum_ab, stepR, want_none, want_some, opRun, ev_t, ev_c, put_none, put_some, resAll, res_tmp, res_cell, oneOf, minI, maxI, min2A, max2A, mn2, mx2, mx3, rdBlk, wrBlk, newBlk, partA, abin, ibin, isShift, AV.cells, AV.one, lay, sub, fillA, lenA, toN, allApart, apartFrom, Nat.testBit, Mem.blk_set_same, Mem.blk_set_ne, Mem.set_set, bit_zero, bit_self, lowBits_or, lowBits_zero, len_setT, sl_same, sl_ne, len_frame, sl_frame,↓op_len, lenOp_slc, lenOp_nils, ↓Post.some, ↓Post_bind, ↓Post_ret, ↓Post_draw, ↓PostL_nil, ↓PostL_cons, Post_fail, ofOpt_some, ofOpt_none, eA_b, eA_i, eA_s, eA_nn, eA_np, eA_pn, eA_lnn, eA_lnp, eA_lpn, eA_i2, eA_i3, blt_dec, Nat.add_assoc, keeps_refl, keeps_at, keeps_up]
  · rintro e ts' h' nx' tc' wr' ⟨rfl, hlen, g3, rfl, r, kp⟩
    simp (maxSteps := 4000000) [↓P_skip, ↓P_exit, ↓P_ret, ↓P_seq, ↓P_cond, ↓P_blk, ↓P_reg, ↓P_draw, ↓P_nil, ↓P_cons, condP_t, condP_f, dum_ab, stepR, want_none, want_some, opRun, ev_t, ev_c, put_none, put_some, resAll, res_tmp, res_cell, oneOf, minI, maxI, min2A, max2A, mn2, mx2, mx3, rdBlk, wrBlk, newBlk, partA, abin, ibin, isShift, AV.cells, AV.one, lay, sub, fillA, lenA, toN, allApart, apartFrom, Nat.testBit, Mem.blk_set_same, Mem.blk_set_ne, Mem.set_set, bit_zero, bit_self, lowBits_or, lowBits_zero, len_setT, sl_same, sl_ne, len_frame, sl_frame,↓op_len, lenOp_slc, lenOp_nils, ↓Post.some, ↓Post_bind, ↓Post_ret, ↓Post_draw, ↓PostL_nil, ↓PostL_cons, Post_fail, ofOpt_some, ofOpt_none, eA_b, eA_i, eA_s, eA_nn, eA_np, eA_pn, eA_lnn, eA_lnp, eA_lpn, eA_i2, eA_i3, blt_dec, Nat.add_assoc, keeps_refl, keeps_at, keeps_up, new_one, and_pow, bit_hi, lowBits_pow, ble_dec, fr_refl, fr_at, fr_up, fr_p, dum_ab, hlen, g3, kp, r]
end Go.Proofs.YtmgilbjhgpcjgaaT
