/- Cache: CacheLines. -/
import Derived.Test.YthiiegkjbglflaaLaws
namespace Go.Proofs.YthiiegkjbglflaaT
open Go Go.Proofs.YthiiegkjbglflaaE Go.Proofs.YthiiegkjbglflaaB
set_option linter.unusedSimpArgs false
set_option linter.unusedVariables false
attribute [local congr] Post_cg PostL_cg condP_cg

theorem getL_put {L : List Ln} (hL : L.length = 32) (c s m : Int) : getL (putL L c s m) c s = ⟨true, c, s, m⟩ := by
  have := li_lt c s
  unfold getL putL
  rw [List.getD_eq_getElem?_getD, List.getElem?_set_self (by omega)]; rfl
theorem getL_ne {L : List Ln} (c s m c' s' : Int) (h : li c s ≠ li c' s') : getL (putL L c s m) c' s' = getL L c' s' := by
  unfold getL putL
  rw [List.getD_eq_getElem?_getD, List.getElem?_set_ne h, List.getD_eq_getElem?_getD]
theorem getL_eq {L : List Ln} (hL : L.length = 32) (c s m c' s' : Int) (h : li c s = li c' s') : getL (putL L c s m) c' s' = ⟨true, c, s, m⟩ := by
  have := getL_put hL c s m
  unfold getL at *
  rw [← h]; exact this
theorem ix_small (c s : Int) (hc : 0 ≤ c ∧ c ≤ 15) (hs : 0 ≤ s ∧ s ≤ 63) : ix c s = (31 * c + s).tmod 32 := by
  unfold ix
  rw [Int.tmod_eq_emod_of_nonneg hc.1, Int.tmod_eq_emod_of_nonneg hs.1, Int.tmod_eq_emod_of_nonneg (show 0 ≤ c % 32 * 31 + s % 32 by omega), Int.tmod_eq_emod_of_nonneg (show 0 ≤ (c % 32 * 31 + s % 32) % 32 + 32 by omega), Int.tmod_eq_emod_of_nonneg (show 0 ≤ 31 * c + s by omega)]
  omega
set_option maxRecDepth 100000 in
set_option maxHeartbeats 4000000 in
theorem lines_law (a0 : Int) (w0 : (Lit.int .i64 a0).wf = true) (a1 : Int) (w1 : (Lit.int .i64 a1).wf = true) (a2 : Int) (w2 : (Lit.int .i64 a2).wf = true) (a3 : Int) (w3 : (Lit.int .i64 a3).wf = true) (h : Mem) (nx : Nat) : Yes T 6 [.int .i64 a0, .int .i64 a1, .int .i64 a2, .int .i64 a3] h nx := by
  refine Yes.of 400 ?_
  rw [xF_fr T6]
  have e : ∀ n h nx lg, xF T (n + 10) 10 [] h nx lg = some ⟨.ptr nx 0, h.set nx (some (cb empty 0 0)), nx + 1, 0, 0⟩ := new_eq
  have e15 : ∀ x, Go.bits .and .i64 x 15 = x % 16 := fun x => and_mask .i64 4 (by decide) x
  have e63 : ∀ x, Go.bits .and .i64 x 63 = x % 64 := fun x => and_mask .i64 6 (by decide) x
  obtain ⟨c, hc⟩ : ∃ c, c = a0 % 16 := ⟨_, rfl⟩
  obtain ⟨s, hs⟩ : ∃ s, s = a1 % 64 := ⟨_, rfl⟩
  obtain ⟨c', hc'⟩ : ∃ c, c = a2 % 16 := ⟨_, rfl⟩
  obtain ⟨s', hs'⟩ : ∃ s, s = a3 % 64 := ⟨_, rfl⟩
  have i1 := ix_small c s (by omega) (by omega)
  have i2 := ix_small c' s' (by omega) (by omega)
  have m1 : IntKind.i64.wrap (31 * c) = 31 * c := w64 _ (by omega)
  have m2 : IntKind.i64.wrap (31 * c + s) = 31 * c + s := w64 _ (by omega)
  have m3 : IntKind.i64.wrap (31 * c') = 31 * c' := w64 _ (by omega)
  have m4 : IntKind.i64.wrap (31 * c' + s') = 31 * c' + s' := w64 _ (by omega)
  have ne0 : ¬ nx + 1 = nx := by omega
  have ne1 : ¬ nx + 2 = nx := by omega
  generalize hH : ((h.set nx (some (cb empty 0 0))).set (nx + 1) (some ⟨32, 2, true, false, [.int .i64 c, .int .i64 s]⟩)).set (nx + 2) (some ⟨32, 2, true, false, [.int .i64 c', .int .i64 s']⟩) = H
  have p1 : H.blk nx = some (cb empty 0 0) := by rw [← hH, Mem.blk_set_ne _ _ _ _ (by omega), Mem.blk_set_ne _ _ _ _ (by omega), Mem.blk_set_same]
  have a1 : H.blk (nx + 1) = some ⟨32, 2, true, false, [.int .i64 c, .int .i64 s]⟩ := by rw [← hH, Mem.blk_set_ne _ _ _ _ (by omega), Mem.blk_set_same]
  have b1 : H.blk (nx + 2) = some ⟨32, 2, true, false, [.int .i64 c', .int .i64 s']⟩ := by rw [← hH, Mem.blk_set_same]
  obtain ⟨h2, nx2, x2, n2, p2, f2⟩ := (put_acts empty_len p1 (nx := nx + 3) (by omega) c s 1).at 0 (by omega)
  have a2 := (f2 (nx + 1) (by omega) ne0).trans a1
  have b2 := (f2 (nx + 2) (by omega) ne1).trans b1
  have hL1 := putL_len empty_len c s 1
  obtain ⟨h3, nx3, x3, n3, p3, f3⟩ := (get_acts hL1 p2 (nx := nx2) (by omega) c s).at 0 (by omega)
  have a3 := (f3 (nx + 1) (by omega) ne0).trans a2
  have b3 := (f3 (nx + 2) (by omega) ne1).trans b2
  obtain ⟨h4, nx4, x4, n4, p4, f4⟩ := (put_acts hL1 p3 (nx := nx3) (by omega) c' s' 2).at 0 (by omega)
  have a4 := (f4 (nx + 1) (by omega) ne0).trans a3
  have b4 := (f4 (nx + 2) (by omega) ne1).trans b3
  have hL2 := putL_len hL1 c' s' 2
  obtain ⟨h5, nx5, x5, n5, p5, f5⟩ := (get_acts hL2 p4 (nx := nx4) (by omega) c' s').at 0 (by omega)
  have a5 := (f5 (nx + 1) (by omega) ne0).trans a4
  have b5 := (f5 (nx + 2) (by omega) ne1).trans b4
  obtain ⟨h6, nx6, x6, n6, p6, f6⟩ := (get_acts hL2 p5 (nx := nx5) (by omega) c s).at 0 (by omega)
  have a6 := (f6 (nx + 1) (by omega) ne0).trans a5
  have b6 := (f6 (nx + 2) (by omega) ne1).trans b5
  obtain ⟨h7, nx7, tc7, wr7, x7, n7, k7⟩ := (known_ans h6 nx6).at
  have r3 : resL (putL empty c s 1) c s = .tup [.int .i64 1, .bool true] := by
    simp [resL, hitL, getL_put empty_len]
  have r5 : resL (putL (putL empty c s 1) c' s' 2) c' s' = .tup [.int .i64 2, .bool true] := by
    simp [resL, hitL, getL_put hL1]
  rw [r3] at x3
  rw [r5] at x5
  have l2 : nx + 1 < nx2 := by omega
  have l2' : nx + 2 < nx2 := by omega
  have l3 : nx + 1 < nx3 := by omega
  have l3' : nx + 2 < nx3 := by omega
  have l4 : nx + 1 < nx4 := by omega
  have l4' : nx + 2 < nx4 := by omega
  have l5 : nx + 1 < nx5 := by omega
  have l6 : nx + 1 < nx6 := by omega
  have l6' : nx + 2 < nx6 := by omega
  by_cases hi : li c s = li c' s'
  · have ap : ((31 * c + s).tmod 32 != (31 * c' + s').tmod 32) = false := by
      have := ix_in c s
      have := ix_in c' s'
      have : ix c s = ix c' s' := by unfold li at hi; omega
      rw [i1, i2] at this
      rw [this]; simp
    have gq := getL_eq hL1 c' s' 2 c s hi.symm
    cases e1 : (c == c' && s == s') with
    | true =>
      have r6 : resL (putL (putL empty c s 1) c' s' 2) c s = .tup [.int .i64 2, .bool true] := by
        simp only [resL, hitL, gq]
        simp at e1
        simp [e1]
      rw [r6] at x6
      simp (maxSteps := 4000000) [↓P_skip, ↓P_exit, ↓P_ret, ↓P_seq, ↓P_cond, ↓P_blk, ↓P_reg, ↓P_draw, ↓P_nil, ↓P_cons, condP_t, condP_f, dum_ab, stepR, want_none, want_some, opRun, ev_t, ev_c, put_none, put_some, resAll, res_tmp, res_cell, oneOf, minI, maxI, min2A, max2A, mn2, mx2, mx3, rdBlk, wrBlk, newBlk, partA, abin, ibin, isShift, AV.cells, AV.one, lay, sub, fillA, lenA, toN, allApart, apartFrom, Nat.testBit, Mem.blk_set_same, Mem.blk_set_ne, Mem.set_set, bit_zero, bit_self, lowBits_or, lowBits_zero, len_setT, sl_same, sl_ne, len_frame, sl_frame,↓op_len, lenOp_slc, lenOp_nils, ↓Post.some, ↓Post_bind, ↓Post_ret, ↓Post_draw, ↓PostL_nil, ↓PostL_cons, Post_fail, ofOpt_some, ofOpt_none, eA_b, eA_i, eA_s, eA_nn, eA_np, eA_pn, eA_lnn, eA_lnp, eA_lpn, eA_i2, eA_i3, blt_dec, Nat.add_assoc, keeps_refl, keeps_at, keeps_up, new_one, and_pow, bit_hi, lowBits_pow, ble_dec, fr_refl, fr_at, fr_up, fr_p, dum_ab, F6, e, e15, e63, ← hc, ← hs, ← hc', ← hs', m1, m2, m3, m4, hH, a1, a2, a3, a4, a5, a6, b1, b2, b3, b4, b5, b6, x2, x3, x4, x5, x6, x7, l2, l3, l4, l5, l6, l2', l3', l4', l6', ap, e1]
    | false =>
      have r6 : resL (putL (putL empty c s 1) c' s' 2) c s = .tup [.int .i64 (-1), .bool false] := by
        have : (c' == c && s' == s) = false := by rw [← e1, show (c' == c) = (c == c') from BEq.comm, show (s' == s) = (s == s') from BEq.comm]
        simp only [resL, hitL, gq, this]; rfl
      rw [r6] at x6
      simp (maxSteps := 4000000) [↓P_skip, ↓P_exit, ↓P_ret, ↓P_seq, ↓P_cond, ↓P_blk, ↓P_reg, ↓P_draw, ↓P_nil, ↓P_cons, condP_t, condP_f, dum_ab, stepR, want_none, want_some, opRun, ev_t, ev_c, put_none, put_some, resAll, res_tmp, res_cell, oneOf, minI, maxI, min2A, max2A, mn2, mx2, mx3, rdBlk, wrBlk, newBlk, partA, abin, ibin, isShift, AV.cells, AV.one, lay, sub, fillA, lenA, toN, allApart, apartFrom, Nat.testBit, Mem.blk_set_same, Mem.blk_set_ne, Mem.set_set, bit_zero, bit_self, lowBits_or, lowBits_zero, len_setT, sl_same, sl_ne, len_frame, sl_frame,↓op_len, lenOp_slc, lenOp_nils, ↓Post.some, ↓Post_bind, ↓Post_ret, ↓Post_draw, ↓PostL_nil, ↓PostL_cons, Post_fail, ofOpt_some, ofOpt_none, eA_b, eA_i, eA_s, eA_nn, eA_np, eA_pn, eA_lnn, eA_lnp, eA_lpn, eA_i2, eA_i3, blt_dec, Nat.add_assoc, keeps_refl, keeps_at, keeps_up, new_one, and_pow, bit_hi, lowBits_pow, ble_dec, fr_refl, fr_at, fr_up, fr_p, dum_ab, F6, e, e15, e63, ← hc, ← hs, ← hc', ← hs', m1, m2, m3, m4, hH, a1, a2, a3, a4, a5, a6, b1, b2, b3, b4, b5, b6, x2, x3, x4, x5, x6, x7, l2, l3, l4, l5, l6, l2', l3', l4', l6', ap, e1]
  · have ap : ((31 * c + s).tmod 32 != (31 * c' + s').tmod 32) = true := by
      have i3 : ix c s ≠ ix c' s' := fun q => hi (by unfold li; rw [q])
      rw [i1, i2] at i3
      simpa using i3
    have gq := getL_ne (L := putL empty c s 1) c' s' 2 c s (Ne.symm hi)
    have e1 : (c == c' && s == s') = false := by
      cases e1 : (c == c' && s == s') with
      | false => rfl
      | true =>
        simp at e1
        exact absurd (by rw [e1.1, e1.2]) hi
    have r6 : resL (putL (putL empty c s 1) c' s' 2) c s = .tup [.int .i64 1, .bool true] := by
      simp [resL, hitL, gq, getL_put empty_len]
    rw [r6] at x6
    simp (maxSteps := 4000000) [↓P_skip, ↓P_exit, ↓P_ret, ↓P_seq, ↓P_cond, ↓P_blk, ↓P_reg, ↓P_draw, ↓P_nil, ↓P_cons, condP_t, condP_f, dum_ab, stepR, want_none, want_some, opRun, ev_t, ev_c, put_none, put_some, resAll, res_tmp, res_cell, oneOf, minI, maxI, min2A, max2A, mn2, mx2, mx3, rdBlk, wrBlk, newBlk, partA, abin, ibin, isShift, AV.cells, AV.one, lay, sub, fillA, lenA, toN, allApart, apartFrom, Nat.testBit, Mem.blk_set_same, Mem.blk_set_ne, Mem.set_set, bit_zero, bit_self, lowBits_or, lowBits_zero, len_setT, sl_same, sl_ne, len_frame, sl_frame,↓op_len, lenOp_slc, lenOp_nils, ↓Post.some, ↓Post_bind, ↓Post_ret, ↓Post_draw, ↓PostL_nil, ↓PostL_cons, Post_fail, ofOpt_some, ofOpt_none, eA_b, eA_i, eA_s, eA_nn, eA_np, eA_pn, eA_lnn, eA_lnp, eA_lpn, eA_i2, eA_i3, blt_dec, Nat.add_assoc, keeps_refl, keeps_at, keeps_up, new_one, and_pow, bit_hi, lowBits_pow, ble_dec, fr_refl, fr_at, fr_up, fr_p, dum_ab, F6, e, e15, e63, ← hc, ← hs, ← hc', ← hs', m1, m2, m3, m4, hH, a1, a2, a3, a4, a5, a6, b1, b2, b3, b4, b5, b6, x2, x3, x4, x5, x6, x7, l2, l3, l4, l5, l6, l2', l3', l4', l6', ap, e1]
end Go.Proofs.YthiiegkjbglflaaT
