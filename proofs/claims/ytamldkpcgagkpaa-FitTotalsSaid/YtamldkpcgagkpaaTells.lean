/- Fit: FitTells. -/
import Derived.Test.YtamldkpcgagkpaaLaws
namespace Go.Proofs.YtamldkpcgagkpaaT
open Go Go.Proofs.YtamldkpcgagkpaaE Go.Proofs.YtamldkpcgagkpaaB
set_option linter.unusedSimpArgs false
set_option linter.unusedVariables false
attribute [local congr] Post_cg PostL_cg condP_cg
theorem five_of {x : List AV} (w : LeavesV [.i .i64, .i .i64, .i .i64, .i .i64, .i .i64] x) : ∃ a b c d e : Int, x = [.int .i64 a, .int .i64 b, .int .i64 c, .int .i64 d, .int .i64 e] := by
  simp only [LeavesV, LeafV] at w
  obtain ⟨_, _, rfl, ⟨a, rfl, _⟩, _, _, rfl, ⟨b, rfl, _⟩, _, _, rfl, ⟨c, rfl, _⟩, _, _, rfl, ⟨d, rfl, _⟩, _, _, rfl, ⟨e, rfl, _⟩, rfl⟩ := w
  exact ⟨a, b, c, d, e, rfl⟩
set_option maxRecDepth 100000 in
set_option maxHeartbeats 8000000 in
theorem tells_law (a0 : Int) (w0 : (Lit.int .i64 a0).wf = true) (x1 : List AV) (w1 : LeavesV [.i .i64, .i .i64, .i .i64, .i .i64, .i .i64] x1) (a2 : Int) (w2 : (Lit.int .i64 a2).wf = true) (h : Mem) (p : Nat) : Yes T 4 [.int .i64 a0, .agg x1, .int .i64 a2] h p := by
  obtain ⟨a, b, c, d, e, rfl⟩ := five_of w1
  refine Yes.of 400 ?_
  rw [xF_fr T4]
  have g : ∀ x, ∃ y, Go.bits .and .i64 x 511 = y := fun x => ⟨_, rfl⟩
  obtain ⟨fa, ga⟩ := g a
  obtain ⟨fb, gb⟩ := g b
  obtain ⟨fc, gc⟩ := g c
  obtain ⟨fd, gd⟩ := g d
  obtain ⟨fe, ge⟩ := g e
  obtain ⟨H, hH⟩ : ∃ H, H = (h.set p (some ⟨22, 5, true, false, [.int .i64 a, .int .i64 b, .int .i64 c, .int .i64 d, .int .i64 e]⟩)).set (p + 1) (some ⟨22, 5, true, false, [.int .i64 fa, .int .i64 fb, .int .i64 fc, .int .i64 fd, .int .i64 fe]⟩) := ⟨_, rfl⟩
  have q1 : H.blk p = some ⟨22, 5, true, false, [.int .i64 a, .int .i64 b, .int .i64 c, .int .i64 d, .int .i64 e]⟩ := by rw [hH, Mem.blk_set_ne _ _ _ _ (by omega), Mem.blk_set_same]
  have q2 : H.blk (p + 1) = some ⟨22, 5, true, false, [.int .i64 fa, .int .i64 fb, .int .i64 fc, .int .i64 fd, .int .i64 fe]⟩ := by rw [hH, Mem.blk_set_same]
  obtain ⟨h1, nx1, tq1, wq1, x1, n1, k1⟩ := (same_ans a0 a b c d e a2 H (p + 2)).at
  have q3 := (k1 (p + 1) (by omega)).trans q2
  obtain ⟨h2, nx2, tq2, wq2, x2, n2, k2⟩ := (same_ans (Go.bits .and .i64 a0 127) fa fb fc fd fe (Go.bits .and .i64 a2 31) h1 nx1).at
  have q4 := (k2 (p + 1) (by omega)).trans q3
  obtain ⟨h3, nx3, tq3, wq3, x3, n3, k3⟩ := (same_ans (Go.bits .and .i64 a0 63) fa (Go.bits .and .i64 fb 255) (Go.bits .and .i64 fc 127) 3 1 (IntKind.i64.wrap (1 + Go.bits .and .i64 a2 15)) h2 nx2).at
  obtain ⟨h4, nx4, tq4, wq4, x4, n4, k4⟩ := (known_ans h3 nx3).at
  simp only [cfg] at x1 x2 x3
  have l1 : p + 1 < nx1 := by omega
  have l2 : p + 1 < nx2 := by omega
  simp (maxSteps := 4000000) [↓P_skip, ↓P_exit, ↓P_ret, ↓P_seq, ↓P_cond, ↓P_blk, ↓P_reg, ↓P_draw, ↓P_nil, ↓P_cons, condP_t, condP_f, dum_ab, stepR, want_none, want_some, opRun, ev_t, ev_c, put_none, put_some, resAll, res_tmp, res_cell, oneOf, minI, maxI, min2A, max2A, mn2, mx2, mx3, rdBlk, wrBlk, newBlk, partA, abin, ibin, isShift, AV.cells, AV.one, lay, sub, fillA, lenA, toN, allApart, apartFrom, Nat.testBit, Mem.blk_set_same, Mem.blk_set_ne, Mem.set_set, bit_zero, bit_self, lowBits_or, lowBits_zero, len_setT, sl_same, sl_ne, len_frame, sl_frame,↓op_len, lenOp_slc, lenOp_nils, ↓Post.some, ↓Post_bind, ↓Post_ret, ↓Post_draw, ↓PostL_nil, ↓PostL_cons, Post_fail, ofOpt_some, ofOpt_none, eA_b, eA_i, eA_s, eA_nn, eA_np, eA_pn, eA_lnn, eA_lnp, eA_lpn, eA_i2, eA_i3, blt_dec, Nat.add_assoc, keeps_refl, keeps_at, keeps_up, new_one, and_pow, bit_hi, lowBits_pow, ble_dec, fr_refl, fr_at, fr_up, fr_p, dum_ab, F4, L4_0, L4_0b, ↓P_loop, ga, gb, gc, gd, ge, wr0, wr1, wr2, wr3, wr4, wr5]
  rw [← hH]
  simp (maxSteps := 4000000) [↓P_skip, ↓P_exit, ↓P_ret, ↓P_seq, ↓P_cond, ↓P_blk, ↓P_reg, ↓P_draw, ↓P_nil, ↓P_cons, condP_t, condP_f, dum_ab, stepR, want_none, want_some, opRun, ev_t, ev_c, put_none, put_some, resAll, res_tmp, res_cell, oneOf, minI, maxI, min2A, max2A, mn2, mx2, mx3, rdBlk, wrBlk, newBlk, partA, abin, ibin, isShift, AV.cells, AV.one, lay, sub, fillA, lenA, toN, allApart, apartFrom, Nat.testBit, Mem.blk_set_same, Mem.blk_set_ne, Mem.set_set, bit_zero, bit_self, lowBits_or, lowBits_zero, len_setT, sl_same, sl_ne, len_frame, sl_frame,↓op_len, lenOp_slc, lenOp_nils, ↓Post.some, ↓Post_bind, ↓Post_ret, ↓Post_draw, ↓PostL_nil, ↓PostL_cons, Post_fail, ofOpt_some, ofOpt_none, eA_b, eA_i, eA_s, eA_nn, eA_np, eA_pn, eA_lnn, eA_lnp, eA_lpn, eA_i2, eA_i3, blt_dec, Nat.add_assoc, keeps_refl, keeps_at, keeps_up, new_one, and_pow, bit_hi, lowBits_pow, ble_dec, fr_refl, fr_at, fr_up, fr_p, dum_ab, F4, q1, q2, q3, q4, x1, x2, x3, x4, l1, l2]
end Go.Proofs.YtamldkpcgagkpaaT
