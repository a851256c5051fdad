/- Fit: Total; same is so for any numbers. -/
import Derived.Test.YtamldkpcgagkpaaRight
namespace Go.Proofs.YtamldkpcgagkpaaT
open Go Go.Proofs.YtamldkpcgagkpaaE Go.Proofs.YtamldkpcgagkpaaB
set_option linter.unusedSimpArgs false
set_option linter.unusedVariables false
attribute [local congr] Post_cg PostL_cg condP_cg

theorem new_and {n m p : Nat} (h : p < n) : (2 ^ m - 2 ^ n) &&& 2 ^ p = 0 := by
  by_cases c : m ≤ n
  · have := Nat.pow_le_pow_right (show 0 < 2 by omega) c
    rw [Nat.sub_eq_zero_of_le this, Nat.zero_and]
  · obtain ⟨k, rfl⟩ : ∃ k, m = n + k := ⟨m - n, by omega⟩
    rw [Nat.pow_add, show 2 ^ n * 2 ^ k - 2 ^ n = 2 ^ n * (2 ^ k - 1) by rw [Nat.mul_sub, Nat.mul_one]]
    apply Nat.eq_of_testBit_eq
    intro i
    rw [Nat.testBit_and, Nat.testBit_two_pow, Nat.zero_testBit, Nat.testBit_two_pow_mul]
    by_cases e : p = i
    · subst e; simp; intro hh; omega
    · simp [e]
theorem right_zero {a b c d e p : Int} (h : right a b c d e p = 0) : ok5 a ∧ ok5 b ∧ ok5 c ∧ ok5 d ∧ ok5 e ∧ 1 ≤ a + b + c + d + e ∧ a + b + c + d + e ≤ 1020 ∧ 1 ≤ p ∧ p ≤ 16 := by
  by_cases g : ok5 a ∧ ok5 b ∧ ok5 c ∧ ok5 d ∧ ok5 e
  · rw [right_good g] at h
    obtain ⟨h1, h2, h3, h4, h5⟩ := g
    refine ⟨h1, h2, h3, h4, h5, ?_⟩
    split at h
    · cases h
    · split at h
      · cases h
      · omega
  · rw [right_bad g] at h; cases h
def total (a b c d e p : Int) : Int := if right a b c d e p = 0 then a * 4 + b * 8 + c * 16 + d * 32 + e * 64 else 0
theorem v0 : words 0 = 4 := rfl
theorem v1 : words 1 = 8 := rfl
theorem v2 : words 2 = 16 := rfl
theorem v3 : words 3 = 32 := rfl
theorem v4 : words 4 = 64 := rfl
set_option maxRecDepth 100000 in
set_option maxHeartbeats 8000000 in
theorem total_eq (n : Nat) (a b c d e p : Int) (h : Mem) (nx lg : Nat) (hl : lg ≤ nx) : xF T (n + 100) 14 [.agg (cfg a b c d e p)] h nx lg = some ⟨.int .i64 (total a b c d e p), (h.set nx (cfb a b c d e p)).set (nx + 1) (cfb a b c d e p), nx + 2, 0, 0⟩ := by
  have b0 := bit_up hl
  have bk := fun j => bit_upk j hl
  have rq := fun n h => right_eq n a b c d e p h (nx + 1) lg (by omega)
  rw [xF_fr T14]; apply eq_of_Post
  unfold total
  by_cases z : right a b c d e p = 0
  · obtain ⟨⟨a1, a2⟩, ⟨b1, b2⟩, ⟨c1, c2⟩, ⟨d1, d2⟩, ⟨e1, e2⟩, _⟩ := right_zero z
    rw [if_pos z]
    rw [z] at rq
    have s0 := w64 (a * 4) (by omega)
    have s1 := w64 (b * 8) (by omega)
    have s2 := w64 (c * 16) (by omega)
    have s3 := w64 (d * 32) (by omega)
    have s4 := w64 (e * 64) (by omega)
    have t1 := w64 (a * 4 + b * 8) (by omega)
    have t2 := w64 (a * 4 + b * 8 + c * 16) (by omega)
    have t3 := w64 (a * 4 + b * 8 + c * 16 + d * 32) (by omega)
    have t4 := w64 (a * 4 + b * 8 + c * 16 + d * 32 + e * 64) (by omega)
    simp only [cfg] at rq
    simp (maxSteps := 4000000) [↓P_skip, ↓P_exit, ↓P_ret, ↓P_seq, ↓P_cond, ↓P_blk, ↓P_reg, ↓P_draw, ↓P_nil, ↓P_cons, condP_t, condP_f, dum_ab, stepR, want_none, want_some, opRun, ev_t, ev_c, put_none, put_some, resAll, res_tmp, res_cell, oneOf, minI, maxI, min2A, max2A, mn2, mx2, mx3, rdBlk, wrBlk, newBlk, partA, abin, ibin, isShift, AV.cells, AV.one, lay, sub, fillA, lenA, toN, allApart, apartFrom, Nat.testBit, Mem.blk_set_same, Mem.blk_set_ne, Mem.set_set, bit_zero, bit_self, lowBits_or, lowBits_zero, len_setT, sl_same, sl_ne, len_frame, sl_frame,↓op_len, lenOp_slc, lenOp_nils, ↓Post.some, ↓Post_bind, ↓Post_ret, ↓Post_draw, ↓PostL_nil, ↓PostL_cons, Post_fail, ofOpt_some, ofOpt_none, eA_b, eA_i, eA_s, eA_nn, eA_np, eA_pn, eA_lnn, eA_lnp, eA_lpn, eA_i2, eA_i3, blt_dec, Nat.add_assoc, keeps_refl, keeps_at, keeps_up, new_one, and_pow, bit_hi, lowBits_pow, ble_dec, fr_refl, fr_at, fr_up, fr_p, dum_ab, F14, L14_0, L14_0b, ↓P_loop, b0, bk, wr0, wr1, wr2, wr3, wr4, wr5, cfg, cfb, rq, words_eq, v0, v1, v2, v3, v4, s0, s1, s2, s3, s4, t1, t2, t3, t4]
  · rw [if_neg z]
    have z' : (right a b c d e p != 0) = true := by simpa using z
    simp only [cfg] at rq
    simp (maxSteps := 4000000) [↓P_skip, ↓P_exit, ↓P_ret, ↓P_seq, ↓P_cond, ↓P_blk, ↓P_reg, ↓P_draw, ↓P_nil, ↓P_cons, condP_t, condP_f, dum_ab, stepR, want_none, want_some, opRun, ev_t, ev_c, put_none, put_some, resAll, res_tmp, res_cell, oneOf, minI, maxI, min2A, max2A, mn2, mx2, mx3, rdBlk, wrBlk, newBlk, partA, abin, ibin, isShift, AV.cells, AV.one, lay, sub, fillA, lenA, toN, allApart, apartFrom, Nat.testBit, Mem.blk_set_same, Mem.blk_set_ne, Mem.set_set, bit_zero, bit_self, lowBits_or, lowBits_zero, len_setT, sl_same, sl_ne, len_frame, sl_frame,↓op_len, lenOp_slc, lenOp_nils, ↓Post.some, ↓Post_bind, ↓Post_ret, ↓Post_draw, ↓PostL_nil, ↓PostL_cons, Post_fail, ofOpt_some, ofOpt_none, eA_b, eA_i, eA_s, eA_nn, eA_np, eA_pn, eA_lnn, eA_lnp, eA_lpn, eA_i2, eA_i3, blt_dec, Nat.add_assoc, keeps_refl, keeps_at, keeps_up, new_one, and_pow, bit_hi, lowBits_pow, ble_dec, fr_refl, fr_at, fr_up, fr_p, dum_ab, F14, b0, bk, cfg, cfb, rq, z']
set_option maxRecDepth 100000 in
set_option maxHeartbeats 8000000 in
theorem rtotal_eq (n : Nat) (a b c d e p : Int) (h : Mem) (nx lg : Nat) (hl : lg ≤ nx) : xF T (n + 100) 18 [.agg (cfg a b c d e p)] h nx lg = some ⟨.int .i64 (total a b c d e p), (h.set nx (cfb a b c d e p)).set (nx + 1) (cfb a b c d e p), nx + 2, 0, 0⟩ := by
  have b0 := bit_up hl
  have bk := fun j => bit_upk j hl
  have rq := fun n h => config_eq n a b c d e p h (nx + 1) lg (by omega)
  rw [xF_fr T18]; apply eq_of_Post
  unfold total
  by_cases z : right a b c d e p = 0
  · obtain ⟨⟨a1, a2⟩, ⟨b1, b2⟩, ⟨c1, c2⟩, ⟨d1, d2⟩, ⟨e1, e2⟩, _⟩ := right_zero z
    rw [if_pos z]
    rw [z] at rq
    have s0 := w64 (a * 4) (by omega)
    have s1 := w64 (b * 8) (by omega)
    have s2 := w64 (c * 16) (by omega)
    have s3 := w64 (d * 32) (by omega)
    have s4 := w64 (e * 64) (by omega)
    have t1 := w64 (a * 4 + b * 8) (by omega)
    have t2 := w64 (a * 4 + b * 8 + c * 16) (by omega)
    have t3 := w64 (a * 4 + b * 8 + c * 16 + d * 32) (by omega)
    have t4 := w64 (a * 4 + b * 8 + c * 16 + d * 32 + e * 64) (by omega)
    simp only [cfg] at rq
    simp (maxSteps := 4000000) [↓P_skip, ↓P_exit, ↓P_ret, ↓P_seq, ↓P_cond, ↓P_blk, ↓P_reg, ↓P_draw, ↓P_nil, ↓P_cons, condP_t, condP_f, dum_ab, stepR, want_none, want_some, opRun, ev_t, ev_c, put_none, put_some, resAll, res_tmp, res_cell, oneOf, minI, maxI, min2A, max2A, mn2, mx2, mx3, rdBlk, wrBlk, newBlk, partA, abin, ibin, isShift, AV.cells, AV.one, lay, sub, fillA, lenA, toN, allApart, apartFrom, Nat.testBit, Mem.blk_set_same, Mem.blk_set_ne, Mem.set_set, bit_zero, bit_self, lowBits_or, lowBits_zero, len_setT, sl_same, sl_ne, len_frame, sl_frame,↓op_len, lenOp_slc, lenOp_nils, ↓Post.some, ↓Post_bind, ↓Post_ret, ↓Post_draw, ↓PostL_nil, ↓PostL_cons, Post_fail, ofOpt_some, ofOpt_none, eA_b, eA_i, eA_s, eA_nn, eA_np, eA_pn, eA_lnn, eA_lnp, eA_lpn, eA_i2, eA_i3, blt_dec, Nat.add_assoc, keeps_refl, keeps_at, keeps_up, new_one, and_pow, bit_hi, lowBits_pow, ble_dec, fr_refl, fr_at, fr_up, fr_p, dum_ab, F18, L18_0, L18_0b, ↓P_loop, b0, bk, wr0, wr1, wr2, wr3, wr4, wr5, cfg, cfb, rq, rwords_eq, v0, v1, v2, v3, v4, s0, s1, s2, s3, s4, t1, t2, t3, t4]
  · rw [if_neg z]
    have z' : (right a b c d e p != 0) = true := by simpa using z
    simp only [cfg] at rq
    simp (maxSteps := 4000000) [↓P_skip, ↓P_exit, ↓P_ret, ↓P_seq, ↓P_cond, ↓P_blk, ↓P_reg, ↓P_draw, ↓P_nil, ↓P_cons, condP_t, condP_f, dum_ab, stepR, want_none, want_some, opRun, ev_t, ev_c, put_none, put_some, resAll, res_tmp, res_cell, oneOf, minI, maxI, min2A, max2A, mn2, mx2, mx3, rdBlk, wrBlk, newBlk, partA, abin, ibin, isShift, AV.cells, AV.one, lay, sub, fillA, lenA, toN, allApart, apartFrom, Nat.testBit, Mem.blk_set_same, Mem.blk_set_ne, Mem.set_set, bit_zero, bit_self, lowBits_or, lowBits_zero, len_setT, sl_same, sl_ne, len_frame, sl_frame,↓op_len, lenOp_slc, lenOp_nils, ↓Post.some, ↓Post_bind, ↓Post_ret, ↓Post_draw, ↓PostL_nil, ↓PostL_cons, Post_fail, ofOpt_some, ofOpt_none, eA_b, eA_i, eA_s, eA_nn, eA_np, eA_pn, eA_lnn, eA_lnp, eA_lpn, eA_i2, eA_i3, blt_dec, Nat.add_assoc, keeps_refl, keeps_at, keeps_up, new_one, and_pow, bit_hi, lowBits_pow, ble_dec, fr_refl, fr_at, fr_up, fr_p, dum_ab, F18, L18_0, L18_0b, ↓P_loop, b0, bk, wr0, wr1, wr2, wr3, wr4, wr5, cfg, cfb, rq, rwords_eq, v0, v1, v2, v3, v4, z']

set_option maxRecDepth 100000 in
set_option maxHeartbeats 8000000 in
theorem same_ans (n a b c d e p : Int) (h : Mem) (nx : Nat) : Ans T 150 8 [.int .i64 n, .agg (cfg a b c d e p)] h nx (.bool true) := by
  unfold Ans
  rw [xF_fr T8]
  have r1 := fun k h m lg hl => right_eq k a b c d e p h m lg hl
  have r2 := fun k h m lg hl => config_eq k a b c d e p h m lg hl
  have r3 := fun k h m lg hl => total_eq k a b c d e p h m lg hl
  have r4 := fun k h m lg hl => rtotal_eq k a b c d e p h m lg hl
  simp only [cfg] at r1 r2 r3 r4
  by_cases g : 0 ≤ fitO n
  · have w : waste n = words (fitO n) - n - 2 := by unfold waste; rw [if_neg (by omega)]
    have hn : 0 ≤ n ∧ n ≤ 62 := by
      unfold fitO at g
      by_cases c : n < 0 ∨ 62 < n
      · rw [if_pos c] at g; omega
      · omega
    have hw := words_in (fitO n)
    have w1 := w64 (words (fitO n) - n) (by omega)
    have w2 := w64 (words (fitO n) - n - 2) (by omega)
    simp (maxSteps := 4000000) [↓P_skip, ↓P_exit, ↓P_ret, ↓P_seq, ↓P_cond, ↓P_blk, ↓P_reg, ↓P_draw, ↓P_nil, ↓P_cons, condP_t, condP_f, dum_ab, stepR, want_none, want_some, opRun, ev_t, ev_c, put_none, put_some, resAll, res_tmp, res_cell, oneOf, minI, maxI, min2A, max2A, mn2, mx2, mx3, rdBlk, wrBlk, newBlk, partA, abin, ibin, isShift, AV.cells, AV.one, lay, sub, fillA, lenA, toN, allApart, apartFrom, Nat.testBit, Mem.blk_set_same, Mem.blk_set_ne, Mem.set_set, bit_zero, bit_self, lowBits_or, lowBits_zero, len_setT, sl_same, sl_ne, len_frame, sl_frame,↓op_len, lenOp_slc, lenOp_nils, ↓Post.some, ↓Post_bind, ↓Post_ret, ↓Post_draw, ↓PostL_nil, ↓PostL_cons, Post_fail, ofOpt_some, ofOpt_none, eA_b, eA_i, eA_s, eA_nn, eA_np, eA_pn, eA_lnn, eA_lnp, eA_lpn, eA_i2, eA_i3, blt_dec, Nat.add_assoc, keeps_refl, keeps_at, keeps_up, new_one, and_pow, bit_hi, lowBits_pow, ble_dec, fr_refl, fr_at, fr_up, fr_p, dum_ab, F8, cfg, cfb, words_eq, rwords_eq, of_eq, fit_eq, waste_eq, r1, r2, r3, r4, g, w, w1, w2, new_and]
  · have w : waste n = 0 := by unfold waste; rw [if_pos (by omega)]
    simp (maxSteps := 4000000) [↓P_skip, ↓P_exit, ↓P_ret, ↓P_seq, ↓P_cond, ↓P_blk, ↓P_reg, ↓P_draw, ↓P_nil, ↓P_cons, condP_t, condP_f, dum_ab, stepR, want_none, want_some, opRun, ev_t, ev_c, put_none, put_some, resAll, res_tmp, res_cell, oneOf, minI, maxI, min2A, max2A, mn2, mx2, mx3, rdBlk, wrBlk, newBlk, partA, abin, ibin, isShift, AV.cells, AV.one, lay, sub, fillA, lenA, toN, allApart, apartFrom, Nat.testBit, Mem.blk_set_same, Mem.blk_set_ne, Mem.set_set, bit_zero, bit_self, lowBits_or, lowBits_zero, len_setT, sl_same, sl_ne, len_frame, sl_frame,↓op_len, lenOp_slc, lenOp_nils, ↓Post.some, ↓Post_bind, ↓Post_ret, ↓Post_draw, ↓PostL_nil, ↓PostL_cons, Post_fail, ofOpt_some, ofOpt_none, eA_b, eA_i, eA_s, eA_nn, eA_np, eA_pn, eA_lnn, eA_lnp, eA_lpn, eA_i2, eA_i3, blt_dec, Nat.add_assoc, keeps_refl, keeps_at, keeps_up, new_one, and_pow, bit_hi, lowBits_pow, ble_dec, fr_refl, fr_at, fr_up, fr_p, dum_ab, F8, cfg, cfb, words_eq, rwords_eq, of_eq, fit_eq, waste_eq, r1, r2, r3, r4, g, w, new_and]
end Go.Proofs.YtamldkpcgagkpaaT
