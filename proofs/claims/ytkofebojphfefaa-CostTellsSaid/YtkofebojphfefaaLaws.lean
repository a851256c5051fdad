/- Cost: known; CostTells, CostSmall, CostParts. -/
import Derived.Test.YtkofebojphfefaaPlay
namespace Go.Proofs.YtkofebojphfefaaT
open Go Go.Proofs.YtkofebojphfefaaE Go.Proofs.YtkofebojphfefaaB
set_option linter.unusedSimpArgs false
set_option linter.unusedVariables false
attribute [local congr] Post_cg PostL_cg condP_cg
theorem new_and {n m p : Nat} (h : p < n) : (2 ^ m - 2 ^ n) &&& 2 ^ p = 0 := by
  by_cases c : m ≤ n
  · have := Nat.pow_le_pow_right (show 0 < 2 by omega) c
    rw [Nat.sub_eq_zero_of_le this, Nat.zero_and]
  · obtain ⟨k, rfl⟩ : ∃ k, m = n + k := ⟨m - n, by omega⟩
    rw [Nat.pow_add, show 2 ^ n * 2 ^ k - 2 ^ n = 2 ^ n * (2 ^ k - 1) by rw [Nat.mul_sub, Nat.mul_one]]
    apply Nat.eq_of_testBit_eq
    intro i
    rw [Nat.testBit_and, Nat.testBit_two_pow, Nat.zero_testBit, Nat.testBit_two_pow_mul]
    by_cases e : p = i
    · subst e; simp; intro hh; omega
    · simp [e]
set_option maxRecDepth 100000 in
set_option maxHeartbeats 8000000 in
theorem known_ans (h : Mem) (nx : Nat) : Ans T 200 10 [] h nx (.bool true) := by
  unfold Ans
  rw [xF_fr T10]
  have e : ∀ n h nx lg, xF T (n + 10) 12 [] h nx lg = some ⟨.ptr nx 0, h.set nx (some (mb 0 0 0)), nx + 1, 0, 0⟩ := new_eq
  have hb : ∀ K, (h.set nx K).blk nx = K := fun K => Mem.blk_set_same ..
  have m1 : ∀ n, xF T (n + 30) 14 [.ptr nx 0] (h.set nx (some (mb 0 0 0))) (nx + 1) 0 = some ⟨.int .i64 0, h.set nx (some (mb 0 0 0)), nx + 1, bit 0 nx, bit 0 nx⟩ := fun n => by
    have := mark_eq (t := 0) (k := 0) (m := 0) (by decide) (hb _) (nx := nx + 1) (by omega) n 0
    rw [Mem.set_set] at this; exact this
  have a1 : ∀ n, xF T (n + 30) 13 [.ptr nx 0, .int .i64 5] (h.set nx (some (mb 0 0 0))) (nx + 1) 0 = some ⟨.tup [], h.set nx (some (mb 5 0 0)), nx + 1, bit 0 nx, bit 0 nx⟩ := fun n => by
    have := add_eq (t := 0) (k := 0) (m := 0) (by decide) (hb _) (nx := nx + 1) (by omega) n 5 0
    rw [Mem.set_set] at this; exact this
  have a2 : ∀ n, xF T (n + 30) 13 [.ptr nx 0, .int .i64 (-5)] (h.set nx (some (mb 5 0 0))) (nx + 1) 0 = some ⟨.tup [], h.set nx (some (mb 5 0 0)), nx + 1, bit 0 nx, bit 0 nx⟩ := fun n => by
    have := add_eq (t := 5) (k := 0) (m := 0) (by decide) (hb _) (nx := nx + 1) (by omega) n (-5) 0
    rw [Mem.set_set] at this; exact this
  have m2 : ∀ n, xF T (n + 30) 14 [.ptr nx 0] (h.set nx (some (mb 5 0 0))) (nx + 1) 0 = some ⟨.int .i64 5, h.set nx (some (mb 5 5 5)), nx + 1, bit 0 nx, bit 0 nx⟩ := fun n => by
    have := mark_eq (t := 5) (k := 0) (m := 0) (by decide) (hb _) (nx := nx + 1) (by omega) n 0
    rw [Mem.set_set] at this; exact this
  have a3 : ∀ n, xF T (n + 30) 13 [.ptr nx 0, .int .i64 2] (h.set nx (some (mb 5 5 5))) (nx + 1) 0 = some ⟨.tup [], h.set nx (some (mb 7 5 5)), nx + 1, bit 0 nx, bit 0 nx⟩ := fun n => by
    have := add_eq (t := 5) (k := 5) (m := 5) (by decide) (hb _) (nx := nx + 1) (by omega) n 2 0
    rw [Mem.set_set] at this; exact this
  have m3 : ∀ n, xF T (n + 30) 14 [.ptr nx 0] (h.set nx (some (mb 7 5 5))) (nx + 1) 0 = some ⟨.int .i64 2, h.set nx (some (mb 7 7 5)), nx + 1, bit 0 nx, bit 0 nx⟩ := fun n => by
    have := mark_eq (t := 7) (k := 5) (m := 5) (by decide) (hb _) (nx := nx + 1) (by omega) n 0
    rw [Mem.set_set] at this; exact this
  have hq : ∀ K, ((h.set nx (some (mb 7 7 5))).set (nx + 1) K).blk nx = some (mb 7 7 5) := fun K => by rw [Mem.blk_set_ne _ _ _ _ (by omega), hb]
  have t1 := fun K n => total_eq (hq K) (nx := nx + 2) (by omega) n 0
  have t2 := fun K n => most_eq (hq K) (nx := nx + 2) (by omega) n 0
  have r2 := fun k a b c d e p kind h m => bound_eq k a b c d e p kind h m 0 (Nat.zero_le _)
  simp only [cfg] at r2
  have q1 : bound (right 1 0 0 0 0 2) 2 0 = 64 := by decide
  have q2 : bound (right 1 0 0 0 0 2) 2 1 = 704 := by decide
  have q3 : bound (right 1 0 0 0 0 2) 2 2 = 112 := by decide
  have q4 : bound (right 1 0 0 0 0 2) 2 3 = 80 := by decide
  have q5 : bound (right 1 0 0 0 0 2) 2 9 = 0 := by decide
  have q6 : bound (right 0 0 0 0 0 0) 0 0 = 0 := by decide
  simp (maxSteps := 4000000) [↓P_skip, ↓P_exit, ↓P_ret, ↓P_seq, ↓P_cond, ↓P_blk, ↓P_reg, ↓P_draw, ↓P_nil, ↓P_cons, condP_t, condP_f, dum_ab, stepR, want_none, want_some, opRun, ev_t, ev_c, put_none, put_some, resAll, res_tmp, res_cell, oneOf, minI, maxI, min2A, max2A, mn2, mx2, mx3, rdBlk, wrBlk, newBlk, partA, abin, ibin, isShift, AV.cells, AV.one, lay, sub, fillA, lenA, toN, allApart, apartFrom, Nat.testBit, Mem.blk_set_same, Mem.blk_set_ne, Mem.set_set, bit_zero, bit_self, lowBits_or, lowBits_zero, len_setT, sl_same, sl_ne, len_frame, sl_frame,↓op_len, lenOp_slc, lenOp_nils, ↓Post.some, ↓Post_bind, ↓Post_ret, ↓Post_draw, ↓PostL_nil, ↓PostL_cons, Post_fail, ofOpt_some, ofOpt_none, eA_b, eA_i, eA_s, eA_nn, eA_np, eA_pn, eA_lnn, eA_lnp, eA_lpn, eA_i2, eA_i3, blt_dec, Nat.add_assoc, keeps_refl, keeps_at, keeps_up, new_one, and_pow, bit_hi, lowBits_pow, ble_dec, fr_refl, fr_at, fr_up, fr_p, dum_ab, F10, cfb, e, m1, a1, a2, m2, a3, m3, t1, t2, r2, q1, q2, q3, q4, q5, q6]

theorem five_of {x : List AV} (w : LeavesV [.i .i64, .i .i64, .i .i64, .i .i64, .i .i64] x) : ∃ a b c d e : Int, x = [.int .i64 a, .int .i64 b, .int .i64 c, .int .i64 d, .int .i64 e] := by
  simp only [LeavesV, LeafV] at w
  obtain ⟨_, _, rfl, ⟨a, rfl, _⟩, _, _, rfl, ⟨b, rfl, _⟩, _, _, rfl, ⟨c, rfl, _⟩, _, _, rfl, ⟨d, rfl, _⟩, _, _, rfl, ⟨e, rfl, _⟩, rfl⟩ := w
  exact ⟨a, b, c, d, e, rfl⟩
set_option maxRecDepth 100000 in
set_option maxHeartbeats 8000000 in
theorem tells_law (l : List Int) (v : AV) (y : l.length * 8 ≤ 140737488351232) (q : ∀ x ∈ l, (Lit.int .i64 x).wf = true) (x1 : List AV) (w1 : LeavesV [.i .i64, .i .i64, .i .i64, .i .i64, .i .i64] x1) (a2 : Int) (w2 : (Lit.int .i64 a2).wf = true) (a3 : Int) (w3 : (Lit.int .i64 a3).wf = true) (h : Mem) (p : Nat) (hr : IRow .i64 v h p l) : Yes T 4 [v, .agg x1, .int .i64 a2, .int .i64 a3] h p := by
  obtain ⟨a, b, c, d, e, rfl⟩ := five_of w1
  refine Yes.of 700 ?_
  rw [xF_fr T4]
  have g : ∀ x, ∃ y, Go.bits .and .i64 x 127 = y := fun x => ⟨_, rfl⟩
  obtain ⟨fa, ga⟩ := g a
  obtain ⟨fb, gb⟩ := g b
  obtain ⟨fc, gc⟩ := g c
  obtain ⟨fd, gd⟩ := g d
  obtain ⟨fe, ge⟩ := g e
  obtain ⟨H, hH⟩ : ∃ H, H = (h.set p (some ⟨23, 5, true, false, [.int .i64 a, .int .i64 b, .int .i64 c, .int .i64 d, .int .i64 e]⟩)).set (p + 1) (some ⟨23, 5, true, false, [.int .i64 fa, .int .i64 fb, .int .i64 fc, .int .i64 fd, .int .i64 fe]⟩) := ⟨_, rfl⟩
  have q1 : H.blk p = some ⟨23, 5, true, false, [.int .i64 a, .int .i64 b, .int .i64 c, .int .i64 d, .int .i64 e]⟩ := by rw [hH, Mem.blk_set_ne _ _ _ _ (by omega), Mem.blk_set_same]
  have q2 : H.blk (p + 1) = some ⟨23, 5, true, false, [.int .i64 fa, .int .i64 fb, .int .i64 fc, .int .i64 fd, .int .i64 fe]⟩ := by rw [hH, Mem.blk_set_same]
  have KH : Keeps p h H := by rw [hH]; exact Keeps.set (Keeps.set (fun _ _ => rfl) _ (Nat.le_refl _)) _ (by omega)
  obtain ⟨h0, nx0, tq0, wq0, x0, n0, k0⟩ := (play_ans H (p + 2) v l (hr.stay KH (by omega))).at
  have q3 := (k0 p (by omega)).trans q1
  have q4 := (k0 (p + 1) (by omega)).trans q2
  obtain ⟨h1, nx1, tq1, wq1, x1, n1, k1⟩ := (bounds_ans a b c d e a2 a3 h0 nx0).at
  have q5 := (k1 (p + 1) (by omega)).trans q4
  obtain ⟨h2, nx2, tq2, wq2, x2, n2, k2⟩ := (bounds_ans fa fb fc fd fe (Go.bits .and .i64 a2 31) (Go.bits .and .i64 a3 7) h1 nx1).at
  have q6 := (k2 (p + 1) (by omega)).trans q5
  obtain ⟨h3, nx3, tq3, wq3, x3, n3, k3⟩ := (bounds_ans fa fb fc fd fe (IntKind.i64.wrap (1 + Go.bits .and .i64 a2 15)) (Go.bits .and .i64 a3 3) h2 nx2).at
  obtain ⟨h4, nx4, tq4, wq4, x4, n4, k4⟩ := (known_ans h3 nx3).at
  simp only [cfg] at x1 x2 x3
  have l0 : p < nx0 := by omega
  have l1 : p + 1 < nx1 := by omega
  have l2 : p + 1 < nx2 := by omega
  simp (maxSteps := 4000000) [↓P_skip, ↓P_exit, ↓P_ret, ↓P_seq, ↓P_cond, ↓P_blk, ↓P_reg, ↓P_draw, ↓P_nil, ↓P_cons, condP_t, condP_f, dum_ab, stepR, want_none, want_some, opRun, ev_t, ev_c, put_none, put_some, resAll, res_tmp, res_cell, oneOf, minI, maxI, min2A, max2A, mn2, mx2, mx3, rdBlk, wrBlk, newBlk, partA, abin, ibin, isShift, AV.cells, AV.one, lay, sub, fillA, lenA, toN, allApart, apartFrom, Nat.testBit, Mem.blk_set_same, Mem.blk_set_ne, Mem.set_set, bit_zero, bit_self, lowBits_or, lowBits_zero, len_setT, sl_same, sl_ne, len_frame, sl_frame,↓op_len, lenOp_slc, lenOp_nils, ↓Post.some, ↓Post_bind, ↓Post_ret, ↓Post_draw, ↓PostL_nil, ↓PostL_cons, Post_fail, ofOpt_some, ofOpt_none, eA_b, eA_i, eA_s, eA_nn, eA_np, eA_pn, eA_lnn, eA_lnp, eA_lpn, eA_i2, eA_i3, blt_dec, Nat.add_assoc, keeps_refl, keeps_at, keeps_up, new_one, and_pow, bit_hi, lowBits_pow, ble_dec, fr_refl, fr_at, fr_up, fr_p, dum_ab, F4, L4_0, L4_0b, ↓P_loop, ga, gb, gc, gd, ge, wr0, wr1, wr2, wr3, wr4, wr5]
  rw [← hH]
  simp (maxSteps := 4000000) [↓P_skip, ↓P_exit, ↓P_ret, ↓P_seq, ↓P_cond, ↓P_blk, ↓P_reg, ↓P_draw, ↓P_nil, ↓P_cons, condP_t, condP_f, dum_ab, stepR, want_none, want_some, opRun, ev_t, ev_c, put_none, put_some, resAll, res_tmp, res_cell, oneOf, minI, maxI, min2A, max2A, mn2, mx2, mx3, rdBlk, wrBlk, newBlk, partA, abin, ibin, isShift, AV.cells, AV.one, lay, sub, fillA, lenA, toN, allApart, apartFrom, Nat.testBit, Mem.blk_set_same, Mem.blk_set_ne, Mem.set_set, bit_zero, bit_self, lowBits_or, lowBits_zero, len_setT, sl_same, sl_ne, len_frame, sl_frame,↓op_len, lenOp_slc, lenOp_nils, ↓Post.some, ↓Post_bind, ↓Post_ret, ↓Post_draw, ↓PostL_nil, ↓PostL_cons, Post_fail, ofOpt_some, ofOpt_none, eA_b, eA_i, eA_s, eA_nn, eA_np, eA_pn, eA_lnn, eA_lnp, eA_lpn, eA_i2, eA_i3, blt_dec, Nat.add_assoc, keeps_refl, keeps_at, keeps_up, new_one, and_pow, bit_hi, lowBits_pow, ble_dec, fr_refl, fr_at, fr_up, fr_p, dum_ab, F4, q3, q4, q5, q6, x0, x1, x2, x3, x4, l0, l1, l2]

theorem right_is {a b c d e p : Int} (ha : ok5 a) (hb : ok5 b) (hc : ok5 c) (hd : ok5 d) (he : ok5 e) (h1 : 1 ≤ a + b + c + d + e) (h2 : a + b + c + d + e ≤ 1020) (hp : 1 ≤ p ∧ p ≤ 16) : right a b c d e p = 0 := by
  rw [right_good ⟨ha, hb, hc, hd, he⟩, if_neg (by omega), if_neg (by omega)]
theorem e15 (x : Int) : Go.bits .and .i64 x 15 = x % 16 := and_mask .i64 4 (by decide) x
theorem e127 (x : Int) : Go.bits .and .i64 x 127 = x % 128 := and_mask .i64 7 (by decide) x
theorem e255 (x : Int) : Go.bits .and .i64 x 255 = x % 256 := and_mask .i64 8 (by decide) x
set_option maxRecDepth 100000 in
set_option maxHeartbeats 8000000 in
theorem small_law (a0 : Int) (w0 : (Lit.int .i64 a0).wf = true) (a1 : Int) (w1 : (Lit.int .i64 a1).wf = true) (h : Mem) (p : Nat) : Yes T 7 [.int .i64 a0, .int .i64 a1] h p := by
  refine Yes.of 500 ?_
  rw [xF_fr T7]
  obtain ⟨A, hA⟩ : ∃ A, A = 1 + a0 % 256 := ⟨_, rfl⟩
  obtain ⟨B, hB⟩ : ∃ B, B = a0 % 128 := ⟨_, rfl⟩
  obtain ⟨P, hP⟩ : ∃ P, P = 1 + a1 % 16 := ⟨_, rfl⟩
  have wA : IntKind.i64.wrap (1 + a0 % 256) = A := by rw [hA]; exact w64 _ (by omega)
  have wP : IntKind.i64.wrap (1 + a1 % 16) = P := by rw [hP]; exact w64 _ (by omega)
  have z : right A B 0 0 0 P = 0 := right_is ⟨by omega, by omega⟩ ⟨by omega, by omega⟩ ⟨by omega, by omega⟩ ⟨by omega, by omega⟩ ⟨by omega, by omega⟩ (by omega) (by omega) (by omega)
  have r2 := fun k kind h m lg hl => bound_eq k A B 0 0 0 P kind h m lg hl
  simp only [cfg, z] at r2
  have b0 : bound 0 P 0 = 64 := rfl
  have b1 : bound 0 P 1 = 64 + 128 * (P + 2) + 128 := rfl
  have b2 : bound 0 P 2 = 112 := rfl
  have b3 : bound 0 P 3 = 80 := rfl
  have b4 : bound 0 P (-1) = 0 := rfl
  have s1 : (64 : Int) < 64 + 128 * (P + 2) + 128 := by omega
  have s2 : 64 + 128 * (P + 2) + 128 ≤ 128 * (P + 4) := by omega
  have s3 := w64 (P + 4) (by omega)
  have s4 := w64 (128 * (P + 4)) (by omega)
  have s5 : IntKind.i64.wrap 128 = 128 := rfl
  have kn := fun h nx => (known_ans h nx).at
  simp (maxSteps := 4000000) [↓P_skip, ↓P_exit, ↓P_ret, ↓P_seq, ↓P_cond, ↓P_blk, ↓P_reg, ↓P_draw, ↓P_nil, ↓P_cons, condP_t, condP_f, dum_ab, stepR, want_none, want_some, opRun, ev_t, ev_c, put_none, put_some, resAll, res_tmp, res_cell, oneOf, minI, maxI, min2A, max2A, mn2, mx2, mx3, rdBlk, wrBlk, newBlk, partA, abin, ibin, isShift, AV.cells, AV.one, lay, sub, fillA, lenA, toN, allApart, apartFrom, Nat.testBit, Mem.blk_set_same, Mem.blk_set_ne, Mem.set_set, bit_zero, bit_self, lowBits_or, lowBits_zero, len_setT, sl_same, sl_ne, len_frame, sl_frame,↓op_len, lenOp_slc, lenOp_nils, ↓Post.some, ↓Post_bind, ↓Post_ret, ↓Post_draw, ↓PostL_nil, ↓PostL_cons, Post_fail, ofOpt_some, ofOpt_none, eA_b, eA_i, eA_s, eA_nn, eA_np, eA_pn, eA_lnn, eA_lnp, eA_lpn, eA_i2, eA_i3, blt_dec, Nat.add_assoc, keeps_refl, keeps_at, keeps_up, new_one, and_pow, bit_hi, lowBits_pow, ble_dec, fr_refl, fr_at, fr_up, fr_p, dum_ab, F7, e15, e127, e255, ← hB, wA, wP, r2, cfb, b0, b1, b2, b3, b4, s1, s2, s3, s4, s5, new_and]
  obtain ⟨h4, nx4, tq4, wq4, x4, n4, k4⟩ := kn (((((((((((h.set p (some ⟨25, 6, true, false, cfg A B 0 0 0 P⟩)).set (p + 1) (some ⟨25, 6, true, false, cfg A B 0 0 0 P⟩)).set (p + 2) (some ⟨25, 6, true, false, cfg A B 0 0 0 P⟩)).set (p + 3) (some ⟨25, 6, true, false, cfg A B 0 0 0 P⟩)).set (p + 4) (some ⟨25, 6, true, false, cfg A B 0 0 0 P⟩)).set (p + 5) (some ⟨25, 6, true, false, cfg A B 0 0 0 P⟩)).set (p + 6) (some ⟨25, 6, true, false, cfg A B 0 0 0 P⟩)).set (p + 7) (some ⟨25, 6, true, false, cfg A B 0 0 0 P⟩)).set (p + 8) (some ⟨25, 6, true, false, cfg A B 0 0 0 P⟩)).set (p + 9) (some ⟨25, 6, true, false, cfg A B 0 0 0 P⟩)).set (p + 10) (some ⟨25, 6, true, false, cfg A B 0 0 0 P⟩)) (p + 11)
  simp only [cfg] at x4
  simp (maxSteps := 4000000) [↓P_skip, ↓P_exit, ↓P_ret, ↓P_seq, ↓P_cond, ↓P_blk, ↓P_reg, ↓P_draw, ↓P_nil, ↓P_cons, condP_t, condP_f, dum_ab, stepR, want_none, want_some, opRun, ev_t, ev_c, put_none, put_some, resAll, res_tmp, res_cell, oneOf, minI, maxI, min2A, max2A, mn2, mx2, mx3, rdBlk, wrBlk, newBlk, partA, abin, ibin, isShift, AV.cells, AV.one, lay, sub, fillA, lenA, toN, allApart, apartFrom, Nat.testBit, Mem.blk_set_same, Mem.blk_set_ne, Mem.set_set, bit_zero, bit_self, lowBits_or, lowBits_zero, len_setT, sl_same, sl_ne, len_frame, sl_frame,↓op_len, lenOp_slc, lenOp_nils, ↓Post.some, ↓Post_bind, ↓Post_ret, ↓Post_draw, ↓PostL_nil, ↓PostL_cons, Post_fail, ofOpt_some, ofOpt_none, eA_b, eA_i, eA_s, eA_nn, eA_np, eA_pn, eA_lnn, eA_lnp, eA_lpn, eA_i2, eA_i3, blt_dec, Nat.add_assoc, keeps_refl, keeps_at, keeps_up, new_one, and_pow, bit_hi, lowBits_pow, ble_dec, fr_refl, fr_at, fr_up, fr_p, dum_ab, F7, x4]
end Go.Proofs.YtkofebojphfefaaT
