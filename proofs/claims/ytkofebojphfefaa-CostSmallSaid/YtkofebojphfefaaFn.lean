/- Cost, function by function: what the engine's run of each comes to. -/
import Derived.Test.YtkofebojphfefaaT
import Derived.Test.YtkofebojphfefaaB
import Derived.Test.YtkofebojphfefaaE27
namespace Go.Proofs.YtkofebojphfefaaT
open Go Go.Proofs.YtkofebojphfefaaE Go.Proofs.YtkofebojphfefaaB
set_option linter.unusedSimpArgs false
set_option linter.unusedVariables false
attribute [local congr] Post_cg PostL_cg condP_cg

theorem w64 (x : Int) (h : -1000000000000000000 ≤ x ∧ x ≤ 1000000000000000000) : IntKind.i64.wrap x = x := by rw [IntKind.wrap_i64]; omega
theorem wr0 : IntKind.i64.wrap 0 = 0 := rfl
theorem wr1 : IntKind.i64.wrap 1 = 1 := rfl
theorem wr2 : IntKind.i64.wrap 2 = 2 := rfl
theorem wr3 : IntKind.i64.wrap 3 = 3 := rfl
theorem wr4 : IntKind.i64.wrap 4 = 4 := rfl
theorem wr5 : IntKind.i64.wrap 5 = 5 := rfl
def ok5 (x : Int) : Prop := 0 ≤ x ∧ x ≤ 512
instance (x : Int) : Decidable (ok5 x) := inferInstanceAs (Decidable (0 ≤ x ∧ x ≤ 512))
def right (a b c d e p : Int) : Int := if ok5 a ∧ ok5 b ∧ ok5 c ∧ ok5 d ∧ ok5 e then (if a + b + c + d + e < 1 ∨ 1020 < a + b + c + d + e then 18 else if p < 1 ∨ 16 < p then 1 else 0) else 18
abbrev cfg (a b c d e p : Int) : List AV := [.int .i64 a, .int .i64 b, .int .i64 c, .int .i64 d, .int .i64 e, .int .i64 p]
def cfb (a b c d e p : Int) : Option Blk := some ⟨25, 6, true, false, cfg a b c d e p⟩

/-- The meter. -/
def mb (t k m : Int) : Blk := ⟨40, 3, true, false, [.int .i64 t, .int .i64 k, .int .i64 m]⟩
def cl (x : Int) : Int := if x < 0 then 0 else if 1048576 < x then 1048576 else x
theorem cl_in (x : Int) : 0 ≤ cl x ∧ cl x ≤ 1048576 := by unfold cl; (repeat' split) <;> omega
theorem new_eq (n : Nat) (h : Mem) (nx lg : Nat) : xF T (n + 10) 12 [] h nx lg = some ⟨.ptr nx 0, h.set nx (some (mb 0 0 0)), nx + 1, 0, 0⟩ := by
  rw [xF_fr T12]; apply eq_of_Post
  simp [↓P_skip, ↓P_exit, ↓P_ret, ↓P_seq, ↓P_cond, ↓P_blk, ↓P_reg, ↓P_draw, ↓P_nil, ↓P_cons, condP_t, condP_f, dum_ab, stepR, want_none, want_some, opRun, ev_t, ev_c, put_none, put_some, resAll, res_tmp, res_cell, oneOf, minI, maxI, min2A, max2A, mn2, mx2, mx3, rdBlk, wrBlk, newBlk, partA, abin, ibin, isShift, AV.cells, AV.one, lay, sub, fillA, lenA, toN, allApart, apartFrom, Nat.testBit, Mem.blk_set_same, Mem.blk_set_ne, Mem.set_set, bit_zero, bit_self, lowBits_or, lowBits_zero, len_setT, sl_same, sl_ne, len_frame, sl_frame,↓op_len, lenOp_slc, lenOp_nils, ↓Post.some, ↓Post_bind, ↓Post_ret, ↓Post_draw, ↓PostL_nil, ↓PostL_cons, Post_fail, ofOpt_some, ofOpt_none, eA_b, eA_i, eA_s, eA_nn, eA_np, eA_pn, eA_lnn, eA_lnp, eA_lpn, eA_i2, eA_i3, blt_dec, Nat.add_assoc, keeps_refl, keeps_at, keeps_up, new_one, and_pow, bit_hi, lowBits_pow, ble_dec, fr_refl, fr_at, fr_up, fr_p, dum_ab, F12, mb]
theorem add_eq {t k m : Int} (ht : 0 ≤ t ∧ t ≤ 1000000000000000) {h : Mem} {nx p : Nat} (hp : h.blk p = some (mb t k m)) (hpn : p < nx) (n : Nat) (x : Int) (lg : Nat) : xF T (n + 30) 13 [.ptr p 0, .int .i64 x] h nx lg = some ⟨.tup [], h.set p (some (mb (t + cl x) k m)), nx, bit lg p, bit lg p⟩ := by
  rw [xF_fr T13]; apply eq_of_Post
  have c0 := cl_in x
  have w := w64 (t + cl x) (by omega)
  have c1 : ¬ 1152921504606846976 < t + cl x := by omega
  by_cases a : x < 0
  · have e : cl x = 0 := by unfold cl; rw [if_pos a]
    rw [e] at w c1 ⊢
    simp only [Int.add_zero] at w c1
    have a1 : ¬ (1048576 : Int) < x := by omega
    have a2 : ¬ (0 : Int) < x := by omega
    have a3 : min x 1048576 = x := by omega
    have a4 : max 0 x = 0 := by omega
    have a5 : min t 1152921504606846976 = t := by omega
    simp [↓P_skip, ↓P_exit, ↓P_ret, ↓P_seq, ↓P_cond, ↓P_blk, ↓P_reg, ↓P_draw, ↓P_nil, ↓P_cons, condP_t, condP_f, dum_ab, stepR, want_none, want_some, opRun, ev_t, ev_c, put_none, put_some, resAll, res_tmp, res_cell, oneOf, minI, maxI, min2A, max2A, mn2, mx2, mx3, rdBlk, wrBlk, newBlk, partA, abin, ibin, isShift, AV.cells, AV.one, lay, sub, fillA, lenA, toN, allApart, apartFrom, Nat.testBit, Mem.blk_set_same, Mem.blk_set_ne, Mem.set_set, bit_zero, bit_self, lowBits_or, lowBits_zero, len_setT, sl_same, sl_ne, len_frame, sl_frame,↓op_len, lenOp_slc, lenOp_nils, ↓Post.some, ↓Post_bind, ↓Post_ret, ↓Post_draw, ↓PostL_nil, ↓PostL_cons, Post_fail, ofOpt_some, ofOpt_none, eA_b, eA_i, eA_s, eA_nn, eA_np, eA_pn, eA_lnn, eA_lnp, eA_lpn, eA_i2, eA_i3, blt_dec, Nat.add_assoc, keeps_refl, keeps_at, keeps_up, new_one, and_pow, bit_hi, lowBits_pow, ble_dec, fr_refl, fr_at, fr_up, fr_p, dum_ab, F13, mb, hp, hpn, a, a1, a2, a3, a4, a5, w, c1]
  · by_cases b : 1048576 < x
    · have e : cl x = 1048576 := by unfold cl; rw [if_neg a, if_pos b]
      rw [e] at w c1 ⊢
      have a3 : min x 1048576 = 1048576 := by omega
      have a5 : min (t + 1048576) 1152921504606846976 = t + 1048576 := by omega
      simp [↓P_skip, ↓P_exit, ↓P_ret, ↓P_seq, ↓P_cond, ↓P_blk, ↓P_reg, ↓P_draw, ↓P_nil, ↓P_cons, condP_t, condP_f, dum_ab, stepR, want_none, want_some, opRun, ev_t, ev_c, put_none, put_some, resAll, res_tmp, res_cell, oneOf, minI, maxI, min2A, max2A, mn2, mx2, mx3, rdBlk, wrBlk, newBlk, partA, abin, ibin, isShift, AV.cells, AV.one, lay, sub, fillA, lenA, toN, allApart, apartFrom, Nat.testBit, Mem.blk_set_same, Mem.blk_set_ne, Mem.set_set, bit_zero, bit_self, lowBits_or, lowBits_zero, len_setT, sl_same, sl_ne, len_frame, sl_frame,↓op_len, lenOp_slc, lenOp_nils, ↓Post.some, ↓Post_bind, ↓Post_ret, ↓Post_draw, ↓PostL_nil, ↓PostL_cons, Post_fail, ofOpt_some, ofOpt_none, eA_b, eA_i, eA_s, eA_nn, eA_np, eA_pn, eA_lnn, eA_lnp, eA_lpn, eA_i2, eA_i3, blt_dec, Nat.add_assoc, keeps_refl, keeps_at, keeps_up, new_one, and_pow, bit_hi, lowBits_pow, ble_dec, fr_refl, fr_at, fr_up, fr_p, dum_ab, F13, mb, hp, hpn, a, b, a3, a5, w, c1, (show max (0 : Int) 1048576 = 1048576 from rfl)]
    · have e : cl x = x := by unfold cl; rw [if_neg a, if_neg b]
      rw [e] at w c1 ⊢
      have a2 : max 0 x = x := by omega
      have a3 : min x 1048576 = x := by omega
      have a4 : 0 < x ∨ x = 0 := by omega
      have a5 : min (t + x) 1152921504606846976 = t + x := by omega
      rcases a4 with a4 | rfl
      · simp [↓P_skip, ↓P_exit, ↓P_ret, ↓P_seq, ↓P_cond, ↓P_blk, ↓P_reg, ↓P_draw, ↓P_nil, ↓P_cons, condP_t, condP_f, dum_ab, stepR, want_none, want_some, opRun, ev_t, ev_c, put_none, put_some, resAll, res_tmp, res_cell, oneOf, minI, maxI, min2A, max2A, mn2, mx2, mx3, rdBlk, wrBlk, newBlk, partA, abin, ibin, isShift, AV.cells, AV.one, lay, sub, fillA, lenA, toN, allApart, apartFrom, Nat.testBit, Mem.blk_set_same, Mem.blk_set_ne, Mem.set_set, bit_zero, bit_self, lowBits_or, lowBits_zero, len_setT, sl_same, sl_ne, len_frame, sl_frame,↓op_len, lenOp_slc, lenOp_nils, ↓Post.some, ↓Post_bind, ↓Post_ret, ↓Post_draw, ↓PostL_nil, ↓PostL_cons, Post_fail, ofOpt_some, ofOpt_none, eA_b, eA_i, eA_s, eA_nn, eA_np, eA_pn, eA_lnn, eA_lnp, eA_lpn, eA_i2, eA_i3, blt_dec, Nat.add_assoc, keeps_refl, keeps_at, keeps_up, new_one, and_pow, bit_hi, lowBits_pow, ble_dec, fr_refl, fr_at, fr_up, fr_p, dum_ab, F13, mb, hp, hpn, a, b, a2, a3, a4, a5, w, c1]
      · simp only [Int.add_zero] at w c1 a5
        simp [↓P_skip, ↓P_exit, ↓P_ret, ↓P_seq, ↓P_cond, ↓P_blk, ↓P_reg, ↓P_draw, ↓P_nil, ↓P_cons, condP_t, condP_f, dum_ab, stepR, want_none, want_some, opRun, ev_t, ev_c, put_none, put_some, resAll, res_tmp, res_cell, oneOf, minI, maxI, min2A, max2A, mn2, mx2, mx3, rdBlk, wrBlk, newBlk, partA, abin, ibin, isShift, AV.cells, AV.one, lay, sub, fillA, lenA, toN, allApart, apartFrom, Nat.testBit, Mem.blk_set_same, Mem.blk_set_ne, Mem.set_set, bit_zero, bit_self, lowBits_or, lowBits_zero, len_setT, sl_same, sl_ne, len_frame, sl_frame,↓op_len, lenOp_slc, lenOp_nils, ↓Post.some, ↓Post_bind, ↓Post_ret, ↓Post_draw, ↓PostL_nil, ↓PostL_cons, Post_fail, ofOpt_some, ofOpt_none, eA_b, eA_i, eA_s, eA_nn, eA_np, eA_pn, eA_lnn, eA_lnp, eA_lpn, eA_i2, eA_i3, blt_dec, Nat.add_assoc, keeps_refl, keeps_at, keeps_up, new_one, and_pow, bit_hi, lowBits_pow, ble_dec, fr_refl, fr_at, fr_up, fr_p, dum_ab, F13, mb, hp, hpn, a, b, a5, w, c1]
def mxx (a b : Int) : Int := if a < b then b else a
theorem mark_eq {t k m : Int} (ht : 0 ≤ k ∧ k ≤ t ∧ t ≤ 1000000000000000) {h : Mem} {nx p : Nat} (hp : h.blk p = some (mb t k m)) (hpn : p < nx) (n lg : Nat) : xF T (n + 30) 14 [.ptr p 0] h nx lg = some ⟨.int .i64 (t - k), h.set p (some (mb t t (mxx m (t - k)))), nx, bit lg p, bit lg p⟩ := by
  rw [xF_fr T14]; apply eq_of_Post
  have w := w64 (t - k) (by omega)
  unfold mxx
  by_cases a : m < t - k
  · have a1 : max m (t - k) = t - k := by omega
    simp [↓P_skip, ↓P_exit, ↓P_ret, ↓P_seq, ↓P_cond, ↓P_blk, ↓P_reg, ↓P_draw, ↓P_nil, ↓P_cons, condP_t, condP_f, dum_ab, stepR, want_none, want_some, opRun, ev_t, ev_c, put_none, put_some, resAll, res_tmp, res_cell, oneOf, minI, maxI, min2A, max2A, mn2, mx2, mx3, rdBlk, wrBlk, newBlk, partA, abin, ibin, isShift, AV.cells, AV.one, lay, sub, fillA, lenA, toN, allApart, apartFrom, Nat.testBit, Mem.blk_set_same, Mem.blk_set_ne, Mem.set_set, bit_zero, bit_self, lowBits_or, lowBits_zero, len_setT, sl_same, sl_ne, len_frame, sl_frame,↓op_len, lenOp_slc, lenOp_nils, ↓Post.some, ↓Post_bind, ↓Post_ret, ↓Post_draw, ↓PostL_nil, ↓PostL_cons, Post_fail, ofOpt_some, ofOpt_none, eA_b, eA_i, eA_s, eA_nn, eA_np, eA_pn, eA_lnn, eA_lnp, eA_lpn, eA_i2, eA_i3, blt_dec, Nat.add_assoc, keeps_refl, keeps_at, keeps_up, new_one, and_pow, bit_hi, lowBits_pow, ble_dec, fr_refl, fr_at, fr_up, fr_p, dum_ab, F14, mb, hp, hpn, w, a, a1]
  · have a1 : max m (t - k) = m := by omega
    simp [↓P_skip, ↓P_exit, ↓P_ret, ↓P_seq, ↓P_cond, ↓P_blk, ↓P_reg, ↓P_draw, ↓P_nil, ↓P_cons, condP_t, condP_f, dum_ab, stepR, want_none, want_some, opRun, ev_t, ev_c, put_none, put_some, resAll, res_tmp, res_cell, oneOf, minI, maxI, min2A, max2A, mn2, mx2, mx3, rdBlk, wrBlk, newBlk, partA, abin, ibin, isShift, AV.cells, AV.one, lay, sub, fillA, lenA, toN, allApart, apartFrom, Nat.testBit, Mem.blk_set_same, Mem.blk_set_ne, Mem.set_set, bit_zero, bit_self, lowBits_or, lowBits_zero, len_setT, sl_same, sl_ne, len_frame, sl_frame,↓op_len, lenOp_slc, lenOp_nils, ↓Post.some, ↓Post_bind, ↓Post_ret, ↓Post_draw, ↓PostL_nil, ↓PostL_cons, Post_fail, ofOpt_some, ofOpt_none, eA_b, eA_i, eA_s, eA_nn, eA_np, eA_pn, eA_lnn, eA_lnp, eA_lpn, eA_i2, eA_i3, blt_dec, Nat.add_assoc, keeps_refl, keeps_at, keeps_up, new_one, and_pow, bit_hi, lowBits_pow, ble_dec, fr_refl, fr_at, fr_up, fr_p, dum_ab, F14, mb, hp, hpn, w, a, a1]
theorem total_eq {t k m : Int} {h : Mem} {nx p : Nat} (hp : h.blk p = some (mb t k m)) (hpn : p < nx) (n lg : Nat) : xF T (n + 30) 15 [.ptr p 0] h nx lg = some ⟨.int .i64 t, h, nx, bit lg p, 0⟩ := by
  rw [xF_fr T15]; apply eq_of_Post
  simp [↓P_skip, ↓P_exit, ↓P_ret, ↓P_seq, ↓P_cond, ↓P_blk, ↓P_reg, ↓P_draw, ↓P_nil, ↓P_cons, condP_t, condP_f, dum_ab, stepR, want_none, want_some, opRun, ev_t, ev_c, put_none, put_some, resAll, res_tmp, res_cell, oneOf, minI, maxI, min2A, max2A, mn2, mx2, mx3, rdBlk, wrBlk, newBlk, partA, abin, ibin, isShift, AV.cells, AV.one, lay, sub, fillA, lenA, toN, allApart, apartFrom, Nat.testBit, Mem.blk_set_same, Mem.blk_set_ne, Mem.set_set, bit_zero, bit_self, lowBits_or, lowBits_zero, len_setT, sl_same, sl_ne, len_frame, sl_frame,↓op_len, lenOp_slc, lenOp_nils, ↓Post.some, ↓Post_bind, ↓Post_ret, ↓Post_draw, ↓PostL_nil, ↓PostL_cons, Post_fail, ofOpt_some, ofOpt_none, eA_b, eA_i, eA_s, eA_nn, eA_np, eA_pn, eA_lnn, eA_lnp, eA_lpn, eA_i2, eA_i3, blt_dec, Nat.add_assoc, keeps_refl, keeps_at, keeps_up, new_one, and_pow, bit_hi, lowBits_pow, ble_dec, fr_refl, fr_at, fr_up, fr_p, dum_ab, F15, mb, hp, hpn]
theorem most_eq {t k m : Int} {h : Mem} {nx p : Nat} (hp : h.blk p = some (mb t k m)) (hpn : p < nx) (n lg : Nat) : xF T (n + 30) 16 [.ptr p 0] h nx lg = some ⟨.int .i64 m, h, nx, bit lg p, 0⟩ := by
  rw [xF_fr T16]; apply eq_of_Post
  simp [↓P_skip, ↓P_exit, ↓P_ret, ↓P_seq, ↓P_cond, ↓P_blk, ↓P_reg, ↓P_draw, ↓P_nil, ↓P_cons, condP_t, condP_f, dum_ab, stepR, want_none, want_some, opRun, ev_t, ev_c, put_none, put_some, resAll, res_tmp, res_cell, oneOf, minI, maxI, min2A, max2A, mn2, mx2, mx3, rdBlk, wrBlk, newBlk, partA, abin, ibin, isShift, AV.cells, AV.one, lay, sub, fillA, lenA, toN, allApart, apartFrom, Nat.testBit, Mem.blk_set_same, Mem.blk_set_ne, Mem.set_set, bit_zero, bit_self, lowBits_or, lowBits_zero, len_setT, sl_same, sl_ne, len_frame, sl_frame,↓op_len, lenOp_slc, lenOp_nils, ↓Post.some, ↓Post_bind, ↓Post_ret, ↓Post_draw, ↓PostL_nil, ↓PostL_cons, Post_fail, ofOpt_some, ofOpt_none, eA_b, eA_i, eA_s, eA_nn, eA_np, eA_pn, eA_lnn, eA_lnp, eA_lpn, eA_i2, eA_i3, blt_dec, Nat.add_assoc, keeps_refl, keeps_at, keeps_up, new_one, and_pow, bit_hi, lowBits_pow, ble_dec, fr_refl, fr_at, fr_up, fr_p, dum_ab, F16, mb, hp, hpn]
end Go.Proofs.YtkofebojphfefaaT
