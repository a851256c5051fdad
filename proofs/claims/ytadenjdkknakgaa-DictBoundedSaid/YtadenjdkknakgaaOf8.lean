/- Dict: of and known answer. -/
import Derived.Test.YtadenjdkknakgaaPlay
namespace Go.Proofs.YtadenjdkknakgaaT
open Go Go.Proofs.YtadenjdkknakgaaE Go.Proofs.YtadenjdkknakgaaB
set_option linter.unusedSimpArgs false
set_option linter.unusedVariables false
attribute [local congr] Post_cg PostL_cg condP_cg

structure QS (base : Nat) (h0 : Mem) (v : AV) (n p q : Nat) (P : List Pl) (ts : List AV) (h : Mem) (nx : Nat) : Prop where
  hlen : ts.length = 75
  g46 : sl ts 46 = v
  g47 : sl ts 47 = .int .i64 n
  g3 : sl ts 3 = .ptr p 0
  g5 : sl ts 5 = .ptr q 0
  hpn : p < nx
  hqn : q < nx
  hpq : p ≠ q
  hbp : base ≤ p
  hbq : base ≤ q
  hp : h.blk p = some (db P (cnt P))
  hq : h.blk q = some (wb P)
  kp : Keeps base h0 h
def QI (base : Nat) (h0 : Mem) (v : AV) (n p q : Nat) (P : List Pl) (m : Nat) (ts : List AV) (h : Mem) (nx tc wr : Nat) : Prop := ∃ i : Nat, m = n - i ∧ i ≤ n ∧ sl ts 48 = .int .i64 i ∧ QS base h0 v n p q P ts h nx
def QR (base : Nat) (h0 : Mem) (e : Ex) (ts : List AV) (h : Mem) (nx tc wr : Nat) : Prop := e = .exit 0 ∧ ts.length = 75 ∧ base ≤ nx ∧ Keeps base h0 h
set_option maxHeartbeats 8000000 in
theorem q_round (base : Nat) (h0 : Mem) (v : AV) (l : List (List AV)) (hr : SRow 2 v h0 base l) (hl : ∀ x ∈ l, Pair x) (hy : l.length ≤ 1000000000000000) (p q : Nat) (P : List Pl) (hP : Okp P) (m : Nat) (ts : List AV) (h : Mem) (nx tc wr : Nat) (hi : QI base h0 v l.length p q P m ts h nx tc wr) :
    Post (xC T 200 L8_0b ts h nx 0) fun v' h' nx' tc' wr' => Round (QI base h0 v l.length p q P) (QR base h0) m v' h' nx' (tc ||| tc') (wr ||| wr') := by
  obtain ⟨i, rfl, hi, g48, ⟨hlen, g46, g47, g3, g5, hpn, hqn, hpq, hbp, hbq, hp, hq, kp⟩⟩ := hi
  by_cases c1 : i < l.length
  · have c1' : (i : Int) < (l.length : Int) := by omega
    obtain ⟨bb, c, K, rfl, hb, hK, hs, _⟩ := hr.at c1
    obtain ⟨se, me, hx⟩ := hl _ (List.getElem_mem c1)
    rw [hx] at hs
    obtain ⟨hs1, hs2⟩ := sub_inv hs
    have hK' : h.blk bb = some K := (kp bb hb).trans hK
    have hbn : bb < nx := by omega
    have ci : IntKind.i64.wrap ((i : Int) + 1) = ((i + 1 : Nat) : Int) := by rw [IntKind.wrap_i64]; omega
    generalize hH : h.set nx (some ⟨27, 2, true, false, [.int .i64 se, .int .i64 me]⟩) = H
    have Hp : H.blk p = some (db P (cnt P)) := by rw [← hH, Mem.blk_set_ne _ _ _ _ (by omega), hp]
    have Hq : H.blk q = some (wb P) := by rw [← hH, Mem.blk_set_ne _ _ _ _ (by omega), hq]
    have H0 : H.blk nx = some ⟨27, 2, true, false, [.int .i64 se, .int .i64 me]⟩ := by rw [← hH, Mem.blk_set_same]
    have HK : Keeps base h0 H := by rw [← hH]; exact kp.set _ (by omega)
    obtain ⟨h2, nx2, tc2, wr2, x2, n2, k2, f2, _, _⟩ := (find_does hP Hp (nx := nx + 1) (by omega) se).at 0 (by omega)
    have a2 := Fr.all f2 (k2.trans Hp.symm)
    have q2 := (a2 q (by omega)).trans Hq
    have h20 := (a2 nx (by omega)).trans H0
    obtain ⟨h4, nx4, tc4, wr4, x4, n4, k4, f4, _, _⟩ := (wfind_does hP q2 (nx := nx2) (by omega) se).at 0 (by omega)
    have a4 := Fr.all f4 (k4.trans q2.symm)
    have l1 : nx < nx2 := by omega
    simp (maxSteps := 4000000) [↓P_skip, ↓P_exit, ↓P_ret, ↓P_seq, ↓P_cond, ↓P_blk, ↓P_reg, ↓P_draw, ↓P_nil, ↓P_cons, condP_t, condP_f, dum_ab, stepR, want_none, want_some, opRun, ev_t, ev_c, put_none, put_some, resAll, res_tmp, res_cell, oneOf, minI, maxI, min2A, max2A, mn2, mx2, mx3, rdBlk, wrBlk, newBlk, partA, abin, ibin, isShift, AV.cells, AV.one, lay, sub, fillA, lenA, toN, allApart, apartFrom, Nat.testBit, Mem.blk_set_same, Mem.blk_set_ne, Mem.set_set, bit_zero, bit_self, lowBits_or, lowBits_zero, len_setT, sl_same, sl_ne, len_frame, sl_frame,↓op_len, lenOp_slc, lenOp_nils, ↓Post.some, ↓Post_bind, ↓Post_ret, ↓Post_draw, ↓PostL_nil, ↓PostL_cons, Post_fail, ofOpt_some, ofOpt_none, eA_b, eA_i, eA_s, eA_nn, eA_np, eA_pn, eA_lnn, eA_lnp, eA_lpn, eA_i2, eA_i3, blt_dec, Nat.add_assoc, keeps_refl, keeps_at, keeps_up, new_one, and_pow, bit_hi, lowBits_pow, ble_dec, fr_refl, fr_at, fr_up, fr_p, dum_ab, L8_0b, hlen, g46, g47, g48, g3, g5, c1, c1', hbn, hK', hs1, hs2, hH, H0, x2, x4, h20, l1, ci]
    refine Round.nor (m' := l.length - (i + 1)) (by omega) ⟨i + 1, rfl, by omega, by simp [↓P_skip, ↓P_exit, ↓P_ret, ↓P_seq, ↓P_cond, ↓P_blk, ↓P_reg, ↓P_draw, ↓P_nil, ↓P_cons, condP_t, condP_f, dum_ab, stepR, want_none, want_some, opRun, ev_t, ev_c, put_none, put_some, resAll, res_tmp, res_cell, oneOf, minI, maxI, min2A, max2A, mn2, mx2, mx3, rdBlk, wrBlk, newBlk, partA, abin, ibin, isShift, AV.cells, AV.one, lay, sub, fillA, lenA, toN, allApart, apartFrom, Nat.testBit, Mem.blk_set_same, Mem.blk_set_ne, Mem.set_set, bit_zero, bit_self, lowBits_or, lowBits_zero, len_setT, sl_same, sl_ne, len_frame, sl_frame,↓op_len, lenOp_slc, lenOp_nils, ↓Post.some, ↓Post_bind, ↓Post_ret, ↓Post_draw, ↓PostL_nil, ↓PostL_cons, Post_fail, ofOpt_some, ofOpt_none, eA_b, eA_i, eA_s, eA_nn, eA_np, eA_pn, eA_lnn, eA_lnp, eA_lpn, eA_i2, eA_i3, blt_dec, Nat.add_assoc, keeps_refl, keeps_at, keeps_up, hlen], by simp [↓P_skip, ↓P_exit, ↓P_ret, ↓P_seq, ↓P_cond, ↓P_blk, ↓P_reg, ↓P_draw, ↓P_nil, ↓P_cons, condP_t, condP_f, dum_ab, stepR, want_none, want_some, opRun, ev_t, ev_c, put_none, put_some, resAll, res_tmp, res_cell, oneOf, minI, maxI, min2A, max2A, mn2, mx2, mx3, rdBlk, wrBlk, newBlk, partA, abin, ibin, isShift, AV.cells, AV.one, lay, sub, fillA, lenA, toN, allApart, apartFrom, Nat.testBit, Mem.blk_set_same, Mem.blk_set_ne, Mem.set_set, bit_zero, bit_self, lowBits_or, lowBits_zero, len_setT, sl_same, sl_ne, len_frame, sl_frame,↓op_len, lenOp_slc, lenOp_nils, ↓Post.some, ↓Post_bind, ↓Post_ret, ↓Post_draw, ↓PostL_nil, ↓PostL_cons, Post_fail, ofOpt_some, ofOpt_none, eA_b, eA_i, eA_s, eA_nn, eA_np, eA_pn, eA_lnn, eA_lnp, eA_lpn, eA_i2, eA_i3, blt_dec, Nat.add_assoc, keeps_refl, keeps_at, keeps_up, hlen], by simp [↓P_skip, ↓P_exit, ↓P_ret, ↓P_seq, ↓P_cond, ↓P_blk, ↓P_reg, ↓P_draw, ↓P_nil, ↓P_cons, condP_t, condP_f, dum_ab, stepR, want_none, want_some, opRun, ev_t, ev_c, put_none, put_some, resAll, res_tmp, res_cell, oneOf, minI, maxI, min2A, max2A, mn2, mx2, mx3, rdBlk, wrBlk, newBlk, partA, abin, ibin, isShift, AV.cells, AV.one, lay, sub, fillA, lenA, toN, allApart, apartFrom, Nat.testBit, Mem.blk_set_same, Mem.blk_set_ne, Mem.set_set, bit_zero, bit_self, lowBits_or, lowBits_zero, len_setT, sl_same, sl_ne, len_frame, sl_frame,↓op_len, lenOp_slc, lenOp_nils, ↓Post.some, ↓Post_bind, ↓Post_ret, ↓Post_draw, ↓PostL_nil, ↓PostL_cons, Post_fail, ofOpt_some, ofOpt_none, eA_b, eA_i, eA_s, eA_nn, eA_np, eA_pn, eA_lnn, eA_lnp, eA_lpn, eA_i2, eA_i3, blt_dec, Nat.add_assoc, keeps_refl, keeps_at, keeps_up, hlen, g46], by simp [↓P_skip, ↓P_exit, ↓P_ret, ↓P_seq, ↓P_cond, ↓P_blk, ↓P_reg, ↓P_draw, ↓P_nil, ↓P_cons, condP_t, condP_f, dum_ab, stepR, want_none, want_some, opRun, ev_t, ev_c, put_none, put_some, resAll, res_tmp, res_cell, oneOf, minI, maxI, min2A, max2A, mn2, mx2, mx3, rdBlk, wrBlk, newBlk, partA, abin, ibin, isShift, AV.cells, AV.one, lay, sub, fillA, lenA, toN, allApart, apartFrom, Nat.testBit, Mem.blk_set_same, Mem.blk_set_ne, Mem.set_set, bit_zero, bit_self, lowBits_or, lowBits_zero, len_setT, sl_same, sl_ne, len_frame, sl_frame,↓op_len, lenOp_slc, lenOp_nils, ↓Post.some, ↓Post_bind, ↓Post_ret, ↓Post_draw, ↓PostL_nil, ↓PostL_cons, Post_fail, ofOpt_some, ofOpt_none, eA_b, eA_i, eA_s, eA_nn, eA_np, eA_pn, eA_lnn, eA_lnp, eA_lpn, eA_i2, eA_i3, blt_dec, Nat.add_assoc, keeps_refl, keeps_at, keeps_up, hlen, g47], by simp [↓P_skip, ↓P_exit, ↓P_ret, ↓P_seq, ↓P_cond, ↓P_blk, ↓P_reg, ↓P_draw, ↓P_nil, ↓P_cons, condP_t, condP_f, dum_ab, stepR, want_none, want_some, opRun, ev_t, ev_c, put_none, put_some, resAll, res_tmp, res_cell, oneOf, minI, maxI, min2A, max2A, mn2, mx2, mx3, rdBlk, wrBlk, newBlk, partA, abin, ibin, isShift, AV.cells, AV.one, lay, sub, fillA, lenA, toN, allApart, apartFrom, Nat.testBit, Mem.blk_set_same, Mem.blk_set_ne, Mem.set_set, bit_zero, bit_self, lowBits_or, lowBits_zero, len_setT, sl_same, sl_ne, len_frame, sl_frame,↓op_len, lenOp_slc, lenOp_nils, ↓Post.some, ↓Post_bind, ↓Post_ret, ↓Post_draw, ↓PostL_nil, ↓PostL_cons, Post_fail, ofOpt_some, ofOpt_none, eA_b, eA_i, eA_s, eA_nn, eA_np, eA_pn, eA_lnn, eA_lnp, eA_lpn, eA_i2, eA_i3, blt_dec, Nat.add_assoc, keeps_refl, keeps_at, keeps_up, hlen, g3], by simp [↓P_skip, ↓P_exit, ↓P_ret, ↓P_seq, ↓P_cond, ↓P_blk, ↓P_reg, ↓P_draw, ↓P_nil, ↓P_cons, condP_t, condP_f, dum_ab, stepR, want_none, want_some, opRun, ev_t, ev_c, put_none, put_some, resAll, res_tmp, res_cell, oneOf, minI, maxI, min2A, max2A, mn2, mx2, mx3, rdBlk, wrBlk, newBlk, partA, abin, ibin, isShift, AV.cells, AV.one, lay, sub, fillA, lenA, toN, allApart, apartFrom, Nat.testBit, Mem.blk_set_same, Mem.blk_set_ne, Mem.set_set, bit_zero, bit_self, lowBits_or, lowBits_zero, len_setT, sl_same, sl_ne, len_frame, sl_frame,↓op_len, lenOp_slc, lenOp_nils, ↓Post.some, ↓Post_bind, ↓Post_ret, ↓Post_draw, ↓PostL_nil, ↓PostL_cons, Post_fail, ofOpt_some, ofOpt_none, eA_b, eA_i, eA_s, eA_nn, eA_np, eA_pn, eA_lnn, eA_lnp, eA_lpn, eA_i2, eA_i3, blt_dec, Nat.add_assoc, keeps_refl, keeps_at, keeps_up, hlen, g5], by omega, by omega, hpq, hbp, hbq, ?_, k4, ?_⟩
    · rw [a4 p (by omega), a2 p (by omega), Hp]
    · intro b hb'
      rw [a4 b (by omega), a2 b (by omega), HK b hb']
  · have c1' : ¬ (i : Int) < (l.length : Int) := by omega
    simp [↓P_skip, ↓P_exit, ↓P_ret, ↓P_seq, ↓P_cond, ↓P_blk, ↓P_reg, ↓P_draw, ↓P_nil, ↓P_cons, condP_t, condP_f, dum_ab, stepR, want_none, want_some, opRun, ev_t, ev_c, put_none, put_some, resAll, res_tmp, res_cell, oneOf, minI, maxI, min2A, max2A, mn2, mx2, mx3, rdBlk, wrBlk, newBlk, partA, abin, ibin, isShift, AV.cells, AV.one, lay, sub, fillA, lenA, toN, allApart, apartFrom, Nat.testBit, Mem.blk_set_same, Mem.blk_set_ne, Mem.set_set, bit_zero, bit_self, lowBits_or, lowBits_zero, len_setT, sl_same, sl_ne, len_frame, sl_frame,↓op_len, lenOp_slc, lenOp_nils, ↓Post.some, ↓Post_bind, ↓Post_ret, ↓Post_draw, ↓PostL_nil, ↓PostL_cons, Post_fail, ofOpt_some, ofOpt_none, eA_b, eA_i, eA_s, eA_nn, eA_np, eA_pn, eA_lnn, eA_lnp, eA_lpn, eA_i2, eA_i3, blt_dec, Nat.add_assoc, keeps_refl, keeps_at, keeps_up, new_one, and_pow, bit_hi, lowBits_pow, ble_dec, fr_refl, fr_at, fr_up, fr_p, dum_ab, L8_0b, hlen, g47, g48, c1']
    exact Round.exit (R := QR base h0) ⟨rfl, by simp [↓P_skip, ↓P_exit, ↓P_ret, ↓P_seq, ↓P_cond, ↓P_blk, ↓P_reg, ↓P_draw, ↓P_nil, ↓P_cons, condP_t, condP_f, dum_ab, stepR, want_none, want_some, opRun, ev_t, ev_c, put_none, put_some, resAll, res_tmp, res_cell, oneOf, minI, maxI, min2A, max2A, mn2, mx2, mx3, rdBlk, wrBlk, newBlk, partA, abin, ibin, isShift, AV.cells, AV.one, lay, sub, fillA, lenA, toN, allApart, apartFrom, Nat.testBit, Mem.blk_set_same, Mem.blk_set_ne, Mem.set_set, bit_zero, bit_self, lowBits_or, lowBits_zero, len_setT, sl_same, sl_ne, len_frame, sl_frame,↓op_len, lenOp_slc, lenOp_nils, ↓Post.some, ↓Post_bind, ↓Post_ret, ↓Post_draw, ↓PostL_nil, ↓PostL_cons, Post_fail, ofOpt_some, ofOpt_none, eA_b, eA_i, eA_s, eA_nn, eA_np, eA_pn, eA_lnn, eA_lnp, eA_lpn, eA_i2, eA_i3, blt_dec, Nat.add_assoc, keeps_refl, keeps_at, keeps_up, hlen], by omega, kp⟩

set_option maxHeartbeats 8000000 in
theorem of8_ans (h : Mem) (nx : Nat) (v : AV) (l : List (List AV)) (hr : SRow 2 v h nx l) (hl : ∀ x ∈ l, Pair x) (hy : l.length ≤ 1000000000000000) (m : Nat) (hm : l.length ≤ m) :
    Post (xF T (m + 500) 8 [v] h nx 0) fun a h' nx' _ _ => a = .bool true ∧ nx ≤ nx' ∧ Keeps nx h h' := by
  obtain ⟨a1, h1, nx1, tc1, wr1, x1, n1, k1, y1⟩ := (of_ans h nx v l hr hl hy (l.length + 200) (by omega)).inv
  have z1 : ∀ j, xF T (m + (j + 200)) 15 [v] h nx 0 = some ⟨a1, h1, nx1, tc1, wr1⟩ := fun j => xF_mono T (by omega) x1
  obtain ⟨a2, h2, nx2, tc2, wr2, x2, n2, k2, y2⟩ := (wof_ans h1 nx1 v l (hr.stay k1 (by omega)) hl hy (l.length + 200) (by omega)).inv
  have z2 : ∀ j, xF T (m + (j + 200)) 20 [v] h1 nx1 0 = some ⟨a2, h2, nx2, tc2, wr2⟩ := fun j => xF_mono T (by omega) x2
  have kk : Keeps nx h h2 := k1.trans k2 (by omega)
  rw [xF_fr T8]
  rcases y1 with ⟨e1, rfl⟩ | ⟨P, e1, hP, rfl, b1⟩
  · rcases y2 with ⟨e2, rfl⟩ | ⟨P', e2, _⟩
    · simp [↓P_skip, ↓P_exit, ↓P_ret, ↓P_seq, ↓P_cond, ↓P_blk, ↓P_reg, ↓P_draw, ↓P_nil, ↓P_cons, condP_t, condP_f, dum_ab, stepR, want_none, want_some, opRun, ev_t, ev_c, put_none, put_some, resAll, res_tmp, res_cell, oneOf, minI, maxI, min2A, max2A, mn2, mx2, mx3, rdBlk, wrBlk, newBlk, partA, abin, ibin, isShift, AV.cells, AV.one, lay, sub, fillA, lenA, toN, allApart, apartFrom, Nat.testBit, Mem.blk_set_same, Mem.blk_set_ne, Mem.set_set, bit_zero, bit_self, lowBits_or, lowBits_zero, len_setT, sl_same, sl_ne, len_frame, sl_frame,↓op_len, lenOp_slc, lenOp_nils, ↓Post.some, ↓Post_bind, ↓Post_ret, ↓Post_draw, ↓PostL_nil, ↓PostL_cons, Post_fail, ofOpt_some, ofOpt_none, eA_b, eA_i, eA_s, eA_nn, eA_np, eA_pn, eA_lnn, eA_lnp, eA_lpn, eA_i2, eA_i3, blt_dec, Nat.add_assoc, keeps_refl, keeps_at, keeps_up, new_one, and_pow, bit_hi, lowBits_pow, ble_dec, fr_refl, fr_at, fr_up, fr_p, dum_ab, F8, z1, z2]
      exact ⟨by omega, kk⟩
    · rw [e1] at e2; cases e2
  · rcases y2 with ⟨e2, rfl⟩ | ⟨P', e2, _, rfl, b2⟩
    · rw [e1] at e2; cases e2
    · rw [e1] at e2
      cases e2
      have p2 : h2.blk nx = some (db P (cnt P)) := (k2 nx n1).trans b1
      have u1 := len_eq hP.len p2 (nx := nx2) (by omega)
      have u2 := count_eq hP b2 (nx := nx2) (by omega)
      have key := fun N hN ts e0 e1 e2 e3 e4 e5 Q hQ => Post.loop (n := N) (T := T) (c := L8_0b) (ts := ts) (Q := Q) (q_round nx h v l hr hl hy nx nx1 P hP) l.length (h := h2) (nx := nx2) ⟨0, rfl, by omega, e0, e1, e2, e3, e4, e5, by omega, by omega, by omega, by omega, by omega, p2, b2, kk⟩ hN hQ
      rcases hr with ⟨rfl, rfl⟩ | ⟨bb, c, rfl, _⟩
      all_goals
        simp [↓P_skip, ↓P_exit, ↓P_ret, ↓P_seq, ↓P_cond, ↓P_blk, ↓P_reg, ↓P_draw, ↓P_nil, ↓P_cons, condP_t, condP_f, dum_ab, stepR, want_none, want_some, opRun, ev_t, ev_c, put_none, put_some, resAll, res_tmp, res_cell, oneOf, minI, maxI, min2A, max2A, mn2, mx2, mx3, rdBlk, wrBlk, newBlk, partA, abin, ibin, isShift, AV.cells, AV.one, lay, sub, fillA, lenA, toN, allApart, apartFrom, Nat.testBit, Mem.blk_set_same, Mem.blk_set_ne, Mem.set_set, bit_zero, bit_self, lowBits_or, lowBits_zero, len_setT, sl_same, sl_ne, len_frame, sl_frame,↓op_len, lenOp_slc, lenOp_nils, ↓Post.some, ↓Post_bind, ↓Post_ret, ↓Post_draw, ↓PostL_nil, ↓PostL_cons, Post_fail, ofOpt_some, ofOpt_none, eA_b, eA_i, eA_s, eA_nn, eA_np, eA_pn, eA_lnn, eA_lnp, eA_lpn, eA_i2, eA_i3, blt_dec, Nat.add_assoc, keeps_refl, keeps_at, keeps_up, new_one, and_pow, bit_hi, lowBits_pow, ble_dec, fr_refl, fr_at, fr_up, fr_p, dum_ab, F8, z1, z2, u1, u2]
        refine key _ (by first | omega | (simp only [List.length_nil] at *; omega)) _ (by simp [↓P_skip, ↓P_exit, ↓P_ret, ↓P_seq, ↓P_cond, ↓P_blk, ↓P_reg, ↓P_draw, ↓P_nil, ↓P_cons, condP_t, condP_f, dum_ab, stepR, want_none, want_some, opRun, ev_t, ev_c, put_none, put_some, resAll, res_tmp, res_cell, oneOf, minI, maxI, min2A, max2A, mn2, mx2, mx3, rdBlk, wrBlk, newBlk, partA, abin, ibin, isShift, AV.cells, AV.one, lay, sub, fillA, lenA, toN, allApart, apartFrom, Nat.testBit, Mem.blk_set_same, Mem.blk_set_ne, Mem.set_set, bit_zero, bit_self, lowBits_or, lowBits_zero, len_setT, sl_same, sl_ne, len_frame, sl_frame,↓op_len, lenOp_slc, lenOp_nils, ↓Post.some, ↓Post_bind, ↓Post_ret, ↓Post_draw, ↓PostL_nil, ↓PostL_cons, Post_fail, ofOpt_some, ofOpt_none, eA_b, eA_i, eA_s, eA_nn, eA_np, eA_pn, eA_lnn, eA_lnp, eA_lpn, eA_i2, eA_i3, blt_dec, Nat.add_assoc, keeps_refl, keeps_at, keeps_up]) (by simp [↓P_skip, ↓P_exit, ↓P_ret, ↓P_seq, ↓P_cond, ↓P_blk, ↓P_reg, ↓P_draw, ↓P_nil, ↓P_cons, condP_t, condP_f, dum_ab, stepR, want_none, want_some, opRun, ev_t, ev_c, put_none, put_some, resAll, res_tmp, res_cell, oneOf, minI, maxI, min2A, max2A, mn2, mx2, mx3, rdBlk, wrBlk, newBlk, partA, abin, ibin, isShift, AV.cells, AV.one, lay, sub, fillA, lenA, toN, allApart, apartFrom, Nat.testBit, Mem.blk_set_same, Mem.blk_set_ne, Mem.set_set, bit_zero, bit_self, lowBits_or, lowBits_zero, len_setT, sl_same, sl_ne, len_frame, sl_frame,↓op_len, lenOp_slc, lenOp_nils, ↓Post.some, ↓Post_bind, ↓Post_ret, ↓Post_draw, ↓PostL_nil, ↓PostL_cons, Post_fail, ofOpt_some, ofOpt_none, eA_b, eA_i, eA_s, eA_nn, eA_np, eA_pn, eA_lnn, eA_lnp, eA_lpn, eA_i2, eA_i3, blt_dec, Nat.add_assoc, keeps_refl, keeps_at, keeps_up]) (by simp [↓P_skip, ↓P_exit, ↓P_ret, ↓P_seq, ↓P_cond, ↓P_blk, ↓P_reg, ↓P_draw, ↓P_nil, ↓P_cons, condP_t, condP_f, dum_ab, stepR, want_none, want_some, opRun, ev_t, ev_c, put_none, put_some, resAll, res_tmp, res_cell, oneOf, minI, maxI, min2A, max2A, mn2, mx2, mx3, rdBlk, wrBlk, newBlk, partA, abin, ibin, isShift, AV.cells, AV.one, lay, sub, fillA, lenA, toN, allApart, apartFrom, Nat.testBit, Mem.blk_set_same, Mem.blk_set_ne, Mem.set_set, bit_zero, bit_self, lowBits_or, lowBits_zero, len_setT, sl_same, sl_ne, len_frame, sl_frame,↓op_len, lenOp_slc, lenOp_nils, ↓Post.some, ↓Post_bind, ↓Post_ret, ↓Post_draw, ↓PostL_nil, ↓PostL_cons, Post_fail, ofOpt_some, ofOpt_none, eA_b, eA_i, eA_s, eA_nn, eA_np, eA_pn, eA_lnn, eA_lnp, eA_lpn, eA_i2, eA_i3, blt_dec, Nat.add_assoc, keeps_refl, keeps_at, keeps_up]) (by simp [↓P_skip, ↓P_exit, ↓P_ret, ↓P_seq, ↓P_cond, ↓P_blk, ↓P_reg, ↓P_draw, ↓P_nil, ↓P_cons, condP_t, condP_f, dum_ab, stepR, want_none, want_some, opRun, ev_t, ev_c, put_none, put_some, resAll, res_tmp, res_cell, oneOf, minI, maxI, min2A, max2A, mn2, mx2, mx3, rdBlk, wrBlk, newBlk, partA, abin, ibin, isShift, AV.cells, AV.one, lay, sub, fillA, lenA, toN, allApart, apartFrom, Nat.testBit, Mem.blk_set_same, Mem.blk_set_ne, Mem.set_set, bit_zero, bit_self, lowBits_or, lowBits_zero, len_setT, sl_same, sl_ne, len_frame, sl_frame,↓op_len, lenOp_slc, lenOp_nils, ↓Post.some, ↓Post_bind, ↓Post_ret, ↓Post_draw, ↓PostL_nil, ↓PostL_cons, Post_fail, ofOpt_some, ofOpt_none, eA_b, eA_i, eA_s, eA_nn, eA_np, eA_pn, eA_lnn, eA_lnp, eA_lpn, eA_i2, eA_i3, blt_dec, Nat.add_assoc, keeps_refl, keeps_at, keeps_up]) (by simp [↓P_skip, ↓P_exit, ↓P_ret, ↓P_seq, ↓P_cond, ↓P_blk, ↓P_reg, ↓P_draw, ↓P_nil, ↓P_cons, condP_t, condP_f, dum_ab, stepR, want_none, want_some, opRun, ev_t, ev_c, put_none, put_some, resAll, res_tmp, res_cell, oneOf, minI, maxI, min2A, max2A, mn2, mx2, mx3, rdBlk, wrBlk, newBlk, partA, abin, ibin, isShift, AV.cells, AV.one, lay, sub, fillA, lenA, toN, allApart, apartFrom, Nat.testBit, Mem.blk_set_same, Mem.blk_set_ne, Mem.set_set, bit_zero, bit_self, lowBits_or, lowBits_zero, len_setT, sl_same, sl_ne, len_frame, sl_frame,↓op_len, lenOp_slc, lenOp_nils, ↓Post.some, ↓Post_bind, ↓Post_ret, ↓Post_draw, ↓PostL_nil, ↓PostL_cons, Post_fail, ofOpt_some, ofOpt_none, eA_b, eA_i, eA_s, eA_nn, eA_np, eA_pn, eA_lnn, eA_lnp, eA_lpn, eA_i2, eA_i3, blt_dec, Nat.add_assoc, keeps_refl, keeps_at, keeps_up]) (by simp [↓P_skip, ↓P_exit, ↓P_ret, ↓P_seq, ↓P_cond, ↓P_blk, ↓P_reg, ↓P_draw, ↓P_nil, ↓P_cons, condP_t, condP_f, dum_ab, stepR, want_none, want_some, opRun, ev_t, ev_c, put_none, put_some, resAll, res_tmp, res_cell, oneOf, minI, maxI, min2A, max2A, mn2, mx2, mx3, rdBlk, wrBlk, newBlk, partA, abin, ibin, isShift, AV.cells, AV.one, lay, sub, fillA, lenA, toN, allApart, apartFrom, Nat.testBit, Mem.blk_set_same, Mem.blk_set_ne, Mem.set_set, bit_zero, bit_self, lowBits_or, lowBits_zero, len_setT, sl_same, sl_ne, len_frame, sl_frame,↓op_len, lenOp_slc, lenOp_nils, ↓Post.some, ↓Post_bind, ↓Post_ret, ↓Post_draw, ↓PostL_nil, ↓PostL_cons, Post_fail, ofOpt_some, ofOpt_none, eA_b, eA_i, eA_s, eA_nn, eA_np, eA_pn, eA_lnn, eA_lnp, eA_lpn, eA_i2, eA_i3, blt_dec, Nat.add_assoc, keeps_refl, keeps_at, keeps_up]) _ ?_
        rintro e ts' h' nx' tc' wr' ⟨rfl, hlen, hn, kp⟩
        simp [↓P_skip, ↓P_exit, ↓P_ret, ↓P_seq, ↓P_cond, ↓P_blk, ↓P_reg, ↓P_draw, ↓P_nil, ↓P_cons, condP_t, condP_f, dum_ab, stepR, want_none, want_some, opRun, ev_t, ev_c, put_none, put_some, resAll, res_tmp, res_cell, oneOf, minI, maxI, min2A, max2A, mn2, mx2, mx3, rdBlk, wrBlk, newBlk, partA, abin, ibin, isShift, AV.cells, AV.one, lay, sub, fillA, lenA, toN, allApart, apartFrom, Nat.testBit, Mem.blk_set_same, Mem.blk_set_ne, Mem.set_set, bit_zero, bit_self, lowBits_or, lowBits_zero, len_setT, sl_same, sl_ne, len_frame, sl_frame,↓op_len, lenOp_slc, lenOp_nils, ↓Post.some, ↓Post_bind, ↓Post_ret, ↓Post_draw, ↓PostL_nil, ↓PostL_cons, Post_fail, ofOpt_some, ofOpt_none, eA_b, eA_i, eA_s, eA_nn, eA_np, eA_pn, eA_lnn, eA_lnp, eA_lpn, eA_i2, eA_i3, blt_dec, Nat.add_assoc, keeps_refl, keeps_at, keeps_up, new_one, and_pow, bit_hi, lowBits_pow, ble_dec, fr_refl, fr_at, fr_up, fr_p, dum_ab, F8, hlen, hn, kp]

theorem pair12 : ∀ x ∈ [[AV.int .i64 1, AV.int .i64 2]], Pair x := fun x hx => by rw [List.mem_singleton.1 hx]; exact ⟨_, _, rfl⟩
theorem srow_lit {sz : Nat} (l : List (List AV)) (hl : ∀ x ∈ l, x.length = sz) {b nx ty : Nat} {o g : Bool} {c : Option Nat} (h : Mem) (hb : b < nx) : SRow sz (.slc b 0 l.length c) (h.set b (some ⟨ty, sz, o, g, l.flatten⟩)) nx l :=
  .inr ⟨b, c, rfl, hl, fun _ => ⟨hb, _, Mem.blk_set_same .., [], by simp⟩⟩
def K1 := aft empty 0 5
def K2 := aft K1 16 6
def K3 := aft K2 32 7
def K4 := aft K3 48 8
def K5 := aft K4 16 60
set_option maxRecDepth 100000 in
set_option maxHeartbeats 4000000 in
theorem known_ans (h : Mem) (nx : Nat) : Ans T 500 9 [] h nx (.bool true) := by
  unfold Ans
  rw [xF_fr T9]
  have e : ∀ n h nx lg, xF T (n + 10) 11 [] h nx lg = some ⟨.ptr nx 0, h.set nx (some (db empty 0)), nx + 1, 0, 0⟩ := new_eq
  obtain ⟨h1, hh1⟩ : ∃ h1, h1 = h.set nx (some (db empty 0)) := ⟨_, rfl⟩
  have p1 : h1.blk nx = some (db empty (cnt empty)) := by rw [hh1, Mem.blk_set_same]; rfl
  have q1 : Keeps nx h h1 := by rw [hh1]; exact Keeps.set (fun b _ => rfl) _ (Nat.le_refl _)
  have o1 : Okp K1 := aft_ok empty_ok _ _
  have o2 : Okp K2 := aft_ok o1 _ _
  have o3 : Okp K3 := aft_ok o2 _ _
  have o4 : Okp K4 := aft_ok o3 _ _
  have o5 : Okp K5 := aft_ok o4 _ _
  have i1 : (putP empty 0 5).isSome = true := by rfl
  have i2 : (putP K1 16 6).isSome = true := by rfl
  have i3 : (putP K2 32 7).isSome = true := by rfl
  have i4 : (putP K3 48 8).isSome = true := by rfl
  have i5 : (putP K4 64 9).isSome = false := by rfl
  have i6 : (putP K4 16 60).isSome = true := by rfl
  have i7 : (putP K5 (-1) 0).isSome = false := by rfl
  have j0 : find empty 3 = (-1, 1) := by rfl
  have j1 : find K4 48 = (8, 4) := by rfl
  have j2 : find K4 80 = (-1, 4) := by rfl
  have j3 : find K5 16 = (60, 2) := by rfl
  have j4 : find K5 (-1) = (-1, 0) := by rfl
  have c5 : cnt K5 = 4 := by rfl
  obtain ⟨h2, nx2, tc2, wr2, x2, n2, p2, f2, _, _⟩ := (find_does empty_ok p1 (nx := nx + 1) (by omega) 3).at 0 (by omega)
  obtain ⟨h3, nx3, tc3, wr3, x3, n3, p3, f3, _, _⟩ := (put_does empty_ok p2 (nx := nx2) (by omega) 0 5).at 0 (by omega)
  obtain ⟨h4, nx4, tc4, wr4, x4, n4, p4, f4, _, _⟩ := (put_does o1 p3 (nx := nx3) (by omega) 16 6).at 0 (by omega)
  obtain ⟨h5, nx5, tc5, wr5, x5, n5, p5, f5, _, _⟩ := (put_does o2 p4 (nx := nx4) (by omega) 32 7).at 0 (by omega)
  obtain ⟨h6, nx6, tc6, wr6, x6, n6, p6, f6, _, _⟩ := (put_does o3 p5 (nx := nx5) (by omega) 48 8).at 0 (by omega)
  obtain ⟨h7, nx7, tc7, wr7, x7, n7, p7, f7, _, _⟩ := (put_does o4 p6 (nx := nx6) (by omega) 64 9).at 0 (by omega)
  have t7 : aft K4 64 9 = K4 := by rfl
  rw [t7] at p7
  obtain ⟨h8, nx8, tc8, wr8, x8, n8, p8, f8, _, _⟩ := (find_does o4 p7 (nx := nx7) (by omega) 48).at 0 (by omega)
  obtain ⟨h9, nx9, tc9, wr9, x9, n9, p9, f9, _, _⟩ := (find_does o4 p8 (nx := nx8) (by omega) 80).at 0 (by omega)
  obtain ⟨ha, nxa, tca, wra, xa, na, pa, fa, _, _⟩ := (put_does o4 p9 (nx := nx9) (by omega) 16 60).at 0 (by omega)
  obtain ⟨hb, nxb, tcb, wrb, xb, nb, pb, fb, _, _⟩ := (find_does o5 pa (nx := nxa) (by omega) 16).at 0 (by omega)
  obtain ⟨hc, nxc, tcc, wrc, xc, nc, pc', fc, _, _⟩ := (find_does o5 pb (nx := nxb) (by omega) (-1)).at 0 (by omega)
  obtain ⟨a1, hd, nxd, tcd, wrd, xd, nd, kd, yd⟩ := (of_ans (hc.set nxc (some ⟨27, 2, true, false, [.int .i64 1, .int .i64 2]⟩)) (nxc + 1) (.slc nxc 0 1 (some 1)) [[.int .i64 1, .int .i64 2]] (srow_lit [[.int .i64 1, .int .i64 2]] (by decide) hc (by omega)) pair12 (by decide) 300 (by decide)).inv
  have zd : ∀ j, xF T (j + 300) 15 [.slc nxc 0 1 (some 1)] (hc.set nxc (some ⟨27, 2, true, false, [.int .i64 1, .int .i64 2]⟩)) (nxc + 1) 0 = some ⟨a1, hd, nxd, tcd, wrd⟩ := fun j => xF_mono T (by omega) xd
  obtain ⟨Pd, ed, hPd, rfl, bd⟩ : ∃ P, ofL [[.int .i64 1, .int .i64 2]] empty = some P ∧ Okp P ∧ a1 = .tup [.ptr (nxc + 1) 0, .bool true] ∧ hd.blk (nxc + 1) = some (dbc P) := by
    rcases yd with ⟨e, _⟩ | y
    · cases e
    · exact y
  have cd : cnt Pd = 1 := by cases ed; rfl
  have pd : hd.blk nx = some (db K5 (cnt K5)) := by rw [kd nx (by omega), Mem.blk_set_ne _ _ _ _ (by omega), pc']; rfl
  obtain ⟨he, nxe, tce, wre, xe, ne, pe, fe, _, _⟩ := (put_does o5 pd (nx := nxd) (by omega) (-1) 0).at 0 (by omega)
  have u1 := len_eq o5.len pd (nx := nxd) (by omega)
  have u2 := len_eq hPd.len bd (nx := nxd) (by omega)
  rw [i1] at x3
  rw [i2] at x4
  rw [i3] at x5
  rw [i4] at x6
  rw [i5] at x7
  rw [i6] at xa
  rw [i7] at xe
  rw [j0] at x2
  rw [j1] at x8
  rw [j2] at x9
  rw [j3] at xb
  rw [j4] at xc
  rw [c5] at u1
  rw [cd] at u2
  simp (maxSteps := 4000000) [↓P_skip, ↓P_exit, ↓P_ret, ↓P_seq, ↓P_cond, ↓P_blk, ↓P_reg, ↓P_draw, ↓P_nil, ↓P_cons, condP_t, condP_f, dum_ab, stepR, want_none, want_some, opRun, ev_t, ev_c, put_none, put_some, resAll, res_tmp, res_cell, oneOf, minI, maxI, min2A, max2A, mn2, mx2, mx3, rdBlk, wrBlk, newBlk, partA, abin, ibin, isShift, AV.cells, AV.one, lay, sub, fillA, lenA, toN, allApart, apartFrom, Nat.testBit, Mem.blk_set_same, Mem.blk_set_ne, Mem.set_set, bit_zero, bit_self, lowBits_or, lowBits_zero, len_setT, sl_same, sl_ne, len_frame, sl_frame,↓op_len, lenOp_slc, lenOp_nils, ↓Post.some, ↓Post_bind, ↓Post_ret, ↓Post_draw, ↓PostL_nil, ↓PostL_cons, Post_fail, ofOpt_some, ofOpt_none, eA_b, eA_i, eA_s, eA_nn, eA_np, eA_pn, eA_lnn, eA_lnp, eA_lpn, eA_i2, eA_i3, blt_dec, Nat.add_assoc, keeps_refl, keeps_at, keeps_up, new_one, and_pow, bit_hi, lowBits_pow, ble_dec, fr_refl, fr_at, fr_up, fr_p, dum_ab, F9, e, hh1.symm, x2, x3, x4, x5, x6, x7, x8, x9, xa, xb, xc, xe, zd, u1, u2, reps]
  refine ⟨by omega, fun b hb' => ?_⟩
  rw [fe b (by omega) (by omega), kd b (by omega), Mem.blk_set_ne _ _ _ _ (by omega), fc b (by omega) (by omega), fb b (by omega) (by omega), fa b (by omega) (by omega), f9 b (by omega) (by omega), f8 b (by omega) (by omega), f7 b (by omega) (by omega), f6 b (by omega) (by omega), f5 b (by omega) (by omega), f4 b (by omega) (by omega), f3 b (by omega) (by omega), f2 b (by omega) (by omega), q1 b hb']
end Go.Proofs.YtadenjdkknakgaaT
