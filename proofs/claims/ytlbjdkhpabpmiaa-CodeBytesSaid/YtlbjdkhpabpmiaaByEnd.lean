/- Code: CodeBytes, joined. -/
import Derived.Test.YtlbjdkhpabpmiaaByLaw
namespace Go.Proofs.YtlbjdkhpabpmiaaT
open Go Go.Proofs.YtlbjdkhpabpmiaaE Go.Proofs.YtlbjdkhpabpmiaaB
set_option linter.unusedSimpArgs false
set_option linter.unusedVariables false
attribute [local congr] Post_cg PostL_cg condP_cg

set_option maxHeartbeats 8000000 in
theorem bytes_law (l : List (List AV)) (v : AV) (y : l.length * 16 ≤ 140737488351232) (q : ∀ x ∈ l, LeavesV [.i .i64, .i .i64] x) (a : Int) (w : (Lit.int .i64 a).wf = true) (h0 : Mem) (p : Nat) (hr : SRow 2 v h0 p l) : Yes T 5 [v, .int .i64 a] h0 p := by
  have hl : ∀ x ∈ l, ∃ a b, x = [.int .i64 a, .int .i64 b] := by
    intro x hx
    have := q x hx
    simp only [LeavesV, LeafV] at this
    obtain ⟨_, _, rfl, ⟨a, rfl, _⟩, _, _, rfl, ⟨b, rfl, _⟩, rfl⟩ := this
    exact ⟨a, b, rfl⟩
  obtain ⟨k, k1, k2, wi⟩ := within_ex a 0 23 (by omega) (by omega) (by omega)
  refine Yes.of 1000 ?_
  rw [xF_fr T5]
  simp (maxSteps := 4000000) [↓step_none, ↓step_t, ↓step_f, ↓step_nt, ↓step_nf, ↓op_load, ↓op_store, ↓op_slice, ↓op_app, ↓P_skip, ↓P_exit, ↓P_ret, ↓P_seq, ↓P_cond, ↓P_blk, ↓P_reg, ↓P_draw, ↓P_nil, ↓P_cons, condP_t, condP_f, dum_ab, stepR, want_none, want_some, opRun, ev_t, ev_c, put_none, put_some, resAll, res_tmp, res_cell, oneOf, minI, maxI, min2A, max2A, mn2, mx2, mx3, rdBlk, wrBlk, newBlk, partA, abin, ibin, isShift, AV.cells, AV.one, lay, sub, fillA, lenA, toN, allApart, apartFrom, Nat.testBit, Mem.blk_set_same, Mem.blk_set_ne, Mem.set_set, bit_zero, bit_self, lowBits_or, lowBits_zero, len_setT, sl_same, sl_ne, len_frame, sl_frame,↓op_len, lenOp_slc, lenOp_nils, ↓Post.some, ↓Post_bind, ↓Post_ret, ↓Post_draw, ↓PostL_nil, ↓PostL_cons, Post_fail, ofOpt_some, ofOpt_none, eA_b, eA_i, eA_s, eA_nn, eA_np, eA_pn, eA_lnn, eA_lnp, eA_lpn, eA_i2, eA_i3, blt_dec, Nat.add_assoc, keeps_refl, keeps_at, keeps_up, new_one, and_pow, bit_hi, lowBits_pow, ble_dec, fr_refl, fr_at, fr_up, fr_p, dum_ab, F5]
  refine Post.loop (fw_round a v l h0 p hr hl) 60 ⟨.nils, [], SGRow.nil .., (fun o ho => nomatch ho), Nat.zero_le _, by simp, rfl, by simp [len_setT, sl_same, sl_ne, len_frame], by simp [len_setT, sl_same, sl_ne, len_frame, sl_frame], by simp [len_setT, sl_same, sl_ne, len_frame, sl_frame], by simp [len_setT, sl_same, sl_ne, len_frame, sl_frame], by simp [len_setT, sl_same, sl_ne, len_frame, sl_frame], Nat.le_refl _, fun _ _ => rfl⟩ (by omega) ?_
  rintro e ts h nx tc wr ⟨rfl, u, L, hg, h8, h60, hlen, g5, g1, hbn⟩
  have ru := hg.srow
  obtain ⟨vb, h2, nx2, tc2, wr2, x2, n2, rv, kp2⟩ := bytes_of (by omega) h8 ru 0 (by omega)
  have bl := bys_len L
  obtain ⟨N, hN⟩ : ∃ N, N = 2 * L.length := ⟨_, rfl⟩
  have lu : lenOp u = A.ret (.int .i64 L.length) := by have := ru.lenOp; rwa [ivs_len] at this
  have lb : lenOp vb = A.ret (.int .i64 N) := by have := rv.lenOp; rwa [bl, ← hN] at this
  have wN : IntKind.i64.wrap (2 * (L.length : Int)) = (N : Int) := by rw [IntKind.wrap_i64]; omega
  obtain ⟨KQ, hKQ⟩ : ∃ K : Blk, K = ⟨37, 4, true, false, [.int .i64 0, .int .i64 0, .nils, vb]⟩ := ⟨_, rfl⟩
  obtain ⟨H3, hH3⟩ : ∃ H3, H3 = h2.set nx2 (some KQ) := ⟨_, rfl⟩
  have t3 : ∀ b, b < nx2 → H3.blk b = h2.blk b := fun b hb => by rw [hH3, Mem.blk_set_ne _ _ _ _ (by omega)]
  have kq : H3.blk nx2 = some KQ := by rw [hH3]; exact Mem.blk_set_same ..
  have ru3 : SRow 2 u H3 (nx2 + 1) (ivs L) := ru.keep (by omega) fun b hb => by rw [t3 b (by omega), kp2 b hb]
  have rv3 := rv.keep (h' := H3) (show nx2 ≤ nx2 + 1 by omega) (fun b _ hb => t3 b hb)
  have so : stA 4 (.ptr nx2 0) (.agg [.int .i64 0, .int .i64 0, .nils, vb]) (h2.set nx2 (some ⟨37, 4, true, false, [.int .i64 0, .int .i64 0, .nils, .nils]⟩)) (nx2 + 1) 0 = some ⟨.tup [], H3, nx2 + 1, bit 0 nx2, bit 0 nx2⟩ := by
    have one : vb.one = true := by rcases rv.form with ⟨rfl, _⟩ | ⟨_, _, _, rfl⟩ <;> rfl
    have := st_at (n := 4) (o := 0) (Mem.blk_set_same h2 nx2 (some ⟨37, 4, true, false, [.int .i64 0, .int .i64 0, .nils, .nils]⟩)) (show nx2 < nx2 + 1 by omega) (.agg [.int .i64 0, .int .i64 0, .nils, vb]) rfl (by simp only [AV.cells, List.all_cons, List.all_nil, one, Bool.and_true]; rfl) (Nat.le_refl _) 0
    rw [Mem.set_set] at this
    rw [hH3, hKQ]
    exact this
  rw [hKQ] at kq
  clear hKQ hH3 KQ
  have rvN : RV 1 N vb h2 0 nx2 (u8s (bys L)) := by rw [hN, ← bl]; exact rv
  rcases rvN.form with ⟨rfl, hz⟩ | ⟨b9, o9, c9, rfl⟩
  all_goals try subst hz
  all_goals
    try simp only [show ((0 : Nat) : Int) = 0 from rfl] at wN lb
    simp (maxSteps := 4000000) [↓step_none, ↓step_t, ↓step_f, ↓step_nt, ↓step_nf, ↓op_load, ↓op_store, ↓op_slice, ↓op_app, ↓P_skip, ↓P_exit, ↓P_ret, ↓P_seq, ↓P_cond, ↓P_blk, ↓P_reg, ↓P_draw, ↓P_nil, ↓P_cons, condP_t, condP_f, dum_ab, stepR, want_none, want_some, opRun, ev_t, ev_c, put_none, put_some, resAll, res_tmp, res_cell, oneOf, minI, maxI, min2A, max2A, mn2, mx2, mx3, rdBlk, wrBlk, newBlk, partA, abin, ibin, isShift, AV.cells, AV.one, lay, sub, fillA, lenA, toN, allApart, apartFrom, Nat.testBit, Mem.blk_set_same, Mem.blk_set_ne, Mem.set_set, bit_zero, bit_self, lowBits_or, lowBits_zero, len_setT, sl_same, sl_ne, len_frame, sl_frame,↓op_len, lenOp_slc, lenOp_nils, ↓Post.some, ↓Post_bind, ↓Post_ret, ↓Post_draw, ↓PostL_nil, ↓PostL_cons, Post_fail, ofOpt_some, ofOpt_none, eA_b, eA_i, eA_s, eA_nn, eA_np, eA_pn, eA_lnn, eA_lnp, eA_lpn, eA_i2, eA_i3, blt_dec, Nat.add_assoc, keeps_refl, keeps_at, keeps_up, new_one, and_pow, bit_hi, lowBits_pow, ble_dec, fr_refl, fr_at, fr_up, fr_p, dum_ab, reps, hlen, g5, g1, lu, x2, lb, wN, so]
    refine Post.loop (ft_round a u _ L h60 h8 nx2 H3 (nx2 + 1) (by omega) ru3 rv3 kq) L.length ⟨0, rfl, Nat.zero_le _, by simp [len_setT, sl_same, sl_ne, hlen], by simp [len_setT, sl_same, sl_ne, hlen, g5], by simp [len_setT, sl_same, sl_ne, hlen], by simp [len_setT, sl_same, sl_ne, hlen], by simp [len_setT, sl_same, sl_ne, hlen], by simp [len_setT, sl_same, sl_ne, hlen, g1], by simp [len_setT, sl_same, sl_ne, hlen], Nat.le_refl _, fun _ _ => rfl⟩ (by omega) ?_
    rintro e ts2 h4 nx4 tc4 wr4 ⟨rfl, hlen2, g8, g1', g7, n4, kp4⟩
    have rv4 := rv3.keep (h' := h4) n4 (fun b _ hb => kp4 b hb)
    obtain ⟨h5, tc5, x5, k5⟩ := fetch_no rv4 (by omega) (by first | exact N | exact 0) (by omega) 0 0 0 (by omega)
    try simp only [show ((0 : Nat) : Int) = 0 from rfl] at x5
    obtain ⟨H5, hH5⟩ : ∃ H5, H5 = h5.set (nx4 + 2) (some ⟨47, 2, true, false, [.int .i64 0, .int .i64 0]⟩) := ⟨_, rfl⟩
    have e5 : H5.set (nx4 + 2) (some ⟨47, 2, true, false, [.int .i64 0, .int .i64 0]⟩) = H5 := by rw [hH5]; exact Mem.set_set ..
    have b5 : H5.blk (nx4 + 2) = some ⟨47, 2, true, false, [.int .i64 0, .int .i64 0]⟩ := by rw [hH5]; exact Mem.blk_set_same ..
    have s5 := hH5.symm
    have f4 : h4.blk nx2 = _ := (kp4 nx2 (by omega)).trans kq
    have d0 := fun lg => ld_sub f4 (show nx2 < nx4 by omega) (o := 0) (n := 4) rfl lg
    have tk := takes_of k k1 (by omega)
    have tv := tkv_in k k2
    generalize tkv k = z at *
    have t1 : (0 : Int) ≤ z := tv.1
    have t2 : z ≤ 3 := tv.2
    obtain ⟨i, hi⟩ : ∃ i : Nat, k.tmod 22 = (i : Int) := ⟨(k.tmod 22).toNat, by have := Int.tmod_nonneg 22 k1; omega⟩
    have i22 : i < 22 := by have := Int.tmod_lt_of_pos k (show (0 : Int) < 22 by omega); omega
    obtain ⟨s, hs, hs2, _⟩ := nms_ne i i22
    obtain ⟨h6, tc6, x6, k6⟩ := name_yes i i22 s hs H5 (nx4 + 3) 0 (by omega)
    obtain ⟨h7, nx7, tc7, wr7, x7, n7, k7⟩ := (known_ans h6 (nx4 + 4)).at
    simp (maxSteps := 4000000) [↓op_load, ↓step_none, ↓step_t, ↓step_f, ↓step_nt, ↓step_nf, ↓P_skip, ↓P_exit, ↓P_ret, ↓P_seq, ↓P_cond, ↓P_blk, ↓P_reg, ↓P_draw, ↓P_nil, ↓P_cons, condP_t, condP_f, dum_ab, stepR, want_none, want_some, opRun, ev_t, ev_c, put_none, put_some, resAll, res_tmp, res_cell, oneOf, minI, maxI, min2A, max2A, mn2, mx2, mx3, rdBlk, wrBlk, newBlk, partA, abin, ibin, isShift, AV.cells, AV.one, lay, sub, fillA, lenA, toN, allApart, apartFrom, Nat.testBit, Mem.blk_set_same, Mem.blk_set_ne, Mem.set_set, bit_zero, bit_self, lowBits_or, lowBits_zero, len_setT, sl_same, sl_ne, len_frame, sl_frame,↓op_len, lenOp_slc, lenOp_nils, ↓Post.some, ↓Post_bind, ↓Post_ret, ↓Post_draw, ↓PostL_nil, ↓PostL_cons, Post_fail, ofOpt_some, ofOpt_none, eA_b, eA_i, eA_s, eA_nn, eA_np, eA_pn, eA_lnn, eA_lnp, eA_lpn, eA_i2, eA_i3, blt_dec, Nat.add_assoc, keeps_refl, keeps_at, keeps_up, new_one, and_pow, bit_hi, lowBits_pow, ble_dec, fr_refl, fr_at, fr_up, fr_p, dum_ab, reps, hlen2, g8, g1', g7, d0, lb, x5, s5, e5, b5, wi, tk, t1, t2, hi, x6, hs2, x7]
end Go.Proofs.YtlbjdkhpabpmiaaT
