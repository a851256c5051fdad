/- Frame: FrameStacks (printed by genst.py). -/
import Derived.Test.YtobcboiemibkkaaStk0
import Derived.Test.YtobcboiemibkkaaStk1
namespace Go.Proofs.YtobcboiemibkkaaT
open Go Go.Proofs.YtobcboiemibkkaaE Go.Proofs.YtobcboiemibkkaaB
set_option linter.unusedSimpArgs false
set_option linter.unusedVariables false
attribute [local congr] Post_cg PostL_cg condP_cg

set_option maxHeartbeats 16000000 in
theorem sk_round (v vb : AV) (l : List Int) (K : List Bool) (h0 : Mem) (base : Nat) (hr : IRow .u32 v h0 base l) (hk : SRow 1 vb h0 base (bl K)) (m : Nat) (ts : List AV) (h : Mem) (nx tc wr : Nat) (hi : SkI v vb h0 base m ts h nx tc wr) :
    Post (xC T 200 L6_0b ts h nx 0) fun v' h' nx' tc' wr' => Round (SkI v vb h0 base) (SkR h0 base) m v' h' nx' (tc ||| tc') (wr ||| wr') := by
  obtain ⟨j, p, w, F, b0, b1, x0, x1, rfl, hj, hlen, g0, g1, g5, g6, g7, hbn, s, kp⟩ := hi
  have lv := rv_op hr
  have lb := br_op hk
  by_cases c1 : j < l.length
  · by_cases c2 : j < K.length
    · by_cases c3 : j < 40
      · cases hK : K[j] with
        | false => exact sk_round0 v vb l K h0 base hr hk j p w F b0 b1 x0 x1 ts h nx tc wr c3 c1 c2 hlen g0 g1 g5 g6 g7 hbn s kp hK
        | true => exact sk_round1 v vb l K h0 base hr hk j p w F b0 b1 x0 x1 ts h nx tc wr c3 c1 c2 hlen g0 g1 g5 g6 g7 hbn s kp hK
      · have c1' : (j : Int) < (l.length : Int) := by omega
        have c2' : (j : Int) < (K.length : Int) := by omega
        have c3' : ¬ (j : Int) < 40 := by omega
        simp (maxSteps := 4000000) [↓step_none, ↓step_t, ↓step_f, ↓step_nt, ↓step_nf, ↓op_load, ↓op_store, ↓op_slice, ↓op_app, ↓P_skip, ↓P_exit, ↓P_ret, ↓P_seq, ↓P_cond, ↓P_blk, ↓P_reg, ↓P_draw, ↓P_nil, ↓P_cons, condP_t, condP_f, dum_ab, stepR, want_none, want_some, opRun, ev_t, ev_c, put_none, put_some, resAll, res_tmp, res_cell, oneOf, minI, maxI, min2A, max2A, mn2, mx2, mx3, rdBlk, wrBlk, newBlk, partA, abin, ibin, isShift, AV.cells, AV.one, lay, sub, fillA, lenA, toN, allApart, apartFrom, Nat.testBit, Mem.blk_set_same, Mem.blk_set_ne, Mem.set_set, bit_zero, bit_self, lowBits_or, lowBits_zero, len_setT, sl_same, sl_ne, len_frame, sl_frame,↓op_len, lenOp_slc, lenOp_nils, ↓Post.some, ↓Post_bind, ↓Post_ret, ↓Post_draw, ↓PostL_nil, ↓PostL_cons, Post_fail, ofOpt_some, ofOpt_none, eA_b, eA_i, eA_s, eA_nn, eA_np, eA_pn, eA_lnn, eA_lnp, eA_lpn, eA_i2, eA_i3, blt_dec, Nat.add_assoc, keeps_refl, keeps_at, keeps_up, new_one, and_pow, bit_hi, lowBits_pow, ble_dec, fr_refl, fr_at, fr_up, fr_p, dum_ab, L6_0b, hlen, g0, g1, g5, g6, g7, lv, lb, c1', c2', c3']
        exact Round.exit (R := SkR h0 base) ⟨rfl, p, w, F, b0, b1, x0, x1, by simp [len_setT, sl_same, sl_ne, hlen], by simp [len_setT, sl_same, sl_ne, hlen, g5], by simp [len_setT, sl_same, sl_ne, hlen, g6], hbn, s, kp⟩
    · have c1' : (j : Int) < (l.length : Int) := by omega
      have c2' : ¬ (j : Int) < (K.length : Int) := by omega
      simp (maxSteps := 4000000) [↓step_none, ↓step_t, ↓step_f, ↓step_nt, ↓step_nf, ↓op_load, ↓op_store, ↓op_slice, ↓op_app, ↓P_skip, ↓P_exit, ↓P_ret, ↓P_seq, ↓P_cond, ↓P_blk, ↓P_reg, ↓P_draw, ↓P_nil, ↓P_cons, condP_t, condP_f, dum_ab, stepR, want_none, want_some, opRun, ev_t, ev_c, put_none, put_some, resAll, res_tmp, res_cell, oneOf, minI, maxI, min2A, max2A, mn2, mx2, mx3, rdBlk, wrBlk, newBlk, partA, abin, ibin, isShift, AV.cells, AV.one, lay, sub, fillA, lenA, toN, allApart, apartFrom, Nat.testBit, Mem.blk_set_same, Mem.blk_set_ne, Mem.set_set, bit_zero, bit_self, lowBits_or, lowBits_zero, len_setT, sl_same, sl_ne, len_frame, sl_frame,↓op_len, lenOp_slc, lenOp_nils, ↓Post.some, ↓Post_bind, ↓Post_ret, ↓Post_draw, ↓PostL_nil, ↓PostL_cons, Post_fail, ofOpt_some, ofOpt_none, eA_b, eA_i, eA_s, eA_nn, eA_np, eA_pn, eA_lnn, eA_lnp, eA_lpn, eA_i2, eA_i3, blt_dec, Nat.add_assoc, keeps_refl, keeps_at, keeps_up, new_one, and_pow, bit_hi, lowBits_pow, ble_dec, fr_refl, fr_at, fr_up, fr_p, dum_ab, L6_0b, hlen, g0, g1, g5, g6, g7, lv, lb, c1', c2']
      exact Round.exit (R := SkR h0 base) ⟨rfl, p, w, F, b0, b1, x0, x1, by simp [len_setT, sl_same, sl_ne, hlen], by simp [len_setT, sl_same, sl_ne, hlen, g5], by simp [len_setT, sl_same, sl_ne, hlen, g6], hbn, s, kp⟩
  · have c1' : ¬ (j : Int) < (l.length : Int) := by omega
    simp (maxSteps := 4000000) [↓step_none, ↓step_t, ↓step_f, ↓step_nt, ↓step_nf, ↓op_load, ↓op_store, ↓op_slice, ↓op_app, ↓P_skip, ↓P_exit, ↓P_ret, ↓P_seq, ↓P_cond, ↓P_blk, ↓P_reg, ↓P_draw, ↓P_nil, ↓P_cons, condP_t, condP_f, dum_ab, stepR, want_none, want_some, opRun, ev_t, ev_c, put_none, put_some, resAll, res_tmp, res_cell, oneOf, minI, maxI, min2A, max2A, mn2, mx2, mx3, rdBlk, wrBlk, newBlk, partA, abin, ibin, isShift, AV.cells, AV.one, lay, sub, fillA, lenA, toN, allApart, apartFrom, Nat.testBit, Mem.blk_set_same, Mem.blk_set_ne, Mem.set_set, bit_zero, bit_self, lowBits_or, lowBits_zero, len_setT, sl_same, sl_ne, len_frame, sl_frame,↓op_len, lenOp_slc, lenOp_nils, ↓Post.some, ↓Post_bind, ↓Post_ret, ↓Post_draw, ↓PostL_nil, ↓PostL_cons, Post_fail, ofOpt_some, ofOpt_none, eA_b, eA_i, eA_s, eA_nn, eA_np, eA_pn, eA_lnn, eA_lnp, eA_lpn, eA_i2, eA_i3, blt_dec, Nat.add_assoc, keeps_refl, keeps_at, keeps_up, new_one, and_pow, bit_hi, lowBits_pow, ble_dec, fr_refl, fr_at, fr_up, fr_p, dum_ab, L6_0b, hlen, g0, g1, g5, g6, g7, lv, lb, c1']
    exact Round.exit (R := SkR h0 base) ⟨rfl, p, w, F, b0, b1, x0, x1, by simp [len_setT, sl_same, sl_ne, hlen], by simp [len_setT, sl_same, sl_ne, hlen, g5], by simp [len_setT, sl_same, sl_ne, hlen, g6], hbn, s, kp⟩
/-- What stands after the loop. -/
theorem sk_end {h : Mem} {nx base p w : Nat} {F : List Fr} {b0 b1 : List Int} {x0 x1 : AV} (s : ST h nx base p w F b0 b1 x0 x1) : ∃ (f0 f1 : Fr) (a7 b7 a8 b8 : AV) (h7 H7 h8 H8 h9 h10 : Mem) (nx7 nx8 nx9 nx10 tc7 wr7 tc8 wr8 tc1 tc2 tc9 wr9 tc10 wr10 : Nat) (v9 : AV),
    (∀ k, xF T (k + 80) 14 [.ptr p 0, .int .i64 0] h nx 0 = some ⟨.tup [fr8 f0 a7 b7, .bool true], h7, nx7, tc7, wr7⟩) ∧
    (stA 8 (.ptr nx7 0) (fr8 f0 a7 b7) (h7.set nx7 (some ⟨36, 8, true, false, fzero⟩)) (nx7 + 1) 0 = some ⟨.tup [], H7, nx7 + 1, bit 0 nx7, bit 0 nx7⟩) ∧
    (∀ k, xF T (k + 80) 14 [.ptr p 0, .int .i64 1] H7 (nx7 + 1) 0 = some ⟨.tup [fr8 f1 a8 b8, .bool true], h8, nx8, tc8, wr8⟩) ∧
    (stA 8 (.ptr nx8 0) (fr8 f1 a8 b8) (h8.set nx8 (some ⟨36, 8, true, false, fzero⟩)) (nx8 + 1) 0 = some ⟨.tup [], H8, nx8 + 1, bit 0 nx8, bit 0 nx8⟩) ∧
    (∀ lg, ldA none (.ptr nx7 7) H8 (nx8 + 1) lg = some ⟨b7, H8, nx8 + 1, bit lg nx7, 0⟩) ∧ (∀ lg, ldA none (.ptr w 0) H8 (nx8 + 1) lg = some ⟨x0, H8, nx8 + 1, bit lg w, 0⟩) ∧
    (∀ k, xF T (k + 1100) 18 [b7, x0] H8 (nx8 + 1) (nx8 + 1) = some ⟨.bool true, H8, nx8 + 1, tc1, 0⟩) ∧
    (∀ lg, ldA none (.ptr nx8 7) H8 (nx8 + 1) lg = some ⟨b8, H8, nx8 + 1, bit lg nx8, 0⟩) ∧ (∀ lg, ldA none (.ptr w 1) H8 (nx8 + 1) lg = some ⟨x1, H8, nx8 + 1, bit lg w, 0⟩) ∧
    (∀ k, xF T (k + 1100) 18 [b8, x1] H8 (nx8 + 1) (nx8 + 1) = some ⟨.bool true, H8, nx8 + 1, tc2, 0⟩) ∧
    (∀ k, xF T (k + 100) 19 [.ptr p 0] H8 (nx8 + 1) (nx8 + 1) = some ⟨v9, h9, nx9, tc9, wr9⟩) ∧ lenOp v9 = A.ret (.int .i64 (3 + b0.length + b1.length)) ∧ wr9 &&& 2 ^ w = 0 ∧ w < nx8 + 1 ∧ nx8 + 1 ≤ nx9 ∧
    (∀ lg, ldA none (.ptr w 0) h9 nx9 lg = some ⟨x0, h9, nx9, bit lg w, 0⟩) ∧ (∀ lg, ldA none (.ptr w 1) h9 nx9 lg = some ⟨x1, h9, nx9, bit lg w, 0⟩) ∧
    (∀ k, xF T (k + 1300) 9 [] h9 nx9 nx9 = some ⟨.bool true, h10, nx10, tc10, wr10⟩) ∧ lenOp x0 = A.ret (.int .i64 b0.length) ∧ lenOp x1 = A.ret (.int .i64 b1.length) ∧ b0.length ≤ 8 ∧ b1.length ≤ 8 := by
  have hF := s.ps.hF
  obtain ⟨len0, len1⟩ := s.len
  have wlt := s.wn.1
  obtain ⟨f0, hf0⟩ : ∃ f, f = F[0]'(by omega) := ⟨_, rfl⟩
  obtain ⟨f1, hf1⟩ : ∃ f, f = F[1]'(by omega) := ⟨_, rfl⟩
  obtain ⟨a7, b7, h7, nx7, tc7, wr7, x7, n7, ra7, rb7, k7, lo7, lp7, fa7, fb7⟩ := at_yes s.ps 0 (by decide) (by omega) (by decide) (show 0 < (B2 b0 b1).length by simp [B2, A0]) (by decide) (show A2[0].length ≤ 100 by decide) (show b0.length ≤ 100 by omega) 0 (by omega)
  rw [← hf0] at x7
  have rb7' : RV 1 b0.length b7 h7 0 nx7 (u32s b0) := rb7
  have q7 := s.ps.keeps n7 k7
  have e7 : FR h7 nx7 p F b7 b0 := s.ps.fr rb7' lp7
  obtain ⟨H7, hH7⟩ : ∃ H7, H7 = h7.set nx7 (some ⟨36, 8, true, false, (fr8 f0 a7 b7).cells⟩) := ⟨_, rfl⟩
  have s7 : stA 8 (.ptr nx7 0) (fr8 f0 a7 b7) (h7.set nx7 (some ⟨36, 8, true, false, fzero⟩)) (nx7 + 1) 0 = some ⟨.tup [], H7, nx7 + 1, bit 0 nx7, bit 0 nx7⟩ := by rw [hH7]; exact st_new h7 nx7 f0 fa7 fb7 0
  have q7a : PS H7 (nx7 + 1) p F U2 2 A2 (B2 b0 b1) := by rw [hH7]; exact q7.new _
  have kH7 : ∀ b, b < nx7 → H7.blk b = h7.blk b := fun b hb => by rw [hH7, Mem.blk_set_ne _ _ _ _ (by omega)]
  have e7a := e7.keeps (show nx7 ≤ nx7 + 1 by omega) kH7
  obtain ⟨a8, b8, h8, nx8, tc8, wr8, x8, n8, ra8, rb8, k8, lo8, lp8, fa8, fb8⟩ := at_yes q7a 1 (by decide) (by omega) (by decide) (show 1 < (B2 b0 b1).length by simp [B2, A0]) (by decide) (show A2[1].length ≤ 100 by decide) (show b1.length ≤ 100 by omega) 0 (by omega)
  rw [← hf1] at x8
  have rb8' : RV 1 b1.length b8 h8 0 nx8 (u32s b1) := rb8
  have q8 := q7a.keeps n8 k8
  have e7b := e7a.keeps n8 k8
  have e8 : FR h8 nx8 p F b8 b1 := q7a.fr rb8' lp8
  obtain ⟨H8, hH8⟩ : ∃ H8, H8 = h8.set nx8 (some ⟨36, 8, true, false, (fr8 f1 a8 b8).cells⟩) := ⟨_, rfl⟩
  have s8 : stA 8 (.ptr nx8 0) (fr8 f1 a8 b8) (h8.set nx8 (some ⟨36, 8, true, false, fzero⟩)) (nx8 + 1) 0 = some ⟨.tup [], H8, nx8 + 1, bit 0 nx8, bit 0 nx8⟩ := by rw [hH8]; exact st_new h8 nx8 f1 fa8 fb8 0
  have q8a : PS H8 (nx8 + 1) p F U2 2 A2 (B2 b0 b1) := by rw [hH8]; exact q8.new _
  have kH8 : ∀ b, b < nx8 → H8.blk b = h8.blk b := fun b hb => by rw [hH8, Mem.blk_set_ne _ _ _ _ (by omega)]
  have e7c := e7b.keeps (show nx8 ≤ nx8 + 1 by omega) kH8
  have e8c := e8.keeps (show nx8 ≤ nx8 + 1 by omega) kH8
  have kk : ∀ b, b < nx → H8.blk b = h.blk b := fun b hb => by rw [kH8 b (by omega), k8 b (by omega), kH7 b (by omega), k7 b hb]
  have wb8 : H8.blk w = some ⟨41, 2, true, false, [x0, x1]⟩ := (kk w wlt).trans s.wb
  have bl7 : H8.blk nx7 = some ⟨36, 8, true, false, (fr8 f0 a7 b7).cells⟩ := by rw [kH8 nx7 (by omega), k8 nx7 (by omega), hH7, Mem.blk_set_same]
  have bl8 : H8.blk nx8 = some ⟨36, 8, true, false, (fr8 f1 a8 b8).cells⟩ := by rw [hH8, Mem.blk_set_same]
  have c7 : ((fr8 f0 a7 b7).cells)[7]? = some b7 := by
    rcases fa7 with rfl | ⟨q, n, rfl⟩ <;> rcases fb7 with rfl | ⟨q2, n2, rfl⟩ <;> rfl
  have c8 : ((fr8 f1 a8 b8).cells)[7]? = some b8 := by
    rcases fa8 with rfl | ⟨q, n, rfl⟩ <;> rcases fb8 with rfl | ⟨q2, n2, rfl⟩ <;> rfl
  have r0' := s.r0.keep (show nx ≤ nx8 + 1 by omega) fun b hb => kk b (s.r0.lt hb)
  have r1' := s.r1.keep (show nx ≤ nx8 + 1 by omega) fun b hb => kk b (s.r1.lt hb)
  obtain ⟨tc1, y1⟩ := same_eq (show b0.length ≤ 1000 by omega) e7c.rv r0'.rv (nx8 + 1) (Nat.le_refl _)
  obtain ⟨tc2, y2⟩ := same_eq (show b1.length ≤ 1000 by omega) e8c.rv r1'.rv (nx8 + 1) (Nat.le_refl _)
  obtain ⟨v9, h9, nx9, tc9, wr9, x9, n9, rv9, k9, lo9, z9⟩ := roots_mk q8a (few_set few_0 0 _ (by decide)) (b2_few len0 len1) (nx8 + 1) (Nat.le_refl _)
  have l9 := rv9.lenOp
  have er : (rl F U2 A2 (B2 b0 b1) 24).length = 3 + b0.length + b1.length := by
    rw [rl2 fun i h1 h2 => rt_no (show i < U2.length from h2) (by
      unfold U2
      rw [List.getElem_set_ne (by omega), List.getElem_set_ne (by omega)]
      exact List.getElem_replicate ..)]
    rw [rt_yes (i := 0) (by decide) (by omega) (by decide) (show 0 < (B2 b0 b1).length by simp [B2, A0]) (by decide), rt_yes (i := 1) (by decide) (by omega) (by decide) (show 1 < (B2 b0 b1).length by simp [B2, A0]) (by decide)]
    show (F[0].self :: ([8] ++ b0) ++ F[1].self :: ([] ++ b1)).length = _
    simp only [List.length_append, List.length_cons, List.length_nil]
    omega
  rw [er] at l9
  have wb9 : h9.blk w = some ⟨41, 2, true, false, [x0, x1]⟩ := (k9 w (by omega)).trans wb8
  obtain ⟨h10, nx10, tc10, wr10, x10, n10, k10⟩ := known_at h9 nx9 nx9 (Nat.le_refl _)
  exact ⟨f0, f1, a7, b7, a8, b8, h7, H7, h8, H8, h9, h10, nx7, nx8, nx9, nx10, tc7, wr7, tc8, wr8, tc1, tc2, tc9, wr9, tc10, wr10, v9, fun k => by simpa using x7 k, s7, fun k => by simpa using x8 k, s8, fun lg => ld_at bl7 (by omega) c7 lg, fun lg => w_ld0 wb8 (by omega) lg, y1, fun lg => ld_at bl8 (by omega) c8 lg, fun lg => w_ld1 wb8 (by omega) lg, y2, x9, by rw [l9]; simp, z9 w (by omega), by omega, n9, fun lg => w_ld0 wb9 (by omega) lg, fun lg => w_ld1 wb9 (by omega) lg, x10, s.r0.lenOp, s.r1.lenOp, len0, len1⟩
end Go.Proofs.YtobcboiemibkkaaT
