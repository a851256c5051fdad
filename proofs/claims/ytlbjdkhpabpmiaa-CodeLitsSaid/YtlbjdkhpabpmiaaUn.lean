/- The tape: a program. -/
import Derived.Test.YtlbjdkhpabpmiaaU4
namespace Go.Proofs.YtlbjdkhpabpmiaaT
open Go Go.Proofs.YtlbjdkhpabpmiaaE Go.Proofs.YtlbjdkhpabpmiaaB
set_option linter.unusedSimpArgs false
set_option linter.unusedVariables false
attribute [local congr] Post_cg PostL_cg condP_cg

/-- The classes of a program of a tape. -/
structure KlsF (L : List C) : Prop where
  n3 : 3 ≤ L.length
  n5 : L.length ≤ 5
  c0 : ∀ h : 0 < L.length, L[0].name = ⟨⟨[66, 108, 111, 99, 107]⟩⟩ ∧ L[0].sup = -1 ∧ L[0].fld = 4
  c1 : ∀ h : 1 < L.length, L[1].name = ⟨⟨[65, 114, 114, 97, 121]⟩⟩ ∧ L[1].sup = -1 ∧ L[1].fld = 0
  cs : ∀ j (h : j < L.length), 2 ≤ j → L[j].name = nmc (j - 2) ∧ 0 ≤ L[j].fld ∧ L[j].fld ≤ 3 + 2 * (j - 2 : Nat) ∧ (L[j].sup = -1 ∨ (2 ≤ L[j].sup ∧ L[j].sup < j ∧ ∀ h : L[j].sup.toNat < L.length, L[L[j].sup.toNat].fld ≤ L[j].fld))
  b : ∀ c ∈ L, bindsV c.B 6 9 = true ∧ c.B.length ≤ 6
/-- A method that is read. -/
def MQ (h : Mem) (nx : Nat) (y : List AV) : Prop := ∃ (a : Int) (u : AV) (M : List (List AV)) (c : AV) (l : List Int), y = [.int .i64 a, .int .i64 2, u, c] ∧ RD 2 u h nx M ∧ (∀ z ∈ M, V2 z) ∧ M.length = 14 ∧ RD 1 c h nx (u8s l) ∧ Ok8 l ∧ l.length ≤ 100
structure UQ (lo : Nat) (nv cv mv ov : AV) (h : Mem) (nx : Nat) (L : List C) (M : List (List AV)) : Prop where
  nm : ∃ x, nv = .slc x 0 6 (some 6)
  cr : CR cv h nx L
  kl : KlsF L
  ms : RD 4 mv h nx M
  m9 : M.length = 9
  mq : ∀ y ∈ M, MQ h nx y
  one : ov.one = true
  lo : ∀ c ∈ L, ∀ x, bid c.bv = some x → lo ≤ x
def l0 : List C := [⟨⟨⟨[66, 108, 111, 99, 107]⟩⟩, -1, 4, .nils, []⟩, ⟨⟨⟨[65, 114, 114, 97, 121]⟩⟩, -1, 0, .nils, []⟩]
theorem kls_l0 : Kls l0 := ⟨by decide, fun _ => rfl, fun _ => rfl, fun j h hj => absurd h (by unfold l0; simp; omega)⟩
set_option maxHeartbeats 32000000 in
theorem unit_tp {p : Nat} {s : AV} {T0 : List Int} {h : Mem} {nx : Nat} (t : TP h nx p s T0) : TpC p s 3000 9 [.ptr p 0] h nx fun v h' nx' => ∃ nv cv mv ov L M, v = .agg [nv, cv, mv, ov, .int .i64 6] ∧ TP h' nx' p s T0 ∧ UQ nx nv cv mv ov h' nx' L M := by
  intro lg hlg
  have hp := t.hp
  rw [xF_fr T9]
  simp (maxSteps := 4000000) (maxDischargeDepth := 6) [↓step_none, ↓step_t, ↓step_f, ↓step_nt, ↓step_nf, ↓op_load, ↓op_store, ↓op_slice, ↓op_app, ↓op_islc, ↓P_skip, ↓P_exit, ↓P_ret, ↓P_seq, ↓P_cond, ↓P_blk, ↓P_reg, ↓P_draw, ↓P_nil, ↓P_cons, condP_t, condP_f, dum_ab, stepR, want_none, want_some, opRun, ev_t, ev_c, put_none, put_some, resAll, res_tmp, res_cell, oneOf, minI, maxI, min2A, max2A, mn2, mx2, mx3, rdBlk, wrBlk, newBlk, partA, abin, ibin, isShift, AV.cells, AV.one, lay, sub, fillA, lenA, toN, allApart, apartFrom, Nat.testBit, Mem.blk_set_same, Mem.blk_set_ne, Mem.set_set, bit_zero, bit_self, lowBits_or, lowBits_zero, len_setT, sl_same, sl_ne, len_frame, sl_frame,↓op_len, lenOp_slc, lenOp_nils, ↓Post.some, ↓Post_bind, ↓Post_ret, ↓Post_draw, ↓PostL_nil, ↓PostL_cons, Post_fail, ofOpt_some, ofOpt_none, eA_b, eA_i, eA_s, eA_nn, eA_np, eA_pn, eA_lnn, eA_lnp, eA_lpn, eA_i2, eA_i3, blt_dec, Nat.add_assoc, keeps_refl, keeps_at, keeps_up, new_one, and_pow, bit_hi, lowBits_pow, ble_dec, fr_refl, fr_at, fr_up, fr_p, dum_ab, reps, F9]
  obtain ⟨h1, hh1⟩ : ∃ h1, h1 = h.set nx (some ⟨27, 5, true, false, [.nils, .nils, .nils, .nils, .int .i64 0]⟩) := ⟨_, rfl⟩
  have k1 : ∀ q, q < nx → h1.blk q = h.blk q := fun q hq => by rw [hh1, Mem.blk_set_ne _ _ _ _ (by omega)]
  have B1 : h1.blk nx = some ⟨27, 5, true, false, [.nils, .nils, .nils, .nils, .int .i64 0]⟩ := by rw [hh1, Mem.blk_set_same]
  rw [← hh1]
  refine (nms_tp p s h1 (nx + 1)).post nx (by omega) (by omega) (by omega) ?_
  rintro _ h2 nx2 tc2 wr2 ⟨⟨rfl, k2⟩, rn⟩ n2 _ m2 _
  obtain ⟨H3, st3, b3, s3⟩ := st_var h2 nx2 (n := 5) (t := 27) (sz := 5) (g := false) [.nils, .nils, .nils, .nils, .int .i64 0] [.slc (nx + 1) 0 6 (some 6), .nils, .nils, .nils, .int .i64 6] rfl rfl rfl
  have u3 : Us p s T0 h nx nx nx2 H3 (nx2 + 1) (.slc (nx + 1) 0 6 (some 6)) .nils .nils .nils :=
    ⟨t.keeps (by omega) fun q hq => by rw [s3 q (by omega), k2 q (by omega), k1 q hq], b3, by rw [s3 nx (by omega), k2 nx (by omega)]; exact B1, Nat.le_refl _, by omega, by omega, hp, fun x hx => t.row.lt hx, fun q hq _ => by rw [s3 q (by omega), k2 q (by omega), k1 q hq]⟩
  simp (maxSteps := 4000000) (maxDischargeDepth := 6) [↓step_none, ↓step_t, ↓step_f, ↓step_nt, ↓step_nf, ↓op_load, ↓op_store, ↓op_slice, ↓op_app, ↓op_islc, ↓P_skip, ↓P_exit, ↓P_ret, ↓P_seq, ↓P_cond, ↓P_blk, ↓P_reg, ↓P_draw, ↓P_nil, ↓P_cons, condP_t, condP_f, dum_ab, stepR, want_none, want_some, opRun, ev_t, ev_c, put_none, put_some, resAll, res_tmp, res_cell, oneOf, minI, maxI, min2A, max2A, mn2, mx2, mx3, rdBlk, wrBlk, newBlk, partA, abin, ibin, isShift, AV.cells, AV.one, lay, sub, fillA, lenA, toN, allApart, apartFrom, Nat.testBit, Mem.blk_set_same, Mem.blk_set_ne, Mem.set_set, bit_zero, bit_self, lowBits_or, lowBits_zero, len_setT, sl_same, sl_ne, len_frame, sl_frame,↓op_len, lenOp_slc, lenOp_nils, ↓Post.some, ↓Post_bind, ↓Post_ret, ↓Post_draw, ↓PostL_nil, ↓PostL_cons, Post_fail, ofOpt_some, ofOpt_none, eA_b, eA_i, eA_s, eA_nn, eA_np, eA_pn, eA_lnn, eA_lnp, eA_lpn, eA_i2, eA_i3, blt_dec, Nat.add_assoc, keeps_refl, keeps_at, keeps_up, new_one, and_pow, bit_hi, lowBits_pow, ble_dec, fr_refl, fr_at, fr_up, fr_p, dum_ab, reps, st3]
  obtain ⟨H4, hH4⟩ : ∃ H4, H4 = H3.set (nx2 + 1) (some ⟨61, 4, true, false, (css l0).flatten⟩) := ⟨_, rfl⟩
  have hH4' := hH4.symm
  simp only [css, l0, List.map_cons, List.map_nil, C.cs, List.flatten_cons, List.flatten_nil, List.cons_append, List.nil_append, List.append_nil] at hH4'
  have u4 := u3.new (some ⟨61, 4, true, false, (css l0).flatten⟩)
  rw [← hH4] at u4
  have ow4 : OW 4 (.slc (nx2 + 1) 0 2 (some 2)) H4 (nx2 + 2) (css l0) := .inr (.inr (.inr ⟨nx2 + 1, 61, 4, false, rfl, by omega, by decide, by rw [hH4, Mem.blk_set_same]⟩))
  obtain ⟨H5, st5, u5, k5⟩ := u4.put 1 (.slc (nx2 + 1) 0 2 (some 2)) rfl rfl (.slc (nx + 1) 0 6 (some 6)) (.slc (nx2 + 1) 0 2 (some 2)) .nils .nils rfl (by decide)
  simp only [Nat.add_assoc, Nat.reduceAdd] at st5
  simp (maxSteps := 4000000) (maxDischargeDepth := 6) [↓step_none, ↓step_t, ↓step_f, ↓step_nt, ↓step_nf, ↓op_load, ↓op_store, ↓op_slice, ↓op_app, ↓op_islc, ↓P_skip, ↓P_exit, ↓P_ret, ↓P_seq, ↓P_cond, ↓P_blk, ↓P_reg, ↓P_draw, ↓P_nil, ↓P_cons, condP_t, condP_f, dum_ab, stepR, want_none, want_some, opRun, ev_t, ev_c, put_none, put_some, resAll, res_tmp, res_cell, oneOf, minI, maxI, min2A, max2A, mn2, mx2, mx3, rdBlk, wrBlk, newBlk, partA, abin, ibin, isShift, AV.cells, AV.one, lay, sub, fillA, lenA, toN, allApart, apartFrom, Nat.testBit, Mem.blk_set_same, Mem.blk_set_ne, Mem.set_set, bit_zero, bit_self, lowBits_or, lowBits_zero, len_setT, sl_same, sl_ne, len_frame, sl_frame,↓op_len, lenOp_slc, lenOp_nils, ↓Post.some, ↓Post_bind, ↓Post_ret, ↓Post_draw, ↓PostL_nil, ↓PostL_cons, Post_fail, ofOpt_some, ofOpt_none, eA_b, eA_i, eA_s, eA_nn, eA_np, eA_pn, eA_lnn, eA_lnp, eA_lpn, eA_i2, eA_i3, blt_dec, Nat.add_assoc, keeps_refl, keeps_at, keeps_up, new_one, and_pow, bit_hi, lowBits_pow, ble_dec, fr_refl, fr_at, fr_up, fr_p, dum_ab, reps, hH4', st5, L9_5]
  have ow5 : OW 4 (.slc (nx2 + 1) 0 2 (some 2)) H5 (nx2 + 2) (css l0) := ow4.keep (Nat.le_refl _) fun x hx => k5 x (by cases hx; omega)
  refine Post.loop (u5_round (p := p) (s := s) (T0 := T0) (h0 := h) (nx0 := nx) (b2 := nx) (b := nx2) (nv := .slc (nx + 1) 0 6 (some 6)) lg hlg) 3 ⟨0, _, l0, rfl, by omega, ?_, ?_, ?_, ?_, ?_, u5, ow5, (fun x hx => by cases hx; omega), rfl, kls_l0, Mk.z ..⟩ ?_ ?_
  any_goals simp (maxDischargeDepth := 6) [len_setT, sl_same, sl_ne, sl_frame, len_frame]
  rintro e ts6 h6 nx6 tc6 wr6 ⟨rfl, i, cv, L0, hi1, hi3, hlen6, a0, a2, a3, u6, ow6, own6, hL0, cl, mk6⟩
  have hb6 := u6.bl
  have hb6' := u6.b2b
  simp (maxSteps := 4000000) (maxDischargeDepth := 6) [↓step_none, ↓step_t, ↓step_f, ↓step_nt, ↓step_nf, ↓op_load, ↓op_store, ↓op_slice, ↓op_app, ↓op_islc, ↓P_skip, ↓P_exit, ↓P_ret, ↓P_seq, ↓P_cond, ↓P_blk, ↓P_reg, ↓P_draw, ↓P_nil, ↓P_cons, condP_t, condP_f, dum_ab, stepR, want_none, want_some, opRun, ev_t, ev_c, put_none, put_some, resAll, res_tmp, res_cell, oneOf, minI, maxI, min2A, max2A, mn2, mx2, mx3, rdBlk, wrBlk, newBlk, partA, abin, ibin, isShift, AV.cells, AV.one, lay, sub, fillA, lenA, toN, allApart, apartFrom, Nat.testBit, Mem.blk_set_same, Mem.blk_set_ne, Mem.set_set, bit_zero, bit_self, lowBits_or, lowBits_zero, len_setT, sl_same, sl_ne, len_frame, sl_frame,↓op_len, lenOp_slc, lenOp_nils, ↓Post.some, ↓Post_bind, ↓Post_ret, ↓Post_draw, ↓PostL_nil, ↓PostL_cons, Post_fail, ofOpt_some, ofOpt_none, eA_b, eA_i, eA_s, eA_nn, eA_np, eA_pn, eA_lnn, eA_lnp, eA_lpn, eA_i2, eA_i3, blt_dec, Nat.add_assoc, keeps_refl, keeps_at, keeps_up, new_one, and_pow, bit_hi, lowBits_pow, ble_dec, fr_refl, fr_at, fr_up, fr_p, dum_ab, reps, hlen6]
  refine (nms_tp p s h6 nx6).post nx (by omega) (by omega) (by omega) ?_
  rintro _ h7 nx7 tc7 wr7 ⟨⟨rfl, k7⟩, _⟩ n7 _ m7 _
  have u7 := u6.keeps n7 k7
  have ow7 := ow6.keeps n7 k7
  have lc := ow6.lenOp
  rw [css_len] at lc
  have hL3 : 3 ≤ L0.length := by omega
  have hL5 : L0.length ≤ 5 := by omega
  obtain ⟨cl0, hcl0⟩ : ∃ n, n = L0.length := ⟨_, rfl⟩
  rw [← hcl0] at lc
  simp (maxSteps := 4000000) (maxDischargeDepth := 6) [↓step_none, ↓step_t, ↓step_f, ↓step_nt, ↓step_nf, ↓op_load, ↓op_store, ↓op_slice, ↓op_app, ↓op_islc, ↓P_skip, ↓P_exit, ↓P_ret, ↓P_seq, ↓P_cond, ↓P_blk, ↓P_reg, ↓P_draw, ↓P_nil, ↓P_cons, condP_t, condP_f, dum_ab, stepR, want_none, want_some, opRun, ev_t, ev_c, put_none, put_some, resAll, res_tmp, res_cell, oneOf, minI, maxI, min2A, max2A, mn2, mx2, mx3, rdBlk, wrBlk, newBlk, partA, abin, ibin, isShift, AV.cells, AV.one, lay, sub, fillA, lenA, toN, allApart, apartFrom, Nat.testBit, Mem.blk_set_same, Mem.blk_set_ne, Mem.set_set, bit_zero, bit_self, lowBits_or, lowBits_zero, len_setT, sl_same, sl_ne, len_frame, sl_frame,↓op_len, lenOp_slc, lenOp_nils, ↓Post.some, ↓Post_bind, ↓Post_ret, ↓Post_draw, ↓PostL_nil, ↓PostL_cons, Post_fail, ofOpt_some, ofOpt_none, eA_b, eA_i, eA_s, eA_nn, eA_np, eA_pn, eA_lnn, eA_lnp, eA_lpn, eA_i2, eA_i3, blt_dec, Nat.add_assoc, keeps_refl, keeps_at, keeps_up, new_one, and_pow, bit_hi, lowBits_pow, ble_dec, fr_refl, fr_at, fr_up, fr_p, dum_ab, reps, hlen6, L9_4]
  refine Post.loop (u4_round (p := p) (s := s) (T0 := T0) (h0 := h) (nx0 := nx) (b2 := nx) (b := nx2) (nv := .slc (nx + 1) 0 6 (some 6)) (cv := cv) (cl := cl0) (by omega) (by omega) lc (hA := h7) (nxA := nx7) (by omega) lg hlg) 6 ⟨0, .nils, [], rfl, by omega, ?_, ?_, ?_, ?_, ?_, ?_, u7, OW.nil .., (fun x hx => by cases hx), rfl, (fun y hy => nomatch hy), Nat.le_refl _, fun q _ _ _ => rfl, Mk.z ..⟩ ?_ ?_
  any_goals simp [len_setT, sl_same, sl_ne, hlen6, a0, a2, a3]
  rintro e ts8 h8 nx8 tc8 wr8 ⟨rfl, mv, M, hlen8, c0, c2, c3, u8, om8, own8, hM8, mw8, n8, k8, mk8⟩
  have lm8 := fun lg => ld_at u8.blk u8.bl (o := 2) (v := mv) rfl lg
  have lc8 := fun lg => ld_at u8.blk u8.bl (o := 1) (v := cv) rfl lg
  simp (maxSteps := 4000000) (maxDischargeDepth := 6) [↓step_none, ↓step_t, ↓step_f, ↓step_nt, ↓step_nf, ↓op_load, ↓op_store, ↓op_slice, ↓op_app, ↓op_islc, ↓P_skip, ↓P_exit, ↓P_ret, ↓P_seq, ↓P_cond, ↓P_blk, ↓P_reg, ↓P_draw, ↓P_nil, ↓P_cons, condP_t, condP_f, dum_ab, stepR, want_none, want_some, opRun, ev_t, ev_c, put_none, put_some, resAll, res_tmp, res_cell, oneOf, minI, maxI, min2A, max2A, mn2, mx2, mx3, rdBlk, wrBlk, newBlk, partA, abin, ibin, isShift, AV.cells, AV.one, lay, sub, fillA, lenA, toN, allApart, apartFrom, Nat.testBit, Mem.blk_set_same, Mem.blk_set_ne, Mem.set_set, bit_zero, bit_self, lowBits_or, lowBits_zero, len_setT, sl_same, sl_ne, len_frame, sl_frame,↓op_len, lenOp_slc, lenOp_nils, ↓Post.some, ↓Post_bind, ↓Post_ret, ↓Post_draw, ↓PostL_nil, ↓PostL_cons, Post_fail, ofOpt_some, ofOpt_none, eA_b, eA_i, eA_s, eA_nn, eA_np, eA_pn, eA_lnn, eA_lnp, eA_lpn, eA_i2, eA_i3, blt_dec, Nat.add_assoc, keeps_refl, keeps_at, keeps_up, new_one, and_pow, bit_hi, lowBits_pow, ble_dec, fr_refl, fr_at, fr_up, fr_p, dum_ab, reps, hlen8, c0, c2, c3, lm8, lc8, lc]
  refine (method_tp u8.tp 0 (cl := cl0) (by omega) (by omega) false).post nx8 (Nat.le_refl _) (by omega) (by omega) ?_
  rintro _ h9 nx9 tc9 wr9 ⟨y1, rfl, v1, t9⟩ n9 k9 m9 i9
  have u9 := u8.call t9 n9 k9
  have lc9 := fun lg => ld_at u9.blk u9.bl (o := 1) (v := cv) rfl lg
  simp (maxSteps := 4000000) (maxDischargeDepth := 6) [↓step_none, ↓step_t, ↓step_f, ↓step_nt, ↓step_nf, ↓op_load, ↓op_store, ↓op_slice, ↓op_app, ↓op_islc, ↓P_skip, ↓P_exit, ↓P_ret, ↓P_seq, ↓P_cond, ↓P_blk, ↓P_reg, ↓P_draw, ↓P_nil, ↓P_cons, condP_t, condP_f, dum_ab, stepR, want_none, want_some, opRun, ev_t, ev_c, put_none, put_some, resAll, res_tmp, res_cell, oneOf, minI, maxI, min2A, max2A, mn2, mx2, mx3, rdBlk, wrBlk, newBlk, partA, abin, ibin, isShift, AV.cells, AV.one, lay, sub, fillA, lenA, toN, allApart, apartFrom, Nat.testBit, Mem.blk_set_same, Mem.blk_set_ne, Mem.set_set, bit_zero, bit_self, lowBits_or, lowBits_zero, len_setT, sl_same, sl_ne, len_frame, sl_frame,↓op_len, lenOp_slc, lenOp_nils, ↓Post.some, ↓Post_bind, ↓Post_ret, ↓Post_draw, ↓PostL_nil, ↓PostL_cons, Post_fail, ofOpt_some, ofOpt_none, eA_b, eA_i, eA_s, eA_nn, eA_np, eA_pn, eA_lnn, eA_lnp, eA_lpn, eA_i2, eA_i3, blt_dec, Nat.add_assoc, keeps_refl, keeps_at, keeps_up, new_one, and_pow, bit_hi, lowBits_pow, ble_dec, fr_refl, fr_at, fr_up, fr_p, dum_ab, reps, hlen8, c0, c2, c3, lc9, lc]
  refine (method_tp u9.tp 0 (cl := cl0) (by omega) (by omega) true).post nx9 (Nat.le_refl _) (by omega) (by omega) ?_
  rintro _ hX nxX tcX wrX ⟨y2, rfl, v2, tX⟩ nX kX mX iX
  have uX := u9.call tX nX kX
  have lcX := fun lg => ld_at uX.blk uX.bl (o := 1) (v := cv) rfl lg
  simp (maxSteps := 4000000) (maxDischargeDepth := 6) [↓step_none, ↓step_t, ↓step_f, ↓step_nt, ↓step_nf, ↓op_load, ↓op_store, ↓op_slice, ↓op_app, ↓op_islc, ↓P_skip, ↓P_exit, ↓P_ret, ↓P_seq, ↓P_cond, ↓P_blk, ↓P_reg, ↓P_draw, ↓P_nil, ↓P_cons, condP_t, condP_f, dum_ab, stepR, want_none, want_some, opRun, ev_t, ev_c, put_none, put_some, resAll, res_tmp, res_cell, oneOf, minI, maxI, min2A, max2A, mn2, mx2, mx3, rdBlk, wrBlk, newBlk, partA, abin, ibin, isShift, AV.cells, AV.one, lay, sub, fillA, lenA, toN, allApart, apartFrom, Nat.testBit, Mem.blk_set_same, Mem.blk_set_ne, Mem.set_set, bit_zero, bit_self, lowBits_or, lowBits_zero, len_setT, sl_same, sl_ne, len_frame, sl_frame,↓op_len, lenOp_slc, lenOp_nils, ↓Post.some, ↓Post_bind, ↓Post_ret, ↓Post_draw, ↓PostL_nil, ↓PostL_cons, Post_fail, ofOpt_some, ofOpt_none, eA_b, eA_i, eA_s, eA_nn, eA_np, eA_pn, eA_lnn, eA_lnp, eA_lpn, eA_i2, eA_i3, blt_dec, Nat.add_assoc, keeps_refl, keeps_at, keeps_up, new_one, and_pow, bit_hi, lowBits_pow, ble_dec, fr_refl, fr_at, fr_up, fr_p, dum_ab, reps, hlen8, c0, c2, c3, lcX, lc]
  refine (method_tp uX.tp 1 (cl := cl0) (by omega) (by omega) true).post nxX (Nat.le_refl _) (by omega) (by omega) ?_
  rintro _ hY nxY tcY wrY ⟨y3, rfl, v3, tY⟩ nY kY mY iY
  have uY := uX.call tY nY kY
  have hbb8 := u8.bl
  have mlt : ∀ x, bid mv = some x → x < nx8 := fun x hx => om8.lt hx
  have w1 : MW nx7 mv hY nxY y1 := (v1.mw (lo' := nx7) (mv := mv) n8 fun x hx => mlt x hx).keep (by omega) fun x h1 h2 h3 => by rw [kY x (by omega) (by omega), kX x (by omega) (by omega)]
  have w2 : MW nx7 mv hY nxY y2 := (v2.mw (lo' := nx7) (mv := mv) (by omega) fun x hx => by have := mlt x hx; omega).keep (by omega) fun x h1 h2 h3 => by rw [kY x (by omega) (by omega)]
  have w3 : MW nx7 mv hY nxY y3 := v3.mw (lo' := nx7) (mv := mv) (by omega) fun x hx => by have := mlt x hx; omega
  have wo : ∀ y ∈ M, MW nx7 mv hY nxY y := fun y hy => (mw8 y hy).keep (by omega) fun x h1 h2 h3 => by rw [kY x (by omega) (by omega), kX x (by omega) (by omega), k9 x (by omega) (by omega)]
  have wall : ∀ y ∈ M ++ [y1, y2, y3], MW nx7 mv hY nxY y := fun y hy => by
    rcases List.mem_append.1 hy with hy | hy
    · exact wo y hy
    · simp only [List.mem_cons, List.not_mem_nil, or_false] at hy
      rcases hy with rfl | rfl | rfl
      · exact w1
      · exact w2
      · exact w3
  have sh1 := v1.shape
  have sh2 := v2.shape
  have sh3 := v3.shape
  have omY : OW 4 mv hY nxY M := om8.keep (by omega) fun x hx => by
    have := mlt x hx
    have := own8 x hx
    rw [kY x (by omega) (by omega), kX x (by omega) (by omega), k9 x (by omega) (by omega)]
  obtain ⟨p1, p2, p3, p4, rfl⟩ : ∃ a b c d, y1 = [a, b, c, d] := by
    obtain ⟨a, u, M, c, l, rfl, _⟩ := v1; exact ⟨_, _, _, _, rfl⟩
  obtain ⟨q1, q2, q3, q4, rfl⟩ : ∃ a b c d, y2 = [a, b, c, d] := by
    obtain ⟨a, u, M, c, l, rfl, _⟩ := v2; exact ⟨_, _, _, _, rfl⟩
  obtain ⟨r1, r2, r3, r4, rfl⟩ : ∃ a b c d, y3 = [a, b, c, d] := by
    obtain ⟨a, u, M, c, l, rfl, _⟩ := v3; exact ⟨_, _, _, _, rfl⟩
  simp (maxSteps := 4000000) (maxDischargeDepth := 6) [↓step_none, ↓step_t, ↓step_f, ↓step_nt, ↓step_nf, ↓op_load, ↓op_store, ↓op_slice, ↓op_app, ↓op_islc, ↓P_skip, ↓P_exit, ↓P_ret, ↓P_seq, ↓P_cond, ↓P_blk, ↓P_reg, ↓P_draw, ↓P_nil, ↓P_cons, condP_t, condP_f, dum_ab, stepR, want_none, want_some, opRun, ev_t, ev_c, put_none, put_some, resAll, res_tmp, res_cell, oneOf, minI, maxI, min2A, max2A, mn2, mx2, mx3, rdBlk, wrBlk, newBlk, partA, abin, ibin, isShift, AV.cells, AV.one, lay, sub, fillA, lenA, toN, allApart, apartFrom, Nat.testBit, Mem.blk_set_same, Mem.blk_set_ne, Mem.set_set, bit_zero, bit_self, lowBits_or, lowBits_zero, len_setT, sl_same, sl_ne, len_frame, sl_frame,↓op_len, lenOp_slc, lenOp_nils, ↓Post.some, ↓Post_bind, ↓Post_ret, ↓Post_draw, ↓PostL_nil, ↓PostL_cons, Post_fail, ofOpt_some, ofOpt_none, eA_b, eA_i, eA_s, eA_nn, eA_np, eA_pn, eA_lnn, eA_lnp, eA_lpn, eA_i2, eA_i3, blt_dec, Nat.add_assoc, keeps_refl, keeps_at, keeps_up, new_one, and_pow, bit_hi, lowBits_pow, ble_dec, fr_refl, fr_at, fr_up, fr_p, dum_ab, reps, hlen8, c0, c2, c3]
  have omZ : OW 4 mv (hY.set nxY (some ⟨37, 4, true, false, [p1, p2, p3, p4, q1, q2, q3, q4, r1, r2, r3, r4]⟩)) (nxY + 1) M := omY.keep (by omega) fun x hx => Mem.blk_set_ne _ _ _ _ (by have := omY.lt hx; omega)
  have gx : RD 4 (.slc nxY 0 3 (some 3)) (hY.set nxY (some ⟨37, 4, true, false, [p1, p2, p3, p4, q1, q2, q3, q4, r1, r2, r3, r4]⟩)) (nxY + 1) [[p1, p2, p3, p4], [q1, q2, q3, q4], [r1, r2, r3, r4]] := RD.lit (t := 37) (z := 4) (o := true) (g := false) rfl (by simp) (by omega) (by rw [Mem.blk_set_same]; rfl)
  obtain ⟨mv', hT, nxT, tcT, wrT, eT, nT, owT, kT, dT, tT, wT⟩ := OW.cat (sz := 4) (by decide) 37 64 omZ gx (fun k hk => fits_few (by simp at hk; omega) (by omega)) (by
    have a1 := sh1.2; have a2 := sh2.2; have a3 := sh3.2
    simp only [List.all_cons, List.all_nil, Bool.and_eq_true, Bool.and_true] at a1 a2 a3 ⊢
    simp [a1, a2, a3]) (nxY + 1)
  refine Post.of eT ?_
  have kT' : ∀ q, q < nxY → bid mv ≠ some q → hT.blk q = hY.blk q := fun q hq h => (kT q (by omega) h).trans (Mem.blk_set_ne _ _ _ _ (by omega))
  have uT : Us p s T0 h nx nx nx2 hT nxT (.slc (nx + 1) 0 6 (some 6)) cv mv .nils := uY.other (by omega) (fun q => bid mv = some q) (fun q hq hx => kT' q hq hx) (fun q hq => by have := own8 q hq; omega)
  have ownT : ∀ x, bid mv' = some x → nx7 ≤ x := fun x hx => by
    rcases dT x hx with e | e
    · exact own8 x e
    · omega
  obtain ⟨HF, stF, uF, kF⟩ := uT.put 2 mv' owT.one.1 owT.one.2 (.slc (nx + 1) 0 6 (some 6)) cv mv' .nils rfl (by decide)
  simp (maxSteps := 4000000) (maxDischargeDepth := 6) [↓step_none, ↓step_t, ↓step_f, ↓step_nt, ↓step_nf, ↓op_load, ↓op_store, ↓op_slice, ↓op_app, ↓op_islc, ↓P_skip, ↓P_exit, ↓P_ret, ↓P_seq, ↓P_cond, ↓P_blk, ↓P_reg, ↓P_draw, ↓P_nil, ↓P_cons, condP_t, condP_f, dum_ab, stepR, want_none, want_some, opRun, ev_t, ev_c, put_none, put_some, resAll, res_tmp, res_cell, oneOf, minI, maxI, min2A, max2A, mn2, mx2, mx3, rdBlk, wrBlk, newBlk, partA, abin, ibin, isShift, AV.cells, AV.one, lay, sub, fillA, lenA, toN, allApart, apartFrom, Nat.testBit, Mem.blk_set_same, Mem.blk_set_ne, Mem.set_set, bit_zero, bit_self, lowBits_or, lowBits_zero, len_setT, sl_same, sl_ne, len_frame, sl_frame,↓op_len, lenOp_slc, lenOp_nils, ↓Post.some, ↓Post_bind, ↓Post_ret, ↓Post_draw, ↓PostL_nil, ↓PostL_cons, Post_fail, ofOpt_some, ofOpt_none, eA_b, eA_i, eA_s, eA_nn, eA_np, eA_pn, eA_lnn, eA_lnp, eA_lpn, eA_i2, eA_i3, blt_dec, Nat.add_assoc, keeps_refl, keeps_at, keeps_up, new_one, and_pow, bit_hi, lowBits_pow, ble_dec, fr_refl, fr_at, fr_up, fr_p, dum_ab, reps, hlen8, c0, c2, c3, stF, L9_3]
  have cm : ∀ {a b : Nat}, b &&& a = 0 → a &&& b = 0 := fun h => by rw [Nat.and_comm]; exact h
  have z9 := fun lg' => ap3 (lg := lg') (m9.w nx2 (by omega) (by omega)) (new_lo (m := nx9) (n := nx8) (by omega))
  have zX := fun lg' => ap3 (lg := lg') (mX.w nx2 (by omega) (by omega)) (new_lo (m := nxX) (n := nx9) (by omega))
  have zY := fun lg' => ap3 (lg := lg') (mY.w nx2 (by omega) (by omega)) (new_lo (m := nxY) (n := nxX) (by omega))
  refine ⟨⟨z9 _, cm (z9 _), zX _, ⟨cm (z9 _), cm (zX _)⟩, zY _, bit_and (by omega)⟩, ?_⟩
  obtain ⟨cb, hcb⟩ : ∃ cb, bid cv = some cb := by
    rcases ow6.form with ⟨_, e⟩ | ⟨b, c, e⟩
    · have : L0.length = 0 := by have := congrArg List.length e; rwa [css_len] at this
      omega
    · exact ⟨b, by rw [e]; rfl⟩
  have hcb6 := own6 cb hcb
  have hcbl := ow6.lt hcb
  have owF : OW 4 cv HF nxT (css L0) := ow7.keep (by omega) fun x hx => by
    rw [hcb] at hx; cases hx
    rw [kF cb hcb6.2.1, kT' cb (by omega) (fun e => by have := own8 cb e; omega), kY cb (by omega) (by omega), kX cb (by omega) (by omega), k9 cb (by omega) (by omega), k8 cb (by omega) (by omega) hcb6.2.1]
  have zb : ∀ x ∈ L0, x.bv = .nils ∧ x.B = [] := fun x hx => by
    obtain ⟨j, hj, rfl⟩ := List.mem_iff_getElem.1 hx
    by_cases j0 : j = 0
    · subst j0; rw [cl.c0 hj]; exact ⟨rfl, rfl⟩
    · by_cases j1 : j = 1
      · subst j1; rw [cl.c1 hj]; exact ⟨rfl, rfl⟩
      · have := cl.cs j hj (by omega)
        exact ⟨this.2.1, this.2.2.1⟩
  have kb0 : KlB L0 L0 HF nxT 1 := ⟨rfl, fun i _ _ => ⟨rfl, rfl, rfl, fun _ => rfl⟩, fun x hx => by
    rw [(zb x hx).1, (zb x hx).2]
    exact ⟨RD.nil .., by decide +kernel, by decide⟩⟩
  refine Post.loop (u3_round (p := p) (s := s) (T0 := T0) (h0 := h) (nx0 := nx) (b2 := nx) (b := nx2) (nv := .slc (nx + 1) 0 6 (some 6)) (cv := cv) (mv := mv') (L0 := L0) (cb := cb) hL5 hcb hcb6.1 hcb6.2.1 hcb6.2.2 (fun i h _ => zb _ (List.getElem_mem h)) (hA := HF) (nxA := nxT) (by omega) (by omega) lg hlg) (L0.length - 1) ⟨1, L0, rfl, by omega, by omega, ?_, ?_, ?_, ?_, ?_, uF, owF, kb0, (fun x hx q hq => by rw [(zb x hx).1] at hq; cases hq), Nat.le_refl _, fun q _ _ _ => rfl, Mk.z ..⟩ ?_ ?_
  any_goals simp [len_setT, sl_same, sl_ne, hlen8, c0, c2, c3]
  · omega
  rintro e tsA hA nxA tcA wrA ⟨rfl, L, hlenA, d0, d2, d3, uA, owA, kbA, boA, nA, kA, mkA⟩
  simp (maxSteps := 4000000) (maxDischargeDepth := 6) [↓step_none, ↓step_t, ↓step_f, ↓step_nt, ↓step_nf, ↓op_load, ↓op_store, ↓op_slice, ↓op_app, ↓op_islc, ↓P_skip, ↓P_exit, ↓P_ret, ↓P_seq, ↓P_cond, ↓P_blk, ↓P_reg, ↓P_draw, ↓P_nil, ↓P_cons, condP_t, condP_f, dum_ab, stepR, want_none, want_some, opRun, ev_t, ev_c, put_none, put_some, resAll, res_tmp, res_cell, oneOf, minI, maxI, min2A, max2A, mn2, mx2, mx3, rdBlk, wrBlk, newBlk, partA, abin, ibin, isShift, AV.cells, AV.one, lay, sub, fillA, lenA, toN, allApart, apartFrom, Nat.testBit, Mem.blk_set_same, Mem.blk_set_ne, Mem.set_set, bit_zero, bit_self, lowBits_or, lowBits_zero, len_setT, sl_same, sl_ne, len_frame, sl_frame,↓op_len, lenOp_slc, lenOp_nils, ↓Post.some, ↓Post_bind, ↓Post_ret, ↓Post_draw, ↓PostL_nil, ↓PostL_cons, Post_fail, ofOpt_some, ofOpt_none, eA_b, eA_i, eA_s, eA_nn, eA_np, eA_pn, eA_lnn, eA_lnp, eA_lpn, eA_i2, eA_i3, blt_dec, Nat.add_assoc, keeps_refl, keeps_at, keeps_up, new_one, and_pow, bit_hi, lowBits_pow, ble_dec, fr_refl, fr_at, fr_up, fr_p, dum_ab, reps, hlenA, d0, d2, d3]
  refine (next_fx uA.tp 5 (by decide) (by decide)).post (by omega) (by omega) ?_
  rintro _ hB nxB tcB wrB ⟨rB, rfl, hrB, tB⟩ nB kB wB xB
  have uB := uA.call tB nB kB
  have wn : IntKind.i64.wrap (1 + (rB : Int)) = ((rB + 1 : Nat) : Int) := by rw [IntKind.wrap_i64]; omega
  obtain ⟨nn, hnn⟩ : ∃ nn, nn = rB + 1 := ⟨_, rfl⟩
  rw [← hnn] at wn
  simp (maxSteps := 4000000) (maxDischargeDepth := 6) [↓step_none, ↓step_t, ↓step_f, ↓step_nt, ↓step_nf, ↓op_load, ↓op_store, ↓op_slice, ↓op_app, ↓op_islc, ↓P_skip, ↓P_exit, ↓P_ret, ↓P_seq, ↓P_cond, ↓P_blk, ↓P_reg, ↓P_draw, ↓P_nil, ↓P_cons, condP_t, condP_f, dum_ab, stepR, want_none, want_some, opRun, ev_t, ev_c, put_none, put_some, resAll, res_tmp, res_cell, oneOf, minI, maxI, min2A, max2A, mn2, mx2, mx3, rdBlk, wrBlk, newBlk, partA, abin, ibin, isShift, AV.cells, AV.one, lay, sub, fillA, lenA, toN, allApart, apartFrom, Nat.testBit, Mem.blk_set_same, Mem.blk_set_ne, Mem.set_set, bit_zero, bit_self, lowBits_or, lowBits_zero, len_setT, sl_same, sl_ne, len_frame, sl_frame,↓op_len, lenOp_slc, lenOp_nils, ↓Post.some, ↓Post_bind, ↓Post_ret, ↓Post_draw, ↓PostL_nil, ↓PostL_cons, Post_fail, ofOpt_some, ofOpt_none, eA_b, eA_i, eA_s, eA_nn, eA_np, eA_pn, eA_lnn, eA_lnp, eA_lpn, eA_i2, eA_i3, blt_dec, Nat.add_assoc, keeps_refl, keeps_at, keeps_up, new_one, and_pow, bit_hi, lowBits_pow, ble_dec, fr_refl, fr_at, fr_up, fr_p, dum_ab, reps, hlenA, d0, d2, d3, wn, L9_1]
  have owB : OW 4 cv hB nxB (css L) := owA.keep nB fun x hx => kB x (owA.lt hx) (by rw [hcb] at hx; cases hx; omega)
  have hLL := kbA.n
  have fb : ∀ c ∈ L, 0 ≤ c.fld ∧ c.fld ≤ 40 := fun c hc => by
    obtain ⟨j, hj, rfl⟩ := List.mem_iff_getElem.1 hc
    have e := kbA.e j hj (by omega)
    rw [e.2.2.1]
    by_cases j0 : j = 0
    · subst j0; rw [cl.c0 (by omega)]; decide
    · by_cases j1 : j = 1
      · subst j1; rw [cl.c1 (by omega)]; decide
      · have := cl.cs j (by omega) (by omega)
        have := this.2.2.2.1
        have := (cl.cs j (by omega) (by omega)).2.2.2.2.1
        omega
  refine Post.loop (ob_round (p := p) (s := s) (T0 := T0) (h0 := h) (nx0 := nx) (b2 := nx) (b := nx2) (nv := .slc (nx + 1) 0 6 (some 6)) (cv := cv) (mv := mv') (n := nn) (by omega) (by omega) (hA := hB) (nxA := nxB) (by omega) (L := L) owB (fun x hx => by rw [hcb] at hx; cases hx; exact ⟨by omega, hcb6.2.1⟩) (fun x hx => by rw [hcb] at hx; cases hx; exact hcb6.1) (by omega) (by omega) fb lg hlg) (nn - 0) ⟨0, .nils, [], rfl, by omega, ?_, ?_, ?_, ?_, ?_, ?_, uB, OW.nil .., (fun x hx => by cases hx), rfl, Nat.le_refl _, fun q _ _ _ => rfl, Mk.z ..⟩ ?_ ?_
  any_goals simp [len_setT, sl_same, sl_ne, hlenA, d0, d2, d3]
  · omega
  rintro e tsC hC nxC tcC wrC ⟨rfl, ov, hlenC, f0, f2, f3, oo, uC, nC, kC, mkC⟩
  have lE := fun lg => ld_sub (n := 5) (o := 0) uC.blk uC.bl (vs := [.slc (nx + 1) 0 6 (some 6), cv, mv', ov, .int .i64 6]) rfl lg
  have sE := fun lg => st_at uC.blk2 (show nx < nxC by have := uC.bl; omega) (n := 5) (o := 0) (.agg [.slc (nx + 1) 0 6 (some 6), cv, mv', ov, .int .i64 6]) rfl (one5 rfl owA.one.2 owT.one.2 oo) (by decide) lg
  have eE : lay [AV.nils, AV.nils, AV.nils, AV.nils, AV.int .i64 0] 0 [.slc (nx + 1) 0 6 (some 6), cv, mv', ov, .int .i64 6] = [AV.slc (nx + 1) 0 6 (some 6), cv, mv', ov, .int .i64 6] := rfl
  simp only [AV.cells, eE] at sE
  have hnC : nx < nxC := by have := uC.bl; omega
  simp (maxSteps := 4000000) (maxDischargeDepth := 6) [↓step_none, ↓step_t, ↓step_f, ↓step_nt, ↓step_nf, ↓op_load, ↓op_store, ↓op_slice, ↓op_app, ↓op_islc, ↓P_skip, ↓P_exit, ↓P_ret, ↓P_seq, ↓P_cond, ↓P_blk, ↓P_reg, ↓P_draw, ↓P_nil, ↓P_cons, condP_t, condP_f, dum_ab, stepR, want_none, want_some, opRun, ev_t, ev_c, put_none, put_some, resAll, res_tmp, res_cell, oneOf, minI, maxI, min2A, max2A, mn2, mx2, mx3, rdBlk, wrBlk, newBlk, partA, abin, ibin, isShift, AV.cells, AV.one, lay, sub, fillA, lenA, toN, allApart, apartFrom, Nat.testBit, Mem.blk_set_same, Mem.blk_set_ne, Mem.set_set, bit_zero, bit_self, lowBits_or, lowBits_zero, len_setT, sl_same, sl_ne, len_frame, sl_frame,↓op_len, lenOp_slc, lenOp_nils, ↓Post.some, ↓Post_bind, ↓Post_ret, ↓Post_draw, ↓PostL_nil, ↓PostL_cons, Post_fail, ofOpt_some, ofOpt_none, eA_b, eA_i, eA_s, eA_nn, eA_np, eA_pn, eA_lnn, eA_lnp, eA_lpn, eA_i2, eA_i3, blt_dec, Nat.add_assoc, keeps_refl, keeps_at, keeps_up, new_one, and_pow, bit_hi, lowBits_pow, ble_dec, fr_refl, fr_at, fr_up, fr_p, dum_ab, reps, hlenC, f0, f2, f3, lE, sE, hnC]
  obtain ⟨HE, hHE⟩ : ∃ HE, HE = hC.set nx (some ⟨27, 5, true, false, [.slc (nx + 1) 0 6 (some 6), cv, mv', ov, .int .i64 6]⟩) := ⟨_, rfl⟩
  rw [← hHE]
  have kE : ∀ q, ¬ q = nx → HE.blk q = hC.blk q := fun q hq => by rw [hHE, Mem.blk_set_ne _ _ _ _ hq]
  have kAll : ∀ q, q < nxA → ¬ q = p → ¬ q = nx2 → ¬ q = nx → HE.blk q = hA.blk q := fun q hq h1 h2 h3 => by rw [kE q h3, kC q (by omega) h1 h2, kB q hq h1]
  have kTE : ∀ q, nx7 ≤ q → q < nxT → HE.blk q = hT.blk q := fun q h1 h2 => by rw [kAll q (by omega) (by omega) (by omega) (by omega), kA q h2 (by omega) (by omega), kF q (by omega)]
  have tE : TP HE nxC p s T0 := uC.tp.keep (Nat.le_refl _) fun q hq hx => kE q (by rcases hx with rfl | hx; omega; have := t.row.lt hx; omega)
  have lto : ∀ q, q < nx → ¬ q = p → HE.blk q = h.blk q := fun q hq hp => by rw [kE q (by omega)]; exact uC.k q hq hp
  have crE : CR cv HE nxC L := by
    refine ⟨(owA.rd (by decide)).keep (by omega) fun q hq hl => ?_, by unfold big; omega, fun c hc => ?_⟩
    · rw [hcb] at hq; cases hq
      exact kAll cb hl (by omega) hcb6.2.1 hcb6.2.2
    · obtain ⟨b1, b2, b3⟩ := kbA.b c hc
      refine ⟨b1.keep (by omega) fun q hq hl => ?_, by unfold big; omega, ?_⟩
      · have := boA c hc q hq
        exact kAll q hl (by omega) (by omega) (by omega)
      · obtain ⟨j, hj, rfl⟩ := List.mem_iff_getElem.1 hc
        have e := kbA.e j hj (by omega)
        rw [e.1]
        by_cases j0 : j = 0
        · subst j0; rw [cl.c0 (by omega)]; decide +kernel
        · by_cases j1 : j = 1
          · subst j1; rw [cl.c1 (by omega)]; decide +kernel
          · rw [(cl.cs j (by omega) (by omega)).1]
            have : j - 2 = 0 ∨ j - 2 = 1 ∨ j - 2 = 2 := by omega
            rcases this with e | e | e <;> rw [e] <;> decide +kernel
  have klE : KlsF L := by
    refine ⟨by omega, by omega, fun hq => ?_, fun hq => ?_, fun j hj h2 => ?_, fun c hc => (kbA.b c hc).2⟩
    · have e := kbA.e 0 hq (by omega)
      rw [e.1, e.2.1, e.2.2.1, cl.c0 (by omega)]; exact ⟨rfl, rfl, rfl⟩
    · have e := kbA.e 1 hq (by omega)
      rw [e.1, e.2.1, e.2.2.1, cl.c1 (by omega)]; exact ⟨rfl, rfl, rfl⟩
    · have e := kbA.e j hj (by omega)
      have g := cl.cs j (by omega) h2
      refine ⟨e.1.trans g.1, by rw [e.2.2.1]; exact g.2.2.2.1, by rw [e.2.2.1]; exact g.2.2.2.2.1, ?_⟩
      rcases g.2.2.2.2.2 with g | ⟨g1, g2, g3⟩
      · exact .inl (e.2.1.trans g)
      · refine .inr ⟨by rw [e.2.1]; exact g1, by rw [e.2.1]; exact g2, fun hq => ?_⟩
        have es : L[j].sup.toNat = (L0[j]'(by omega)).sup.toNat := by rw [e.2.1]
        have hq0 : (L0[j]'(by omega)).sup.toNat < L0.length := by omega
        have f := kbA.e (L[j].sup.toNat) hq (by omega)
        rw [f.2.2.1, e.2.2.1]
        simp only [es]
        exact g3 hq0
  have mvE : RD 4 mv' HE nxC (M ++ [[p1, p2, p3, p4], [q1, q2, q3, q4], [r1, r2, r3, r4]]) := (owT.rd (by decide)).keep (by omega) fun q hq hl => kTE q (ownT q hq) hl
  have mqE : ∀ y ∈ M ++ [[p1, p2, p3, p4], [q1, q2, q3, q4], [r1, r2, r3, r4]], MQ HE nxC y := fun y hy => by
    obtain ⟨a, u, N, c, l, rfl, x1, x2, x3, x4, x5, x6, x7⟩ := wall y hy
    refine ⟨a, u, N, c, l, rfl, (x1.keep (by omega) fun q hq => ?_).rd (by decide), x2, x3, (x4.keep (by omega) fun q hq => ?_).rd (by decide), x5, x6⟩
    · have g := x7 q (.inl hq)
      have := x1.lt hq
      rw [kTE q g.1 (by omega), kT' q this g.2]
    · have g := x7 q (.inr hq)
      have := x4.lt hq
      rw [kTE q g.1 (by omega), kT' q this g.2]
  refine ⟨⟨_, _, _, _, ⟨rfl, rfl, rfl, rfl⟩, tE, L, _, ⟨⟨_, rfl⟩, crE, klE, mvE, by rw [List.length_append, hM8]; rfl, mqE, oo, fun c hc x hx => by have := boA c hc x hx; omega⟩⟩, by omega, lto, ?_⟩
  have MB : Mk p s nx tcB wrB := ⟨fun q hq hp => wB q (by omega) hp, fun q hq hp => xB q (by omega) hp⟩
  have no8 : ∀ q, q < nx → bid mv ≠ some q := fun q hq e => by have := own8 q e; omega
  refine ⟨fun q hq hp => ?_, fun q hq hp => ?_⟩
  · have z1 : ∀ lg, bit lg nx2 &&& 2 ^ q = 0 := fun lg => bit_and (by omega)
    have z2 : ∀ lg, bit lg nx &&& 2 ^ q = 0 := fun lg => bit_and (by omega)
    have z3 : ∀ lg', lowBits lg (bit lg' nx2) &&& 2 ^ q = 0 := fun lg' => low_z (z1 _)
    have zT := low_z (lg := lg) (wT q (no8 q hq))
    simp only [Nat.and_or_distrib_right, m2.w q hq hp, mk6.w q hq hp, m7.w q hq hp, mk8.w q hq hp, ((m9.mono (show nx ≤ nx8 by omega)).low (lg := lg)).w q hq hp, ((mX.mono (show nx ≤ nx9 by omega)).low (lg := lg)).w q hq hp, ((mY.mono (show nx ≤ nxX by omega)).low (lg := lg)).w q hq hp, zT, mkA.w q hq hp, MB.w q hq hp, mkC.w q hq hp, z1, z2, z3, Nat.or_zero]
  · have z1 : ∀ lg, bit lg nx2 &&& 2 ^ q = 0 := fun lg => bit_and (by omega)
    have z2 : ∀ lg, bit lg nx &&& 2 ^ q = 0 := fun lg => bit_and (by omega)
    have z3 : ∀ lg', lowBits lg (bit lg' nx2) &&& 2 ^ q = 0 := fun lg' => low_z (z1 _)
    have zT := low_z (lg := lg) (tT q (no8 q hq) (fun e => by cases e; omega))
    simp only [Nat.and_or_distrib_right, m2.t q hq hp, mk6.t q hq hp, m7.t q hq hp, mk8.t q hq hp, ((m9.mono (show nx ≤ nx8 by omega)).low (lg := lg)).t q hq hp, ((mX.mono (show nx ≤ nx9 by omega)).low (lg := lg)).t q hq hp, ((mY.mono (show nx ≤ nxX by omega)).low (lg := lg)).t q hq hp, zT, mkA.t q hq hp, MB.t q hq hp, mkC.t q hq hp, z1, z2, z3, Nat.or_zero]
end Go.Proofs.YtlbjdkhpabpmiaaT
