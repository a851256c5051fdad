/- Frame: FrameStacks. -/
import Derived.Test.YtobcboiemibkkaaStk
namespace Go.Proofs.YtobcboiemibkkaaT
open Go Go.Proofs.YtobcboiemibkkaaE Go.Proofs.YtobcboiemibkkaaB
set_option linter.unusedSimpArgs false
set_option linter.unusedVariables false
attribute [local congr] Post_cg PostL_cg condP_cg

/-- What stands ahead of the loop. -/
theorem sk_start (h0 : Mem) (p : Nat) : ∃ (h1 h2 h3 H3 : Mem) (nx2 nx3 tc2 wr2 tc3 wr3 : Nat) (F : List Fr),
    (∀ k, xF T (k + 20) 11 [] h0 p 0 = some ⟨.ptr p 0, h1, p + 1, 0, 0⟩) ∧
    (∀ k, xF T (k + 100) 13 [.ptr p 0, .int .i64 1, .int .u32 5, .slc (p + 1) 0 1 (some 1), .int .i64 (-1), .int .i64 (-1)] (h1.set (p + 1) (some ⟨23, 1, true, false, [.int .u32 8]⟩)) (p + 1 + 1) 0 = some ⟨.int .i64 0, h2, nx2, tc2, wr2⟩) ∧
    (∀ k, xF T (k + 100) 13 [.ptr p 0, .int .i64 2, .int .u32 6, .nils, .int .i64 0, .int .i64 0] h2 nx2 0 = some ⟨.int .i64 1, h3, nx3, tc3, wr3⟩) ∧
    H3 = h3.set nx3 (some ⟨41, 2, true, false, [.nils, .nils]⟩) ∧ p ≤ nx3 ∧ ST H3 (nx3 + 1) p p nx3 F [] [] .nils .nils ∧ ∀ b, b < p → H3.blk b = h0.blk b := by
  obtain ⟨h1, x1, ps1, k1⟩ := new_at h0 p 0
  have ps1a := ps1.new (some ⟨23, 1, true, false, u32s [8]⟩)
  have r1 := FR.lit (n := 1) (c := some 1) (ps1.newB ⟨23, 1, true, false, u32s [8]⟩) rfl
  have f0 : ff U0 = 0 := by decide
  obtain ⟨sl1, c2⟩ := take_yes ps1a 1 (-1) (-1) 5 _ [8] r1.rv (fun h => (r1.no _ h).2.1 rfl) (by decide) (by decide)
  rw [f0, if_pos rfl] at c2
  obtain ⟨h2, nx2, tc2, wr2, x2, n2, ps2, ow2, fr2⟩ := c2.at 0 (by omega)
  have w1 : IntKind.i64.wrap (0 + 1) = 1 := by decide
  rw [w1] at ps2 ow2
  have f1 : ff (U0.set 0 true) = 1 := by decide
  obtain ⟨sl2, c3⟩ := take_yes ps2 2 0 0 6 .nils [] (.inl ⟨rfl, rfl, rfl⟩) (fun h => by cases h) (by rw [f1]; omega) (by decide)
  rw [f1, if_neg (by decide)] at c3
  obtain ⟨h3, nx3, tc3, wr3, x3, n3, ps3, ow3, fr3⟩ := c3.at 0 (by omega)
  have w2 : IntKind.i64.wrap (1 + 1) = 2 := by decide
  rw [w2] at ps3 ow3
  have ps3' : PS h3 nx3 p _ U2 2 A2 (B2 [] []) := ps3
  have lw0 : ∀ b, Own F0 b → p ≤ b := fun b ⟨i, hi, hb⟩ => by
    have e : F0[i] = ⟨0, 0, 0, 0, 0, 0, .nils, .nils⟩ := List.getElem_replicate ..
    rw [e] at hb
    rcases hb with hb | hb <;> cases hb
  have lw2 := fun b (hb : Own _ b) => (ow2 b hb).elim (lw0 b) (fun h => (by omega : p ≤ b))
  have lw3 := fun b (hb : Own _ b) => (ow3 b hb).elim (lw2 b) (fun h => (by omega : p ≤ b))
  have no : ∀ {F : List Fr}, (∀ b, Own F b → p ≤ b) → ∀ b, b < p → ¬ Own F b := fun l b hb h => by have := l b h; omega
  have kA : ∀ b, b < p → h3.blk b = h0.blk b := fun b hb => by
    rw [(fr3 b (by omega) (no lw2 b hb)).2 (by omega), (fr2 b (by omega) (no lw0 b hb)).2 (by omega), Mem.blk_set_ne _ _ _ _ (by omega), k1 b hb]
  refine ⟨h1, h2, h3, _, nx2, nx3, tc2, wr2, tc3, wr3, _, x1, fun k => by simpa [u32s] using x2 k, fun k => by simpa using x3 k, rfl, by omega, ⟨ps3'.new _, Mem.blk_set_same .., .inl ⟨rfl, rfl⟩, .inl ⟨rfl, rfl⟩, ⟨by omega, by omega, fun h => by have := ps3'.lt (.inr h); omega⟩, (fun b h => by cases h), (fun b h => by cases h), (fun b h => by cases h), ⟨Nat.le_refl _, by omega, lw3, (fun b h => by cases h), fun b h => by cases h⟩, ⟨Nat.zero_le _, Nat.zero_le _⟩⟩, fun b hb => by rw [Mem.blk_set_ne _ _ _ _ (by omega), kA b hb]⟩

set_option maxHeartbeats 16000000 in
theorem stacks_law (l : List Int) (v : AV) (y : l.length * 4 ≤ 140737488351232) (q : ∀ x ∈ l, (Lit.int .u32 x).wf = true) (l' : List (List AV)) (v' : AV) (y' : l'.length * 1 ≤ 140737488351232) (q' : ∀ x ∈ l', LeavesV [.b] x) (h0 : Mem) (p : Nat) (hr : IRow .u32 v h0 p l) (hr' : SRow 1 v' h0 p l') : Yes T 6 [v, v'] h0 p := by
  obtain ⟨K, rfl⟩ := bl_of q'
  refine Yes.of 2000 ?_
  obtain ⟨h1, h2, h3, H3, nx2, nx3, tc2, wr2, tc3, wr3, F, x1, x2, x3, hH3, n3, S, kA⟩ := sk_start h0 p
  have s3 := hH3.symm
  rw [xF_fr T6]
  simp (maxSteps := 8000000) [↓step_none, ↓step_t, ↓step_f, ↓step_nt, ↓step_nf, ↓op_load, ↓op_store, ↓op_slice, ↓op_app, ↓P_skip, ↓P_exit, ↓P_ret, ↓P_seq, ↓P_cond, ↓P_blk, ↓P_reg, ↓P_draw, ↓P_nil, ↓P_cons, condP_t, condP_f, dum_ab, stepR, want_none, want_some, opRun, ev_t, ev_c, put_none, put_some, resAll, res_tmp, res_cell, oneOf, minI, maxI, min2A, max2A, mn2, mx2, mx3, rdBlk, wrBlk, newBlk, partA, abin, ibin, isShift, AV.cells, AV.one, lay, sub, fillA, lenA, toN, allApart, apartFrom, Nat.testBit, Mem.blk_set_same, Mem.blk_set_ne, Mem.set_set, bit_zero, bit_self, lowBits_or, lowBits_zero, len_setT, sl_same, sl_ne, len_frame, sl_frame,↓op_len, lenOp_slc, lenOp_nils, ↓Post.some, ↓Post_bind, ↓Post_ret, ↓Post_draw, ↓PostL_nil, ↓PostL_cons, Post_fail, ofOpt_some, ofOpt_none, eA_b, eA_i, eA_s, eA_nn, eA_np, eA_pn, eA_lnn, eA_lnp, eA_lpn, eA_i2, eA_i3, blt_dec, Nat.add_assoc, keeps_refl, keeps_at, keeps_up, new_one, and_pow, bit_hi, lowBits_pow, ble_dec, fr_refl, fr_at, fr_up, fr_p, dum_ab, F6, reps, x1, x2, x3, s3]
  refine Post.loop (sk_round v v' l K h0 p hr hr') 40 ⟨0, p, nx3, F, [], [], .nils, .nils, rfl, by omega, by simp [len_setT, sl_same, sl_ne, len_frame, sl_frame], by simp [len_setT, sl_same, sl_ne, len_frame, sl_frame], by simp [len_setT, sl_same, sl_ne, len_frame, sl_frame], by simp [len_setT, sl_same, sl_ne, len_frame, sl_frame], by simp [len_setT, sl_same, sl_ne, len_frame, sl_frame], by simp [len_setT, sl_same, sl_ne, len_frame, sl_frame], by omega, S, kA⟩ (by omega) ?_
  rintro e ts2 h4 nx4 tc4 wr4 ⟨rfl, p', w, F', b0, b1, y0, y1, hlen, g5, g6, hbn, s, kp⟩
  obtain ⟨f0, f1, a7, b7, a8, b8, h7, H7, h8, H8, h9, h10, nx7, nx8, nx9, nx10, tc7, wr7, tc8, wr8, tc1, tc2', tc9, wr9, tc10, wr10, v9, z1, z2, z3, z4, z5, z6, z7, z8, z9, z10, z11, z12, z13, z14, z15, z16, z17, z18, z19, z20, z21, z22⟩ := sk_end s
  simp only [fr8, fzero] at z1 z2 z3 z4
  have i1 : IntKind.i64.wrap (3 + (b0.length : Int)) = 3 + (b0.length : Int) := by rw [IntKind.wrap_i64]; omega
  have i2 : IntKind.i64.wrap (3 + (b0.length : Int) + (b1.length : Int)) = 3 + (b0.length : Int) + (b1.length : Int) := by rw [IntKind.wrap_i64]; omega
  simp (maxSteps := 8000000) [↓step_none, ↓step_t, ↓step_f, ↓step_nt, ↓step_nf, ↓op_load, ↓op_store, ↓op_slice, ↓op_app, ↓P_skip, ↓P_exit, ↓P_ret, ↓P_seq, ↓P_cond, ↓P_blk, ↓P_reg, ↓P_draw, ↓P_nil, ↓P_cons, condP_t, condP_f, dum_ab, stepR, want_none, want_some, opRun, ev_t, ev_c, put_none, put_some, resAll, res_tmp, res_cell, oneOf, minI, maxI, min2A, max2A, mn2, mx2, mx3, rdBlk, wrBlk, newBlk, partA, abin, ibin, isShift, AV.cells, AV.one, lay, sub, fillA, lenA, toN, allApart, apartFrom, Nat.testBit, Mem.blk_set_same, Mem.blk_set_ne, Mem.set_set, bit_zero, bit_self, lowBits_or, lowBits_zero, len_setT, sl_same, sl_ne, len_frame, sl_frame,↓op_len, lenOp_slc, lenOp_nils, ↓Post.some, ↓Post_bind, ↓Post_ret, ↓Post_draw, ↓PostL_nil, ↓PostL_cons, Post_fail, ofOpt_some, ofOpt_none, eA_b, eA_i, eA_s, eA_nn, eA_np, eA_pn, eA_lnn, eA_lnp, eA_lpn, eA_i2, eA_i3, blt_dec, Nat.add_assoc, keeps_refl, keeps_at, keeps_up, new_one, and_pow, bit_hi, lowBits_pow, ble_dec, fr_refl, fr_at, fr_up, fr_p, dum_ab, reps, hlen, g5, g6, z1, z2, z3, z4, z5, z6, z7, z8, z9, z10, z11, z12, z16, z17, z18, z19, z20, i1, i2]
  rw [bit_hi (show w < nx9 by omega)]
  exact or_z z13 (new_lo z14)
end Go.Proofs.YtobcboiemibkkaaT
