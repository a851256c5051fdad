/- Frame: Take, At, New. -/
import Derived.Test.YtobcboiemibkkaaOps2
namespace Go.Proofs.YtobcboiemibkkaaT
open Go Go.Proofs.YtobcboiemibkkaaE Go.Proofs.YtobcboiemibkkaaB
set_option linter.unusedSimpArgs false
set_option linter.unusedVariables false
attribute [local congr] Post_cg PostL_cg condP_cg

theorem PS.keep {h h' : Mem} {nx nx' p : Nat} {F : List Fr} {U : List Bool} {s : Int} {A B : List (List Int)} (ps : PS h nx p F U s A B) (hn : nx ≤ nx') (e : ∀ b, b = p ∨ Own F b → h'.blk b = h.blk b) : PS h' nx' p F U s A B := by
  obtain ⟨t, hb⟩ := ps.hb
  have hp := ps.hp
  exact ⟨ps.hF, ps.hU, ps.hA, ps.hB, ⟨t, (e p (.inl rfl)).trans hb⟩, fun i h1 h2 => (ps.rA i h1 h2).keep hn fun b hb => e b (.inr ⟨i, h1, .inl hb⟩), fun i h1 h2 => (ps.rB i h1 h2).keep hn fun b hb => e b (.inr ⟨i, h1, .inr hb⟩), by omega, ps.np, ps.dA, ps.dB, ps.dC⟩
theorem PS.lt {h : Mem} {nx p : Nat} {F : List Fr} {U : List Bool} {s : Int} {A B : List (List Int)} (ps : PS h nx p F U s A B) {b : Nat} (hb : b = p ∨ Own F b) : b < nx := by
  rcases hb with rfl | ⟨i, h1, hb | hb⟩
  · exact ps.hp
  · exact (ps.rA i h1 (by have := ps.hF; have := ps.hA; omega)).lt hb
  · exact (ps.rB i h1 (by have := ps.hF; have := ps.hB; omega)).lt hb
theorem PS.keeps {h h' : Mem} {nx nx' p : Nat} {F : List Fr} {U : List Bool} {s : Int} {A B : List (List Int)} (ps : PS h nx p F U s A B) (hn : nx ≤ nx') (e : ∀ b, b < nx → h'.blk b = h.blk b) : PS h' nx' p F U s A B := ps.keep hn fun b hb => e b (ps.lt hb)
/-- The first place that is free. -/
def ff (U : List Bool) : Nat := U.findIdx fun b => !b
theorem ff_at {U : List Bool} {j : Nat} (h1 : U[j]? = some false) (h2 : ∀ k, k < j → U[k]? = some true) : ff U = j := by
  obtain ⟨hj, e⟩ := List.getElem?_eq_some_iff.1 h1
  unfold ff
  rw [List.findIdx_eq hj]
  refine ⟨by rw [e]; rfl, fun k hk => ?_⟩
  have := h2 k hk
  rw [List.getElem?_eq_getElem (by omega)] at this
  rw [Option.some.inj this]; rfl
theorem ff_all {U : List Bool} (h : ∀ k, k < U.length → U[k]? = some true) : ff U = U.length := by
  unfold ff
  rw [List.findIdx_eq_length]
  intro x hx
  obtain ⟨k, hk, rfl⟩ := List.mem_iff_getElem.1 hx
  have := h k hk
  rw [List.getElem?_eq_getElem hk] at this
  rw [Option.some.inj this]; rfl
theorem ff_free {U : List Bool} (h : ff U < U.length) : U[ff U] = false := by
  have : (!U[ff U]) = true := List.findIdx_getElem (xs := U) (p := fun b => !b) (w := h)
  cases e : U[ff U] with
  | false => rfl
  | true => rw [e] at this; cases this
def IxI (p : Nat) (U : List Bool) (h0 : Mem) (nx0 : Nat) (m : Nat) (ts : List AV) (h : Mem) (nx tc wr : Nat) : Prop := ∃ j : Nat, m = 24 - j ∧ j ≤ 24 ∧ ts.length = 19 ∧ sl ts 0 = .slc p 192 24 (some 24) ∧ sl ts 1 = .bool false ∧ sl ts 7 = .int .i64 24 ∧ sl ts 8 = .int .i64 j ∧ (∀ k, k < j → U[k]? = some true) ∧ h = h0 ∧ nx = nx0 ∧ wr = 0
def IxR (U : List Bool) (h0 : Mem) (nx0 : Nat) (e : Ex) (ts : List AV) (h : Mem) (nx tc wr : Nat) : Prop := ts.length = 19 ∧ h = h0 ∧ nx = nx0 ∧ wr = 0 ∧ ((e = .exit 0 ∧ ff U = 24) ∨ (e = .ret ∧ ff U < 24 ∧ sl ts 4 = .int .i64 (ff U : Nat)))
set_option maxHeartbeats 4000000 in
theorem ix_round {h0 : Mem} {nx0 p : Nat} {t : TypeId} {F : List Fr} {U : List Bool} {s : Int} (hF : F.length = 24) (hU : U.length = 24) (hb : h0.blk p = some ⟨t, 217, true, false, pcells F U s⟩) (hp : p < nx0) (lg : Nat) (m : Nat) (ts : List AV) (h : Mem) (nx tc wr : Nat) (hi : IxI p U h0 nx0 m ts h nx tc wr) :
    Post (xC T 30 L30_0b ts h nx lg) fun v' h' nx' tc' wr' => Round (IxI p U h0 nx0) (IxR U h0 nx0) m v' h' nx' (tc ||| tc') (wr ||| wr') := by
  obtain ⟨j, rfl, hj, hlen, g0, g1, g7, g8, ht, rfl, rfl, rfl⟩ := hi
  by_cases c1 : j < 24
  · have c1' : (j : Int) < 24 := by omega
    have ci : IntKind.i64.wrap ((j : Int) + 1) = ((j + 1 : Nat) : Int) := by rw [IntKind.wrap_i64]; omega
    have l1 := fun lg => ld_at hb hp (p_used hF s (i := j) (by omega)) lg
    cases hu : U[j] with
    | false =>
      have e : U[j]? = some false := by rw [List.getElem?_eq_getElem (by omega), hu]
      have fe := ff_at e ht
      rw [hu] at l1
      simp (maxSteps := 4000000) [↓step_none, ↓step_t, ↓step_f, ↓step_nt, ↓step_nf, ↓op_load, ↓op_store, ↓op_slice, ↓op_app, ↓P_skip, ↓P_exit, ↓P_ret, ↓P_seq, ↓P_cond, ↓P_blk, ↓P_reg, ↓P_draw, ↓P_nil, ↓P_cons, condP_t, condP_f, dum_ab, stepR, want_none, want_some, opRun, ev_t, ev_c, put_none, put_some, resAll, res_tmp, res_cell, oneOf, minI, maxI, min2A, max2A, mn2, mx2, mx3, rdBlk, wrBlk, newBlk, partA, abin, ibin, isShift, AV.cells, AV.one, lay, sub, fillA, lenA, toN, allApart, apartFrom, Nat.testBit, Mem.blk_set_same, Mem.blk_set_ne, Mem.set_set, bit_zero, bit_self, lowBits_or, lowBits_zero, len_setT, sl_same, sl_ne, len_frame, sl_frame,↓op_len, lenOp_slc, lenOp_nils, ↓Post.some, ↓Post_bind, ↓Post_ret, ↓Post_draw, ↓PostL_nil, ↓PostL_cons, Post_fail, ofOpt_some, ofOpt_none, eA_b, eA_i, eA_s, eA_nn, eA_np, eA_pn, eA_lnn, eA_lnp, eA_lpn, eA_i2, eA_i3, blt_dec, Nat.add_assoc, keeps_refl, keeps_at, keeps_up, new_one, and_pow, bit_hi, lowBits_pow, ble_dec, fr_refl, fr_at, fr_up, fr_p, dum_ab, L30_0b, hlen, g0, g1, g7, g8, c1, c1', l1]
      exact Round.ret (R := IxR U h nx) ⟨by simp [↓P_skip, ↓P_exit, ↓P_ret, ↓P_seq, ↓P_cond, ↓P_blk, ↓P_reg, ↓P_draw, ↓P_nil, ↓P_cons, condP_t, condP_f, dum_ab, stepR, want_none, want_some, opRun, ev_t, ev_c, put_none, put_some, resAll, res_tmp, res_cell, oneOf, minI, maxI, min2A, max2A, mn2, mx2, mx3, rdBlk, wrBlk, newBlk, partA, abin, ibin, isShift, AV.cells, AV.one, lay, sub, fillA, lenA, toN, allApart, apartFrom, Nat.testBit, Mem.blk_set_same, Mem.blk_set_ne, Mem.set_set, bit_zero, bit_self, lowBits_or, lowBits_zero, len_setT, sl_same, sl_ne, len_frame, sl_frame,↓op_len, lenOp_slc, lenOp_nils, ↓Post.some, ↓Post_bind, ↓Post_ret, ↓Post_draw, ↓PostL_nil, ↓PostL_cons, Post_fail, ofOpt_some, ofOpt_none, eA_b, eA_i, eA_s, eA_nn, eA_np, eA_pn, eA_lnn, eA_lnp, eA_lpn, eA_i2, eA_i3, blt_dec, Nat.add_assoc, keeps_refl, keeps_at, keeps_up, hlen], rfl, rfl, rfl, .inr ⟨rfl, by omega, by simp [↓P_skip, ↓P_exit, ↓P_ret, ↓P_seq, ↓P_cond, ↓P_blk, ↓P_reg, ↓P_draw, ↓P_nil, ↓P_cons, condP_t, condP_f, dum_ab, stepR, want_none, want_some, opRun, ev_t, ev_c, put_none, put_some, resAll, res_tmp, res_cell, oneOf, minI, maxI, min2A, max2A, mn2, mx2, mx3, rdBlk, wrBlk, newBlk, partA, abin, ibin, isShift, AV.cells, AV.one, lay, sub, fillA, lenA, toN, allApart, apartFrom, Nat.testBit, Mem.blk_set_same, Mem.blk_set_ne, Mem.set_set, bit_zero, bit_self, lowBits_or, lowBits_zero, len_setT, sl_same, sl_ne, len_frame, sl_frame,↓op_len, lenOp_slc, lenOp_nils, ↓Post.some, ↓Post_bind, ↓Post_ret, ↓Post_draw, ↓PostL_nil, ↓PostL_cons, Post_fail, ofOpt_some, ofOpt_none, eA_b, eA_i, eA_s, eA_nn, eA_np, eA_pn, eA_lnn, eA_lnp, eA_lpn, eA_i2, eA_i3, blt_dec, Nat.add_assoc, keeps_refl, keeps_at, keeps_up, hlen, fe]⟩⟩
    | true =>
      rw [hu] at l1
      simp (maxSteps := 4000000) [↓step_none, ↓step_t, ↓step_f, ↓step_nt, ↓step_nf, ↓op_load, ↓op_store, ↓op_slice, ↓op_app, ↓P_skip, ↓P_exit, ↓P_ret, ↓P_seq, ↓P_cond, ↓P_blk, ↓P_reg, ↓P_draw, ↓P_nil, ↓P_cons, condP_t, condP_f, dum_ab, stepR, want_none, want_some, opRun, ev_t, ev_c, put_none, put_some, resAll, res_tmp, res_cell, oneOf, minI, maxI, min2A, max2A, mn2, mx2, mx3, rdBlk, wrBlk, newBlk, partA, abin, ibin, isShift, AV.cells, AV.one, lay, sub, fillA, lenA, toN, allApart, apartFrom, Nat.testBit, Mem.blk_set_same, Mem.blk_set_ne, Mem.set_set, bit_zero, bit_self, lowBits_or, lowBits_zero, len_setT, sl_same, sl_ne, len_frame, sl_frame,↓op_len, lenOp_slc, lenOp_nils, ↓Post.some, ↓Post_bind, ↓Post_ret, ↓Post_draw, ↓PostL_nil, ↓PostL_cons, Post_fail, ofOpt_some, ofOpt_none, eA_b, eA_i, eA_s, eA_nn, eA_np, eA_pn, eA_lnn, eA_lnp, eA_lpn, eA_i2, eA_i3, blt_dec, Nat.add_assoc, keeps_refl, keeps_at, keeps_up, new_one, and_pow, bit_hi, lowBits_pow, ble_dec, fr_refl, fr_at, fr_up, fr_p, dum_ab, L30_0b, hlen, g0, g1, g7, g8, c1, c1', l1, ci]
      refine Round.nor (m' := 24 - (j + 1)) (by omega) ⟨j + 1, rfl, by omega, by simp [↓P_skip, ↓P_exit, ↓P_ret, ↓P_seq, ↓P_cond, ↓P_blk, ↓P_reg, ↓P_draw, ↓P_nil, ↓P_cons, condP_t, condP_f, dum_ab, stepR, want_none, want_some, opRun, ev_t, ev_c, put_none, put_some, resAll, res_tmp, res_cell, oneOf, minI, maxI, min2A, max2A, mn2, mx2, mx3, rdBlk, wrBlk, newBlk, partA, abin, ibin, isShift, AV.cells, AV.one, lay, sub, fillA, lenA, toN, allApart, apartFrom, Nat.testBit, Mem.blk_set_same, Mem.blk_set_ne, Mem.set_set, bit_zero, bit_self, lowBits_or, lowBits_zero, len_setT, sl_same, sl_ne, len_frame, sl_frame,↓op_len, lenOp_slc, lenOp_nils, ↓Post.some, ↓Post_bind, ↓Post_ret, ↓Post_draw, ↓PostL_nil, ↓PostL_cons, Post_fail, ofOpt_some, ofOpt_none, eA_b, eA_i, eA_s, eA_nn, eA_np, eA_pn, eA_lnn, eA_lnp, eA_lpn, eA_i2, eA_i3, blt_dec, Nat.add_assoc, keeps_refl, keeps_at, keeps_up, hlen], by simp [↓P_skip, ↓P_exit, ↓P_ret, ↓P_seq, ↓P_cond, ↓P_blk, ↓P_reg, ↓P_draw, ↓P_nil, ↓P_cons, condP_t, condP_f, dum_ab, stepR, want_none, want_some, opRun, ev_t, ev_c, put_none, put_some, resAll, res_tmp, res_cell, oneOf, minI, maxI, min2A, max2A, mn2, mx2, mx3, rdBlk, wrBlk, newBlk, partA, abin, ibin, isShift, AV.cells, AV.one, lay, sub, fillA, lenA, toN, allApart, apartFrom, Nat.testBit, Mem.blk_set_same, Mem.blk_set_ne, Mem.set_set, bit_zero, bit_self, lowBits_or, lowBits_zero, len_setT, sl_same, sl_ne, len_frame, sl_frame,↓op_len, lenOp_slc, lenOp_nils, ↓Post.some, ↓Post_bind, ↓Post_ret, ↓Post_draw, ↓PostL_nil, ↓PostL_cons, Post_fail, ofOpt_some, ofOpt_none, eA_b, eA_i, eA_s, eA_nn, eA_np, eA_pn, eA_lnn, eA_lnp, eA_lpn, eA_i2, eA_i3, blt_dec, Nat.add_assoc, keeps_refl, keeps_at, keeps_up, hlen, g0], by simp [↓P_skip, ↓P_exit, ↓P_ret, ↓P_seq, ↓P_cond, ↓P_blk, ↓P_reg, ↓P_draw, ↓P_nil, ↓P_cons, condP_t, condP_f, dum_ab, stepR, want_none, want_some, opRun, ev_t, ev_c, put_none, put_some, resAll, res_tmp, res_cell, oneOf, minI, maxI, min2A, max2A, mn2, mx2, mx3, rdBlk, wrBlk, newBlk, partA, abin, ibin, isShift, AV.cells, AV.one, lay, sub, fillA, lenA, toN, allApart, apartFrom, Nat.testBit, Mem.blk_set_same, Mem.blk_set_ne, Mem.set_set, bit_zero, bit_self, lowBits_or, lowBits_zero, len_setT, sl_same, sl_ne, len_frame, sl_frame,↓op_len, lenOp_slc, lenOp_nils, ↓Post.some, ↓Post_bind, ↓Post_ret, ↓Post_draw, ↓PostL_nil, ↓PostL_cons, Post_fail, ofOpt_some, ofOpt_none, eA_b, eA_i, eA_s, eA_nn, eA_np, eA_pn, eA_lnn, eA_lnp, eA_lpn, eA_i2, eA_i3, blt_dec, Nat.add_assoc, keeps_refl, keeps_at, keeps_up, hlen, g1], by simp [↓P_skip, ↓P_exit, ↓P_ret, ↓P_seq, ↓P_cond, ↓P_blk, ↓P_reg, ↓P_draw, ↓P_nil, ↓P_cons, condP_t, condP_f, dum_ab, stepR, want_none, want_some, opRun, ev_t, ev_c, put_none, put_some, resAll, res_tmp, res_cell, oneOf, minI, maxI, min2A, max2A, mn2, mx2, mx3, rdBlk, wrBlk, newBlk, partA, abin, ibin, isShift, AV.cells, AV.one, lay, sub, fillA, lenA, toN, allApart, apartFrom, Nat.testBit, Mem.blk_set_same, Mem.blk_set_ne, Mem.set_set, bit_zero, bit_self, lowBits_or, lowBits_zero, len_setT, sl_same, sl_ne, len_frame, sl_frame,↓op_len, lenOp_slc, lenOp_nils, ↓Post.some, ↓Post_bind, ↓Post_ret, ↓Post_draw, ↓PostL_nil, ↓PostL_cons, Post_fail, ofOpt_some, ofOpt_none, eA_b, eA_i, eA_s, eA_nn, eA_np, eA_pn, eA_lnn, eA_lnp, eA_lpn, eA_i2, eA_i3, blt_dec, Nat.add_assoc, keeps_refl, keeps_at, keeps_up, hlen, g7], by simp [↓P_skip, ↓P_exit, ↓P_ret, ↓P_seq, ↓P_cond, ↓P_blk, ↓P_reg, ↓P_draw, ↓P_nil, ↓P_cons, condP_t, condP_f, dum_ab, stepR, want_none, want_some, opRun, ev_t, ev_c, put_none, put_some, resAll, res_tmp, res_cell, oneOf, minI, maxI, min2A, max2A, mn2, mx2, mx3, rdBlk, wrBlk, newBlk, partA, abin, ibin, isShift, AV.cells, AV.one, lay, sub, fillA, lenA, toN, allApart, apartFrom, Nat.testBit, Mem.blk_set_same, Mem.blk_set_ne, Mem.set_set, bit_zero, bit_self, lowBits_or, lowBits_zero, len_setT, sl_same, sl_ne, len_frame, sl_frame,↓op_len, lenOp_slc, lenOp_nils, ↓Post.some, ↓Post_bind, ↓Post_ret, ↓Post_draw, ↓PostL_nil, ↓PostL_cons, Post_fail, ofOpt_some, ofOpt_none, eA_b, eA_i, eA_s, eA_nn, eA_np, eA_pn, eA_lnn, eA_lnp, eA_lpn, eA_i2, eA_i3, blt_dec, Nat.add_assoc, keeps_refl, keeps_at, keeps_up, hlen], fun k hk => ?_, rfl, rfl, rfl⟩
      by_cases c : k = j
      · subst c; rw [List.getElem?_eq_getElem (by omega), hu]
      · exact ht k (by omega)
  · have c1' : ¬ (j : Int) < 24 := by omega
    have : j = 24 := by omega
    subst this
    simp (maxSteps := 4000000) [↓step_none, ↓step_t, ↓step_f, ↓step_nt, ↓step_nf, ↓op_load, ↓op_store, ↓op_slice, ↓op_app, ↓P_skip, ↓P_exit, ↓P_ret, ↓P_seq, ↓P_cond, ↓P_blk, ↓P_reg, ↓P_draw, ↓P_nil, ↓P_cons, condP_t, condP_f, dum_ab, stepR, want_none, want_some, opRun, ev_t, ev_c, put_none, put_some, resAll, res_tmp, res_cell, oneOf, minI, maxI, min2A, max2A, mn2, mx2, mx3, rdBlk, wrBlk, newBlk, partA, abin, ibin, isShift, AV.cells, AV.one, lay, sub, fillA, lenA, toN, allApart, apartFrom, Nat.testBit, Mem.blk_set_same, Mem.blk_set_ne, Mem.set_set, bit_zero, bit_self, lowBits_or, lowBits_zero, len_setT, sl_same, sl_ne, len_frame, sl_frame,↓op_len, lenOp_slc, lenOp_nils, ↓Post.some, ↓Post_bind, ↓Post_ret, ↓Post_draw, ↓PostL_nil, ↓PostL_cons, Post_fail, ofOpt_some, ofOpt_none, eA_b, eA_i, eA_s, eA_nn, eA_np, eA_pn, eA_lnn, eA_lnp, eA_lpn, eA_i2, eA_i3, blt_dec, Nat.add_assoc, keeps_refl, keeps_at, keeps_up, new_one, and_pow, bit_hi, lowBits_pow, ble_dec, fr_refl, fr_at, fr_up, fr_p, dum_ab, L30_0b, hlen, g0, g1, g7, g8]
    exact Round.exit (R := IxR U h nx) ⟨by simp [↓P_skip, ↓P_exit, ↓P_ret, ↓P_seq, ↓P_cond, ↓P_blk, ↓P_reg, ↓P_draw, ↓P_nil, ↓P_cons, condP_t, condP_f, dum_ab, stepR, want_none, want_some, opRun, ev_t, ev_c, put_none, put_some, resAll, res_tmp, res_cell, oneOf, minI, maxI, min2A, max2A, mn2, mx2, mx3, rdBlk, wrBlk, newBlk, partA, abin, ibin, isShift, AV.cells, AV.one, lay, sub, fillA, lenA, toN, allApart, apartFrom, Nat.testBit, Mem.blk_set_same, Mem.blk_set_ne, Mem.set_set, bit_zero, bit_self, lowBits_or, lowBits_zero, len_setT, sl_same, sl_ne, len_frame, sl_frame,↓op_len, lenOp_slc, lenOp_nils, ↓Post.some, ↓Post_bind, ↓Post_ret, ↓Post_draw, ↓PostL_nil, ↓PostL_cons, Post_fail, ofOpt_some, ofOpt_none, eA_b, eA_i, eA_s, eA_nn, eA_np, eA_pn, eA_lnn, eA_lnp, eA_lpn, eA_i2, eA_i3, blt_dec, Nat.add_assoc, keeps_refl, keeps_at, keeps_up, hlen], rfl, rfl, rfl, .inl ⟨rfl, by rw [← hU]; exact ff_all fun k hk => ht k (by omega)⟩⟩
theorem index_rd {h : Mem} {nx p : Nat} {F : List Fr} {U : List Bool} {s : Int} {A B : List (List Int)} (ps : PS h nx p F U s A B) : Rd 60 30 [.slc p 192 24 (some 24), .bool false] h nx (.int .i64 (if ff U < 24 then (ff U : Int) else -1)) := by
  intro lg hlg
  obtain ⟨t, hb⟩ := ps.hb
  rw [xF_fr T30]
  simp (maxSteps := 4000000) [↓step_none, ↓step_t, ↓step_f, ↓step_nt, ↓step_nf, ↓op_load, ↓op_store, ↓op_slice, ↓op_app, ↓P_skip, ↓P_exit, ↓P_ret, ↓P_seq, ↓P_cond, ↓P_blk, ↓P_reg, ↓P_draw, ↓P_nil, ↓P_cons, condP_t, condP_f, dum_ab, stepR, want_none, want_some, opRun, ev_t, ev_c, put_none, put_some, resAll, res_tmp, res_cell, oneOf, minI, maxI, min2A, max2A, mn2, mx2, mx3, rdBlk, wrBlk, newBlk, partA, abin, ibin, isShift, AV.cells, AV.one, lay, sub, fillA, lenA, toN, allApart, apartFrom, Nat.testBit, Mem.blk_set_same, Mem.blk_set_ne, Mem.set_set, bit_zero, bit_self, lowBits_or, lowBits_zero, len_setT, sl_same, sl_ne, len_frame, sl_frame,↓op_len, lenOp_slc, lenOp_nils, ↓Post.some, ↓Post_bind, ↓Post_ret, ↓Post_draw, ↓PostL_nil, ↓PostL_cons, Post_fail, ofOpt_some, ofOpt_none, eA_b, eA_i, eA_s, eA_nn, eA_np, eA_pn, eA_lnn, eA_lnp, eA_lpn, eA_i2, eA_i3, blt_dec, Nat.add_assoc, keeps_refl, keeps_at, keeps_up, new_one, and_pow, bit_hi, lowBits_pow, ble_dec, fr_refl, fr_at, fr_up, fr_p, dum_ab, F30]
  refine Post.loop (ix_round ps.hF ps.hU hb ps.hp lg) 24 ⟨0, rfl, by omega, by simp [↓P_skip, ↓P_exit, ↓P_ret, ↓P_seq, ↓P_cond, ↓P_blk, ↓P_reg, ↓P_draw, ↓P_nil, ↓P_cons, condP_t, condP_f, dum_ab, stepR, want_none, want_some, opRun, ev_t, ev_c, put_none, put_some, resAll, res_tmp, res_cell, oneOf, minI, maxI, min2A, max2A, mn2, mx2, mx3, rdBlk, wrBlk, newBlk, partA, abin, ibin, isShift, AV.cells, AV.one, lay, sub, fillA, lenA, toN, allApart, apartFrom, Nat.testBit, Mem.blk_set_same, Mem.blk_set_ne, Mem.set_set, bit_zero, bit_self, lowBits_or, lowBits_zero, len_setT, sl_same, sl_ne, len_frame, sl_frame,↓op_len, lenOp_slc, lenOp_nils, ↓Post.some, ↓Post_bind, ↓Post_ret, ↓Post_draw, ↓PostL_nil, ↓PostL_cons, Post_fail, ofOpt_some, ofOpt_none, eA_b, eA_i, eA_s, eA_nn, eA_np, eA_pn, eA_lnn, eA_lnp, eA_lpn, eA_i2, eA_i3, blt_dec, Nat.add_assoc, keeps_refl, keeps_at, keeps_up], by simp [↓P_skip, ↓P_exit, ↓P_ret, ↓P_seq, ↓P_cond, ↓P_blk, ↓P_reg, ↓P_draw, ↓P_nil, ↓P_cons, condP_t, condP_f, dum_ab, stepR, want_none, want_some, opRun, ev_t, ev_c, put_none, put_some, resAll, res_tmp, res_cell, oneOf, minI, maxI, min2A, max2A, mn2, mx2, mx3, rdBlk, wrBlk, newBlk, partA, abin, ibin, isShift, AV.cells, AV.one, lay, sub, fillA, lenA, toN, allApart, apartFrom, Nat.testBit, Mem.blk_set_same, Mem.blk_set_ne, Mem.set_set, bit_zero, bit_self, lowBits_or, lowBits_zero, len_setT, sl_same, sl_ne, len_frame, sl_frame,↓op_len, lenOp_slc, lenOp_nils, ↓Post.some, ↓Post_bind, ↓Post_ret, ↓Post_draw, ↓PostL_nil, ↓PostL_cons, Post_fail, ofOpt_some, ofOpt_none, eA_b, eA_i, eA_s, eA_nn, eA_np, eA_pn, eA_lnn, eA_lnp, eA_lpn, eA_i2, eA_i3, blt_dec, Nat.add_assoc, keeps_refl, keeps_at, keeps_up], by simp [↓P_skip, ↓P_exit, ↓P_ret, ↓P_seq, ↓P_cond, ↓P_blk, ↓P_reg, ↓P_draw, ↓P_nil, ↓P_cons, condP_t, condP_f, dum_ab, stepR, want_none, want_some, opRun, ev_t, ev_c, put_none, put_some, resAll, res_tmp, res_cell, oneOf, minI, maxI, min2A, max2A, mn2, mx2, mx3, rdBlk, wrBlk, newBlk, partA, abin, ibin, isShift, AV.cells, AV.one, lay, sub, fillA, lenA, toN, allApart, apartFrom, Nat.testBit, Mem.blk_set_same, Mem.blk_set_ne, Mem.set_set, bit_zero, bit_self, lowBits_or, lowBits_zero, len_setT, sl_same, sl_ne, len_frame, sl_frame,↓op_len, lenOp_slc, lenOp_nils, ↓Post.some, ↓Post_bind, ↓Post_ret, ↓Post_draw, ↓PostL_nil, ↓PostL_cons, Post_fail, ofOpt_some, ofOpt_none, eA_b, eA_i, eA_s, eA_nn, eA_np, eA_pn, eA_lnn, eA_lnp, eA_lpn, eA_i2, eA_i3, blt_dec, Nat.add_assoc, keeps_refl, keeps_at, keeps_up], by simp [↓P_skip, ↓P_exit, ↓P_ret, ↓P_seq, ↓P_cond, ↓P_blk, ↓P_reg, ↓P_draw, ↓P_nil, ↓P_cons, condP_t, condP_f, dum_ab, stepR, want_none, want_some, opRun, ev_t, ev_c, put_none, put_some, resAll, res_tmp, res_cell, oneOf, minI, maxI, min2A, max2A, mn2, mx2, mx3, rdBlk, wrBlk, newBlk, partA, abin, ibin, isShift, AV.cells, AV.one, lay, sub, fillA, lenA, toN, allApart, apartFrom, Nat.testBit, Mem.blk_set_same, Mem.blk_set_ne, Mem.set_set, bit_zero, bit_self, lowBits_or, lowBits_zero, len_setT, sl_same, sl_ne, len_frame, sl_frame,↓op_len, lenOp_slc, lenOp_nils, ↓Post.some, ↓Post_bind, ↓Post_ret, ↓Post_draw, ↓PostL_nil, ↓PostL_cons, Post_fail, ofOpt_some, ofOpt_none, eA_b, eA_i, eA_s, eA_nn, eA_np, eA_pn, eA_lnn, eA_lnp, eA_lpn, eA_i2, eA_i3, blt_dec, Nat.add_assoc, keeps_refl, keeps_at, keeps_up], by simp [↓P_skip, ↓P_exit, ↓P_ret, ↓P_seq, ↓P_cond, ↓P_blk, ↓P_reg, ↓P_draw, ↓P_nil, ↓P_cons, condP_t, condP_f, dum_ab, stepR, want_none, want_some, opRun, ev_t, ev_c, put_none, put_some, resAll, res_tmp, res_cell, oneOf, minI, maxI, min2A, max2A, mn2, mx2, mx3, rdBlk, wrBlk, newBlk, partA, abin, ibin, isShift, AV.cells, AV.one, lay, sub, fillA, lenA, toN, allApart, apartFrom, Nat.testBit, Mem.blk_set_same, Mem.blk_set_ne, Mem.set_set, bit_zero, bit_self, lowBits_or, lowBits_zero, len_setT, sl_same, sl_ne, len_frame, sl_frame,↓op_len, lenOp_slc, lenOp_nils, ↓Post.some, ↓Post_bind, ↓Post_ret, ↓Post_draw, ↓PostL_nil, ↓PostL_cons, Post_fail, ofOpt_some, ofOpt_none, eA_b, eA_i, eA_s, eA_nn, eA_np, eA_pn, eA_lnn, eA_lnp, eA_lpn, eA_i2, eA_i3, blt_dec, Nat.add_assoc, keeps_refl, keeps_at, keeps_up], fun k hk => by omega, rfl, rfl, rfl⟩ (by omega) ?_
  rintro e ts2 h2 nx2 tc2 wr2 ⟨hlen, rfl, rfl, rfl, ⟨rfl, e1⟩ | ⟨rfl, e1, e2⟩⟩
  · simp (maxSteps := 4000000) [↓P_skip, ↓P_exit, ↓P_ret, ↓P_seq, ↓P_cond, ↓P_blk, ↓P_reg, ↓P_draw, ↓P_nil, ↓P_cons, condP_t, condP_f, dum_ab, stepR, want_none, want_some, opRun, ev_t, ev_c, put_none, put_some, resAll, res_tmp, res_cell, oneOf, minI, maxI, min2A, max2A, mn2, mx2, mx3, rdBlk, wrBlk, newBlk, partA, abin, ibin, isShift, AV.cells, AV.one, lay, sub, fillA, lenA, toN, allApart, apartFrom, Nat.testBit, Mem.blk_set_same, Mem.blk_set_ne, Mem.set_set, bit_zero, bit_self, lowBits_or, lowBits_zero, len_setT, sl_same, sl_ne, len_frame, sl_frame,↓op_len, lenOp_slc, lenOp_nils, ↓Post.some, ↓Post_bind, ↓Post_ret, ↓Post_draw, ↓PostL_nil, ↓PostL_cons, Post_fail, ofOpt_some, ofOpt_none, eA_b, eA_i, eA_s, eA_nn, eA_np, eA_pn, eA_lnn, eA_lnp, eA_lpn, eA_i2, eA_i3, blt_dec, Nat.add_assoc, keeps_refl, keeps_at, keeps_up, new_one, and_pow, bit_hi, lowBits_pow, ble_dec, fr_refl, fr_at, fr_up, fr_p, dum_ab, hlen, e1]
  · simp (maxSteps := 4000000) [↓P_skip, ↓P_exit, ↓P_ret, ↓P_seq, ↓P_cond, ↓P_blk, ↓P_reg, ↓P_draw, ↓P_nil, ↓P_cons, condP_t, condP_f, dum_ab, stepR, want_none, want_some, opRun, ev_t, ev_c, put_none, put_some, resAll, res_tmp, res_cell, oneOf, minI, maxI, min2A, max2A, mn2, mx2, mx3, rdBlk, wrBlk, newBlk, partA, abin, ibin, isShift, AV.cells, AV.one, lay, sub, fillA, lenA, toN, allApart, apartFrom, Nat.testBit, Mem.blk_set_same, Mem.blk_set_ne, Mem.set_set, bit_zero, bit_self, lowBits_or, lowBits_zero, len_setT, sl_same, sl_ne, len_frame, sl_frame,↓op_len, lenOp_slc, lenOp_nils, ↓Post.some, ↓Post_bind, ↓Post_ret, ↓Post_draw, ↓PostL_nil, ↓PostL_cons, Post_fail, ofOpt_some, ofOpt_none, eA_b, eA_i, eA_s, eA_nn, eA_np, eA_pn, eA_lnn, eA_lnp, eA_lpn, eA_i2, eA_i3, blt_dec, Nat.add_assoc, keeps_refl, keeps_at, keeps_up, new_one, and_pow, bit_hi, lowBits_pow, ble_dec, fr_refl, fr_at, fr_up, fr_p, dum_ab, hlen, e1, e2]
theorem take_no {h : Mem} {nx p : Nat} {F : List Fr} {U : List Bool} {s : Int} {A B : List (List Int)} (ps : PS h nx p F U s A B) (me se ho self : Int) (v : AV) (l : List Int) (gx : RV 1 l.length v h 0 nx (u32s l)) (c : ¬ ff U < 24 ∨ 8 < l.length) : Rd 100 13 [.ptr p 0, .int .i64 me, .int .u32 self, v, .int .i64 se, .int .i64 ho] h nx (.int .i64 (-1)) := by
  intro lg hlg
  obtain ⟨tc, x1⟩ := (index_rd ps).at lg hlg
  have ll := gx.lenOp
  rw [xF_fr T13]
  by_cases c1 : ff U < 24
  · have c2 : 8 < l.length := by rcases c with c | c <;> omega
    have c2' : (8 : Int) < (l.length : Int) := by omega
    have c3 : ¬ (ff U : Int) < 0 := by omega
    rw [if_pos c1] at x1
    generalize l.length = Ln at *
    simp (maxSteps := 4000000) [↓step_none, ↓step_t, ↓step_f, ↓step_nt, ↓step_nf, ↓op_load, ↓op_store, ↓op_slice, ↓op_app, ↓P_skip, ↓P_exit, ↓P_ret, ↓P_seq, ↓P_cond, ↓P_blk, ↓P_reg, ↓P_draw, ↓P_nil, ↓P_cons, condP_t, condP_f, dum_ab, stepR, want_none, want_some, opRun, ev_t, ev_c, put_none, put_some, resAll, res_tmp, res_cell, oneOf, minI, maxI, min2A, max2A, mn2, mx2, mx3, rdBlk, wrBlk, newBlk, partA, abin, ibin, isShift, AV.cells, AV.one, lay, sub, fillA, lenA, toN, allApart, apartFrom, Nat.testBit, Mem.blk_set_same, Mem.blk_set_ne, Mem.set_set, bit_zero, bit_self, lowBits_or, lowBits_zero, len_setT, sl_same, sl_ne, len_frame, sl_frame,↓op_len, lenOp_slc, lenOp_nils, ↓Post.some, ↓Post_bind, ↓Post_ret, ↓Post_draw, ↓PostL_nil, ↓PostL_cons, Post_fail, ofOpt_some, ofOpt_none, eA_b, eA_i, eA_s, eA_nn, eA_np, eA_pn, eA_lnn, eA_lnp, eA_lpn, eA_i2, eA_i3, blt_dec, Nat.add_assoc, keeps_refl, keeps_at, keeps_up, new_one, and_pow, bit_hi, lowBits_pow, ble_dec, fr_refl, fr_at, fr_up, fr_p, dum_ab, F13, bnd, x1, ll, c2', c2, c3]
  · rw [if_neg c1] at x1
    simp (maxSteps := 4000000) [↓step_none, ↓step_t, ↓step_f, ↓step_nt, ↓step_nf, ↓op_load, ↓op_store, ↓op_slice, ↓op_app, ↓P_skip, ↓P_exit, ↓P_ret, ↓P_seq, ↓P_cond, ↓P_blk, ↓P_reg, ↓P_draw, ↓P_nil, ↓P_cons, condP_t, condP_f, dum_ab, stepR, want_none, want_some, opRun, ev_t, ev_c, put_none, put_some, resAll, res_tmp, res_cell, oneOf, minI, maxI, min2A, max2A, mn2, mx2, mx3, rdBlk, wrBlk, newBlk, partA, abin, ibin, isShift, AV.cells, AV.one, lay, sub, fillA, lenA, toN, allApart, apartFrom, Nat.testBit, Mem.blk_set_same, Mem.blk_set_ne, Mem.set_set, bit_zero, bit_self, lowBits_or, lowBits_zero, len_setT, sl_same, sl_ne, len_frame, sl_frame,↓op_len, lenOp_slc, lenOp_nils, ↓Post.some, ↓Post_bind, ↓Post_ret, ↓Post_draw, ↓PostL_nil, ↓PostL_cons, Post_fail, ofOpt_some, ofOpt_none, eA_b, eA_i, eA_s, eA_nn, eA_np, eA_pn, eA_lnn, eA_lnp, eA_lpn, eA_i2, eA_i3, blt_dec, Nat.add_assoc, keeps_refl, keeps_at, keeps_up, new_one, and_pow, bit_hi, lowBits_pow, ble_dec, fr_refl, fr_at, fr_up, fr_p, dum_ab, F13, bnd, x1]
theorem bit_new {nx nx' p : Nat} (h : p < nx) : bit nx p &&& (2 ^ nx' - 2 ^ nx) = 0 := by rw [bit_hi h, Nat.and_comm]; exact new_lo h
set_option maxHeartbeats 8000000 in
theorem take_sv {h : Mem} {nx p : Nat} {F : List Fr} {U : List Bool} {s : Int} {A B : List (List Int)} (ps : PS h nx p F U s A B) (me se ho self : Int) (v : AV) (l : List Int) (gx : SV v h nx l) (hv : bid v ≠ some p) (c : ff U < 24) (cl : l.length ≤ 8) :
    ∃ sl, Pch 100 13 [.ptr p 0, .int .i64 me, .int .u32 self, v, .int .i64 se, .int .i64 ho] h nx p F (.int .i64 (ff U : Nat)) (F.set (ff U) ⟨me, 0, se, if ho = -1 then (ff U : Int) else ho, IntKind.i64.wrap (s + 1), self, sl, .nils⟩) (U.set (ff U) true) (IntKind.i64.wrap (s + 1)) (A.set (ff U) l) (B.set (ff U) []) := by
  obtain ⟨t, hb⟩ := ps.hb
  have hU := ps.hU
  have hF := ps.hF
  have hp := ps.hp
  have hi : ff U < U.length := by omega
  have hf : ff U < F.length := by omega
  generalize hs' : IntKind.i64.wrap (s + 1) = s'
  obtain ⟨H1, hH1⟩ : ∃ H1, H1 = h.set p (some ⟨t, 217, true, false, pcells F U s'⟩) := ⟨_, rfl⟩
  have hb1 : H1.blk p = some ⟨t, 217, true, false, pcells F U s'⟩ := by rw [hH1, Mem.blk_set_same]
  obtain ⟨H2, hH2⟩ : ∃ H2, H2 = H1.set p (some ⟨t, 217, true, false, pcells F (U.set (ff U) true) s'⟩) := ⟨_, rfl⟩
  have hb2 : H2.blk p = some ⟨t, 217, true, false, pcells F (U.set (ff U) true) s'⟩ := by rw [hH2, Mem.blk_set_same]
  have hU' : (U.set (ff U) true).length = 24 := by rw [List.length_set]; exact hU
  have e2 : ∀ b, b ≠ p → H2.blk b = h.blk b := fun b hb => by rw [hH2, Mem.blk_set_ne _ _ _ _ hb, hH1, Mem.blk_set_ne _ _ _ _ hb]
  have gx2 : SV v H2 nx l := sv_keep gx (Nat.le_refl _) fun b hb h => e2 b (fun e => hv (by rw [← e]; exact h))
  obtain ⟨v', h', nx', tc', x2, n2, or2, k2, lo2, m2⟩ := clone_sv gx2 (by omega) nx (Nat.le_refl _)
  have hb3 : h'.blk p = some ⟨t, 217, true, false, pcells F (U.set (ff U) true) s'⟩ := (k2 p hp).trans hb2
  refine ⟨v', fun lg hlg => ?_⟩
  obtain ⟨tc, x1⟩ := (index_rd ps).at lg hlg
  rw [if_pos c] at x1
  have ll := gx.lenOp
  have c3 : ¬ (ff U : Int) < 0 := by omega
  have c4 : ¬ (8 : Int) < (l.length : Int) := by omega
  have c5 : (ff U : Int) < 24 := by omega
  have l1 := fun lg => ld_at hb hp (p_ser hF hU s) lg
  have s1 := fun lg => st_at (n := 1) hb hp (o := 216) (.int .i64 s') rfl rfl (by rw [plen hF hU]; omega) lg
  have s2 := fun lg => st_at (n := 1) hb1 hp (o := 192 + ff U) (.bool true) rfl rfl (by rw [plen hF hU]; omega) lg
  have l2 := fun lg => ld_at hb2 hp (p_ser hF hU' s') lg
  simp only [AV.cells, w_ser hF hU, w_used hF s' hi] at s1 s2
  rw [← hH1] at s1
  rw [← hH2] at s2
  have fin : ∀ (hh : Int) (H3 : Mem), H3 = h'.set p (some ⟨t, 217, true, false, pcells (F.set (ff U) ⟨me, 0, se, hh, s', self, v', .nils⟩) (U.set (ff U) true) s'⟩) → PS H3 nx' p (F.set (ff U) ⟨me, 0, se, hh, s', self, v', .nils⟩) (U.set (ff U) true) s' (A.set (ff U) l) (B.set (ff U) []) ∧ (∀ b, Own (F.set (ff U) ⟨me, 0, se, hh, s', self, v', .nils⟩) b → Own F b ∨ nx ≤ b) ∧ ∀ b, b ≠ p → b < nx → H3.blk b = h.blk b := by
    intro hh H3 e3
    have hfr : ∀ b, b ≠ p → b < nx → H3.blk b = h.blk b := fun b h1 h2 => by rw [e3, Mem.blk_set_ne _ _ _ _ h1, k2 b h2, e2 b h1]
    refine ⟨ps.row hf (f := ⟨me, 0, se, hh, s', self, v', .nils⟩) n2 hU' ⟨t, by rw [e3, Mem.blk_set_same]⟩ ?_ (.inl ⟨rfl, rfl⟩) (fun b h1 h2 _ _ => hfr b h2 h1) (fun b hb => .inr (lo2 b hb)) (fun b hb => by cases hb) (fun b _ hb => by cases hb), fun b ho => ?_, hfr⟩
    · exact or2.keep (Nat.le_refl _) fun b hb => by rw [e3, Mem.blk_set_ne _ _ _ _ (by have := lo2 b hb; omega)]
    · rcases own_set hf ho with h | h | h
      · exact .inl h
      · exact .inr (lo2 b h)
      · cases h
  have gl : ∀ hh, lay (pcells F (U.set (ff U) true) s') (ff U * 8) (fcells ⟨me, 0, se, hh, s', self, v', .nils⟩) = pcells (F.set (ff U) ⟨me, 0, se, hh, s', self, v', .nils⟩) (U.set (ff U) true) s' := fun hh => w_line s' hf _
  have one : v'.one = true := by
    rcases or2 with ⟨rfl, _⟩ | ⟨_, rfl, _⟩ | ⟨_, _, _, rfl, _⟩ <;> rfl
  have s3 := fun hh lg => st_at (n := 8) hb3 (show p < nx' by omega) (o := ff U * 8) (.agg (fcells ⟨me, 0, se, hh, s', self, v', .nils⟩)) rfl (by simp only [AV.cells, fcells, List.all_cons, List.all_nil, one, Bool.and_true]; rfl) (by rw [plen hF hU']; omega) lg
  simp only [AV.cells, gl] at s3
  simp only [fcells] at s3
  have pn : ¬ p = nx := by omega
  rw [xF_fr T13]
  by_cases ch : ho = -1
  · subst ch
    obtain ⟨f1, f2, f3⟩ := fin (ff U : Int) _ rfl
    have s3' := s3 (ff U : Int)
    generalize h'.set p (some ⟨t, 217, true, false, pcells (F.set (ff U) ⟨me, 0, se, (ff U : Int), s', self, v', .nils⟩) (U.set (ff U) true) s'⟩) = H3 at *
    generalize l.length = Ln at *
    rcases or2 with ⟨rfl, _⟩ | ⟨b7, rfl, _⟩ | ⟨b7, _, _, rfl, _⟩
    all_goals simp (maxSteps := 4000000) [↓step_none, ↓step_t, ↓step_f, ↓step_nt, ↓step_nf, ↓op_load, ↓op_store, ↓op_slice, ↓op_app, ↓P_skip, ↓P_exit, ↓P_ret, ↓P_seq, ↓P_cond, ↓P_blk, ↓P_reg, ↓P_draw, ↓P_nil, ↓P_cons, condP_t, condP_f, dum_ab, stepR, want_none, want_some, opRun, ev_t, ev_c, put_none, put_some, resAll, res_tmp, res_cell, oneOf, minI, maxI, min2A, max2A, mn2, mx2, mx3, rdBlk, wrBlk, newBlk, partA, abin, ibin, isShift, AV.cells, AV.one, lay, sub, fillA, lenA, toN, allApart, apartFrom, Nat.testBit, Mem.blk_set_same, Mem.blk_set_ne, Mem.set_set, bit_zero, bit_self, lowBits_or, lowBits_zero, len_setT, sl_same, sl_ne, len_frame, sl_frame,↓op_len, lenOp_slc, lenOp_nils, ↓Post.some, ↓Post_bind, ↓Post_ret, ↓Post_draw, ↓PostL_nil, ↓PostL_cons, Post_fail, ofOpt_some, ofOpt_none, eA_b, eA_i, eA_s, eA_nn, eA_np, eA_pn, eA_lnn, eA_lnp, eA_lpn, eA_i2, eA_i3, blt_dec, Nat.add_assoc, keeps_refl, keeps_at, keeps_up, new_one, and_pow, bit_hi, lowBits_pow, ble_dec, fr_refl, fr_at, fr_up, fr_p, dum_ab, F13, bnd, x1, ll, c, c3, c4, c5, l1, hs', s1, s2, l2, x2, s3']
    all_goals exact ⟨bit_new hp, n2, f1, f2, fun b hbp ho => ⟨or_z (bit_and hbp) (or_z (bit_and hbp) (low_z (bit_and hbp))), fun hlt => f3 b hbp hlt⟩⟩
  · have ch' : (ho == -1) = false := by simpa using ch
    obtain ⟨f1, f2, f3⟩ := fin ho _ rfl
    have s3' := s3 ho
    generalize h'.set p (some ⟨t, 217, true, false, pcells (F.set (ff U) ⟨me, 0, se, ho, s', self, v', .nils⟩) (U.set (ff U) true) s'⟩) = H3 at *
    generalize l.length = Ln at *
    rcases or2 with ⟨rfl, _⟩ | ⟨b7, rfl, _⟩ | ⟨b7, _, _, rfl, _⟩
    all_goals simp (maxSteps := 4000000) [↓step_none, ↓step_t, ↓step_f, ↓step_nt, ↓step_nf, ↓op_load, ↓op_store, ↓op_slice, ↓op_app, ↓P_skip, ↓P_exit, ↓P_ret, ↓P_seq, ↓P_cond, ↓P_blk, ↓P_reg, ↓P_draw, ↓P_nil, ↓P_cons, condP_t, condP_f, dum_ab, stepR, want_none, want_some, opRun, ev_t, ev_c, put_none, put_some, resAll, res_tmp, res_cell, oneOf, minI, maxI, min2A, max2A, mn2, mx2, mx3, rdBlk, wrBlk, newBlk, partA, abin, ibin, isShift, AV.cells, AV.one, lay, sub, fillA, lenA, toN, allApart, apartFrom, Nat.testBit, Mem.blk_set_same, Mem.blk_set_ne, Mem.set_set, bit_zero, bit_self, lowBits_or, lowBits_zero, len_setT, sl_same, sl_ne, len_frame, sl_frame,↓op_len, lenOp_slc, lenOp_nils, ↓Post.some, ↓Post_bind, ↓Post_ret, ↓Post_draw, ↓PostL_nil, ↓PostL_cons, Post_fail, ofOpt_some, ofOpt_none, eA_b, eA_i, eA_s, eA_nn, eA_np, eA_pn, eA_lnn, eA_lnp, eA_lpn, eA_i2, eA_i3, blt_dec, Nat.add_assoc, keeps_refl, keeps_at, keeps_up, new_one, and_pow, bit_hi, lowBits_pow, ble_dec, fr_refl, fr_at, fr_up, fr_p, dum_ab, F13, bnd, x1, ll, c, c3, c4, c5, l1, hs', s1, s2, l2, x2, s3', ch, ch']
    all_goals exact ⟨bit_new hp, n2, f1, f2, fun b hbp ho => ⟨or_z (bit_and hbp) (or_z (bit_and hbp) (low_z (bit_and hbp))), fun hlt => f3 b hbp hlt⟩⟩
theorem take_yes {h : Mem} {nx p : Nat} {F : List Fr} {U : List Bool} {s : Int} {A B : List (List Int)} (ps : PS h nx p F U s A B) (me se ho self : Int) (v : AV) (l : List Int) (gx : RV 1 l.length v h 0 nx (u32s l)) (hv : bid v ≠ some p) (c : ff U < 24) (cl : l.length ≤ 8) :
    ∃ sl, Pch 100 13 [.ptr p 0, .int .i64 me, .int .u32 self, v, .int .i64 se, .int .i64 ho] h nx p F (.int .i64 (ff U : Nat)) (F.set (ff U) ⟨me, 0, se, if ho = -1 then (ff U : Int) else ho, IntKind.i64.wrap (s + 1), self, sl, .nils⟩) (U.set (ff U) true) (IntKind.i64.wrap (s + 1)) (A.set (ff U) l) (B.set (ff U) []) := take_sv ps me se ho self v l (.inl gx) hv c cl

/-! ### At -/
theorem clip_or {s : AV} {h : Mem} {nx : Nat} {l : List Int} (g : OR s h nx l) (lg : Nat) : ∃ v tc, (∀ k, xF T (k + 20) 32 [s] h nx lg = some ⟨v, h, nx, tc, 0⟩) ∧ RV 1 l.length v h 0 nx (u32s l) ∧ (∀ b, bid v = some b → bid s = some b) ∧ (∀ q, bid s ≠ some q → tc &&& 2 ^ q = 0) ∧ (v = .nils ∨ ∃ b n, v = .slc b 0 n (some n)) := by
  have ll := g.lenOp
  have rv := g.rv
  rcases g with ⟨rfl, rfl⟩ | ⟨b, rfl, rfl, hb, K, hK⟩ | ⟨b, t, r, rfl, hb, hK⟩
  · refine ⟨.nils, 0, fun k => ?_, .inl ⟨rfl, rfl, rfl⟩, fun b hb => hb, fun q _ => Nat.zero_and _, .inl rfl⟩
    rw [xF_fr T32]; apply eq_of_Post
    simp (maxSteps := 4000000) [↓step_none, ↓step_t, ↓step_f, ↓step_nt, ↓step_nf, ↓op_load, ↓op_store, ↓op_slice, ↓op_app, ↓P_skip, ↓P_exit, ↓P_ret, ↓P_seq, ↓P_cond, ↓P_blk, ↓P_reg, ↓P_draw, ↓P_nil, ↓P_cons, condP_t, condP_f, dum_ab, stepR, want_none, want_some, opRun, ev_t, ev_c, put_none, put_some, resAll, res_tmp, res_cell, oneOf, minI, maxI, min2A, max2A, mn2, mx2, mx3, rdBlk, wrBlk, newBlk, partA, abin, ibin, isShift, AV.cells, AV.one, lay, sub, fillA, lenA, toN, allApart, apartFrom, Nat.testBit, Mem.blk_set_same, Mem.blk_set_ne, Mem.set_set, bit_zero, bit_self, lowBits_or, lowBits_zero, len_setT, sl_same, sl_ne, len_frame, sl_frame,↓op_len, lenOp_slc, lenOp_nils, ↓Post.some, ↓Post_bind, ↓Post_ret, ↓Post_draw, ↓PostL_nil, ↓PostL_cons, Post_fail, ofOpt_some, ofOpt_none, eA_b, eA_i, eA_s, eA_nn, eA_np, eA_pn, eA_lnn, eA_lnp, eA_lpn, eA_i2, eA_i3, blt_dec, Nat.add_assoc, keeps_refl, keeps_at, keeps_up, new_one, and_pow, bit_hi, lowBits_pow, ble_dec, fr_refl, fr_at, fr_up, fr_p, dum_ab, F32, sliceA, bnd, toNle]
  · refine ⟨.slc b 0 0 (some 0), 0, fun k => ?_, rv, fun b hb => hb, fun q _ => Nat.zero_and _, .inr ⟨b, 0, rfl⟩⟩
    rw [xF_fr T32]; apply eq_of_Post
    simp (maxSteps := 4000000) [↓step_none, ↓step_t, ↓step_f, ↓step_nt, ↓step_nf, ↓op_load, ↓op_store, ↓op_slice, ↓op_app, ↓P_skip, ↓P_exit, ↓P_ret, ↓P_seq, ↓P_cond, ↓P_blk, ↓P_reg, ↓P_draw, ↓P_nil, ↓P_cons, condP_t, condP_f, dum_ab, stepR, want_none, want_some, opRun, ev_t, ev_c, put_none, put_some, resAll, res_tmp, res_cell, oneOf, minI, maxI, min2A, max2A, mn2, mx2, mx3, rdBlk, wrBlk, newBlk, partA, abin, ibin, isShift, AV.cells, AV.one, lay, sub, fillA, lenA, toN, allApart, apartFrom, Nat.testBit, Mem.blk_set_same, Mem.blk_set_ne, Mem.set_set, bit_zero, bit_self, lowBits_or, lowBits_zero, len_setT, sl_same, sl_ne, len_frame, sl_frame,↓op_len, lenOp_slc, lenOp_nils, ↓Post.some, ↓Post_bind, ↓Post_ret, ↓Post_draw, ↓PostL_nil, ↓PostL_cons, Post_fail, ofOpt_some, ofOpt_none, eA_b, eA_i, eA_s, eA_nn, eA_np, eA_pn, eA_lnn, eA_lnp, eA_lpn, eA_i2, eA_i3, blt_dec, Nat.add_assoc, keeps_refl, keeps_at, keeps_up, new_one, and_pow, bit_hi, lowBits_pow, ble_dec, fr_refl, fr_at, fr_up, fr_p, dum_ab, F32, sliceA, bnd, toNle]
  · refine ⟨.slc b 0 l.length (some l.length), bit lg b, fun k => ?_, ?_, fun b hb => hb, fun q hq => bit_and (bidne hq), .inr ⟨b, _, rfl⟩⟩
    · have e1 : l.length ≤ (u32s l ++ r).length := by simp [u32s_len]
      have e1' : (l.length : Int) ≤ ((u32s l ++ r).length : Int) := by omega
      generalize (u32s l ++ r) = cs at *
      generalize l.length = n at *
      have c0 : (0 : Int) ≤ (n : Int) := by omega
      rw [xF_fr T32]; apply eq_of_Post
      simp (maxSteps := 4000000) [↓step_none, ↓step_t, ↓step_f, ↓step_nt, ↓step_nf, ↓op_load, ↓op_store, ↓op_slice, ↓op_app, ↓P_skip, ↓P_exit, ↓P_ret, ↓P_seq, ↓P_cond, ↓P_blk, ↓P_reg, ↓P_draw, ↓P_nil, ↓P_cons, condP_t, condP_f, dum_ab, stepR, want_none, want_some, opRun, ev_t, ev_c, put_none, put_some, resAll, res_tmp, res_cell, oneOf, minI, maxI, min2A, max2A, mn2, mx2, mx3, rdBlk, wrBlk, newBlk, partA, abin, ibin, isShift, AV.cells, AV.one, lay, sub, fillA, lenA, toN, allApart, apartFrom, Nat.testBit, Mem.blk_set_same, Mem.blk_set_ne, Mem.set_set, bit_zero, bit_self, lowBits_or, lowBits_zero, len_setT, sl_same, sl_ne, len_frame, sl_frame,↓op_len, lenOp_slc, lenOp_nils, ↓Post.some, ↓Post_bind, ↓Post_ret, ↓Post_draw, ↓PostL_nil, ↓PostL_cons, Post_fail, ofOpt_some, ofOpt_none, eA_b, eA_i, eA_s, eA_nn, eA_np, eA_pn, eA_lnn, eA_lnp, eA_lpn, eA_i2, eA_i3, blt_dec, Nat.add_assoc, keeps_refl, keeps_at, keeps_up, new_one, and_pow, bit_hi, lowBits_pow, ble_dec, fr_refl, fr_at, fr_up, fr_p, dum_ab, F32, sliceA, bnd, toNle, hb, hK, e1, e1', c0]
    · rcases rv with ⟨h, _⟩ | ⟨b', o, c, K, h0, h1, h2, h3, h4⟩
      · cases h
      · cases h2
        exact .inr ⟨b, 0, _, K, h0, h1, rfl, h3, h4⟩
end Go.Proofs.YtobcboiemibkkaaT
