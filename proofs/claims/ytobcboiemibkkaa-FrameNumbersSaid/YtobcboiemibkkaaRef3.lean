/- Frame: the reference's pool: Give, Goto. -/
import Derived.Test.YtobcboiemibkkaaRef2
namespace Go.Proofs.YtobcboiemibkkaaT
open Go Go.Proofs.YtobcboiemibkkaaE Go.Proofs.YtobcboiemibkkaaB
set_option linter.unusedSimpArgs false
set_option linter.unusedVariables false
attribute [local congr] Post_cg PostL_cg condP_cg

/-- A call of the reference's pool that changes it: what it writes of what was there is the pool's block, or its own rows. -/
def Rch (d f : Nat) (args : List AV) (h : Mem) (nx w : Nat) (U : List Bool) (R : List (AV × AV)) (v : AV) (F' : List Fr) (U' : List Bool) (s' : Int) (A' B' : List (List Int)) : Prop := ∀ lg, lg ≤ nx → Post (xF T d f args h nx lg) fun v' h' nx' tc wr => v' = v ∧ nx ≤ nx' ∧ (∃ X' R', RPS h' nx' w F' U' s' A' B' X' R' ∧ ∀ b, ROwn U' R' b → ROwn U R b ∨ nx ≤ b) ∧ ∀ b, b ≠ w → ¬ ROwn U R b → b < nx → wr &&& 2 ^ b = 0 ∧ h'.blk b = h.blk b
theorem zero_and (b : Nat) : 0 &&& 2 ^ b = 0 := Nat.zero_and _
theorem rgive_yes {h : Mem} {nx w : Nat} {F : List Fr} {U : List Bool} {s : Int} {A B : List (List Int)} {X : List (List AV)} {R : List (AV × AV)} (r : RPS h nx w F U s A B X R) (i : Nat) (hi : i < U.length) (hu : U[i] = true) : Rch 60 21 [.ptr w 0, .int .i64 i] h nx w U R (.bool true) F (U.set i false) s A B := by
  intro lg hlg
  have hU := r.hU
  have hR := r.hR
  have hF := r.hF
  have hA := r.hA
  have hB := r.hB
  have hX := r.x9.n
  obtain ⟨t, hb⟩ := r.hb
  obtain ⟨tc, x1⟩ := (has_in r i hi).at lg hlg
  rw [hu] at x1
  have c2 : (i : Int) < 24 := by omega
  have c3 : i < 24 := by omega
  have s1 := fun lg => st_at (n := 9) hb r.hw (o := i * 9) (.agg rz) rfl rfl (by rw [r.x9.len]; omega) lg
  simp only [AV.cells] at s1
  rw [rw_line r.x9 s (by omega) rz rfl] at s1
  have S := r.row (h' := h.set w (some ⟨t, 217, true, false, rcells (X.set i rz) s⟩)) (nx' := nx) (s' := s) (i := i) (by omega) false (F[i]'(by omega)) (A[i]'(by omega)) (B[i]'(by omega)) (R[i]'(by omega)).1 (R[i]'(by omega)).2 (Nat.le_refl _) ⟨t, Mem.blk_set_same ..⟩ (fun h => nomatch h) (fun h => nomatch h) (fun q h1 h2 h3 => Mem.blk_set_ne _ _ _ _ h2) (fun h => nomatch h) (fun h => nomatch h) (fun h => nomatch h)
  rw [set_same F i (by omega), set_same A i (by omega), set_same B i (by omega)] at S
  unfold rz at s1
  rw [xF_fr T21]
  simp (maxSteps := 4000000) [↓step_none, ↓step_t, ↓step_f, ↓step_nt, ↓step_nf, ↓op_load, ↓op_store, ↓op_slice, ↓op_app, ↓P_skip, ↓P_exit, ↓P_ret, ↓P_seq, ↓P_cond, ↓P_blk, ↓P_reg, ↓P_draw, ↓P_nil, ↓P_cons, condP_t, condP_f, dum_ab, stepR, want_none, want_some, opRun, ev_t, ev_c, put_none, put_some, resAll, res_tmp, res_cell, oneOf, minI, maxI, min2A, max2A, mn2, mx2, mx3, rdBlk, wrBlk, newBlk, partA, abin, ibin, isShift, AV.cells, AV.one, lay, sub, fillA, lenA, toN, allApart, apartFrom, Nat.testBit, Mem.blk_set_same, Mem.blk_set_ne, Mem.set_set, bit_zero, bit_self, lowBits_or, lowBits_zero, len_setT, sl_same, sl_ne, len_frame, sl_frame,↓op_len, lenOp_slc, lenOp_nils, ↓Post.some, ↓Post_bind, ↓Post_ret, ↓Post_draw, ↓PostL_nil, ↓PostL_cons, Post_fail, ofOpt_some, ofOpt_none, eA_b, eA_i, eA_s, eA_nn, eA_np, eA_pn, eA_lnn, eA_lnp, eA_lpn, eA_i2, eA_i3, blt_dec, Nat.add_assoc, keeps_refl, keeps_at, keeps_up, new_one, and_pow, bit_hi, lowBits_pow, ble_dec, fr_refl, fr_at, fr_up, fr_p, dum_ab, F21, x1, c2, c3, s1]
  refine ⟨⟨_, _, S, fun b ⟨j, h1, h2, h3⟩ => .inl ?_⟩, fun b h1 h2 h3 => ⟨bit_and h1, Mem.blk_set_ne _ _ _ _ h1⟩⟩
  rw [List.length_set] at h1
  have hj : j ≠ i := fun e => by subst e; rw [List.getElem?_set_self (by omega)] at h2; cases h2
  rw [List.getElem?_set_ne (Ne.symm hj)] at h2
  simp only [List.getElem_set_ne (Ne.symm hj)] at h3
  exact ⟨j, h1, h2, h3⟩
theorem rgive_no {h : Mem} {nx w : Nat} {i : Int} (x : Rd 30 33 [.ptr w 0, .int .i64 i] h nx (.bool false)) : Rd 60 21 [.ptr w 0, .int .i64 i] h nx (.bool false) := by
  intro lg hlg
  obtain ⟨tc, x1⟩ := x.at lg hlg
  rw [xF_fr T21]
  simp (maxSteps := 4000000) [↓step_none, ↓step_t, ↓step_f, ↓step_nt, ↓step_nf, ↓op_load, ↓op_store, ↓op_slice, ↓op_app, ↓P_skip, ↓P_exit, ↓P_ret, ↓P_seq, ↓P_cond, ↓P_blk, ↓P_reg, ↓P_draw, ↓P_nil, ↓P_cons, condP_t, condP_f, dum_ab, stepR, want_none, want_some, opRun, ev_t, ev_c, put_none, put_some, resAll, res_tmp, res_cell, oneOf, minI, maxI, min2A, max2A, mn2, mx2, mx3, rdBlk, wrBlk, newBlk, partA, abin, ibin, isShift, AV.cells, AV.one, lay, sub, fillA, lenA, toN, allApart, apartFrom, Nat.testBit, Mem.blk_set_same, Mem.blk_set_ne, Mem.set_set, bit_zero, bit_self, lowBits_or, lowBits_zero, len_setT, sl_same, sl_ne, len_frame, sl_frame,↓op_len, lenOp_slc, lenOp_nils, ↓Post.some, ↓Post_bind, ↓Post_ret, ↓Post_draw, ↓PostL_nil, ↓PostL_cons, Post_fail, ofOpt_some, ofOpt_none, eA_b, eA_i, eA_s, eA_nn, eA_np, eA_pn, eA_lnn, eA_lnp, eA_lpn, eA_i2, eA_i3, blt_dec, Nat.add_assoc, keeps_refl, keeps_at, keeps_up, new_one, and_pow, bit_hi, lowBits_pow, ble_dec, fr_refl, fr_at, fr_up, fr_p, dum_ab, F21, x1]
theorem rgoto_yes {h : Mem} {nx w : Nat} {F : List Fr} {U : List Bool} {s : Int} {A B : List (List Int)} {X : List (List AV)} {R : List (AV × AV)} (r : RPS h nx w F U s A B X R) (i : Nat) (hi : i < U.length) (hf : i < F.length) (hu : U[i] = true) (pc : Int) : Rch 60 23 [.ptr w 0, .int .i64 i, .int .i64 pc] h nx w U R (.bool true) (F.set i { F[i] with pc := pc }) U s A B := by
  intro lg hlg
  have hU := r.hU
  have hR := r.hR
  have hF := r.hF
  have hA := r.hA
  have hB := r.hB
  have hX := r.x9.n
  obtain ⟨t, hb⟩ := r.hb
  obtain ⟨tc, x1⟩ := (has_in r i hi).at lg hlg
  rw [hu] at x1
  have c2 : (i : Int) < 24 := by omega
  have c3 : i < 24 := by omega
  have e := r.fr i (by omega) hi hf (by omega)
  rw [hu] at e
  have e1 : X[i].set 2 (.int .i64 pc) = rf true { F[i] with pc := pc } ((R[i]'(by omega)).1, (R[i]'(by omega)).2) := by rw [e]; rfl
  have s1 := fun lg => st_at (n := 1) hb r.hw (o := i * 9 + 2) (.int .i64 pc) rfl rfl (by rw [r.x9.len]; omega) lg
  simp only [AV.cells] at s1
  rw [rw_fld r.x9 s (by omega) (by omega), e1] at s1
  have hui : U[i]? = some true := by rw [List.getElem?_eq_getElem hi, hu]
  obtain ⟨H, hH⟩ : ∃ H, H = h.set w (some ⟨t, 217, true, false, rcells (X.set i (rf true { F[i] with pc := pc } ((R[i]'(by omega)).1, (R[i]'(by omega)).2))) s⟩) := ⟨_, rfl⟩
  have kH : ∀ q, q ≠ w → H.blk q = h.blk q := fun q hq => by rw [hH]; exact Mem.blk_set_ne _ _ _ _ hq
  have own : ∀ q, (bid (R[i]'(by omega)).1 = some q ∨ bid (R[i]'(by omega)).2 = some q) → q ≠ w := fun q hq e => r.nw ⟨i, by omega, hui, by rw [e] at hq; exact hq⟩
  have S := r.row (h' := H) (nx' := nx) (s' := s) (i := i) (by omega) true { F[i] with pc := pc } (A[i]'(by omega)) (B[i]'(by omega)) (R[i]'(by omega)).1 (R[i]'(by omega)).2 (Nat.le_refl _) ⟨t, by rw [hH]; exact Mem.blk_set_same ..⟩ (fun _ => (r.rA i (by omega) (by omega) hui).keep (Nat.le_refl _) fun q hq => kH q (own q (.inl hq))) (fun _ => (r.rB i (by omega) (by omega) hui).keep (Nat.le_refl _) fun q hq => kH q (own q (.inr hq))) (fun q h1 h2 h3 => kH q h2) (fun _ q hq => .inl ⟨hui, hq⟩) (fun _ q hq => .inl ⟨hui, hq⟩) (fun _ q hq => r.d2 i (by omega) q hui hq)
  have eU : U.set i true = U := by
    have := set_same U i hi
    rwa [hu] at this
  have eR : R.set i ((R[i]'(by omega)).1, (R[i]'(by omega)).2) = R := set_same R i (by omega)
  rw [set_same A i (by omega), set_same B i (by omega), eU, eR] at S
  rw [← hH] at s1
  obtain ⟨tc2, x2⟩ := (has_in S i hi).at lg hlg
  rw [hu] at x2
  rw [xF_fr T23]
  simp (maxSteps := 4000000) [↓step_none, ↓step_t, ↓step_f, ↓step_nt, ↓step_nf, ↓op_load, ↓op_store, ↓op_slice, ↓op_app, ↓P_skip, ↓P_exit, ↓P_ret, ↓P_seq, ↓P_cond, ↓P_blk, ↓P_reg, ↓P_draw, ↓P_nil, ↓P_cons, condP_t, condP_f, dum_ab, stepR, want_none, want_some, opRun, ev_t, ev_c, put_none, put_some, resAll, res_tmp, res_cell, oneOf, minI, maxI, min2A, max2A, mn2, mx2, mx3, rdBlk, wrBlk, newBlk, partA, abin, ibin, isShift, AV.cells, AV.one, lay, sub, fillA, lenA, toN, allApart, apartFrom, Nat.testBit, Mem.blk_set_same, Mem.blk_set_ne, Mem.set_set, bit_zero, bit_self, lowBits_or, lowBits_zero, len_setT, sl_same, sl_ne, len_frame, sl_frame,↓op_len, lenOp_slc, lenOp_nils, ↓Post.some, ↓Post_bind, ↓Post_ret, ↓Post_draw, ↓PostL_nil, ↓PostL_cons, Post_fail, ofOpt_some, ofOpt_none, eA_b, eA_i, eA_s, eA_nn, eA_np, eA_pn, eA_lnn, eA_lnp, eA_lpn, eA_i2, eA_i3, blt_dec, Nat.add_assoc, keeps_refl, keeps_at, keeps_up, new_one, and_pow, bit_hi, lowBits_pow, ble_dec, fr_refl, fr_at, fr_up, fr_p, dum_ab, F23, x1, c2, c3, s1, x2]
  exact ⟨⟨_, _, S, fun b h => .inl h⟩, fun b h1 h2 h3 => ⟨bit_and h1, kH b h1⟩⟩
theorem rgoto_no {h : Mem} {nx w : Nat} {i : Int} (x : Rd 30 33 [.ptr w 0, .int .i64 i] h nx (.bool false)) (pc : Int) : Rd 60 23 [.ptr w 0, .int .i64 i, .int .i64 pc] h nx (.bool false) := by
  intro lg hlg
  obtain ⟨tc, x1⟩ := x.at lg hlg
  rw [xF_fr T23]
  simp (maxSteps := 4000000) [↓step_none, ↓step_t, ↓step_f, ↓step_nt, ↓step_nf, ↓op_load, ↓op_store, ↓op_slice, ↓op_app, ↓P_skip, ↓P_exit, ↓P_ret, ↓P_seq, ↓P_cond, ↓P_blk, ↓P_reg, ↓P_draw, ↓P_nil, ↓P_cons, condP_t, condP_f, dum_ab, stepR, want_none, want_some, opRun, ev_t, ev_c, put_none, put_some, resAll, res_tmp, res_cell, oneOf, minI, maxI, min2A, max2A, mn2, mx2, mx3, rdBlk, wrBlk, newBlk, partA, abin, ibin, isShift, AV.cells, AV.one, lay, sub, fillA, lenA, toN, allApart, apartFrom, Nat.testBit, Mem.blk_set_same, Mem.blk_set_ne, Mem.set_set, bit_zero, bit_self, lowBits_or, lowBits_zero, len_setT, sl_same, sl_ne, len_frame, sl_frame,↓op_len, lenOp_slc, lenOp_nils, ↓Post.some, ↓Post_bind, ↓Post_ret, ↓Post_draw, ↓PostL_nil, ↓PostL_cons, Post_fail, ofOpt_some, ofOpt_none, eA_b, eA_i, eA_s, eA_nn, eA_np, eA_pn, eA_lnn, eA_lnp, eA_lpn, eA_i2, eA_i3, blt_dec, Nat.add_assoc, keeps_refl, keeps_at, keeps_up, new_one, and_pow, bit_hi, lowBits_pow, ble_dec, fr_refl, fr_at, fr_up, fr_p, dum_ab, F23, x1]
end Go.Proofs.YtobcboiemibkkaaT
