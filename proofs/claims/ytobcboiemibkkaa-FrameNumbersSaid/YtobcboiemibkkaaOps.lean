/- Frame: the pool's calls: is, Give, Goto, Slot, Free. -/
import Derived.Test.YtobcboiemibkkaaApp
namespace Go.Proofs.YtobcboiemibkkaaT
open Go Go.Proofs.YtobcboiemibkkaaE Go.Proofs.YtobcboiemibkkaaB
set_option linter.unusedSimpArgs false
set_option linter.unusedVariables false
attribute [local congr] Post_cg PostL_cg condP_cg

def Rd (c f : Nat) (args : List AV) (h : Mem) (nx : Nat) (v : AV) : Prop := ∀ lg, lg ≤ nx → Post (xF T c f args h nx lg) fun v' h' nx' tc wr => v' = v ∧ h' = h ∧ nx' = nx ∧ wr = 0
theorem Rd.at {c f : Nat} {args : List AV} {h : Mem} {nx : Nat} {v : AV} (s : Rd c f args h nx v) (lg : Nat) (hl : lg ≤ nx) : ∃ tc, ∀ k, xF T (k + c) f args h nx lg = some ⟨v, h, nx, tc, 0⟩ := by
  obtain ⟨v', h', nx', tc, wr, e, rfl, rfl, rfl, rfl⟩ := (s lg hl).inv
  exact ⟨tc, fun k => xF_mono T (Nat.le_add_left ..) e⟩
theorem is_in {h : Mem} {nx p : Nat} {F : List Fr} {U : List Bool} {s : Int} {A B : List (List Int)} (ps : PS h nx p F U s A B) (i : Nat) (hi : i < U.length) : Rd 30 29 [.ptr p 0, .int .i64 i] h nx (.bool U[i]) := by
  intro lg hlg
  obtain ⟨t, hb⟩ := ps.hb
  have hU := ps.hU
  have l1 := fun lg => ld_at hb ps.hp (p_used ps.hF s hi) lg
  have c1 : (i : Int) < 24 := by omega
  have c2 : i < 24 := by omega
  rw [xF_fr T29]
  simp (maxSteps := 4000000) [↓step_none, ↓step_t, ↓step_f, ↓step_nt, ↓step_nf, ↓op_load, ↓op_store, ↓op_slice, ↓op_app, ↓P_skip, ↓P_exit, ↓P_ret, ↓P_seq, ↓P_cond, ↓P_blk, ↓P_reg, ↓P_draw, ↓P_nil, ↓P_cons, condP_t, condP_f, dum_ab, stepR, want_none, want_some, opRun, ev_t, ev_c, put_none, put_some, resAll, res_tmp, res_cell, oneOf, minI, maxI, min2A, max2A, mn2, mx2, mx3, rdBlk, wrBlk, newBlk, partA, abin, ibin, isShift, AV.cells, AV.one, lay, sub, fillA, lenA, toN, allApart, apartFrom, Nat.testBit, Mem.blk_set_same, Mem.blk_set_ne, Mem.set_set, bit_zero, bit_self, lowBits_or, lowBits_zero, len_setT, sl_same, sl_ne, len_frame, sl_frame,↓op_len, lenOp_slc, lenOp_nils, ↓Post.some, ↓Post_bind, ↓Post_ret, ↓Post_draw, ↓PostL_nil, ↓PostL_cons, Post_fail, ofOpt_some, ofOpt_none, eA_b, eA_i, eA_s, eA_nn, eA_np, eA_pn, eA_lnn, eA_lnp, eA_lpn, eA_i2, eA_i3, blt_dec, Nat.add_assoc, keeps_refl, keeps_at, keeps_up, new_one, and_pow, bit_hi, lowBits_pow, ble_dec, fr_refl, fr_at, fr_up, fr_p, dum_ab, F29, c1, c2, l1]
theorem is_out {h : Mem} {nx p : Nat} (i : Int) (hi : i < 0 ∨ 24 ≤ i) : Rd 30 29 [.ptr p 0, .int .i64 i] h nx (.bool false) := by
  intro lg hlg
  rw [xF_fr T29]
  by_cases c : 0 ≤ i
  · have c1 : ¬ i < 24 := by omega
    simp (maxSteps := 4000000) [↓step_none, ↓step_t, ↓step_f, ↓step_nt, ↓step_nf, ↓op_load, ↓op_store, ↓op_slice, ↓op_app, ↓P_skip, ↓P_exit, ↓P_ret, ↓P_seq, ↓P_cond, ↓P_blk, ↓P_reg, ↓P_draw, ↓P_nil, ↓P_cons, condP_t, condP_f, dum_ab, stepR, want_none, want_some, opRun, ev_t, ev_c, put_none, put_some, resAll, res_tmp, res_cell, oneOf, minI, maxI, min2A, max2A, mn2, mx2, mx3, rdBlk, wrBlk, newBlk, partA, abin, ibin, isShift, AV.cells, AV.one, lay, sub, fillA, lenA, toN, allApart, apartFrom, Nat.testBit, Mem.blk_set_same, Mem.blk_set_ne, Mem.set_set, bit_zero, bit_self, lowBits_or, lowBits_zero, len_setT, sl_same, sl_ne, len_frame, sl_frame,↓op_len, lenOp_slc, lenOp_nils, ↓Post.some, ↓Post_bind, ↓Post_ret, ↓Post_draw, ↓PostL_nil, ↓PostL_cons, Post_fail, ofOpt_some, ofOpt_none, eA_b, eA_i, eA_s, eA_nn, eA_np, eA_pn, eA_lnn, eA_lnp, eA_lpn, eA_i2, eA_i3, blt_dec, Nat.add_assoc, keeps_refl, keeps_at, keeps_up, new_one, and_pow, bit_hi, lowBits_pow, ble_dec, fr_refl, fr_at, fr_up, fr_p, dum_ab, F29, c, c1]
  · simp (maxSteps := 4000000) [↓step_none, ↓step_t, ↓step_f, ↓step_nt, ↓step_nf, ↓op_load, ↓op_store, ↓op_slice, ↓op_app, ↓P_skip, ↓P_exit, ↓P_ret, ↓P_seq, ↓P_cond, ↓P_blk, ↓P_reg, ↓P_draw, ↓P_nil, ↓P_cons, condP_t, condP_f, dum_ab, stepR, want_none, want_some, opRun, ev_t, ev_c, put_none, put_some, resAll, res_tmp, res_cell, oneOf, minI, maxI, min2A, max2A, mn2, mx2, mx3, rdBlk, wrBlk, newBlk, partA, abin, ibin, isShift, AV.cells, AV.one, lay, sub, fillA, lenA, toN, allApart, apartFrom, Nat.testBit, Mem.blk_set_same, Mem.blk_set_ne, Mem.set_set, bit_zero, bit_self, lowBits_or, lowBits_zero, len_setT, sl_same, sl_ne, len_frame, sl_frame,↓op_len, lenOp_slc, lenOp_nils, ↓Post.some, ↓Post_bind, ↓Post_ret, ↓Post_draw, ↓PostL_nil, ↓PostL_cons, Post_fail, ofOpt_some, ofOpt_none, eA_b, eA_i, eA_s, eA_nn, eA_np, eA_pn, eA_lnn, eA_lnp, eA_lpn, eA_i2, eA_i3, blt_dec, Nat.add_assoc, keeps_refl, keeps_at, keeps_up, new_one, and_pow, bit_hi, lowBits_pow, ble_dec, fr_refl, fr_at, fr_up, fr_p, dum_ab, F29, c]
/-- What a call that works on a pool comes to. -/
def Pch (d f : Nat) (args : List AV) (h : Mem) (nx p : Nat) (F : List Fr) (v : AV) (F' : List Fr) (U' : List Bool) (s' : Int) (A' B' : List (List Int)) : Prop := ∀ lg, lg ≤ nx → Post (xF T d f args h nx lg) fun v' h' nx' tc wr => v' = v ∧ nx ≤ nx' ∧ PS h' nx' p F' U' s' A' B' ∧ (∀ b, Own F' b → Own F b ∨ nx ≤ b) ∧ ∀ b, b ≠ p → ¬ Own F b → wr &&& 2 ^ b = 0 ∧ (b < nx → h'.blk b = h.blk b)
theorem Pch.at {d f : Nat} {args : List AV} {h : Mem} {nx p : Nat} {F : List Fr} {v : AV} {F' : List Fr} {U' : List Bool} {s' : Int} {A' B' : List (List Int)} (c : Pch d f args h nx p F v F' U' s' A' B') (lg : Nat) (hl : lg ≤ nx) : ∃ h' nx' tc wr, (∀ k, xF T (k + d) f args h nx lg = some ⟨v, h', nx', tc, wr⟩) ∧ nx ≤ nx' ∧ PS h' nx' p F' U' s' A' B' ∧ (∀ b, Own F' b → Own F b ∨ nx ≤ b) ∧ ∀ b, b ≠ p → ¬ Own F b → wr &&& 2 ^ b = 0 ∧ (b < nx → h'.blk b = h.blk b) := by
  obtain ⟨v', h', nx', tc, wr, e, rfl, e1, e2, e3, e4⟩ := (c lg hl).inv
  exact ⟨h', nx', tc, wr, fun k => xF_mono T (Nat.le_add_left ..) e, e1, e2, e3, e4⟩
theorem Pch.of_rd {d f : Nat} {args : List AV} {h : Mem} {nx p : Nat} {F : List Fr} {U : List Bool} {s : Int} {A B : List (List Int)} {v : AV} (ps : PS h nx p F U s A B) (r : Rd d f args h nx v) : Pch d f args h nx p F v F U s A B := fun lg hl => (r lg hl).mono fun v' h' nx' tc wr ⟨e1, e2, e3, e4⟩ => by
  subst e2; subst e3; subst e4
  exact ⟨e1, Nat.le_refl _, ps, fun b hb => .inl hb, fun b _ _ => ⟨Nat.zero_and _, fun _ => rfl⟩⟩
/-- The pool's own block is written; nothing of the rows. -/
theorem PS.setU {h : Mem} {nx p : Nat} {F : List Fr} {U : List Bool} {s : Int} {A B : List (List Int)} (ps : PS h nx p F U s A B) {t : TypeId} {U' : List Bool} (hU' : U'.length = 24) : PS (h.set p (some ⟨t, 217, true, false, pcells F U' s⟩)) nx p F U' s A B :=
  ⟨ps.hF, hU', ps.hA, ps.hB, ⟨t, Mem.blk_set_same ..⟩, fun i h1 h2 => (ps.rA i h1 h2).keep (Nat.le_refl _) fun b hb => Mem.blk_set_ne _ _ _ _ (ps.np b ⟨i, h1, .inl hb⟩), fun i h1 h2 => (ps.rB i h1 h2).keep (Nat.le_refl _) fun b hb => Mem.blk_set_ne _ _ _ _ (ps.np b ⟨i, h1, .inr hb⟩), ps.hp, ps.np, ps.dA, ps.dB, ps.dC⟩
theorem give_yes {h : Mem} {nx p : Nat} {F : List Fr} {U : List Bool} {s : Int} {A B : List (List Int)} (ps : PS h nx p F U s A B) (i : Nat) (hi : i < U.length) (hu : U[i] = true) : Pch 60 12 [.ptr p 0, .int .i64 i] h nx p F (.bool true) F (U.set i false) s A B := by
  intro lg hlg
  obtain ⟨t, hb⟩ := ps.hb
  have hU := ps.hU
  obtain ⟨tc, x1⟩ := (is_in ps i hi).at lg hlg
  rw [hu] at x1
  have s1 := fun lg => st_at (n := 1) hb ps.hp (o := 192 + i) (.bool false) rfl rfl (by rw [plen ps.hF hU]; omega) lg
  simp only [AV.cells, w_used ps.hF s hi] at s1
  have c1 : (i : Int) < 24 := by omega
  have c2 : i < 24 := by omega
  rw [xF_fr T12]
  simp (maxSteps := 4000000) [↓step_none, ↓step_t, ↓step_f, ↓step_nt, ↓step_nf, ↓op_load, ↓op_store, ↓op_slice, ↓op_app, ↓P_skip, ↓P_exit, ↓P_ret, ↓P_seq, ↓P_cond, ↓P_blk, ↓P_reg, ↓P_draw, ↓P_nil, ↓P_cons, condP_t, condP_f, dum_ab, stepR, want_none, want_some, opRun, ev_t, ev_c, put_none, put_some, resAll, res_tmp, res_cell, oneOf, minI, maxI, min2A, max2A, mn2, mx2, mx3, rdBlk, wrBlk, newBlk, partA, abin, ibin, isShift, AV.cells, AV.one, lay, sub, fillA, lenA, toN, allApart, apartFrom, Nat.testBit, Mem.blk_set_same, Mem.blk_set_ne, Mem.set_set, bit_zero, bit_self, lowBits_or, lowBits_zero, len_setT, sl_same, sl_ne, len_frame, sl_frame,↓op_len, lenOp_slc, lenOp_nils, ↓Post.some, ↓Post_bind, ↓Post_ret, ↓Post_draw, ↓PostL_nil, ↓PostL_cons, Post_fail, ofOpt_some, ofOpt_none, eA_b, eA_i, eA_s, eA_nn, eA_np, eA_pn, eA_lnn, eA_lnp, eA_lpn, eA_i2, eA_i3, blt_dec, Nat.add_assoc, keeps_refl, keeps_at, keeps_up, new_one, and_pow, bit_hi, lowBits_pow, ble_dec, fr_refl, fr_at, fr_up, fr_p, dum_ab, F12, c1, c2, x1, s1]
  exact ⟨ps.setU (by rw [List.length_set]; exact hU), fun b hb => .inl hb, fun b hbp ho => ⟨bit_and hbp, fun _ => Mem.blk_set_ne _ _ _ _ hbp⟩⟩
theorem give_no {h : Mem} {nx p : Nat} {i : Int} (x : Rd 30 29 [.ptr p 0, .int .i64 i] h nx (.bool false)) : Rd 60 12 [.ptr p 0, .int .i64 i] h nx (.bool false) := by
  intro lg hlg
  obtain ⟨tc, x1⟩ := x.at lg hlg
  rw [xF_fr T12]
  simp (maxSteps := 4000000) [↓step_none, ↓step_t, ↓step_f, ↓step_nt, ↓step_nf, ↓op_load, ↓op_store, ↓op_slice, ↓op_app, ↓P_skip, ↓P_exit, ↓P_ret, ↓P_seq, ↓P_cond, ↓P_blk, ↓P_reg, ↓P_draw, ↓P_nil, ↓P_cons, condP_t, condP_f, dum_ab, stepR, want_none, want_some, opRun, ev_t, ev_c, put_none, put_some, resAll, res_tmp, res_cell, oneOf, minI, maxI, min2A, max2A, mn2, mx2, mx3, rdBlk, wrBlk, newBlk, partA, abin, ibin, isShift, AV.cells, AV.one, lay, sub, fillA, lenA, toN, allApart, apartFrom, Nat.testBit, Mem.blk_set_same, Mem.blk_set_ne, Mem.set_set, bit_zero, bit_self, lowBits_or, lowBits_zero, len_setT, sl_same, sl_ne, len_frame, sl_frame,↓op_len, lenOp_slc, lenOp_nils, ↓Post.some, ↓Post_bind, ↓Post_ret, ↓Post_draw, ↓PostL_nil, ↓PostL_cons, Post_fail, ofOpt_some, ofOpt_none, eA_b, eA_i, eA_s, eA_nn, eA_np, eA_pn, eA_lnn, eA_lnp, eA_lpn, eA_i2, eA_i3, blt_dec, Nat.add_assoc, keeps_refl, keeps_at, keeps_up, new_one, and_pow, bit_hi, lowBits_pow, ble_dec, fr_refl, fr_at, fr_up, fr_p, dum_ab, F12, x1]
/-- A frame has other plain numbers. -/
theorem PS.setF {h : Mem} {nx p : Nat} {F : List Fr} {U : List Bool} {s : Int} {A B : List (List Int)} (ps : PS h nx p F U s A B) {t : TypeId} {i : Nat} (hi : i < F.length) (f : Fr) (e1 : f.sl = F[i].sl) (e2 : f.st = F[i].st) : PS (h.set p (some ⟨t, 217, true, false, pcells (F.set i f) U s⟩)) nx p (F.set i f) U s A B := by
  have g : ∀ j (h1 : j < (F.set i f).length), ∃ h2 : j < F.length, (F.set i f)[j].sl = F[j].sl ∧ (F.set i f)[j].st = F[j].st := fun j h1 => by
    have h2 : j < F.length := by rwa [List.length_set] at h1
    refine ⟨h2, ?_⟩
    by_cases c : i = j
    · subst c; rw [List.getElem_set_self]; exact ⟨e1, e2⟩
    · rw [List.getElem_set_ne c]; exact ⟨rfl, rfl⟩
  have np : ∀ b, Own (F.set i f) b → b ≠ p := fun b ⟨j, h1, hb⟩ => by
    obtain ⟨h2, g1, g2⟩ := g j h1
    rw [g1, g2] at hb
    exact ps.np b ⟨j, h2, hb⟩
  refine ⟨by rw [List.length_set]; exact ps.hF, ps.hU, ps.hA, ps.hB, ⟨t, Mem.blk_set_same ..⟩, fun j h1 h2 => ?_, fun j h1 h2 => ?_, ps.hp, np, fun j k h1 h2 b ne => ?_, fun j k h1 h2 b ne => ?_, fun j k h1 h2 b => ?_⟩
  · obtain ⟨q, g1, g2⟩ := g j h1
    rw [g1]
    exact (ps.rA j q h2).keep (Nat.le_refl _) fun b hb => Mem.blk_set_ne _ _ _ _ (ps.np b ⟨j, q, .inl hb⟩)
  · obtain ⟨q, g1, g2⟩ := g j h1
    rw [g2]
    exact (ps.rB j q h2).keep (Nat.le_refl _) fun b hb => Mem.blk_set_ne _ _ _ _ (ps.np b ⟨j, q, .inr hb⟩)
  · obtain ⟨q, g1, g2⟩ := g j h1
    obtain ⟨r, g3, g4⟩ := g k h2
    rw [g1, g3]; exact ps.dA j k q r b ne
  · obtain ⟨q, g1, g2⟩ := g j h1
    obtain ⟨r, g3, g4⟩ := g k h2
    rw [g2, g4]; exact ps.dB j k q r b ne
  · obtain ⟨q, g1, g2⟩ := g j h1
    obtain ⟨r, g3, g4⟩ := g k h2
    rw [g1, g4]; exact ps.dC j k q r b
theorem own_set {F : List Fr} {i : Nat} (hi : i < F.length) {f : Fr} {b : Nat} (h : Own (F.set i f) b) : Own F b ∨ bid f.sl = some b ∨ bid f.st = some b := by
  obtain ⟨j, h1, hb⟩ := h
  have h2 : j < F.length := by rwa [List.length_set] at h1
  by_cases c : i = j
  · subst c; rw [List.getElem_set_self] at hb; exact .inr hb
  · rw [List.getElem_set_ne c] at hb; exact .inl ⟨j, h2, hb⟩
theorem goto_yes {h : Mem} {nx p : Nat} {F : List Fr} {U : List Bool} {s : Int} {A B : List (List Int)} (ps : PS h nx p F U s A B) (i : Nat) (hi : i < U.length) (hf : i < F.length) (hu : U[i] = true) (pc : Int) : Pch 60 22 [.ptr p 0, .int .i64 i, .int .i64 pc] h nx p F (.bool true) (F.set i { F[i] with pc := pc }) U s A B := by
  intro lg hlg
  obtain ⟨t, hb⟩ := ps.hb
  have hU := ps.hU
  obtain ⟨tc, x1⟩ := (is_in ps i hi).at lg hlg
  rw [hu] at x1
  have s1 := fun lg => st_at (n := 1) hb ps.hp (o := i * 8 + 1) (.int .i64 pc) rfl rfl (by rw [plen ps.hF hU]; omega) lg
  simp only [AV.cells, w_fld ps.hF hU s hf (j := 1) (by omega) (.int .i64 pc) { F[i] with pc := pc } rfl] at s1
  have c1 : (i : Int) < 24 := by omega
  have c2 : i < 24 := by omega
  rw [xF_fr T22]
  simp (maxSteps := 4000000) [↓step_none, ↓step_t, ↓step_f, ↓step_nt, ↓step_nf, ↓op_load, ↓op_store, ↓op_slice, ↓op_app, ↓P_skip, ↓P_exit, ↓P_ret, ↓P_seq, ↓P_cond, ↓P_blk, ↓P_reg, ↓P_draw, ↓P_nil, ↓P_cons, condP_t, condP_f, dum_ab, stepR, want_none, want_some, opRun, ev_t, ev_c, put_none, put_some, resAll, res_tmp, res_cell, oneOf, minI, maxI, min2A, max2A, mn2, mx2, mx3, rdBlk, wrBlk, newBlk, partA, abin, ibin, isShift, AV.cells, AV.one, lay, sub, fillA, lenA, toN, allApart, apartFrom, Nat.testBit, Mem.blk_set_same, Mem.blk_set_ne, Mem.set_set, bit_zero, bit_self, lowBits_or, lowBits_zero, len_setT, sl_same, sl_ne, len_frame, sl_frame,↓op_len, lenOp_slc, lenOp_nils, ↓Post.some, ↓Post_bind, ↓Post_ret, ↓Post_draw, ↓PostL_nil, ↓PostL_cons, Post_fail, ofOpt_some, ofOpt_none, eA_b, eA_i, eA_s, eA_nn, eA_np, eA_pn, eA_lnn, eA_lnp, eA_lpn, eA_i2, eA_i3, blt_dec, Nat.add_assoc, keeps_refl, keeps_at, keeps_up, new_one, and_pow, bit_hi, lowBits_pow, ble_dec, fr_refl, fr_at, fr_up, fr_p, dum_ab, F22, c1, c2, x1, s1]
  refine ⟨ps.setF hf _ rfl rfl, fun b hb => ?_, fun b hbp ho => ⟨bit_and hbp, fun _ => Mem.blk_set_ne _ _ _ _ hbp⟩⟩
  rcases own_set hf hb with h | h
  · exact .inl h
  · exact .inl ⟨i, hf, h⟩
theorem goto_no {h : Mem} {nx p : Nat} {i : Int} (x : Rd 30 29 [.ptr p 0, .int .i64 i] h nx (.bool false)) (pc : Int) : Rd 60 22 [.ptr p 0, .int .i64 i, .int .i64 pc] h nx (.bool false) := by
  intro lg hlg
  obtain ⟨tc, x1⟩ := x.at lg hlg
  rw [xF_fr T22]
  simp (maxSteps := 4000000) [↓step_none, ↓step_t, ↓step_f, ↓step_nt, ↓step_nf, ↓op_load, ↓op_store, ↓op_slice, ↓op_app, ↓P_skip, ↓P_exit, ↓P_ret, ↓P_seq, ↓P_cond, ↓P_blk, ↓P_reg, ↓P_draw, ↓P_nil, ↓P_cons, condP_t, condP_f, dum_ab, stepR, want_none, want_some, opRun, ev_t, ev_c, put_none, put_some, resAll, res_tmp, res_cell, oneOf, minI, maxI, min2A, max2A, mn2, mx2, mx3, rdBlk, wrBlk, newBlk, partA, abin, ibin, isShift, AV.cells, AV.one, lay, sub, fillA, lenA, toN, allApart, apartFrom, Nat.testBit, Mem.blk_set_same, Mem.blk_set_ne, Mem.set_set, bit_zero, bit_self, lowBits_or, lowBits_zero, len_setT, sl_same, sl_ne, len_frame, sl_frame,↓op_len, lenOp_slc, lenOp_nils, ↓Post.some, ↓Post_bind, ↓Post_ret, ↓Post_draw, ↓PostL_nil, ↓PostL_cons, Post_fail, ofOpt_some, ofOpt_none, eA_b, eA_i, eA_s, eA_nn, eA_np, eA_pn, eA_lnn, eA_lnp, eA_lpn, eA_i2, eA_i3, blt_dec, Nat.add_assoc, keeps_refl, keeps_at, keeps_up, new_one, and_pow, bit_hi, lowBits_pow, ble_dec, fr_refl, fr_at, fr_up, fr_p, dum_ab, F22, x1]
end Go.Proofs.YtobcboiemibkkaaT
