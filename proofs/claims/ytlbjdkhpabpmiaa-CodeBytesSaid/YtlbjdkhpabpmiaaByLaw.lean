/- Code: CodeBytes. -/
import Derived.Test.YtlbjdkhpabpmiaaKnown
namespace Go.Proofs.YtlbjdkhpabpmiaaT
open Go Go.Proofs.YtlbjdkhpabpmiaaE Go.Proofs.YtlbjdkhpabpmiaaB
set_option linter.unusedSimpArgs false
set_option linter.unusedVariables false
attribute [local congr] Post_cg PostL_cg condP_cg

theorem ivs_len (l : List (Int × Int)) : (ivs l).length = l.length := by unfold ivs; rw [List.length_map]
theorem ivs_app (l : List (Int × Int)) (a b : Int) : ivs (l ++ [(a, b)]) = ivs l ++ [[.int .i64 a, .int .i64 b]] := by unfold ivs; rw [List.map_append]; rfl
def FwI (a : Int) (v : AV) (l : List (List AV)) (h0 : Mem) (base : Nat) (m : Nat) (ts : List AV) (h : Mem) (nx tc wr : Nat) : Prop := ∃ (u : AV) (L : List (Int × Int)), SGRow 2 u h base nx (ivs L) ∧ Ok8 L ∧ L.length ≤ l.length ∧ L.length ≤ 60 ∧ m = 60 - L.length ∧ ts.length = 117 ∧ sl ts 6 = .int .i64 L.length ∧ sl ts 5 = u ∧ sl ts 0 = v ∧ sl ts 1 = .int .i64 a ∧ base ≤ nx ∧ Keeps base h0 h
def FwR (a : Int) (base : Nat) (e : Ex) (ts : List AV) (h : Mem) (nx tc wr : Nat) : Prop := e = .exit 0 ∧ ∃ (u : AV) (L : List (Int × Int)), SGRow 2 u h base nx (ivs L) ∧ Ok8 L ∧ L.length ≤ 60 ∧ ts.length = 117 ∧ sl ts 5 = u ∧ sl ts 1 = .int .i64 a ∧ base ≤ nx
set_option maxHeartbeats 4000000 in
theorem fw_round (a : Int) (v : AV) (l : List (List AV)) (h0 : Mem) (base : Nat) (hr : SRow 2 v h0 base l) (hl : ∀ x ∈ l, ∃ a b, x = [.int .i64 a, .int .i64 b]) (m : Nat) (ts : List AV) (h : Mem) (nx tc wr : Nat) (hi : FwI a v l h0 base m ts h nx tc wr) :
    Post (xC T 60 L5_1b ts h nx 0) fun v' h' nx' tc' wr' => Round (FwI a v l h0 base) (FwR a base) m v' h' nx' (tc ||| tc') (wr ||| wr') := by
  obtain ⟨u, L, hg, h8, hL, h60, rfl, hlen, g6, g5, g0, g1, hbn, kp⟩ := hi
  have lv := hr.lenOp
  by_cases c1 : L.length < l.length
  · by_cases c2 : L.length < 60
    · have c1' : (L.length : Int) < (l.length : Int) := by omega
      have c2' : (L.length : Int) < 60 := by omega
      obtain ⟨bb, c, K, rfl, hb, hK, hs, hs'⟩ := hr.at c1
      obtain ⟨x0, x1, hx⟩ := hl _ (List.getElem_mem c1)
      rw [hx] at hs hs'
      have k0 := hs' 0 _ rfl
      have k1 := hs' 1 _ rfl
      have hK' : h.blk bb = some K := (kp bb hb).trans hK
      have hbx : bb < nx := by omega
      have l0 := fun lg => ld_at hK' hbx k0 lg
      have l1 := fun lg => ld_at hK' hbx k1 lg
      simp only [Nat.add_zero] at l0
      have ci : IntKind.i64.wrap ((L.length : Int) + 1) = ((L.length + 1 : Nat) : Int) := by rw [IntKind.wrap_i64]; omega
      have m0 : Go.bits .and .i64 x0 255 = x0 % 256 := and_mask .i64 8 (by decide) x0
      have m1 : Go.bits .and .i64 x1 255 = x1 % 256 := and_mask .i64 8 (by decide) x1
      obtain ⟨q0, hq0⟩ : ∃ q0, q0 = x0 % 256 := ⟨_, rfl⟩
      obtain ⟨q1, hq1⟩ : ∃ q1, q1 = x1 % 256 := ⟨_, rfl⟩
      rw [← hq0] at m0
      rw [← hq1] at m1
      have r0 : 0 ≤ q0 ∧ q0 < 256 := by omega
      have r1 : 0 ≤ q1 ∧ q1 < 256 := by omega
      clear hq0 hq1
      have gx : RV 2 1 (.slc nx 0 1 (some 1)) (h.set nx (some ⟨47, 2, true, false, [.int .i64 q0, .int .i64 q1]⟩)) 0 (nx + 1) [.int .i64 q0, .int .i64 q1] := .inr ⟨nx, 0, some 1, _, by omega, by omega, rfl, Mem.blk_set_same .., rfl⟩
      obtain ⟨msk, hrd, _⟩ := gx.read (nx + 1)
      obtain ⟨s', h', nx', tc', wr', e, rfl, g', kk⟩ := (app_any (sz := 2) (by decide) (nx + 1) 47 16 [.int .i64 q0, .int .i64 q1] (hg.new _) (show base ≤ nx + 1 by omega) (by rw [ivs_len]; exact fits_few (by omega) (by omega)) rfl rfl).inv
      have ea := appOp_of (x := .slc nx 0 1 (some 1)) rfl hrd e
      simp (maxSteps := 4000000) [↓step_none, ↓step_t, ↓step_f, ↓step_nt, ↓step_nf, ↓op_load, ↓op_store, ↓op_slice, ↓op_app, ↓P_skip, ↓P_exit, ↓P_ret, ↓P_seq, ↓P_cond, ↓P_blk, ↓P_reg, ↓P_draw, ↓P_nil, ↓P_cons, condP_t, condP_f, dum_ab, stepR, want_none, want_some, opRun, ev_t, ev_c, put_none, put_some, resAll, res_tmp, res_cell, oneOf, minI, maxI, min2A, max2A, mn2, mx2, mx3, rdBlk, wrBlk, newBlk, partA, abin, ibin, isShift, AV.cells, AV.one, lay, sub, fillA, lenA, toN, allApart, apartFrom, Nat.testBit, Mem.blk_set_same, Mem.blk_set_ne, Mem.set_set, bit_zero, bit_self, lowBits_or, lowBits_zero, len_setT, sl_same, sl_ne, len_frame, sl_frame,↓op_len, lenOp_slc, lenOp_nils, ↓Post.some, ↓Post_bind, ↓Post_ret, ↓Post_draw, ↓PostL_nil, ↓PostL_cons, Post_fail, ofOpt_some, ofOpt_none, eA_b, eA_i, eA_s, eA_nn, eA_np, eA_pn, eA_lnn, eA_lnp, eA_lpn, eA_i2, eA_i3, blt_dec, Nat.add_assoc, keeps_refl, keeps_at, keeps_up, new_one, and_pow, bit_hi, lowBits_pow, ble_dec, fr_refl, fr_at, fr_up, fr_p, dum_ab, L5_1b, reps, hlen, g0, g1, g5, g6, c1, c1', c2', l0, l1, m0, m1, ea, ci]
      refine Round.nor (m' := 60 - (L.length + 1)) (by omega) ⟨s', L ++ [(q0, q1)], by rw [ivs_app]; exact g', ?_, by simp; omega, by simp; omega, by simp, by simp [len_setT, sl_same, sl_ne, hlen], by simp [len_setT, sl_same, sl_ne, hlen], by simp [len_setT, sl_same, sl_ne, hlen], by simp [len_setT, sl_same, sl_ne, hlen, g0], by simp [len_setT, sl_same, sl_ne, hlen, g1], by omega, ?_⟩
      · intro o ho
        rcases List.mem_append.1 ho with ho | ho
        · exact h8 o ho
        · rw [List.mem_singleton.1 ho]; exact ⟨r0.1, r0.2, r1.1, r1.2⟩
      · intro b hb
        rw [kk b hb, Mem.blk_set_ne _ _ _ _ (by omega), kp b hb]
    · have c1' : (L.length : Int) < (l.length : Int) := by omega
      have c2' : ¬ (L.length : Int) < 60 := by omega
      simp (maxSteps := 4000000) [↓step_none, ↓step_t, ↓step_f, ↓step_nt, ↓step_nf, ↓op_load, ↓op_store, ↓op_slice, ↓op_app, ↓P_skip, ↓P_exit, ↓P_ret, ↓P_seq, ↓P_cond, ↓P_blk, ↓P_reg, ↓P_draw, ↓P_nil, ↓P_cons, condP_t, condP_f, dum_ab, stepR, want_none, want_some, opRun, ev_t, ev_c, put_none, put_some, resAll, res_tmp, res_cell, oneOf, minI, maxI, min2A, max2A, mn2, mx2, mx3, rdBlk, wrBlk, newBlk, partA, abin, ibin, isShift, AV.cells, AV.one, lay, sub, fillA, lenA, toN, allApart, apartFrom, Nat.testBit, Mem.blk_set_same, Mem.blk_set_ne, Mem.set_set, bit_zero, bit_self, lowBits_or, lowBits_zero, len_setT, sl_same, sl_ne, len_frame, sl_frame,↓op_len, lenOp_slc, lenOp_nils, ↓Post.some, ↓Post_bind, ↓Post_ret, ↓Post_draw, ↓PostL_nil, ↓PostL_cons, Post_fail, ofOpt_some, ofOpt_none, eA_b, eA_i, eA_s, eA_nn, eA_np, eA_pn, eA_lnn, eA_lnp, eA_lpn, eA_i2, eA_i3, blt_dec, Nat.add_assoc, keeps_refl, keeps_at, keeps_up, new_one, and_pow, bit_hi, lowBits_pow, ble_dec, fr_refl, fr_at, fr_up, fr_p, dum_ab, L5_1b, hlen, g0, g6, lv, c1', c2']
      exact Round.exit (R := FwR a base) ⟨rfl, u, L, hg, h8, h60, by simp [len_setT, sl_same, sl_ne, hlen], by simp [len_setT, sl_same, sl_ne, hlen, g5], by simp [len_setT, sl_same, sl_ne, hlen, g1], hbn⟩
  · have c1' : ¬ (L.length : Int) < (l.length : Int) := by omega
    simp (maxSteps := 4000000) [↓step_none, ↓step_t, ↓step_f, ↓step_nt, ↓step_nf, ↓op_load, ↓op_store, ↓op_slice, ↓op_app, ↓P_skip, ↓P_exit, ↓P_ret, ↓P_seq, ↓P_cond, ↓P_blk, ↓P_reg, ↓P_draw, ↓P_nil, ↓P_cons, condP_t, condP_f, dum_ab, stepR, want_none, want_some, opRun, ev_t, ev_c, put_none, put_some, resAll, res_tmp, res_cell, oneOf, minI, maxI, min2A, max2A, mn2, mx2, mx3, rdBlk, wrBlk, newBlk, partA, abin, ibin, isShift, AV.cells, AV.one, lay, sub, fillA, lenA, toN, allApart, apartFrom, Nat.testBit, Mem.blk_set_same, Mem.blk_set_ne, Mem.set_set, bit_zero, bit_self, lowBits_or, lowBits_zero, len_setT, sl_same, sl_ne, len_frame, sl_frame,↓op_len, lenOp_slc, lenOp_nils, ↓Post.some, ↓Post_bind, ↓Post_ret, ↓Post_draw, ↓PostL_nil, ↓PostL_cons, Post_fail, ofOpt_some, ofOpt_none, eA_b, eA_i, eA_s, eA_nn, eA_np, eA_pn, eA_lnn, eA_lnp, eA_lpn, eA_i2, eA_i3, blt_dec, Nat.add_assoc, keeps_refl, keeps_at, keeps_up, new_one, and_pow, bit_hi, lowBits_pow, ble_dec, fr_refl, fr_at, fr_up, fr_p, dum_ab, L5_1b, hlen, g0, g6, lv, c1']
    exact Round.exit (R := FwR a base) ⟨rfl, u, L, hg, h8, h60, by simp [len_setT, sl_same, sl_ne, hlen], by simp [len_setT, sl_same, sl_ne, hlen, g5], by simp [len_setT, sl_same, sl_ne, hlen, g1], hbn⟩
def FtI (a : Int) (u vb : AV) (L : List (Int × Int)) (q : Nat) (hb : Mem) (base : Nat) (m : Nat) (ts : List AV) (h : Mem) (nx tc wr : Nat) : Prop := ∃ j : Nat, m = L.length - j ∧ j ≤ L.length ∧ ts.length = 117 ∧ sl ts 5 = u ∧ sl ts 54 = .int .i64 L.length ∧ sl ts 55 = .int .i64 j ∧ sl ts 8 = .ptr q 0 ∧ sl ts 1 = .int .i64 a ∧ sl ts 7 = vb ∧ base ≤ nx ∧ Keeps base hb h
def FtR (a : Int) (vb : AV) (q : Nat) (hb : Mem) (base : Nat) (e : Ex) (ts : List AV) (h : Mem) (nx tc wr : Nat) : Prop := e = .exit 2 ∧ ts.length = 117 ∧ sl ts 8 = .ptr q 0 ∧ sl ts 1 = .int .i64 a ∧ sl ts 7 = vb ∧ base ≤ nx ∧ Keeps base hb h
set_option maxHeartbeats 4000000 in
theorem ft_round (a : Int) (u vb : AV) (L : List (Int × Int)) (h60 : L.length ≤ 60) (h8 : Ok8 L) (q : Nat) (hb : Mem) (base : Nat) (hq : q < base) (r : SRow 2 u hb base (ivs L)) (rv : RV 1 (bys L).length vb hb 0 base (u8s (bys L))) (kq : hb.blk q = some ⟨37, 4, true, false, [.int .i64 0, .int .i64 0, .nils, vb]⟩) (m : Nat) (ts : List AV) (h : Mem) (nx tc wr : Nat) (hi : FtI a u vb L q hb base m ts h nx tc wr) :
    Post (xC T 80 L5_0b ts h nx 0) fun v' h' nx' tc' wr' => Round (FtI a u vb L q hb base) (FtR a vb q hb base) m v' h' nx' (tc ||| tc') (wr ||| wr') := by
  obtain ⟨j, rfl, hj, hlen, g5, g54, g55, g8, g1, g7, hbn, kp⟩ := hi
  by_cases c1 : j < L.length
  · have c1' : (j : Int) < (L.length : Int) := by omega
    have bl := bys_len L
    have ci : IntKind.i64.wrap ((j : Int) + 1) = ((j + 1 : Nat) : Int) := by rw [IntKind.wrap_i64]; omega
    obtain ⟨J, hJ⟩ : ∃ J, J = 2 * j := ⟨_, rfl⟩
    obtain ⟨J1, hJ1⟩ : ∃ J1, J1 = J + 1 := ⟨_, rfl⟩
    have wm : IntKind.i64.wrap (2 * (j : Int)) = (J : Int) := by rw [IntKind.wrap_i64]; omega
    have wm1 : IntKind.i64.wrap ((J : Int) + 1) = (J1 : Int) := by rw [IntKind.wrap_i64]; omega
    obtain ⟨e0, e1⟩ := bys_at L j c1
    rw [← hJ] at e0 e1
    have hjv : j < (ivs L).length := by rwa [ivs_len]
    obtain ⟨b, c, K, e, hbb, hK, hs, hs'⟩ := SRow.at r hjv
    have e3 : (ivs L)[j] = [.int .i64 L[j].1, .int .i64 L[j].2] := get_of (by unfold ivs; rw [List.getElem?_map, List.getElem?_eq_getElem c1]; rfl) hjv
    rw [e3] at hs
    rw [ivs_len] at e
    subst e
    have rv0 := rv.keep (h' := h) hbn (fun b _ hb => kp b hb)
    obtain ⟨h1, tc1, x1, k1⟩ := fetch_yes rv0 (by omega) (bys_ok h8) j J hJ (by omega) 0 0 0 (by omega)
    have E0 : (bys L)[J]'(by omega) = L[j].1 := get_of e0 (by omega)
    have E1 : (bys L)[J + 1]'(by omega) = L[j].2 := get_of e1 (by omega)
    rw [E0, E1] at x1
    generalize L[j].1 = q0 at *
    generalize L[j].2 = q1 at *
    obtain ⟨H1, hH1⟩ : ∃ H1, H1 = h1.set (nx + 2) (some ⟨47, 2, true, false, [.int .i64 q0, .int .i64 q1]⟩) := ⟨_, rfl⟩
    have t1 : ∀ b, b < nx → H1.blk b = h.blk b := fun b hb => by rw [hH1, Mem.blk_set_ne _ _ _ _ (by omega), k1 b hb]
    have rv1 := rv0.keep (h' := H1) (show nx ≤ nx + 3 by omega) (fun b _ hb => t1 b hb)
    obtain ⟨h2, tc2, x2, k2⟩ := fetch_no rv1 (by omega) J1 (by omega) 0 0 0 (by omega)
    obtain ⟨H2, hH2⟩ : ∃ H2, H2 = h2.set (nx + 3 + 2) (some ⟨47, 2, true, false, [.int .i64 0, .int .i64 0]⟩) := ⟨_, rfl⟩
    have t2 : ∀ b, b < nx + 3 → H2.blk b = H1.blk b := fun b hb => by rw [hH2, Mem.blk_set_ne _ _ _ _ (by omega), k2 b hb]
    have f0 : h.blk q = _ := (kp q hq).trans kq
    have f1 : H1.blk q = _ := (t1 q (by omega)).trans f0
    have p1 : H1.blk (nx + 2) = some ⟨47, 2, true, false, [.int .i64 q0, .int .i64 q1]⟩ := by rw [hH1]; exact Mem.blk_set_same ..
    have p2 : H2.blk (nx + 2) = _ := (t2 (nx + 2) (by omega)).trans p1
    have pb : H2.blk b = some K := (t2 b (by omega)).trans ((t1 b (by omega)).trans ((kp b hbb).trans hK))
    have d0 := fun lg => ld_sub f0 (show q < nx by omega) (o := 0) (n := 4) rfl lg
    have d1 := fun lg => ld_sub f1 (show q < nx + 3 by omega) (o := 0) (n := 4) rfl lg
    have d2 := fun lg => ld_sub p2 (show nx + 2 < nx + 6 by omega) (o := 0) (n := 2) rfl lg
    have d3 := fun lg => ld_sub pb (show b < nx + 6 by omega) hs lg
    have e4 : H2.set (nx + 5) (some ⟨47, 2, true, false, [.int .i64 0, .int .i64 0]⟩) = H2 := by rw [hH2]; exact Mem.set_set ..
    have b4 : H2.blk (nx + 5) = some ⟨47, 2, true, false, [.int .i64 0, .int .i64 0]⟩ := by rw [hH2]; exact Mem.blk_set_same ..
    have s1 := hH1.symm
    have s2 := hH2.symm
    have kk : Keeps base hb H2 := fun b hb' => by rw [t2 b (by omega), t1 b (by omega), kp b hb']
    simp only [Nat.add_assoc, Nat.reduceAdd] at s2 x2
    simp (maxSteps := 4000000) [↓op_load, ↓step_none, ↓step_t, ↓step_f, ↓step_nt, ↓step_nf, ↓P_skip, ↓P_exit, ↓P_ret, ↓P_seq, ↓P_cond, ↓P_blk, ↓P_reg, ↓P_draw, ↓P_nil, ↓P_cons, condP_t, condP_f, dum_ab, stepR, want_none, want_some, opRun, ev_t, ev_c, put_none, put_some, resAll, res_tmp, res_cell, oneOf, minI, maxI, min2A, max2A, mn2, mx2, mx3, rdBlk, wrBlk, newBlk, partA, abin, ibin, isShift, AV.cells, AV.one, lay, sub, fillA, lenA, toN, allApart, apartFrom, Nat.testBit, Mem.blk_set_same, Mem.blk_set_ne, Mem.set_set, bit_zero, bit_self, lowBits_or, lowBits_zero, len_setT, sl_same, sl_ne, len_frame, sl_frame,↓op_len, lenOp_slc, lenOp_nils, ↓Post.some, ↓Post_bind, ↓Post_ret, ↓Post_draw, ↓PostL_nil, ↓PostL_cons, Post_fail, ofOpt_some, ofOpt_none, eA_b, eA_i, eA_s, eA_nn, eA_np, eA_pn, eA_lnn, eA_lnp, eA_lpn, eA_i2, eA_i3, blt_dec, Nat.add_assoc, keeps_refl, keeps_at, keeps_up, new_one, and_pow, bit_hi, lowBits_pow, ble_dec, fr_refl, fr_at, fr_up, fr_p, dum_ab, L5_0b, reps, hlen, g5, g54, g55, g8, c1, c1', d0, wm, x1, s1, d1, wm1, x2, s2, e4, b4, d2, d3, ci]
    exact Round.nor (m' := L.length - (j + 1)) (by omega) ⟨j + 1, rfl, by omega, by simp [len_setT, sl_same, sl_ne, hlen], by simp [len_setT, sl_same, sl_ne, hlen, g5], by simp [len_setT, sl_same, sl_ne, hlen, g54], by simp [len_setT, sl_same, sl_ne, hlen], by simp [len_setT, sl_same, sl_ne, hlen, g8], by simp [len_setT, sl_same, sl_ne, hlen, g1], by simp [len_setT, sl_same, sl_ne, hlen, g7], by omega, kk⟩
  · have c1' : ¬ (j : Int) < (L.length : Int) := by omega
    simp (maxSteps := 4000000) [↓P_skip, ↓P_exit, ↓P_ret, ↓P_seq, ↓P_cond, ↓P_blk, ↓P_reg, ↓P_draw, ↓P_nil, ↓P_cons, condP_t, condP_f, dum_ab, stepR, want_none, want_some, opRun, ev_t, ev_c, put_none, put_some, resAll, res_tmp, res_cell, oneOf, minI, maxI, min2A, max2A, mn2, mx2, mx3, rdBlk, wrBlk, newBlk, partA, abin, ibin, isShift, AV.cells, AV.one, lay, sub, fillA, lenA, toN, allApart, apartFrom, Nat.testBit, Mem.blk_set_same, Mem.blk_set_ne, Mem.set_set, bit_zero, bit_self, lowBits_or, lowBits_zero, len_setT, sl_same, sl_ne, len_frame, sl_frame,↓op_len, lenOp_slc, lenOp_nils, ↓Post.some, ↓Post_bind, ↓Post_ret, ↓Post_draw, ↓PostL_nil, ↓PostL_cons, Post_fail, ofOpt_some, ofOpt_none, eA_b, eA_i, eA_s, eA_nn, eA_np, eA_pn, eA_lnn, eA_lnp, eA_lpn, eA_i2, eA_i3, blt_dec, Nat.add_assoc, keeps_refl, keeps_at, keeps_up, new_one, and_pow, bit_hi, lowBits_pow, ble_dec, fr_refl, fr_at, fr_up, fr_p, dum_ab, L5_0b, hlen, g54, g55, c1']
    exact Round.exit (R := FtR a vb q hb base) ⟨rfl, by simp [len_setT, sl_same, sl_ne, hlen], by simp [len_setT, sl_same, sl_ne, hlen, g8], by simp [len_setT, sl_same, sl_ne, hlen, g1], by simp [len_setT, sl_same, sl_ne, hlen, g7], hbn, kp⟩
end Go.Proofs.YtlbjdkhpabpmiaaT
