/- Frame: same: the pool and the reference's are alike. -/
import Derived.Test.YtobcboiemibkkaaRef8
namespace Go.Proofs.YtobcboiemibkkaaT
open Go Go.Proofs.YtobcboiemibkkaaE Go.Proofs.YtobcboiemibkkaaB
set_option linter.unusedSimpArgs false
set_option linter.unusedVariables false
attribute [local congr] Post_cg PostL_cg condP_cg

/-- The two pools, side by side. -/
structure S2 (h : Mem) (nx p w : Nat) (F : List Fr) (U : List Bool) (s : Int) (A B : List (List Int)) (X : List (List AV)) (R : List (AV × AV)) : Prop where
  ps : PS h nx p F U s A B
  rs : RPS h nx w F U s A B X R
  fA : Few A
  fB : Few B
  pw : p ≠ w
  d1 : ∀ b, Own F b → b ≠ w ∧ ¬ ROwn U R b
  d2 : ¬ ROwn U R p
theorem RPS.keeps {h h' : Mem} {nx nx' w : Nat} {F : List Fr} {U : List Bool} {s : Int} {A B : List (List Int)} {X : List (List AV)} {R : List (AV × AV)} (r : RPS h nx w F U s A B X R) (hn : nx ≤ nx') (e : ∀ b, b < nx → h'.blk b = h.blk b) : RPS h' nx' w F U s A B X R := r.keep hn fun b hb => e b (r.lt hb)
theorem S2.keeps {h h' : Mem} {nx nx' p w : Nat} {F : List Fr} {U : List Bool} {s : Int} {A B : List (List Int)} {X : List (List AV)} {R : List (AV × AV)} (r : S2 h nx p w F U s A B X R) (hn : nx ≤ nx') (e : ∀ b, b < nx → h'.blk b = h.blk b) : S2 h' nx' p w F U s A B X R :=
  ⟨r.ps.keeps hn e, r.rs.keeps hn e, r.fA, r.fB, r.pw, r.d1, r.d2⟩
def SaI (p w : Nat) (h0 : Mem) (nx0 : Nat) (m : Nat) (ts : List AV) (h : Mem) (nx tc wr : Nat) : Prop := ∃ j : Nat, m = 26 - j ∧ j ≤ 26 ∧ ts.length = 100 ∧ sl ts 0 = .ptr p 0 ∧ sl ts 1 = .ptr w 0 ∧ sl ts 5 = .int .i64 ((j : Int) - 1) ∧ nx0 ≤ nx ∧ ∀ q, q < nx0 → h.blk q = h0.blk q
def SaR (p w : Nat) (h0 : Mem) (nx0 : Nat) (e : Ex) (ts : List AV) (h : Mem) (nx tc wr : Nat) : Prop := e = .exit 0 ∧ ts.length = 100 ∧ sl ts 0 = .ptr p 0 ∧ sl ts 1 = .ptr w 0 ∧ nx0 ≤ nx ∧ ∀ q, q < nx0 → h.blk q = h0.blk q
set_option maxHeartbeats 16000000 in
theorem sa_no {h0 : Mem} {nx0 p w : Nat} {F : List Fr} {U : List Bool} {s : Int} {A B : List (List Int)} {X : List (List AV)} {R : List (AV × AV)} (g : S2 h0 nx0 p w F U s A B X R) (lg : Nat) (hlg : lg ≤ nx0) (j : Nat) (ts : List AV) (h : Mem) (nx tc wr : Nat) (hj : j < 26) (hlen : ts.length = 100) (g0 : sl ts 0 = .ptr p 0) (g1 : sl ts 1 = .ptr w 0) (i : Int) (hi : i = (j : Int) - 1) (g5 : sl ts 5 = .int .i64 i) (hn : nx0 ≤ nx) (hk : ∀ q, q < nx0 → h.blk q = h0.blk q)
    (y1 : ∀ h nx, S2 h nx p w F U s A B X R → Rd 30 29 [.ptr p 0, .int .i64 i] h nx (.bool false)) (y2 : ∀ h nx, S2 h nx p w F U s A B X R → Rd 30 33 [.ptr w 0, .int .i64 i] h nx (.bool false)) :
    Post (xC T 1300 L28_0b ts h nx lg) fun v' h' nx' tc' wr' => Round (SaI p w h0 nx0) (SaR p w h0 nx0) (26 - j) v' h' nx' (tc ||| tc') (wr ||| wr') := by
  have gS := g.keeps hn hk
  have hp := gS.ps.hp
  have c1 : i ≤ 24 := by omega
  have ci : IntKind.i64.wrap (i + 1) = ((j + 1 : Nat) : Int) - 1 := by rw [IntKind.wrap_i64]; omega
  obtain ⟨h2, nx2, tc2, wr2, x2, n2, k2⟩ := at_no (x := i) hp (y1 _ _ (gS.keeps (show nx ≤ nx + 1 by omega) fun b hb => Mem.blk_set_ne _ _ _ _ (by omega))) lg (by omega)
  have gS2 := gS.keeps n2 k2
  have s3 := st_new h2 nx2 ⟨0, 0, 0, 0, 0, 0, .nils, .nils⟩ (.inl rfl) (.inl rfl) lg
  obtain ⟨H3, hH3⟩ : ∃ H3, H3 = h2.set nx2 (some ⟨36, 8, true, false, fzero⟩) := ⟨_, rfl⟩
  have e3 : h2.set nx2 (some ⟨36, 8, true, false, (fr8 ⟨0, 0, 0, 0, 0, 0, .nils, .nils⟩ .nils .nils).cells⟩) = H3 := hH3.symm
  rw [e3, ← hH3] at s3
  have b3 : H3.blk nx2 = some ⟨36, 8, true, false, fzero⟩ := by rw [hH3, Mem.blk_set_same]
  have k3 : ∀ q, q < nx2 → H3.blk q = h2.blk q := fun q hq => by rw [hH3, Mem.blk_set_ne _ _ _ _ (by omega)]
  have gS3 := gS2.keeps (show nx2 ≤ nx2 + 1 by omega) k3
  obtain ⟨tc4, x4⟩ := (y2 _ _ gS3).at lg (by omega)
  have s5 := st_rx H3 (nx2 + 1) rz rfl rfl lg
  obtain ⟨H5, hH5⟩ : ∃ H5, H5 = H3.set (nx2 + 1) (some ⟨52, 9, true, false, rz⟩) := ⟨_, rfl⟩
  rw [← hH5] at s5
  have b5 : H5.blk (nx2 + 1) = some ⟨52, 9, true, false, rz⟩ := by rw [hH5, Mem.blk_set_same]
  have b53 : H5.blk nx2 = some ⟨36, 8, true, false, fzero⟩ := by rw [hH5, Mem.blk_set_ne _ _ _ _ (by omega), b3]
  have kk : ∀ q, q < nx0 → H5.blk q = h0.blk q := fun q hq => by rw [hH5, Mem.blk_set_ne _ _ _ _ (by omega), k3 q (by omega), k2 q (by omega), hk q hq]
  have lA : ∀ o v, fzero[o]? = some v → ∀ lg, ldA none (.ptr nx2 o) H5 (nx2 + 2) lg = some ⟨v, H5, nx2 + 2, bit lg nx2, 0⟩ := fun o v hv lg => ld_at b53 (by omega) hv lg
  have lB : ∀ o v, rz[o]? = some v → ∀ lg, ldA none (.ptr (nx2 + 1) o) H5 (nx2 + 2) lg = some ⟨v, H5, nx2 + 2, bit lg (nx2 + 1), 0⟩ := fun o v hv lg => ld_at b5 (by omega) hv lg
  have a0 := lA 0 _ rfl; have a1 := lA 1 _ rfl; have a2 := lA 2 _ rfl; have a3 := lA 3 _ rfl; have a4 := lA 4 _ rfl; have a5 := lA 5 _ rfl; have a6 := lA 6 _ rfl; have a7 := lA 7 _ rfl
  have q1 := lB 1 _ rfl; have q2 := lB 2 _ rfl; have q3 := lB 3 _ rfl; have q4 := lB 4 _ rfl; have q5 := lB 5 _ rfl; have q6 := lB 6 _ rfl; have q7 := lB 7 _ rfl; have q8 := lB 8 _ rfl
  obtain ⟨tc6, x6⟩ := same_eq (u := .nils) (v := .nils) (l := []) (by decide) (h := H5) (nx := nx2 + 2) (.inl ⟨rfl, rfl, rfl⟩) (.inl ⟨rfl, rfl, rfl⟩) lg (by omega)
  have hH3' := hH3.symm
  have hH5' := hH5.symm
  simp only [fr8, fzero, rz] at x2 s3 s5 hH3' hH5'
  simp (maxSteps := 4000000) [↓step_none, ↓step_t, ↓step_f, ↓step_nt, ↓step_nf, ↓op_load, ↓op_store, ↓op_slice, ↓op_app, ↓P_skip, ↓P_exit, ↓P_ret, ↓P_seq, ↓P_cond, ↓P_blk, ↓P_reg, ↓P_draw, ↓P_nil, ↓P_cons, condP_t, condP_f, dum_ab, stepR, want_none, want_some, opRun, ev_t, ev_c, put_none, put_some, resAll, res_tmp, res_cell, oneOf, minI, maxI, min2A, max2A, mn2, mx2, mx3, rdBlk, wrBlk, newBlk, partA, abin, ibin, isShift, AV.cells, AV.one, lay, sub, fillA, lenA, toN, allApart, apartFrom, Nat.testBit, Mem.blk_set_same, Mem.blk_set_ne, Mem.set_set, bit_zero, bit_self, lowBits_or, lowBits_zero, len_setT, sl_same, sl_ne, len_frame, sl_frame,↓op_len, lenOp_slc, lenOp_nils, ↓Post.some, ↓Post_bind, ↓Post_ret, ↓Post_draw, ↓PostL_nil, ↓PostL_cons, Post_fail, ofOpt_some, ofOpt_none, eA_b, eA_i, eA_s, eA_nn, eA_np, eA_pn, eA_lnn, eA_lnp, eA_lpn, eA_i2, eA_i3, blt_dec, Nat.add_assoc, keeps_refl, keeps_at, keeps_up, new_one, and_pow, bit_hi, lowBits_pow, ble_dec, fr_refl, fr_at, fr_up, fr_p, dum_ab, L28_0b, hlen, g0, g1, g5, c1, x2, s3, hH3', x4, s5, hH5', a0, a1, a2, a3, a4, a5, a6, a7, q1, q2, q3, q4, q5, q6, q7, q8, x6, ci]
  exact Round.nor (m' := 26 - (j + 1)) (by omega) ⟨j + 1, rfl, by omega, by simp [↓P_skip, ↓P_exit, ↓P_ret, ↓P_seq, ↓P_cond, ↓P_blk, ↓P_reg, ↓P_draw, ↓P_nil, ↓P_cons, condP_t, condP_f, dum_ab, stepR, want_none, want_some, opRun, ev_t, ev_c, put_none, put_some, resAll, res_tmp, res_cell, oneOf, minI, maxI, min2A, max2A, mn2, mx2, mx3, rdBlk, wrBlk, newBlk, partA, abin, ibin, isShift, AV.cells, AV.one, lay, sub, fillA, lenA, toN, allApart, apartFrom, Nat.testBit, Mem.blk_set_same, Mem.blk_set_ne, Mem.set_set, bit_zero, bit_self, lowBits_or, lowBits_zero, len_setT, sl_same, sl_ne, len_frame, sl_frame,↓op_len, lenOp_slc, lenOp_nils, ↓Post.some, ↓Post_bind, ↓Post_ret, ↓Post_draw, ↓PostL_nil, ↓PostL_cons, Post_fail, ofOpt_some, ofOpt_none, eA_b, eA_i, eA_s, eA_nn, eA_np, eA_pn, eA_lnn, eA_lnp, eA_lpn, eA_i2, eA_i3, blt_dec, Nat.add_assoc, keeps_refl, keeps_at, keeps_up, hlen], by simp [↓P_skip, ↓P_exit, ↓P_ret, ↓P_seq, ↓P_cond, ↓P_blk, ↓P_reg, ↓P_draw, ↓P_nil, ↓P_cons, condP_t, condP_f, dum_ab, stepR, want_none, want_some, opRun, ev_t, ev_c, put_none, put_some, resAll, res_tmp, res_cell, oneOf, minI, maxI, min2A, max2A, mn2, mx2, mx3, rdBlk, wrBlk, newBlk, partA, abin, ibin, isShift, AV.cells, AV.one, lay, sub, fillA, lenA, toN, allApart, apartFrom, Nat.testBit, Mem.blk_set_same, Mem.blk_set_ne, Mem.set_set, bit_zero, bit_self, lowBits_or, lowBits_zero, len_setT, sl_same, sl_ne, len_frame, sl_frame,↓op_len, lenOp_slc, lenOp_nils, ↓Post.some, ↓Post_bind, ↓Post_ret, ↓Post_draw, ↓PostL_nil, ↓PostL_cons, Post_fail, ofOpt_some, ofOpt_none, eA_b, eA_i, eA_s, eA_nn, eA_np, eA_pn, eA_lnn, eA_lnp, eA_lpn, eA_i2, eA_i3, blt_dec, Nat.add_assoc, keeps_refl, keeps_at, keeps_up, hlen, g0], by simp [↓P_skip, ↓P_exit, ↓P_ret, ↓P_seq, ↓P_cond, ↓P_blk, ↓P_reg, ↓P_draw, ↓P_nil, ↓P_cons, condP_t, condP_f, dum_ab, stepR, want_none, want_some, opRun, ev_t, ev_c, put_none, put_some, resAll, res_tmp, res_cell, oneOf, minI, maxI, min2A, max2A, mn2, mx2, mx3, rdBlk, wrBlk, newBlk, partA, abin, ibin, isShift, AV.cells, AV.one, lay, sub, fillA, lenA, toN, allApart, apartFrom, Nat.testBit, Mem.blk_set_same, Mem.blk_set_ne, Mem.set_set, bit_zero, bit_self, lowBits_or, lowBits_zero, len_setT, sl_same, sl_ne, len_frame, sl_frame,↓op_len, lenOp_slc, lenOp_nils, ↓Post.some, ↓Post_bind, ↓Post_ret, ↓Post_draw, ↓PostL_nil, ↓PostL_cons, Post_fail, ofOpt_some, ofOpt_none, eA_b, eA_i, eA_s, eA_nn, eA_np, eA_pn, eA_lnn, eA_lnp, eA_lpn, eA_i2, eA_i3, blt_dec, Nat.add_assoc, keeps_refl, keeps_at, keeps_up, hlen, g1], by simp [↓P_skip, ↓P_exit, ↓P_ret, ↓P_seq, ↓P_cond, ↓P_blk, ↓P_reg, ↓P_draw, ↓P_nil, ↓P_cons, condP_t, condP_f, dum_ab, stepR, want_none, want_some, opRun, ev_t, ev_c, put_none, put_some, resAll, res_tmp, res_cell, oneOf, minI, maxI, min2A, max2A, mn2, mx2, mx3, rdBlk, wrBlk, newBlk, partA, abin, ibin, isShift, AV.cells, AV.one, lay, sub, fillA, lenA, toN, allApart, apartFrom, Nat.testBit, Mem.blk_set_same, Mem.blk_set_ne, Mem.set_set, bit_zero, bit_self, lowBits_or, lowBits_zero, len_setT, sl_same, sl_ne, len_frame, sl_frame,↓op_len, lenOp_slc, lenOp_nils, ↓Post.some, ↓Post_bind, ↓Post_ret, ↓Post_draw, ↓PostL_nil, ↓PostL_cons, Post_fail, ofOpt_some, ofOpt_none, eA_b, eA_i, eA_s, eA_nn, eA_np, eA_pn, eA_lnn, eA_lnp, eA_lpn, eA_i2, eA_i3, blt_dec, Nat.add_assoc, keeps_refl, keeps_at, keeps_up, hlen], by omega, kk⟩
theorem xF_ptr (r : Int) : (r != r) = false := by simp
set_option maxHeartbeats 16000000 in
theorem sa_yes {h0 : Mem} {nx0 p w : Nat} {F : List Fr} {U : List Bool} {s : Int} {A B : List (List Int)} {X : List (List AV)} {R : List (AV × AV)} (g : S2 h0 nx0 p w F U s A B X R) (lg : Nat) (hlg : lg ≤ nx0) (j : Nat) (ts : List AV) (h : Mem) (nx tc wr : Nat) (hj : j < 26) (hlen : ts.length = 100) (g0 : sl ts 0 = .ptr p 0) (g1 : sl ts 1 = .ptr w 0) (i : Nat) (hi : (i : Int) = (j : Int) - 1) (g5 : sl ts 5 = .int .i64 i) (hn : nx0 ≤ nx) (hk : ∀ q, q < nx0 → h.blk q = h0.blk q) (iU : i < U.length) (hu : U[i] = true) :
    Post (xC T 1300 L28_0b ts h nx lg) fun v' h' nx' tc' wr' => Round (SaI p w h0 nx0) (SaR p w h0 nx0) (26 - j) v' h' nx' (tc ||| tc') (wr ||| wr') := by
  have gS := g.keeps hn hk
  have hp := gS.ps.hp
  have hU := g.rs.hU
  have hF := g.rs.hF
  have hA := g.rs.hA
  have hB := g.rs.hB
  have hR := g.rs.hR
  have hX := g.rs.x9.n
  have iF : i < F.length := by omega
  have iA : i < A.length := by omega
  have iB : i < B.length := by omega
  have iR : i < R.length := by omega
  have iX : i < X.length := by omega
  have hui : U[i]? = some true := by rw [List.getElem?_eq_getElem iU, hu]
  have c1 : (i : Int) ≤ 24 := by omega
  have c2 : (i : Int) < 24 := by omega
  have c3 : i < 24 := by omega
  have ci : IntKind.i64.wrap ((i : Int) + 1) = ((j + 1 : Nat) : Int) - 1 := by rw [IntKind.wrap_i64]; omega
  have lA8 := g.fA i iA
  have lB8 := g.fB i iB
  obtain ⟨va, vb, h2, nx2, tc2, wr2, x2, n2, ra, rb, k2, la, lb, fa, fb⟩ := at_yes gS.ps i iU iF iA iB hu (by omega) (by omega) lg (by omega)
  have gS2 := gS.keeps n2 k2
  have s3 := st_new h2 nx2 F[i] fa fb lg
  obtain ⟨H3, hH3⟩ : ∃ H3, H3 = h2.set nx2 (some ⟨36, 8, true, false, (fr8 F[i] va vb).cells⟩) := ⟨_, rfl⟩
  rw [← hH3] at s3
  have b3 : H3.blk nx2 = some ⟨36, 8, true, false, (fr8 F[i] va vb).cells⟩ := by rw [hH3, Mem.blk_set_same]
  have k3 : ∀ q, q < nx2 → H3.blk q = h2.blk q := fun q hq => by rw [hH3, Mem.blk_set_ne _ _ _ _ (by omega)]
  have gS3 := gS2.keeps (show nx2 ≤ nx2 + 1 by omega) k3
  obtain ⟨tc4, x4⟩ := (has_in gS3.rs i iU).at lg (by omega)
  rw [hu] at x4
  have s5 := st_rx H3 (nx2 + 1) rz rfl rfl lg
  obtain ⟨H5, hH5⟩ : ∃ H5, H5 = H3.set (nx2 + 1) (some ⟨52, 9, true, false, rz⟩) := ⟨_, rfl⟩
  rw [← hH5] at s5
  have k5 : ∀ q, q < nx2 + 1 → H5.blk q = H3.blk q := fun q hq => by rw [hH5, Mem.blk_set_ne _ _ _ _ (by omega)]
  have gS5 := gS3.keeps (show nx2 + 1 ≤ nx2 + 1 + 1 by omega) k5
  have s6 := st_rx H3 (nx2 + 1) X[i] (g.rs.x9.each _ (List.getElem_mem iX)) (g.rs.one iX) lg
  obtain ⟨H6, hH6⟩ : ∃ H6, H6 = H3.set (nx2 + 1) (some ⟨52, 9, true, false, X[i]⟩) := ⟨_, rfl⟩
  rw [← hH5, ← hH6] at s6
  have k6 : ∀ q, q < nx2 + 1 → H6.blk q = H3.blk q := fun q hq => by rw [hH6, Mem.blk_set_ne _ _ _ _ (by omega)]
  have gS6 := gS3.keeps (show nx2 + 1 ≤ nx2 + 1 + 1 by omega) k6
  obtain ⟨t, hbw⟩ := gS5.rs.hb
  have lX := fun lg => ld_sub hbw gS5.rs.hw (r_line g.rs.x9 s iX) lg
  have ef := g.rs.fr i iX iU iF iR
  rw [hu] at ef
  have xj : X[i] = rx F[i] R[i].1 R[i].2 := ef
  have b6 : H6.blk (nx2 + 1) = some ⟨52, 9, true, false, rx F[i] R[i].1 R[i].2⟩ := by rw [hH6, Mem.blk_set_same, xj]
  have b63 : H6.blk nx2 = some ⟨36, 8, true, false, (fr8 F[i] va vb).cells⟩ := by rw [k6 nx2 (by omega), b3]
  have kk : ∀ q, q < nx0 → H6.blk q = h0.blk q := fun q hq => by rw [k6 q (by omega), k3 q (by omega), k2 q (by omega), hk q hq]
  have lA : ∀ o v, (fr8 F[i] va vb).cells[o]? = some v → ∀ lg, ldA none (.ptr nx2 o) H6 (nx2 + 2) lg = some ⟨v, H6, nx2 + 2, bit lg nx2, 0⟩ := fun o v hv lg => ld_at b63 (by omega) hv lg
  have lB : ∀ o v, (rx F[i] R[i].1 R[i].2)[o]? = some v → ∀ lg, ldA none (.ptr (nx2 + 1) o) H6 (nx2 + 2) lg = some ⟨v, H6, nx2 + 2, bit lg (nx2 + 1), 0⟩ := fun o v hv lg => ld_at b6 (by omega) hv lg
  have a0 := lA 0 _ rfl; have a1 := lA 1 _ rfl; have a2 := lA 2 _ rfl; have a3 := lA 3 _ rfl; have a4 := lA 4 _ rfl; have a5 := lA 5 _ rfl; have a6 := lA 6 _ rfl; have a7 := lA 7 _ rfl
  have q1 := lB 1 _ rfl; have q2 := lB 2 _ rfl; have q3 := lB 3 _ rfl; have q4 := lB 4 _ rfl; have q5 := lB 5 _ rfl; have q6 := lB 6 _ rfl; have q7 := lB 7 _ rfl; have q8 := lB 8 _ rfl
  have ra6 : RV 1 A[i].length va H6 0 (nx2 + 2) (u32s A[i]) := rv_keep ra (by omega) fun b hb _ => by rw [k6 b (by omega), k3 b hb]
  have rb6 : RV 1 B[i].length vb H6 0 (nx2 + 2) (u32s B[i]) := rv_keep rb (by omega) fun b hb _ => by rw [k6 b (by omega), k3 b hb]
  have oa := (gS6.rs.rA i iR iA hui).rv
  have ob := (gS6.rs.rB i iR iB hui).rv
  obtain ⟨tc7, x7⟩ := same_eq (by omega) (h := H6) (nx := nx2 + 2) ra6 oa lg (by omega)
  obtain ⟨tc8, x8⟩ := same_eq (by omega) (h := H6) (nx := nx2 + 2) rb6 ob lg (by omega)
  have hH3' := hH3.symm
  have hH5' := hH5.symm
  simp only [fr8, fzero, rz, AV.cells] at x2 s3 s5 hH3' hH5' s6
  rw [xj] at s6 lX
  simp only [rx] at s6 lX
  simp (maxSteps := 4000000) [↓step_none, ↓step_t, ↓step_f, ↓step_nt, ↓step_nf, ↓op_load, ↓op_store, ↓op_slice, ↓op_app, ↓P_skip, ↓P_exit, ↓P_ret, ↓P_seq, ↓P_cond, ↓P_blk, ↓P_reg, ↓P_draw, ↓P_nil, ↓P_cons, condP_t, condP_f, dum_ab, stepR, want_none, want_some, opRun, ev_t, ev_c, put_none, put_some, resAll, res_tmp, res_cell, oneOf, minI, maxI, min2A, max2A, mn2, mx2, mx3, rdBlk, wrBlk, newBlk, partA, abin, ibin, isShift, AV.cells, AV.one, lay, sub, fillA, lenA, toN, allApart, apartFrom, Nat.testBit, Mem.blk_set_same, Mem.blk_set_ne, Mem.set_set, bit_zero, bit_self, lowBits_or, lowBits_zero, len_setT, sl_same, sl_ne, len_frame, sl_frame,↓op_len, lenOp_slc, lenOp_nils, ↓Post.some, ↓Post_bind, ↓Post_ret, ↓Post_draw, ↓PostL_nil, ↓PostL_cons, Post_fail, ofOpt_some, ofOpt_none, eA_b, eA_i, eA_s, eA_nn, eA_np, eA_pn, eA_lnn, eA_lnp, eA_lpn, eA_i2, eA_i3, blt_dec, Nat.add_assoc, keeps_refl, keeps_at, keeps_up, new_one, and_pow, bit_hi, lowBits_pow, ble_dec, fr_refl, fr_at, fr_up, fr_p, dum_ab, L28_0b, hlen, g0, g1, g5, c1, c2, c3, x2, s3, hH3', x4, s5, hH5', lX, s6, a0, a1, a2, a3, a4, a5, a6, a7, q1, q2, q3, q4, q5, q6, q7, q8, x7, x8, ci]
  exact Round.nor (m' := 26 - (j + 1)) (by omega) ⟨j + 1, rfl, by omega, by simp [↓P_skip, ↓P_exit, ↓P_ret, ↓P_seq, ↓P_cond, ↓P_blk, ↓P_reg, ↓P_draw, ↓P_nil, ↓P_cons, condP_t, condP_f, dum_ab, stepR, want_none, want_some, opRun, ev_t, ev_c, put_none, put_some, resAll, res_tmp, res_cell, oneOf, minI, maxI, min2A, max2A, mn2, mx2, mx3, rdBlk, wrBlk, newBlk, partA, abin, ibin, isShift, AV.cells, AV.one, lay, sub, fillA, lenA, toN, allApart, apartFrom, Nat.testBit, Mem.blk_set_same, Mem.blk_set_ne, Mem.set_set, bit_zero, bit_self, lowBits_or, lowBits_zero, len_setT, sl_same, sl_ne, len_frame, sl_frame,↓op_len, lenOp_slc, lenOp_nils, ↓Post.some, ↓Post_bind, ↓Post_ret, ↓Post_draw, ↓PostL_nil, ↓PostL_cons, Post_fail, ofOpt_some, ofOpt_none, eA_b, eA_i, eA_s, eA_nn, eA_np, eA_pn, eA_lnn, eA_lnp, eA_lpn, eA_i2, eA_i3, blt_dec, Nat.add_assoc, keeps_refl, keeps_at, keeps_up, hlen], by simp [↓P_skip, ↓P_exit, ↓P_ret, ↓P_seq, ↓P_cond, ↓P_blk, ↓P_reg, ↓P_draw, ↓P_nil, ↓P_cons, condP_t, condP_f, dum_ab, stepR, want_none, want_some, opRun, ev_t, ev_c, put_none, put_some, resAll, res_tmp, res_cell, oneOf, minI, maxI, min2A, max2A, mn2, mx2, mx3, rdBlk, wrBlk, newBlk, partA, abin, ibin, isShift, AV.cells, AV.one, lay, sub, fillA, lenA, toN, allApart, apartFrom, Nat.testBit, Mem.blk_set_same, Mem.blk_set_ne, Mem.set_set, bit_zero, bit_self, lowBits_or, lowBits_zero, len_setT, sl_same, sl_ne, len_frame, sl_frame,↓op_len, lenOp_slc, lenOp_nils, ↓Post.some, ↓Post_bind, ↓Post_ret, ↓Post_draw, ↓PostL_nil, ↓PostL_cons, Post_fail, ofOpt_some, ofOpt_none, eA_b, eA_i, eA_s, eA_nn, eA_np, eA_pn, eA_lnn, eA_lnp, eA_lpn, eA_i2, eA_i3, blt_dec, Nat.add_assoc, keeps_refl, keeps_at, keeps_up, hlen, g0], by simp [↓P_skip, ↓P_exit, ↓P_ret, ↓P_seq, ↓P_cond, ↓P_blk, ↓P_reg, ↓P_draw, ↓P_nil, ↓P_cons, condP_t, condP_f, dum_ab, stepR, want_none, want_some, opRun, ev_t, ev_c, put_none, put_some, resAll, res_tmp, res_cell, oneOf, minI, maxI, min2A, max2A, mn2, mx2, mx3, rdBlk, wrBlk, newBlk, partA, abin, ibin, isShift, AV.cells, AV.one, lay, sub, fillA, lenA, toN, allApart, apartFrom, Nat.testBit, Mem.blk_set_same, Mem.blk_set_ne, Mem.set_set, bit_zero, bit_self, lowBits_or, lowBits_zero, len_setT, sl_same, sl_ne, len_frame, sl_frame,↓op_len, lenOp_slc, lenOp_nils, ↓Post.some, ↓Post_bind, ↓Post_ret, ↓Post_draw, ↓PostL_nil, ↓PostL_cons, Post_fail, ofOpt_some, ofOpt_none, eA_b, eA_i, eA_s, eA_nn, eA_np, eA_pn, eA_lnn, eA_lnp, eA_lpn, eA_i2, eA_i3, blt_dec, Nat.add_assoc, keeps_refl, keeps_at, keeps_up, hlen, g1], by simp [↓P_skip, ↓P_exit, ↓P_ret, ↓P_seq, ↓P_cond, ↓P_blk, ↓P_reg, ↓P_draw, ↓P_nil, ↓P_cons, condP_t, condP_f, dum_ab, stepR, want_none, want_some, opRun, ev_t, ev_c, put_none, put_some, resAll, res_tmp, res_cell, oneOf, minI, maxI, min2A, max2A, mn2, mx2, mx3, rdBlk, wrBlk, newBlk, partA, abin, ibin, isShift, AV.cells, AV.one, lay, sub, fillA, lenA, toN, allApart, apartFrom, Nat.testBit, Mem.blk_set_same, Mem.blk_set_ne, Mem.set_set, bit_zero, bit_self, lowBits_or, lowBits_zero, len_setT, sl_same, sl_ne, len_frame, sl_frame,↓op_len, lenOp_slc, lenOp_nils, ↓Post.some, ↓Post_bind, ↓Post_ret, ↓Post_draw, ↓PostL_nil, ↓PostL_cons, Post_fail, ofOpt_some, ofOpt_none, eA_b, eA_i, eA_s, eA_nn, eA_np, eA_pn, eA_lnn, eA_lnp, eA_lpn, eA_i2, eA_i3, blt_dec, Nat.add_assoc, keeps_refl, keeps_at, keeps_up, hlen], by omega, kk⟩
set_option maxHeartbeats 8000000 in
theorem sa_round {h0 : Mem} {nx0 p w : Nat} {F : List Fr} {U : List Bool} {s : Int} {A B : List (List Int)} {X : List (List AV)} {R : List (AV × AV)} (g : S2 h0 nx0 p w F U s A B X R) (lg : Nat) (hlg : lg ≤ nx0) (m : Nat) (ts : List AV) (h : Mem) (nx tc wr : Nat) (hi : SaI p w h0 nx0 m ts h nx tc wr) :
    Post (xC T 1300 L28_0b ts h nx lg) fun v' h' nx' tc' wr' => Round (SaI p w h0 nx0) (SaR p w h0 nx0) m v' h' nx' (tc ||| tc') (wr ||| wr') := by
  obtain ⟨j, rfl, hj, hlen, g0, g1, g5, hn, hk⟩ := hi
  have hU := g.rs.hU
  by_cases c : j < 26
  · by_cases c0 : 1 ≤ j ∧ j ≤ 24
    · obtain ⟨i, rfl⟩ : ∃ i, j = i + 1 := ⟨j - 1, by omega⟩
      have e : ((i + 1 : Nat) : Int) - 1 = (i : Int) := by omega
      rw [e] at g5
      have iU : i < U.length := by omega
      cases hu : U[i] with
      | true => exact sa_yes g lg hlg (i + 1) ts h nx tc wr c hlen g0 g1 i (by omega) g5 hn hk iU hu
      | false =>
        exact sa_no g lg hlg (i + 1) ts h nx tc wr c hlen g0 g1 i (by omega) g5 hn hk (fun h nx r => by have := is_in r.ps i iU; rwa [hu] at this) (fun h nx r => by have := has_in r.rs i iU; rwa [hu] at this)
    · exact sa_no g lg hlg j ts h nx tc wr c hlen g0 g1 _ rfl g5 hn hk (fun h nx r => is_out _ (by omega)) (fun h nx r => has_out _ (by omega))
  · have : j = 26 := by omega
    subst this
    have e : ((26 : Nat) : Int) - 1 = 25 := rfl
    rw [e] at g5
    simp (maxSteps := 4000000) [↓step_none, ↓step_t, ↓step_f, ↓step_nt, ↓step_nf, ↓op_load, ↓op_store, ↓op_slice, ↓op_app, ↓P_skip, ↓P_exit, ↓P_ret, ↓P_seq, ↓P_cond, ↓P_blk, ↓P_reg, ↓P_draw, ↓P_nil, ↓P_cons, condP_t, condP_f, dum_ab, stepR, want_none, want_some, opRun, ev_t, ev_c, put_none, put_some, resAll, res_tmp, res_cell, oneOf, minI, maxI, min2A, max2A, mn2, mx2, mx3, rdBlk, wrBlk, newBlk, partA, abin, ibin, isShift, AV.cells, AV.one, lay, sub, fillA, lenA, toN, allApart, apartFrom, Nat.testBit, Mem.blk_set_same, Mem.blk_set_ne, Mem.set_set, bit_zero, bit_self, lowBits_or, lowBits_zero, len_setT, sl_same, sl_ne, len_frame, sl_frame,↓op_len, lenOp_slc, lenOp_nils, ↓Post.some, ↓Post_bind, ↓Post_ret, ↓Post_draw, ↓PostL_nil, ↓PostL_cons, Post_fail, ofOpt_some, ofOpt_none, eA_b, eA_i, eA_s, eA_nn, eA_np, eA_pn, eA_lnn, eA_lnp, eA_lpn, eA_i2, eA_i3, blt_dec, Nat.add_assoc, keeps_refl, keeps_at, keeps_up, new_one, and_pow, bit_hi, lowBits_pow, ble_dec, fr_refl, fr_at, fr_up, fr_p, dum_ab, L28_0b, hlen, g0, g1, g5]
    exact Round.exit (R := SaR p w h0 nx0) ⟨rfl, by simp [↓P_skip, ↓P_exit, ↓P_ret, ↓P_seq, ↓P_cond, ↓P_blk, ↓P_reg, ↓P_draw, ↓P_nil, ↓P_cons, condP_t, condP_f, dum_ab, stepR, want_none, want_some, opRun, ev_t, ev_c, put_none, put_some, resAll, res_tmp, res_cell, oneOf, minI, maxI, min2A, max2A, mn2, mx2, mx3, rdBlk, wrBlk, newBlk, partA, abin, ibin, isShift, AV.cells, AV.one, lay, sub, fillA, lenA, toN, allApart, apartFrom, Nat.testBit, Mem.blk_set_same, Mem.blk_set_ne, Mem.set_set, bit_zero, bit_self, lowBits_or, lowBits_zero, len_setT, sl_same, sl_ne, len_frame, sl_frame,↓op_len, lenOp_slc, lenOp_nils, ↓Post.some, ↓Post_bind, ↓Post_ret, ↓Post_draw, ↓PostL_nil, ↓PostL_cons, Post_fail, ofOpt_some, ofOpt_none, eA_b, eA_i, eA_s, eA_nn, eA_np, eA_pn, eA_lnn, eA_lnp, eA_lpn, eA_i2, eA_i3, blt_dec, Nat.add_assoc, keeps_refl, keeps_at, keeps_up, hlen], by simp [↓P_skip, ↓P_exit, ↓P_ret, ↓P_seq, ↓P_cond, ↓P_blk, ↓P_reg, ↓P_draw, ↓P_nil, ↓P_cons, condP_t, condP_f, dum_ab, stepR, want_none, want_some, opRun, ev_t, ev_c, put_none, put_some, resAll, res_tmp, res_cell, oneOf, minI, maxI, min2A, max2A, mn2, mx2, mx3, rdBlk, wrBlk, newBlk, partA, abin, ibin, isShift, AV.cells, AV.one, lay, sub, fillA, lenA, toN, allApart, apartFrom, Nat.testBit, Mem.blk_set_same, Mem.blk_set_ne, Mem.set_set, bit_zero, bit_self, lowBits_or, lowBits_zero, len_setT, sl_same, sl_ne, len_frame, sl_frame,↓op_len, lenOp_slc, lenOp_nils, ↓Post.some, ↓Post_bind, ↓Post_ret, ↓Post_draw, ↓PostL_nil, ↓PostL_cons, Post_fail, ofOpt_some, ofOpt_none, eA_b, eA_i, eA_s, eA_nn, eA_np, eA_pn, eA_lnn, eA_lnp, eA_lpn, eA_i2, eA_i3, blt_dec, Nat.add_assoc, keeps_refl, keeps_at, keeps_up, hlen, g0], by simp [↓P_skip, ↓P_exit, ↓P_ret, ↓P_seq, ↓P_cond, ↓P_blk, ↓P_reg, ↓P_draw, ↓P_nil, ↓P_cons, condP_t, condP_f, dum_ab, stepR, want_none, want_some, opRun, ev_t, ev_c, put_none, put_some, resAll, res_tmp, res_cell, oneOf, minI, maxI, min2A, max2A, mn2, mx2, mx3, rdBlk, wrBlk, newBlk, partA, abin, ibin, isShift, AV.cells, AV.one, lay, sub, fillA, lenA, toN, allApart, apartFrom, Nat.testBit, Mem.blk_set_same, Mem.blk_set_ne, Mem.set_set, bit_zero, bit_self, lowBits_or, lowBits_zero, len_setT, sl_same, sl_ne, len_frame, sl_frame,↓op_len, lenOp_slc, lenOp_nils, ↓Post.some, ↓Post_bind, ↓Post_ret, ↓Post_draw, ↓PostL_nil, ↓PostL_cons, Post_fail, ofOpt_some, ofOpt_none, eA_b, eA_i, eA_s, eA_nn, eA_np, eA_pn, eA_lnn, eA_lnp, eA_lpn, eA_i2, eA_i3, blt_dec, Nat.add_assoc, keeps_refl, keeps_at, keeps_up, hlen, g1], hn, hk⟩
set_option maxHeartbeats 8000000 in
theorem same_ok {h : Mem} {nx p w : Nat} {F : List Fr} {U : List Bool} {s : Int} {A B : List (List Int)} {X : List (List AV)} {R : List (AV × AV)} (g : S2 h nx p w F U s A B X R) (lg : Nat) (hlg : lg ≤ nx) : ∃ h' nx' tc wr, (∀ k, xF T (k + 1400) 28 [.ptr p 0, .ptr w 0] h nx lg = some ⟨.bool true, h', nx', tc, wr⟩) ∧ nx ≤ nx' ∧ ∀ q, q < nx → h'.blk q = h.blk q := by
  have key : Post (xF T 1400 28 [.ptr p 0, .ptr w 0] h nx lg) fun v' h' nx' tc wr => v' = .bool true ∧ nx ≤ nx' ∧ ∀ q, q < nx → h'.blk q = h.blk q := by
    rw [xF_fr T28]
    simp (maxSteps := 4000000) [↓step_none, ↓step_t, ↓step_f, ↓step_nt, ↓step_nf, ↓op_load, ↓op_store, ↓op_slice, ↓op_app, ↓P_skip, ↓P_exit, ↓P_ret, ↓P_seq, ↓P_cond, ↓P_blk, ↓P_reg, ↓P_draw, ↓P_nil, ↓P_cons, condP_t, condP_f, dum_ab, stepR, want_none, want_some, opRun, ev_t, ev_c, put_none, put_some, resAll, res_tmp, res_cell, oneOf, minI, maxI, min2A, max2A, mn2, mx2, mx3, rdBlk, wrBlk, newBlk, partA, abin, ibin, isShift, AV.cells, AV.one, lay, sub, fillA, lenA, toN, allApart, apartFrom, Nat.testBit, Mem.blk_set_same, Mem.blk_set_ne, Mem.set_set, bit_zero, bit_self, lowBits_or, lowBits_zero, len_setT, sl_same, sl_ne, len_frame, sl_frame,↓op_len, lenOp_slc, lenOp_nils, ↓Post.some, ↓Post_bind, ↓Post_ret, ↓Post_draw, ↓PostL_nil, ↓PostL_cons, Post_fail, ofOpt_some, ofOpt_none, eA_b, eA_i, eA_s, eA_nn, eA_np, eA_pn, eA_lnn, eA_lnp, eA_lpn, eA_i2, eA_i3, blt_dec, Nat.add_assoc, keeps_refl, keeps_at, keeps_up, new_one, and_pow, bit_hi, lowBits_pow, ble_dec, fr_refl, fr_at, fr_up, fr_p, dum_ab, F28]
    refine Post.loop (sa_round g lg hlg) 26 ⟨0, rfl, by omega, by simp [↓P_skip, ↓P_exit, ↓P_ret, ↓P_seq, ↓P_cond, ↓P_blk, ↓P_reg, ↓P_draw, ↓P_nil, ↓P_cons, condP_t, condP_f, dum_ab, stepR, want_none, want_some, opRun, ev_t, ev_c, put_none, put_some, resAll, res_tmp, res_cell, oneOf, minI, maxI, min2A, max2A, mn2, mx2, mx3, rdBlk, wrBlk, newBlk, partA, abin, ibin, isShift, AV.cells, AV.one, lay, sub, fillA, lenA, toN, allApart, apartFrom, Nat.testBit, Mem.blk_set_same, Mem.blk_set_ne, Mem.set_set, bit_zero, bit_self, lowBits_or, lowBits_zero, len_setT, sl_same, sl_ne, len_frame, sl_frame,↓op_len, lenOp_slc, lenOp_nils, ↓Post.some, ↓Post_bind, ↓Post_ret, ↓Post_draw, ↓PostL_nil, ↓PostL_cons, Post_fail, ofOpt_some, ofOpt_none, eA_b, eA_i, eA_s, eA_nn, eA_np, eA_pn, eA_lnn, eA_lnp, eA_lpn, eA_i2, eA_i3, blt_dec, Nat.add_assoc, keeps_refl, keeps_at, keeps_up], by simp [↓P_skip, ↓P_exit, ↓P_ret, ↓P_seq, ↓P_cond, ↓P_blk, ↓P_reg, ↓P_draw, ↓P_nil, ↓P_cons, condP_t, condP_f, dum_ab, stepR, want_none, want_some, opRun, ev_t, ev_c, put_none, put_some, resAll, res_tmp, res_cell, oneOf, minI, maxI, min2A, max2A, mn2, mx2, mx3, rdBlk, wrBlk, newBlk, partA, abin, ibin, isShift, AV.cells, AV.one, lay, sub, fillA, lenA, toN, allApart, apartFrom, Nat.testBit, Mem.blk_set_same, Mem.blk_set_ne, Mem.set_set, bit_zero, bit_self, lowBits_or, lowBits_zero, len_setT, sl_same, sl_ne, len_frame, sl_frame,↓op_len, lenOp_slc, lenOp_nils, ↓Post.some, ↓Post_bind, ↓Post_ret, ↓Post_draw, ↓PostL_nil, ↓PostL_cons, Post_fail, ofOpt_some, ofOpt_none, eA_b, eA_i, eA_s, eA_nn, eA_np, eA_pn, eA_lnn, eA_lnp, eA_lpn, eA_i2, eA_i3, blt_dec, Nat.add_assoc, keeps_refl, keeps_at, keeps_up], by simp [↓P_skip, ↓P_exit, ↓P_ret, ↓P_seq, ↓P_cond, ↓P_blk, ↓P_reg, ↓P_draw, ↓P_nil, ↓P_cons, condP_t, condP_f, dum_ab, stepR, want_none, want_some, opRun, ev_t, ev_c, put_none, put_some, resAll, res_tmp, res_cell, oneOf, minI, maxI, min2A, max2A, mn2, mx2, mx3, rdBlk, wrBlk, newBlk, partA, abin, ibin, isShift, AV.cells, AV.one, lay, sub, fillA, lenA, toN, allApart, apartFrom, Nat.testBit, Mem.blk_set_same, Mem.blk_set_ne, Mem.set_set, bit_zero, bit_self, lowBits_or, lowBits_zero, len_setT, sl_same, sl_ne, len_frame, sl_frame,↓op_len, lenOp_slc, lenOp_nils, ↓Post.some, ↓Post_bind, ↓Post_ret, ↓Post_draw, ↓PostL_nil, ↓PostL_cons, Post_fail, ofOpt_some, ofOpt_none, eA_b, eA_i, eA_s, eA_nn, eA_np, eA_pn, eA_lnn, eA_lnp, eA_lpn, eA_i2, eA_i3, blt_dec, Nat.add_assoc, keeps_refl, keeps_at, keeps_up], by simp [↓P_skip, ↓P_exit, ↓P_ret, ↓P_seq, ↓P_cond, ↓P_blk, ↓P_reg, ↓P_draw, ↓P_nil, ↓P_cons, condP_t, condP_f, dum_ab, stepR, want_none, want_some, opRun, ev_t, ev_c, put_none, put_some, resAll, res_tmp, res_cell, oneOf, minI, maxI, min2A, max2A, mn2, mx2, mx3, rdBlk, wrBlk, newBlk, partA, abin, ibin, isShift, AV.cells, AV.one, lay, sub, fillA, lenA, toN, allApart, apartFrom, Nat.testBit, Mem.blk_set_same, Mem.blk_set_ne, Mem.set_set, bit_zero, bit_self, lowBits_or, lowBits_zero, len_setT, sl_same, sl_ne, len_frame, sl_frame,↓op_len, lenOp_slc, lenOp_nils, ↓Post.some, ↓Post_bind, ↓Post_ret, ↓Post_draw, ↓PostL_nil, ↓PostL_cons, Post_fail, ofOpt_some, ofOpt_none, eA_b, eA_i, eA_s, eA_nn, eA_np, eA_pn, eA_lnn, eA_lnp, eA_lpn, eA_i2, eA_i3, blt_dec, Nat.add_assoc, keeps_refl, keeps_at, keeps_up], Nat.le_refl _, fun _ _ => rfl⟩ (by omega) ?_
    rintro e ts2 h2 nx2 tc2 wr2 ⟨rfl, hlen, g0, g1, n2, k2⟩
    have g2 := g.keeps n2 k2
    obtain ⟨tc3, x3⟩ := (free_rd g2.ps).at lg (by omega)
    obtain ⟨h4, nx4, tc4, wr4, x4, n4, k4, w4⟩ := (rfree_nw g2.rs).at lg (by omega)
    have g4 := g2.keeps n4 k4
    obtain ⟨v5, h5, nx5, tc5, wr5, x5, n5, r5, k5, l5, w5⟩ := roots_mk g4.ps g4.fA g4.fB lg (by omega)
    have g5 := g4.keeps n5 k5
    obtain ⟨v6, h6, nx6, tc6, wr6, x6, n6, o6, k6, l6, w6⟩ := rroots_mk g5.rs g5.fA g5.fB lg (by omega)
    have ln := rl_len (F := F) (U := U) g.fA g.fB 24
    obtain ⟨tc7, x7⟩ := same_eq (by omega) (rv_keep r5 n6 fun b hb _ => k6 b hb) o6.rv lg (by omega)
    generalize cf U = cu at *
    simp (maxSteps := 4000000) [↓step_none, ↓step_t, ↓step_f, ↓step_nt, ↓step_nf, ↓op_load, ↓op_store, ↓op_slice, ↓op_app, ↓P_skip, ↓P_exit, ↓P_ret, ↓P_seq, ↓P_cond, ↓P_blk, ↓P_reg, ↓P_draw, ↓P_nil, ↓P_cons, condP_t, condP_f, dum_ab, stepR, want_none, want_some, opRun, ev_t, ev_c, put_none, put_some, resAll, res_tmp, res_cell, oneOf, minI, maxI, min2A, max2A, mn2, mx2, mx3, rdBlk, wrBlk, newBlk, partA, abin, ibin, isShift, AV.cells, AV.one, lay, sub, fillA, lenA, toN, allApart, apartFrom, Nat.testBit, Mem.blk_set_same, Mem.blk_set_ne, Mem.set_set, bit_zero, bit_self, lowBits_or, lowBits_zero, len_setT, sl_same, sl_ne, len_frame, sl_frame,↓op_len, lenOp_slc, lenOp_nils, ↓Post.some, ↓Post_bind, ↓Post_ret, ↓Post_draw, ↓PostL_nil, ↓PostL_cons, Post_fail, ofOpt_some, ofOpt_none, eA_b, eA_i, eA_s, eA_nn, eA_np, eA_pn, eA_lnn, eA_lnp, eA_lpn, eA_i2, eA_i3, blt_dec, Nat.add_assoc, keeps_refl, keeps_at, keeps_up, new_one, and_pow, bit_hi, lowBits_pow, ble_dec, fr_refl, fr_at, fr_up, fr_p, dum_ab, hlen, g0, g1, x3, x4, x5, x6, x7]
    exact ⟨by omega, fun q hq => by rw [k6 q (by omega), k5 q (by omega), k4 q (by omega), k2 q hq]⟩
  obtain ⟨v', h', nx', tc, wr, e, rfl, e1, e2⟩ := key.inv
  exact ⟨h', nx', tc, wr, fun k => xF_mono T (Nat.le_add_left ..) e, e1, e2⟩
end Go.Proofs.YtobcboiemibkkaaT
