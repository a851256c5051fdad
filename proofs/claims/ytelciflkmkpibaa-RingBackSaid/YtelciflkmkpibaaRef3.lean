/- Ring: the document's ring: Next, Prev, From, Out, In. -/
import Derived.Test.YtelciflkmkpibaaRef2
namespace Go.Proofs.YtelciflkmkpibaaT
open Go Go.Proofs.YtelciflkmkpibaaE Go.Proofs.YtelciflkmkpibaaB
set_option linter.unusedSimpArgs false
set_option linter.unusedVariables false
attribute [local congr] Post_cg PostL_cg condP_cg

theorem idx_next (u v : List Int) (i : Int) : ∃ m : Nat, ((u.length : Int) + 1).tmod ((u ++ i :: v).length : Int) = m ∧ m < (u ++ i :: v).length ∧ ∀ h : m < (u ++ i :: v).length, (u ++ i :: v)[m] = (v ++ u).headD i := by
  cases v with
  | nil =>
    refine ⟨0, ?_, by simp, fun h => ?_⟩
    · rw [List.length_append]; simp [Int.tmod_self]
    · cases u <;> rfl
  | cons b v =>
    refine ⟨u.length + 1, ?_, by simp, fun h => ?_⟩
    · rw [List.length_append]
      simp only [List.length_cons]
      rw [Int.tmod_eq_of_lt (by omega) (by omega)]; rfl
    · rw [List.getElem_append_right (by omega)]
      simp
theorem idx_prev (u v : List Int) (i : Int) : ∃ m : Nat, ((u.length : Int) + ((u ++ i :: v).length : Int) - 1).tmod ((u ++ i :: v).length : Int) = m ∧ m < (u ++ i :: v).length ∧ ∀ h : m < (u ++ i :: v).length, (u ++ i :: v)[m] = (v ++ u).getLastD i := by
  rcases split_last u with rfl | ⟨t, p, rfl⟩
  · refine ⟨v.length, ?_, by simp, fun h => ?_⟩
    · simp only [List.nil_append, List.length_cons, List.length_nil]
      rw [Int.tmod_eq_of_lt (by omega) (by omega)]; omega
    · rw [List.append_nil]
      rcases split_last v with rfl | ⟨t, p, rfl⟩
      · rfl
      · rw [getLast_ap]
        simp
  · refine ⟨t.length, ?_, by simp only [List.length_append, List.length_cons]; omega, fun h => ?_⟩
    · simp only [List.length_append, List.length_cons, List.length_nil]
      rw [show ((t.length + (0 + 1) : Nat) : Int) + ((t.length + (0 + 1) + (v.length + 1) : Nat) : Int) - 1 = ((t.length : Nat) : Int) + ((t.length + (0 + 1) + (v.length + 1) : Nat) : Int) by omega, Int.tmod_eq_emod_of_nonneg (by omega), Int.add_emod_right, ← Int.tmod_eq_emod_of_nonneg (by omega)]
      rw [Int.tmod_eq_of_lt (by omega) (by omega)]
    · rw [← List.append_assoc, getLast_ap]
      simp
theorem at_in {L u v : List Int} {i : Int} (e : L = u ++ i :: v) (h : i ∉ u) : AtV L i u.length := .inr ⟨u, v, e, h, rfl⟩
theorem at_no {L : List Int} {i : Int} (h : i ∉ L) : AtV L i (-1) := .inl ⟨h, rfl⟩
theorem wnext_rd {h : Mem} {nx q : Nat} {N : Int} {L : List Int} (w : Wr h nx q N L) (hL : L.length ≤ 100) {u v : List Int} {i : Int} (e : L = u ++ i :: v) (hu : i ∉ u) : Rd 300 24 [.ptr q 0, .int .i64 i] h nx (.int .i64 ((v ++ u).headD i)) := by
  intro lg hlg
  obtain ⟨tc, x1⟩ := (at_rd w hL (at_in e hu)).at lg hlg
  obtain ⟨⟨t, s, e1, gl⟩, hq⟩ := w
  obtain ⟨m, m1, m2, m3⟩ := idx_next u v i
  rw [← e] at m1 m2
  simp only [← e] at m3
  obtain ⟨b, c, K, rfl, hb, hK, hx⟩ := gl.irow.at m2
  rw [m3 m2] at hx
  have ul : u.length + 1 ≤ L.length := by rw [e]; simp
  generalize (v ++ u).headD i = r at *
  clear m3
  generalize L.length = n at *
  generalize u.length = k at *
  have n0 : ¬ n = 0 := by omega
  have w1 : IntKind.i64.wrap ((k : Int) + 1) = (k : Int) + 1 := by rw [IntKind.wrap_i64]; omega
  have w2 : IntKind.i64.wrap (m : Int) = (m : Int) := by rw [IntKind.wrap_i64]; omega
  have k0 : ¬ (k : Int) < 0 := by omega
  rw [xF_fr T24]
  simp (maxSteps := 4000000) [↓P_skip, ↓P_exit, ↓P_ret, ↓P_seq, ↓P_cond, ↓P_blk, ↓P_reg, ↓P_draw, ↓P_nil, ↓P_cons, condP_t, condP_f, dum_ab, stepR, want_none, want_some, opRun, ev_t, ev_c, put_none, put_some, resAll, res_tmp, res_cell, oneOf, minI, maxI, min2A, max2A, mn2, mx2, mx3, rdBlk, wrBlk, newBlk, partA, abin, ibin, isShift, AV.cells, AV.one, lay, sub, fillA, lenA, toN, allApart, apartFrom, Nat.testBit, Mem.blk_set_same, Mem.blk_set_ne, Mem.set_set, bit_zero, bit_self, lowBits_or, lowBits_zero, len_setT, sl_same, sl_ne, len_frame, sl_frame,↓op_len, lenOp_slc, lenOp_nils, ↓Post.some, ↓Post_bind, ↓Post_ret, ↓Post_draw, ↓PostL_nil, ↓PostL_cons, Post_fail, ofOpt_some, ofOpt_none, eA_b, eA_i, eA_s, eA_nn, eA_np, eA_pn, eA_lnn, eA_lnp, eA_lpn, eA_i2, eA_i3, blt_dec, Nat.add_assoc, keeps_refl, keeps_at, keeps_up, new_one, and_pow, bit_hi, lowBits_pow, ble_dec, fr_refl, fr_at, fr_up, fr_p, dum_ab, F24, x1, e1, hq, k0, w1, m1, w2, n0, m2, hb, hK, hx]
theorem wnext_no {h : Mem} {nx q : Nat} {N : Int} {L : List Int} (w : Wr h nx q N L) (hL : L.length ≤ 100) {i : Int} (e : i ∉ L) : Rd 300 24 [.ptr q 0, .int .i64 i] h nx (.int .i64 (-1)) := by
  intro lg hlg
  obtain ⟨tc, x1⟩ := (at_rd w hL (at_no e)).at lg hlg
  rw [xF_fr T24]
  simp (maxSteps := 4000000) [↓P_skip, ↓P_exit, ↓P_ret, ↓P_seq, ↓P_cond, ↓P_blk, ↓P_reg, ↓P_draw, ↓P_nil, ↓P_cons, condP_t, condP_f, dum_ab, stepR, want_none, want_some, opRun, ev_t, ev_c, put_none, put_some, resAll, res_tmp, res_cell, oneOf, minI, maxI, min2A, max2A, mn2, mx2, mx3, rdBlk, wrBlk, newBlk, partA, abin, ibin, isShift, AV.cells, AV.one, lay, sub, fillA, lenA, toN, allApart, apartFrom, Nat.testBit, Mem.blk_set_same, Mem.blk_set_ne, Mem.set_set, bit_zero, bit_self, lowBits_or, lowBits_zero, len_setT, sl_same, sl_ne, len_frame, sl_frame,↓op_len, lenOp_slc, lenOp_nils, ↓Post.some, ↓Post_bind, ↓Post_ret, ↓Post_draw, ↓PostL_nil, ↓PostL_cons, Post_fail, ofOpt_some, ofOpt_none, eA_b, eA_i, eA_s, eA_nn, eA_np, eA_pn, eA_lnn, eA_lnp, eA_lpn, eA_i2, eA_i3, blt_dec, Nat.add_assoc, keeps_refl, keeps_at, keeps_up, new_one, and_pow, bit_hi, lowBits_pow, ble_dec, fr_refl, fr_at, fr_up, fr_p, dum_ab, F24, x1]
theorem wprev_rd {h : Mem} {nx q : Nat} {N : Int} {L : List Int} (w : Wr h nx q N L) (hL : L.length ≤ 100) {u v : List Int} {i : Int} (e : L = u ++ i :: v) (hu : i ∉ u) : Rd 300 25 [.ptr q 0, .int .i64 i] h nx (.int .i64 ((v ++ u).getLastD i)) := by
  intro lg hlg
  obtain ⟨tc, x1⟩ := (at_rd w hL (at_in e hu)).at lg hlg
  obtain ⟨⟨t, s, e1, gl⟩, hq⟩ := w
  obtain ⟨m, m1, m2, m3⟩ := idx_prev u v i
  rw [← e] at m1 m2
  simp only [← e] at m3
  obtain ⟨b, c, K, rfl, hb, hK, hx⟩ := gl.irow.at m2
  rw [m3 m2] at hx
  have ul : u.length + 1 ≤ L.length := by rw [e]; simp
  generalize (v ++ u).getLastD i = r at *
  clear m3
  generalize L.length = n at *
  generalize u.length = k at *
  have n0 : ¬ n = 0 := by omega
  have w1 : IntKind.i64.wrap ((k : Int) + n) = (k : Int) + n := by rw [IntKind.wrap_i64]; omega
  have w3 : IntKind.i64.wrap ((k : Int) + n - 1) = (k : Int) + n - 1 := by rw [IntKind.wrap_i64]; omega
  have w2 : IntKind.i64.wrap (m : Int) = (m : Int) := by rw [IntKind.wrap_i64]; omega
  have k0 : ¬ (k : Int) < 0 := by omega
  rw [xF_fr T25]
  simp (maxSteps := 4000000) [↓P_skip, ↓P_exit, ↓P_ret, ↓P_seq, ↓P_cond, ↓P_blk, ↓P_reg, ↓P_draw, ↓P_nil, ↓P_cons, condP_t, condP_f, dum_ab, stepR, want_none, want_some, opRun, ev_t, ev_c, put_none, put_some, resAll, res_tmp, res_cell, oneOf, minI, maxI, min2A, max2A, mn2, mx2, mx3, rdBlk, wrBlk, newBlk, partA, abin, ibin, isShift, AV.cells, AV.one, lay, sub, fillA, lenA, toN, allApart, apartFrom, Nat.testBit, Mem.blk_set_same, Mem.blk_set_ne, Mem.set_set, bit_zero, bit_self, lowBits_or, lowBits_zero, len_setT, sl_same, sl_ne, len_frame, sl_frame,↓op_len, lenOp_slc, lenOp_nils, ↓Post.some, ↓Post_bind, ↓Post_ret, ↓Post_draw, ↓PostL_nil, ↓PostL_cons, Post_fail, ofOpt_some, ofOpt_none, eA_b, eA_i, eA_s, eA_nn, eA_np, eA_pn, eA_lnn, eA_lnp, eA_lpn, eA_i2, eA_i3, blt_dec, Nat.add_assoc, keeps_refl, keeps_at, keeps_up, new_one, and_pow, bit_hi, lowBits_pow, ble_dec, fr_refl, fr_at, fr_up, fr_p, dum_ab, F25, x1, e1, hq, k0, w1, w3, m1, w2, n0, m2, hb, hK, hx]
theorem wprev_no {h : Mem} {nx q : Nat} {N : Int} {L : List Int} (w : Wr h nx q N L) (hL : L.length ≤ 100) {i : Int} (e : i ∉ L) : Rd 300 25 [.ptr q 0, .int .i64 i] h nx (.int .i64 (-1)) := by
  intro lg hlg
  obtain ⟨tc, x1⟩ := (at_rd w hL (at_no e)).at lg hlg
  rw [xF_fr T25]
  simp (maxSteps := 4000000) [↓P_skip, ↓P_exit, ↓P_ret, ↓P_seq, ↓P_cond, ↓P_blk, ↓P_reg, ↓P_draw, ↓P_nil, ↓P_cons, condP_t, condP_f, dum_ab, stepR, want_none, want_some, opRun, ev_t, ev_c, put_none, put_some, resAll, res_tmp, res_cell, oneOf, minI, maxI, min2A, max2A, mn2, mx2, mx3, rdBlk, wrBlk, newBlk, partA, abin, ibin, isShift, AV.cells, AV.one, lay, sub, fillA, lenA, toN, allApart, apartFrom, Nat.testBit, Mem.blk_set_same, Mem.blk_set_ne, Mem.set_set, bit_zero, bit_self, lowBits_or, lowBits_zero, len_setT, sl_same, sl_ne, len_frame, sl_frame,↓op_len, lenOp_slc, lenOp_nils, ↓Post.some, ↓Post_bind, ↓Post_ret, ↓Post_draw, ↓PostL_nil, ↓PostL_cons, Post_fail, ofOpt_some, ofOpt_none, eA_b, eA_i, eA_s, eA_nn, eA_np, eA_pn, eA_lnn, eA_lnp, eA_lpn, eA_i2, eA_i3, blt_dec, Nat.add_assoc, keeps_refl, keeps_at, keeps_up, new_one, and_pow, bit_hi, lowBits_pow, ble_dec, fr_refl, fr_at, fr_up, fr_p, dum_ab, F25, x1]
theorem wfrom_no {h : Mem} {nx q : Nat} {N : Int} {L : List Int} (w : Wr h nx q N L) (hL : L.length ≤ 100) {i : Int} (e : i ∉ L) : Mk 300 26 [.ptr q 0, .int .i64 i] h nx [] := by
  intro lg hlg
  obtain ⟨tc, x1⟩ := (at_rd w hL (at_no e)).at lg hlg
  rw [xF_fr T26]
  simp (maxSteps := 4000000) [↓P_skip, ↓P_exit, ↓P_ret, ↓P_seq, ↓P_cond, ↓P_blk, ↓P_reg, ↓P_draw, ↓P_nil, ↓P_cons, condP_t, condP_f, dum_ab, stepR, want_none, want_some, opRun, ev_t, ev_c, put_none, put_some, resAll, res_tmp, res_cell, oneOf, minI, maxI, min2A, max2A, mn2, mx2, mx3, rdBlk, wrBlk, newBlk, partA, abin, ibin, isShift, AV.cells, AV.one, lay, sub, fillA, lenA, toN, allApart, apartFrom, Nat.testBit, Mem.blk_set_same, Mem.blk_set_ne, Mem.set_set, bit_zero, bit_self, lowBits_or, lowBits_zero, len_setT, sl_same, sl_ne, len_frame, sl_frame,↓op_len, lenOp_slc, lenOp_nils, ↓Post.some, ↓Post_bind, ↓Post_ret, ↓Post_draw, ↓PostL_nil, ↓PostL_cons, Post_fail, ofOpt_some, ofOpt_none, eA_b, eA_i, eA_s, eA_nn, eA_np, eA_pn, eA_lnn, eA_lnp, eA_lpn, eA_i2, eA_i3, blt_dec, Nat.add_assoc, keeps_refl, keeps_at, keeps_up, new_one, and_pow, bit_hi, lowBits_pow, ble_dec, fr_refl, fr_at, fr_up, fr_p, dum_ab, F26, x1]
  exact .inl ⟨rfl, rfl⟩
theorem sub_l (u v : List Int) : sub (ints (u ++ v)) 0 u.length = some (ints u) := by
  unfold sub
  rw [ints_len, List.length_append, Nat.ble_eq_true_of_le (by omega)]
  rw [ints_app, List.drop_zero, List.take_append_of_le_length (by rw [ints_len]; exact Nat.le_refl _), List.take_of_length_le (by rw [ints_len]; exact Nat.le_refl _)]
theorem sub_r (u v : List Int) : sub (ints (u ++ v)) u.length v.length = some (ints v) := by
  unfold sub
  rw [ints_len, List.length_append, Nat.ble_eq_true_of_le (by omega)]
  rw [ints_app, List.drop_left' (by rw [ints_len]), List.take_of_length_le (by rw [ints_len]; exact Nat.le_refl _)]
theorem ltn (l : List Int) (h : l.length ≤ 1000) : IntKind.i64.wrap ((l.length : Int) + 1) = (l.length : Int) + 1 := by rw [IntKind.wrap_i64]; omega
set_option maxHeartbeats 8000000 in
theorem wfrom_in {h : Mem} {nx q : Nat} {N : Int} {L : List Int} (w : Wr h nx q N L) (hL : L.length ≤ 100) {u v : List Int} {i : Int} (e : L = u ++ i :: v) (hu : i ∉ u) : Mk 300 26 [.ptr q 0, .int .i64 i] h nx (i :: v ++ u) := by
  intro lg hlg
  obtain ⟨tc, x1⟩ := (at_rd w hL (at_in e hu)).at lg hlg
  obtain ⟨⟨t, s, e1, gl⟩, hq⟩ := w
  have len : L.length = u.length + (i :: v).length := by rw [e, List.length_append]
  have len1 : 1 ≤ (i :: v).length := by simp
  have k0 : ¬ (u.length : Int) < 0 := by omega
  have sl1 := sub_l u (i :: v)
  have sl2 := sub_r u (i :: v)
  rw [← e] at sl1 sl2
  -- the two appends
  have g0 : GL (.slc nx 0 0 (some 0)) (h.set nx (some ⟨3, 1, true, false, []⟩)) nx (nx + 1) [] := GL.lit (l := []) (Nat.le_refl _) (by omega) (Mem.blk_set_same ..)
  obtain ⟨s1, h1, nx1, tc1, wr1, a1, n1, gl1, f1, y1, z1, _⟩ := (app_gen (lg := nx + 1) (m := i :: v) 3 g0 (by omega) (by simp only [List.length_nil]; omega)).inv
  rw [List.nil_append] at gl1
  have kp1 : Keeps nx h h1 := fun b hb => by rw [f1 b hb, Mem.blk_set_ne _ _ _ _ (by omega)]
  obtain ⟨s2, h2, nx2, tc2, wr2, a2, n2, gl2, f2, y2, z2, _⟩ := (app_gen (lg := nx1) (m := u) 3 gl1 (by omega) (by omega)).inv
  have kp2 : Keeps nx h h2 := fun b hb => by rw [f2 b hb, kp1 b hb]
  have hne : ¬ q = nx := by omega
  have h1q : h1.blk q = some ⟨t, 2, true, false, [.int .i64 N, s]⟩ := by rw [kp1 q hq, e1]
  have hq1 : q < nx1 := by omega
  have o1 : (wr1 ||| 2 ^ nx1 - 2 ^ (nx + 1)) &&& 2 ^ q = 0 := z1.new hq (by omega)
  have o2 : wr1 &&& 2 ^ q = 0 := z1 q hq
  have hq3 : q < nx + 1 := by omega
  have o5 : 2 ^ nx &&& 2 ^ q = 0 := and_pow (by omega)
  have il := ints_len L
  generalize i :: v = V at *
  generalize hn : L.length = n at *
  have m1 : n - u.length = V.length := by omega
  have m2 : u.length ≤ n := by omega
  have m3 : (u.length : Int) ≤ (n : Int) := by omega
  rw [xF_fr T26]
  rcases gl with ⟨_, rfl⟩ | ⟨b, K, rfl, b1, b2, b4, b5⟩ | ⟨b, ty, b1, b2, rfl, b4⟩
  · simp only [List.length_nil] at hn; omega
  · rw [hn] at e1 h1q
    have bb : b < nx1 := by omega
    have h1b : h1.blk b = some K := by rw [kp1 b b2, b4]
    have hbn : ¬ b = nx := by omega
    have o3 : (wr1 ||| 2 ^ nx1 - 2 ^ (nx + 1)) &&& 2 ^ b = 0 := z1.new b2 (by omega)
    have o4 : wr1 &&& 2 ^ b = 0 := z1 b b2
    have bb2 : b < nx + 1 := by omega
    have o6 : 2 ^ nx &&& 2 ^ b = 0 := and_pow (by omega)
    simp (maxSteps := 4000000) [↓P_skip, ↓P_exit, ↓P_ret, ↓P_seq, ↓P_cond, ↓P_blk, ↓P_reg, ↓P_draw, ↓P_nil, ↓P_cons, condP_t, condP_f, dum_ab, stepR, want_none, want_some, opRun, ev_t, ev_c, put_none, put_some, resAll, res_tmp, res_cell, oneOf, minI, maxI, min2A, max2A, mn2, mx2, mx3, rdBlk, wrBlk, newBlk, partA, abin, ibin, isShift, AV.cells, AV.one,  fillA, lenA, toN, allApart, apartFrom, Nat.testBit, Mem.blk_set_same, Mem.blk_set_ne, Mem.set_set, bit_zero, bit_self, lowBits_or, lowBits_zero, len_setT, sl_same, sl_ne, len_frame, sl_frame,↓op_len, lenOp_slc, lenOp_nils, ↓Post.some, ↓Post_bind, ↓Post_ret, ↓Post_draw, ↓PostL_nil, ↓PostL_cons, Post_fail, ofOpt_some, ofOpt_none, eA_b, eA_i, eA_s, eA_nn, eA_np, eA_pn, eA_lnn, eA_lnp, eA_lpn, eA_i2, eA_i3, blt_dec, Nat.add_assoc, keeps_refl, keeps_at, keeps_up, new_one, and_pow, bit_hi, lowBits_pow, ble_dec, fr_refl, fr_at, fr_up, fr_p, dum_ab, F26, x1, k0, reps, e1, hq, hne, hq1, hq3, h1q, o1, o2, o5, bnd, toNle, toN, rdEls, lenA, m1, m2, m3, sl1, sl2, b2, b4, b5, bb, h1b, hbn, bb2, o3, o4, o6, a1, a2]
    exact ⟨by omega, gl2, kp2⟩
  · rw [hn] at e1 h1q
    have bb : b < nx1 := by omega
    have h1b : h1.blk b = some ⟨ty, 1, true, true, ints L⟩ := by rw [kp1 b b2, b4]
    have hbn : ¬ b = nx := by omega
    have o3 : (wr1 ||| 2 ^ nx1 - 2 ^ (nx + 1)) &&& 2 ^ b = 0 := z1.new b2 (by omega)
    have o4 : wr1 &&& 2 ^ b = 0 := z1 b b2
    have bb2 : b < nx + 1 := by omega
    have o6 : 2 ^ nx &&& 2 ^ b = 0 := and_pow (by omega)
    simp (maxSteps := 4000000) [↓P_skip, ↓P_exit, ↓P_ret, ↓P_seq, ↓P_cond, ↓P_blk, ↓P_reg, ↓P_draw, ↓P_nil, ↓P_cons, condP_t, condP_f, dum_ab, stepR, want_none, want_some, opRun, ev_t, ev_c, put_none, put_some, resAll, res_tmp, res_cell, oneOf, minI, maxI, min2A, max2A, mn2, mx2, mx3, rdBlk, wrBlk, newBlk, partA, abin, ibin, isShift, AV.cells, AV.one,  fillA, lenA, toN, allApart, apartFrom, Nat.testBit, Mem.blk_set_same, Mem.blk_set_ne, Mem.set_set, bit_zero, bit_self, lowBits_or, lowBits_zero, len_setT, sl_same, sl_ne, len_frame, sl_frame,↓op_len, lenOp_slc, lenOp_nils, ↓Post.some, ↓Post_bind, ↓Post_ret, ↓Post_draw, ↓PostL_nil, ↓PostL_cons, Post_fail, ofOpt_some, ofOpt_none, eA_b, eA_i, eA_s, eA_nn, eA_np, eA_pn, eA_lnn, eA_lnp, eA_lpn, eA_i2, eA_i3, blt_dec, Nat.add_assoc, keeps_refl, keeps_at, keeps_up, new_one, and_pow, bit_hi, lowBits_pow, ble_dec, fr_refl, fr_at, fr_up, fr_p, dum_ab, F26, x1, k0, reps, e1, hq, hne, hq1, hq3, h1q, o1, o2, o5, bnd, toNle, toN, rdEls, lenA, m1, m2, m3, sl1, sl2, b2, b4, bb, h1b, hbn, bb2, o3, o4, o6, a1, a2, il]
    exact ⟨by omega, gl2, kp2⟩
end Go.Proofs.YtelciflkmkpibaaT
