/- Frame: play. -/
import Derived.Test.YtobcboiemibkkaaPair
namespace Go.Proofs.YtobcboiemibkkaaT
open Go Go.Proofs.YtobcboiemibkkaaE Go.Proofs.YtobcboiemibkkaaB
set_option linter.unusedSimpArgs false
set_option linter.unusedVariables false
attribute [local congr] Post_cg PostL_cg condP_cg

theorem G2.keeps {base : Nat} {h0 h h' : Mem} {nx nx' p w : Nat} {F : List Fr} {U : List Bool} {s : Int} {A B : List (List Int)} {X : List (List AV)} {R : List (AV × AV)} (g : G2 base h0 h nx p w F U s A B X R) (hn : nx ≤ nx') (e : ∀ b, b < nx → h'.blk b = h.blk b) : G2 base h0 h' nx' p w F U s A B X R := by
  have hp := g.s2.ps.hp
  have bp := g.bp
  exact ⟨g.s2.keeps hn e, g.bp, g.bw, g.bF, g.bR, fun b hb => (e b (by omega)).trans (g.k b hb)⟩
theorem Gx.keeps {base : Nat} {h0 h h' : Mem} {nx nx' p w : Nat} (g : Gx base h0 h nx p w) (hn : nx ≤ nx') (e : ∀ b, b < nx → h'.blk b = h.blk b) : Gx base h0 h' nx' p w := by
  obtain ⟨F, U, s, A, B, X, R, g⟩ := g
  exact ⟨F, U, s, A, B, X, R, g.keeps hn e⟩
theorem Gx.same {base : Nat} {h0 h : Mem} {nx p w : Nat} (g : Gx base h0 h nx p w) : ∃ h' nx' tc wr, (∀ k, xF T (k + 1400) 28 [.ptr p 0, .ptr w 0] h nx 0 = some ⟨.bool true, h', nx', tc, wr⟩) ∧ nx ≤ nx' ∧ Gx base h0 h' nx' p w := by
  obtain ⟨F, U, s, A, B, X, R, g⟩ := g
  obtain ⟨h', nx', tc, wr, x, n, k⟩ := same_ok g.s2 0 (Nat.zero_le _)
  exact ⟨h', nx', tc, wr, x, n, F, U, s, A, B, X, R, g.keeps n k⟩
def PlI (va : AV) (p w : Nat) (h0 : Mem) (base : Nat) (m : Nat) (ts : List AV) (h : Mem) (nx tc wr : Nat) : Prop := ∃ i : Nat, m = 100 - i ∧ i ≤ 100 ∧ ts.length = 164 ∧ sl ts 0 = va ∧ sl ts 3 = .ptr p 0 ∧ sl ts 4 = .ptr w 0 ∧ sl ts 5 = .int .i64 i ∧ base ≤ nx ∧ Gx base h0 h nx p w
def PlR (p w : Nat) (h0 : Mem) (base : Nat) (e : Ex) (ts : List AV) (h : Mem) (nx tc wr : Nat) : Prop := e = .exit 0 ∧ ts.length = 164 ∧ sl ts 3 = .ptr p 0 ∧ sl ts 4 = .ptr w 0 ∧ base ≤ nx ∧ Gx base h0 h nx p w
/-- An ask: four numbers, and a row of words of which the first few are cut off. -/
def Askv (h : Mem) (nx : Nat) (y : List AV) : Prop := ∃ k i j w s, y = ask k i j w s ∧ s.one = true ∧ s.cells = [s] ∧ ∃ n : Nat, lenOp s = A.ret (.int .i64 n) ∧ ∀ k, k ≤ n → ∃ x l, l.length = k ∧ SV x h nx l ∧ (∀ b, bid x = some b → b < nx) ∧ ∀ h' nx' lg, sliceA 1 s none (some (.int .i64 (k : Nat))) none h' nx' lg = some ⟨x, h', nx', 0, 0⟩
theorem Askv.keep {h h' : Mem} {nx nx' : Nat} {y : List AV} (g : Askv h nx y) (hn : nx ≤ nx') (e : ∀ b, b < nx → h'.blk b = h.blk b) : Askv h' nx' y := by
  obtain ⟨k, i, j, w, s, e1, e2, e3, n, e4, cut⟩ := g
  refine ⟨k, i, j, w, s, e1, e2, e3, n, e4, fun k hk => ?_⟩
  obtain ⟨x, l, c1, c2, c3, c4⟩ := cut k hk
  exact ⟨x, l, c1, sv_keep c2 hn fun b hb _ => e b hb, fun b hb => Nat.lt_of_lt_of_le (c3 b hb) hn, c4⟩
theorem ask_cut {h : Mem} {nx : Nat} {y : List AV} (g : KdsV h nx ka y) : Askv h nx y := by
  unfold ka at g
  simp only [KdsV, LeafV] at g
  obtain ⟨_, _, rfl, g1, _, _, rfl, g2, _, _, rfl, g3, _, _, rfl, g4, s, _, rfl, g5, rfl⟩ := g
  obtain ⟨n, n1, _, n2⟩ := words_cut g5
  simp only [KdV, LeafV] at g1 g2 g3 g4 g5
  obtain ⟨k, rfl, _⟩ := g1
  obtain ⟨i, rfl, _⟩ := g2
  obtain ⟨j, rfl, _⟩ := g3
  obtain ⟨w, rfl, _⟩ := g4
  refine ⟨k, i, j, w, s, rfl, ?_, ?_, n, n1, n2⟩
  · rcases g5 with rfl | ⟨b, cap, l, rfl, _⟩ <;> rfl
  · rcases g5 with rfl | ⟨b, cap, l, rfl, _⟩ <;> rfl
def az : List AV := [.int .i64 0, .int .i64 0, .int .i64 0, .int .u32 0, .nils]
set_option maxHeartbeats 32000000 in
theorem pl_round (va : AV) (la : List (List AV)) (h0 : Mem) (base p w : Nat) (hr : SRow 5 va h0 base la) (hl : ∀ y ∈ la, Askv h0 base y) (m : Nat) (ts : List AV) (h : Mem) (nx tc wr : Nat) (hi : PlI va p w h0 base m ts h nx tc wr) :
    Post (xC T 1500 L8_0b ts h nx 0) fun v' h' nx' tc' wr' => Round (PlI va p w h0 base) (PlR p w h0 base) m v' h' nx' (tc ||| tc') (wr ||| wr') := by
  obtain ⟨i, rfl, hi, hlen, g0, g3, g4, g5, hbn, gx⟩ := hi
  have lv := hr.lenOp
  by_cases c1 : i < la.length
  · by_cases c2 : i < 100
    · have c1' : (i : Int) < (la.length : Int) := by omega
      have c2' : (i : Int) < 100 := by omega
      have ci : IntKind.i64.wrap ((i : Int) + 1) = ((i + 1 : Nat) : Int) := by rw [IntKind.wrap_i64]; omega
      obtain ⟨bb, cc, K, rfl, hb, hK, hs, _⟩ := hr.at c1
      obtain ⟨q1, q2, q3, q4, q5, hx, one5, cel5, n, ln, cut⟩ := hl _ (List.getElem_mem c1)
      rw [hx] at hs
      obtain ⟨F, U, s, A, B, X, R, g⟩ := gx
      have hp := g.s2.ps.hp
      have bp := g.bp
      have bw := g.bw
      have hw := g.s2.rs.hw
      have kb : h.blk bb = some K := (g.k bb hb).trans hK
      have l5 := fun lg => ld_sub kb (show bb < nx by omega) hs lg
      have sA := fun lg => st_at (n := 5) (h := h.set nx (some ⟨26, 5, true, false, az⟩)) (Mem.blk_set_same ..) (show nx < nx + 1 by omega) (o := 0) (.agg (ask q1 q2 q3 q4 q5)) rfl (by simp only [AV.cells, ask, List.all_cons, List.all_nil, one5, Bool.and_true]; rfl) (by show 5 ≤ 5; omega) lg
      have eA : lay az 0 (AV.agg (ask q1 q2 q3 q4 q5)).cells = ask q1 q2 q3 q4 q5 := rfl
      rw [eA, Mem.set_set] at sA
      obtain ⟨H1, hH1⟩ : ∃ H1, H1 = h.set nx (some ⟨26, 5, true, false, ask q1 q2 q3 q4 q5⟩) := ⟨_, rfl⟩
      rw [← hH1] at sA
      have b1 : H1.blk nx = some ⟨26, 5, true, false, ask q1 q2 q3 q4 q5⟩ := by rw [hH1, Mem.blk_set_same]
      have g1 := g.keeps (show nx ≤ nx + 1 by omega) (h' := H1) fun b hb => by rw [hH1, Mem.blk_set_ne _ _ _ _ (by omega)]
      have hc : nx < nx + 1 ∧ nx ≠ p ∧ ¬ Own F nx := ⟨by omega, by omega, fun h => by have := g.s2.ps.lt (.inr h); omega⟩
      have lA : ∀ o v, (ask q1 q2 q3 q4 q5)[o]? = some v → ∀ lg, ldA none (.ptr nx o) H1 (nx + 1) lg = some ⟨v, H1, nx + 1, bit lg nx, 0⟩ := fun o v hv lg => ld_at b1 (by omega) hv lg
      have a0 := lA 0 _ rfl; have a1 := lA 1 _ rfl; have a2 := lA 2 _ rfl; have a3 := lA 3 _ rfl; have a4 := lA 4 _ rfl
      simp only [ask, az] at l5 sA
      have fin : ∀ {d Q fP fR aP aR}, Pair d Q fP fR aP aR H1 (nx + 1) nx base h0 p w → ∃ r h2 nx2 tc2 wr2 h3 nx3 tc3 wr3 h4 nx4 tc4 wr4, Q r ∧ (∀ k, xF T (k + 200) fP aP H1 (nx + 1) (cond d (nx + 1) 0) = some ⟨r, h2, nx2, tc2, wr2⟩) ∧ (∀ k, xF T (k + 200) fR aR h2 nx2 (cond d nx2 0) = some ⟨r, h3, nx3, tc3, wr3⟩) ∧ (wr2 ||| 2 ^ nx2 - 2 ^ (nx + 1)) &&& 2 ^ nx = 0 ∧ bit nx2 nx = 2 ^ nx ∧
          (∀ o v, (ask q1 q2 q3 q4 q5)[o]? = some v → ∀ lg, ldA none (.ptr nx o) h2 nx2 lg = some ⟨v, h2, nx2, bit lg nx, 0⟩) ∧ (∀ k, xF T (k + 1400) 28 [.ptr p 0, .ptr w 0] h3 nx3 0 = some ⟨.bool true, h4, nx4, tc4, wr4⟩) ∧ base ≤ nx4 ∧ Gx base h0 h4 nx4 p w := by
        intro d Q fP fR aP aR P
        obtain ⟨r, h2, nx2, tc2, wr2, h3, nx3, tc3, wr3, hq, x2, x3, n2, n3, m2, k2, gx3⟩ := P
        obtain ⟨h4, nx4, tc4, wr4, x4, n4, gx4⟩ := gx3.same
        exact ⟨r, h2, nx2, tc2, wr2, h3, nx3, tc3, wr3, h4, nx4, tc4, wr4, hq, x2, x3, or_z m2 (new_lo (by omega)), bit_hi (by omega), fun o v hv lg => ld_at (k2.trans b1) (by omega) hv lg, x4, by omega, gx4⟩
      by_cases e2 : q1 = 2
      · subst e2
        obtain ⟨_, h2, nx2, tc2, wr2, h3, nx3, tc3, wr3, h4, nx4, tc4, wr4, ⟨r, rfl⟩, x2, x3, m2, bn, lB, x4, hb4, gx4⟩ := fin (pair_give true g1 hc q2)
        simp only [cond_true] at x2 x3
        have d1 := lB 1 _ rfl
        simp (maxSteps := 4000000) [↓step_none, ↓step_t, ↓step_f, ↓step_nt, ↓step_nf, ↓op_load, ↓op_store, ↓op_slice, ↓op_app, ↓P_skip, ↓P_exit, ↓P_ret, ↓P_seq, ↓P_cond, ↓P_blk, ↓P_reg, ↓P_draw, ↓P_nil, ↓P_cons, condP_t, condP_f, dum_ab, stepR, want_none, want_some, opRun, ev_t, ev_c, put_none, put_some, resAll, res_tmp, res_cell, oneOf, minI, maxI, min2A, max2A, mn2, mx2, mx3, rdBlk, wrBlk, newBlk, partA, abin, ibin, isShift, AV.cells, AV.one, lay, sub, fillA, lenA, toN, allApart, apartFrom, Nat.testBit, Mem.blk_set_same, Mem.blk_set_ne, Mem.set_set, bit_zero, bit_self, lowBits_or, lowBits_zero, len_setT, sl_same, sl_ne, len_frame, sl_frame,↓op_len, lenOp_slc, lenOp_nils, ↓Post.some, ↓Post_bind, ↓Post_ret, ↓Post_draw, ↓PostL_nil, ↓PostL_cons, Post_fail, ofOpt_some, ofOpt_none, eA_b, eA_i, eA_s, eA_nn, eA_np, eA_pn, eA_lnn, eA_lnp, eA_lpn, eA_i2, eA_i3, blt_dec, Nat.add_assoc, keeps_refl, keeps_at, keeps_up, new_one, and_pow, bit_hi, lowBits_pow, ble_dec, fr_refl, fr_at, fr_up, fr_p, dum_ab, L8_0b, hlen, g0, g3, g4, g5, c1, c1', c2', l5, sA, a0, a1, x2, d1, x3, m2, bn, x4, ci]
        exact Round.nor (m' := 100 - (i + 1)) (by omega) ⟨i + 1, rfl, by omega, by simp [len_setT, sl_same, sl_ne, hlen], by simp [len_setT, sl_same, sl_ne, hlen, g0], by simp [len_setT, sl_same, sl_ne, hlen, g3], by simp [len_setT, sl_same, sl_ne, hlen, g4], by simp [len_setT, sl_same, sl_ne, hlen], hb4, gx4⟩
      · have n2 : (q1 == 2) = false := by simpa using e2
        by_cases e3 : q1 = 3
        · subst e3
          obtain ⟨_, h2, nx2, tc2, wr2, h3, nx3, tc3, wr3, h4, nx4, tc4, wr4, ⟨r, rfl⟩, x2, x3, m2, bn, lB, x4, hb4, gx4⟩ := fin (pair_goto true g1 hc q2 q3)
          simp only [cond_true, cond_false] at x2 x3
          have d1 := lB 1 _ rfl
          have d2 := lB 2 _ rfl
          simp (maxSteps := 4000000) [↓step_none, ↓step_t, ↓step_f, ↓step_nt, ↓step_nf, ↓op_load, ↓op_store, ↓op_slice, ↓op_app, ↓P_skip, ↓P_exit, ↓P_ret, ↓P_seq, ↓P_cond, ↓P_blk, ↓P_reg, ↓P_draw, ↓P_nil, ↓P_cons, condP_t, condP_f, dum_ab, stepR, want_none, want_some, opRun, ev_t, ev_c, put_none, put_some, resAll, res_tmp, res_cell, oneOf, minI, maxI, min2A, max2A, mn2, mx2, mx3, rdBlk, wrBlk, newBlk, partA, abin, ibin, isShift, AV.cells, AV.one, lay, sub, fillA, lenA, toN, allApart, apartFrom, Nat.testBit, Mem.blk_set_same, Mem.blk_set_ne, Mem.set_set, bit_zero, bit_self, lowBits_or, lowBits_zero, len_setT, sl_same, sl_ne, len_frame, sl_frame,↓op_len, lenOp_slc, lenOp_nils, ↓Post.some, ↓Post_bind, ↓Post_ret, ↓Post_draw, ↓PostL_nil, ↓PostL_cons, Post_fail, ofOpt_some, ofOpt_none, eA_b, eA_i, eA_s, eA_nn, eA_np, eA_pn, eA_lnn, eA_lnp, eA_lpn, eA_i2, eA_i3, blt_dec, Nat.add_assoc, keeps_refl, keeps_at, keeps_up, new_one, and_pow, bit_hi, lowBits_pow, ble_dec, fr_refl, fr_at, fr_up, fr_p, dum_ab, L8_0b, hlen, g0, g3, g4, g5, c1, c1', c2', l5, sA, a0, a1, a2, a3, a4, x2, d1, d2, x3, m2, bn, x4, ci]
          exact Round.nor (m' := 100 - (i + 1)) (by omega) ⟨i + 1, rfl, by omega, by simp [len_setT, sl_same, sl_ne, hlen], by simp [len_setT, sl_same, sl_ne, hlen, g0], by simp [len_setT, sl_same, sl_ne, hlen, g3], by simp [len_setT, sl_same, sl_ne, hlen, g4], by simp [len_setT, sl_same, sl_ne, hlen], hb4, gx4⟩
        have n3 : (q1 == 3) = false := by simpa using e3
        by_cases e4 : q1 = 4
        · subst e4
          obtain ⟨_, h2, nx2, tc2, wr2, h3, nx3, tc3, wr3, h4, nx4, tc4, wr4, ⟨r, rfl⟩, x2, x3, m2, bn, lB, x4, hb4, gx4⟩ := fin (pair_push true g1 hc q2 q4)
          simp only [cond_true, cond_false] at x2 x3
          have d1 := lB 1 _ rfl
          have d3 := lB 3 _ rfl
          simp (maxSteps := 4000000) [↓step_none, ↓step_t, ↓step_f, ↓step_nt, ↓step_nf, ↓op_load, ↓op_store, ↓op_slice, ↓op_app, ↓P_skip, ↓P_exit, ↓P_ret, ↓P_seq, ↓P_cond, ↓P_blk, ↓P_reg, ↓P_draw, ↓P_nil, ↓P_cons, condP_t, condP_f, dum_ab, stepR, want_none, want_some, opRun, ev_t, ev_c, put_none, put_some, resAll, res_tmp, res_cell, oneOf, minI, maxI, min2A, max2A, mn2, mx2, mx3, rdBlk, wrBlk, newBlk, partA, abin, ibin, isShift, AV.cells, AV.one, lay, sub, fillA, lenA, toN, allApart, apartFrom, Nat.testBit, Mem.blk_set_same, Mem.blk_set_ne, Mem.set_set, bit_zero, bit_self, lowBits_or, lowBits_zero, len_setT, sl_same, sl_ne, len_frame, sl_frame,↓op_len, lenOp_slc, lenOp_nils, ↓Post.some, ↓Post_bind, ↓Post_ret, ↓Post_draw, ↓PostL_nil, ↓PostL_cons, Post_fail, ofOpt_some, ofOpt_none, eA_b, eA_i, eA_s, eA_nn, eA_np, eA_pn, eA_lnn, eA_lnp, eA_lpn, eA_i2, eA_i3, blt_dec, Nat.add_assoc, keeps_refl, keeps_at, keeps_up, new_one, and_pow, bit_hi, lowBits_pow, ble_dec, fr_refl, fr_at, fr_up, fr_p, dum_ab, L8_0b, hlen, g0, g3, g4, g5, c1, c1', c2', l5, sA, a0, a1, a2, a3, a4, x2, d1, d3, x3, m2, bn, x4, ci]
          exact Round.nor (m' := 100 - (i + 1)) (by omega) ⟨i + 1, rfl, by omega, by simp [len_setT, sl_same, sl_ne, hlen], by simp [len_setT, sl_same, sl_ne, hlen, g0], by simp [len_setT, sl_same, sl_ne, hlen, g3], by simp [len_setT, sl_same, sl_ne, hlen, g4], by simp [len_setT, sl_same, sl_ne, hlen], hb4, gx4⟩
        have n4 : (q1 == 4) = false := by simpa using e4
        by_cases e5 : q1 = 5
        · subst e5
          obtain ⟨_, h2, nx2, tc2, wr2, h3, nx3, tc3, wr3, h4, nx4, tc4, wr4, ⟨r, rfl⟩, x2, x3, m2, bn, lB, x4, hb4, gx4⟩ := fin (pair_push true g1 hc q2 q4)
          simp only [cond_true, cond_false] at x2 x3
          have d1 := lB 1 _ rfl
          have d3 := lB 3 _ rfl
          simp (maxSteps := 4000000) [↓step_none, ↓step_t, ↓step_f, ↓step_nt, ↓step_nf, ↓op_load, ↓op_store, ↓op_slice, ↓op_app, ↓P_skip, ↓P_exit, ↓P_ret, ↓P_seq, ↓P_cond, ↓P_blk, ↓P_reg, ↓P_draw, ↓P_nil, ↓P_cons, condP_t, condP_f, dum_ab, stepR, want_none, want_some, opRun, ev_t, ev_c, put_none, put_some, resAll, res_tmp, res_cell, oneOf, minI, maxI, min2A, max2A, mn2, mx2, mx3, rdBlk, wrBlk, newBlk, partA, abin, ibin, isShift, AV.cells, AV.one, lay, sub, fillA, lenA, toN, allApart, apartFrom, Nat.testBit, Mem.blk_set_same, Mem.blk_set_ne, Mem.set_set, bit_zero, bit_self, lowBits_or, lowBits_zero, len_setT, sl_same, sl_ne, len_frame, sl_frame,↓op_len, lenOp_slc, lenOp_nils, ↓Post.some, ↓Post_bind, ↓Post_ret, ↓Post_draw, ↓PostL_nil, ↓PostL_cons, Post_fail, ofOpt_some, ofOpt_none, eA_b, eA_i, eA_s, eA_nn, eA_np, eA_pn, eA_lnn, eA_lnp, eA_lpn, eA_i2, eA_i3, blt_dec, Nat.add_assoc, keeps_refl, keeps_at, keeps_up, new_one, and_pow, bit_hi, lowBits_pow, ble_dec, fr_refl, fr_at, fr_up, fr_p, dum_ab, L8_0b, hlen, g0, g3, g4, g5, c1, c1', c2', l5, sA, a0, a1, a2, a3, a4, x2, d1, d3, x3, m2, bn, x4, ci]
          exact Round.nor (m' := 100 - (i + 1)) (by omega) ⟨i + 1, rfl, by omega, by simp [len_setT, sl_same, sl_ne, hlen], by simp [len_setT, sl_same, sl_ne, hlen, g0], by simp [len_setT, sl_same, sl_ne, hlen, g3], by simp [len_setT, sl_same, sl_ne, hlen, g4], by simp [len_setT, sl_same, sl_ne, hlen], hb4, gx4⟩
        have n5 : (q1 == 5) = false := by simpa using e5
        by_cases e6 : q1 = 6
        · subst e6
          obtain ⟨_, h2, nx2, tc2, wr2, h3, nx3, tc3, wr3, h4, nx4, tc4, wr4, ⟨x, r, rfl⟩, x2, x3, m2, bn, lB, x4, hb4, gx4⟩ := fin (pair_pop false g1 hc q2)
          simp only [cond_true, cond_false] at x2 x3
          have d1 := lB 1 _ rfl
          simp (maxSteps := 4000000) [↓step_none, ↓step_t, ↓step_f, ↓step_nt, ↓step_nf, ↓op_load, ↓op_store, ↓op_slice, ↓op_app, ↓P_skip, ↓P_exit, ↓P_ret, ↓P_seq, ↓P_cond, ↓P_blk, ↓P_reg, ↓P_draw, ↓P_nil, ↓P_cons, condP_t, condP_f, dum_ab, stepR, want_none, want_some, opRun, ev_t, ev_c, put_none, put_some, resAll, res_tmp, res_cell, oneOf, minI, maxI, min2A, max2A, mn2, mx2, mx3, rdBlk, wrBlk, newBlk, partA, abin, ibin, isShift, AV.cells, AV.one, lay, sub, fillA, lenA, toN, allApart, apartFrom, Nat.testBit, Mem.blk_set_same, Mem.blk_set_ne, Mem.set_set, bit_zero, bit_self, lowBits_or, lowBits_zero, len_setT, sl_same, sl_ne, len_frame, sl_frame,↓op_len, lenOp_slc, lenOp_nils, ↓Post.some, ↓Post_bind, ↓Post_ret, ↓Post_draw, ↓PostL_nil, ↓PostL_cons, Post_fail, ofOpt_some, ofOpt_none, eA_b, eA_i, eA_s, eA_nn, eA_np, eA_pn, eA_lnn, eA_lnp, eA_lpn, eA_i2, eA_i3, blt_dec, Nat.add_assoc, keeps_refl, keeps_at, keeps_up, new_one, and_pow, bit_hi, lowBits_pow, ble_dec, fr_refl, fr_at, fr_up, fr_p, dum_ab, L8_0b, hlen, g0, g3, g4, g5, c1, c1', c2', l5, sA, a0, a1, a2, a3, a4, x2, d1, x3, m2, bn, x4, ci]
          exact Round.nor (m' := 100 - (i + 1)) (by omega) ⟨i + 1, rfl, by omega, by simp [len_setT, sl_same, sl_ne, hlen], by simp [len_setT, sl_same, sl_ne, hlen, g0], by simp [len_setT, sl_same, sl_ne, hlen, g3], by simp [len_setT, sl_same, sl_ne, hlen, g4], by simp [len_setT, sl_same, sl_ne, hlen], hb4, gx4⟩
        have n6 : (q1 == 6) = false := by simpa using e6
        by_cases e7 : q1 = 7
        · subst e7
          obtain ⟨_, h2, nx2, tc2, wr2, h3, nx3, tc3, wr3, h4, nx4, tc4, wr4, ⟨r, rfl⟩, x2, x3, m2, bn, lB, x4, hb4, gx4⟩ := fin (pair_slot true g1 hc q2 q3 q4)
          simp only [cond_true, cond_false] at x2 x3
          have d1 := lB 1 _ rfl
          have d2 := lB 2 _ rfl
          have d3 := lB 3 _ rfl
          simp (maxSteps := 4000000) [↓step_none, ↓step_t, ↓step_f, ↓step_nt, ↓step_nf, ↓op_load, ↓op_store, ↓op_slice, ↓op_app, ↓P_skip, ↓P_exit, ↓P_ret, ↓P_seq, ↓P_cond, ↓P_blk, ↓P_reg, ↓P_draw, ↓P_nil, ↓P_cons, condP_t, condP_f, dum_ab, stepR, want_none, want_some, opRun, ev_t, ev_c, put_none, put_some, resAll, res_tmp, res_cell, oneOf, minI, maxI, min2A, max2A, mn2, mx2, mx3, rdBlk, wrBlk, newBlk, partA, abin, ibin, isShift, AV.cells, AV.one, lay, sub, fillA, lenA, toN, allApart, apartFrom, Nat.testBit, Mem.blk_set_same, Mem.blk_set_ne, Mem.set_set, bit_zero, bit_self, lowBits_or, lowBits_zero, len_setT, sl_same, sl_ne, len_frame, sl_frame,↓op_len, lenOp_slc, lenOp_nils, ↓Post.some, ↓Post_bind, ↓Post_ret, ↓Post_draw, ↓PostL_nil, ↓PostL_cons, Post_fail, ofOpt_some, ofOpt_none, eA_b, eA_i, eA_s, eA_nn, eA_np, eA_pn, eA_lnn, eA_lnp, eA_lpn, eA_i2, eA_i3, blt_dec, Nat.add_assoc, keeps_refl, keeps_at, keeps_up, new_one, and_pow, bit_hi, lowBits_pow, ble_dec, fr_refl, fr_at, fr_up, fr_p, dum_ab, L8_0b, hlen, g0, g3, g4, g5, c1, c1', c2', l5, sA, a0, a1, a2, a3, a4, x2, d1, d2, d3, x3, m2, bn, x4, ci]
          exact Round.nor (m' := 100 - (i + 1)) (by omega) ⟨i + 1, rfl, by omega, by simp [len_setT, sl_same, sl_ne, hlen], by simp [len_setT, sl_same, sl_ne, hlen, g0], by simp [len_setT, sl_same, sl_ne, hlen, g3], by simp [len_setT, sl_same, sl_ne, hlen, g4], by simp [len_setT, sl_same, sl_ne, hlen], hb4, gx4⟩
        have n7 : (q1 == 7) = false := by simpa using e7
        obtain ⟨k, hk⟩ : ∃ k, k = min n 10 := ⟨_, rfl⟩
        obtain ⟨x, l, hlk, gv, bx, sx⟩ := cut k (by omega)
        have kmin : (if (10 : Int) < (n : Int) then (10 : Int) else (n : Int)) = (k : Int) := by split <;> omega
        have kmin2 : (if (n : Int) < (10 : Int) then (n : Int) else (10 : Int)) = (k : Int) := by split <;> omega
        have kmin3 : min (n : Int) 10 = (k : Int) := by omega
        obtain ⟨_, h2, nx2, tc2, wr2, h3, nx3, tc3, wr3, h4, nx4, tc4, wr4, ⟨r, rfl⟩, x2, x3, m2, bn, lB, x4, hb4, gx4⟩ := fin (pair_take true g1 hc q2 q4 q3 (IntKind.i64.wrap ((i : Int).tmod 4 - 1)) gv bx)
        simp only [cond_true, cond_false] at x2 x3
        have d1 := lB 1 _ rfl
        have d2 := lB 2 _ rfl
        have d3 := lB 3 _ rfl
        have d4 := lB 4 _ rfl
        simp (maxSteps := 4000000) [↓step_none, ↓step_t, ↓step_f, ↓step_nt, ↓step_nf, ↓op_load, ↓op_store, ↓op_slice, ↓op_app, ↓P_skip, ↓P_exit, ↓P_ret, ↓P_seq, ↓P_cond, ↓P_blk, ↓P_reg, ↓P_draw, ↓P_nil, ↓P_cons, condP_t, condP_f, dum_ab, stepR, want_none, want_some, opRun, ev_t, ev_c, put_none, put_some, resAll, res_tmp, res_cell, oneOf, minI, maxI, min2A, max2A, mn2, mx2, mx3, rdBlk, wrBlk, newBlk, partA, abin, ibin, isShift, AV.cells, AV.one, lay, sub, fillA, lenA, toN, allApart, apartFrom, Nat.testBit, Mem.blk_set_same, Mem.blk_set_ne, Mem.set_set, bit_zero, bit_self, lowBits_or, lowBits_zero, len_setT, sl_same, sl_ne, len_frame, sl_frame,↓op_len, lenOp_slc, lenOp_nils, ↓Post.some, ↓Post_bind, ↓Post_ret, ↓Post_draw, ↓PostL_nil, ↓PostL_cons, Post_fail, ofOpt_some, ofOpt_none, eA_b, eA_i, eA_s, eA_nn, eA_np, eA_pn, eA_lnn, eA_lnp, eA_lpn, eA_i2, eA_i3, blt_dec, Nat.add_assoc, keeps_refl, keeps_at, keeps_up, new_one, and_pow, bit_hi, lowBits_pow, ble_dec, fr_refl, fr_at, fr_up, fr_p, dum_ab, L8_0b, hlen, g0, g3, g4, g5, c1, c1', c2', l5, sA, a0, a1, a2, a3, a4, x2, d1, d2, d3, d4, x3, m2, bn, x4, ci, n2, n3, n4, n5, n6, n7, kmin, kmin2, kmin3, ln, sx]
        exact Round.nor (m' := 100 - (i + 1)) (by omega) ⟨i + 1, rfl, by omega, by simp [len_setT, sl_same, sl_ne, hlen], by simp [len_setT, sl_same, sl_ne, hlen, g0], by simp [len_setT, sl_same, sl_ne, hlen, g3], by simp [len_setT, sl_same, sl_ne, hlen, g4], by simp [len_setT, sl_same, sl_ne, hlen], hb4, gx4⟩
    · have c1' : (i : Int) < (la.length : Int) := by omega
      have c2' : ¬ (i : Int) < 100 := by omega
      simp (maxSteps := 4000000) [↓step_none, ↓step_t, ↓step_f, ↓step_nt, ↓step_nf, ↓op_load, ↓op_store, ↓op_slice, ↓op_app, ↓P_skip, ↓P_exit, ↓P_ret, ↓P_seq, ↓P_cond, ↓P_blk, ↓P_reg, ↓P_draw, ↓P_nil, ↓P_cons, condP_t, condP_f, dum_ab, stepR, want_none, want_some, opRun, ev_t, ev_c, put_none, put_some, resAll, res_tmp, res_cell, oneOf, minI, maxI, min2A, max2A, mn2, mx2, mx3, rdBlk, wrBlk, newBlk, partA, abin, ibin, isShift, AV.cells, AV.one, lay, sub, fillA, lenA, toN, allApart, apartFrom, Nat.testBit, Mem.blk_set_same, Mem.blk_set_ne, Mem.set_set, bit_zero, bit_self, lowBits_or, lowBits_zero, len_setT, sl_same, sl_ne, len_frame, sl_frame,↓op_len, lenOp_slc, lenOp_nils, ↓Post.some, ↓Post_bind, ↓Post_ret, ↓Post_draw, ↓PostL_nil, ↓PostL_cons, Post_fail, ofOpt_some, ofOpt_none, eA_b, eA_i, eA_s, eA_nn, eA_np, eA_pn, eA_lnn, eA_lnp, eA_lpn, eA_i2, eA_i3, blt_dec, Nat.add_assoc, keeps_refl, keeps_at, keeps_up, new_one, and_pow, bit_hi, lowBits_pow, ble_dec, fr_refl, fr_at, fr_up, fr_p, dum_ab, L8_0b, hlen, g0, g5, lv, c1', c2']
      exact Round.exit (R := PlR p w h0 base) ⟨rfl, by simp [len_setT, sl_same, sl_ne, hlen], by simp [len_setT, sl_same, sl_ne, hlen, g3], by simp [len_setT, sl_same, sl_ne, hlen, g4], hbn, gx⟩
  · have c1' : ¬ (i : Int) < (la.length : Int) := by omega
    simp (maxSteps := 4000000) [↓step_none, ↓step_t, ↓step_f, ↓step_nt, ↓step_nf, ↓op_load, ↓op_store, ↓op_slice, ↓op_app, ↓P_skip, ↓P_exit, ↓P_ret, ↓P_seq, ↓P_cond, ↓P_blk, ↓P_reg, ↓P_draw, ↓P_nil, ↓P_cons, condP_t, condP_f, dum_ab, stepR, want_none, want_some, opRun, ev_t, ev_c, put_none, put_some, resAll, res_tmp, res_cell, oneOf, minI, maxI, min2A, max2A, mn2, mx2, mx3, rdBlk, wrBlk, newBlk, partA, abin, ibin, isShift, AV.cells, AV.one, lay, sub, fillA, lenA, toN, allApart, apartFrom, Nat.testBit, Mem.blk_set_same, Mem.blk_set_ne, Mem.set_set, bit_zero, bit_self, lowBits_or, lowBits_zero, len_setT, sl_same, sl_ne, len_frame, sl_frame,↓op_len, lenOp_slc, lenOp_nils, ↓Post.some, ↓Post_bind, ↓Post_ret, ↓Post_draw, ↓PostL_nil, ↓PostL_cons, Post_fail, ofOpt_some, ofOpt_none, eA_b, eA_i, eA_s, eA_nn, eA_np, eA_pn, eA_lnn, eA_lnp, eA_lpn, eA_i2, eA_i3, blt_dec, Nat.add_assoc, keeps_refl, keeps_at, keeps_up, new_one, and_pow, bit_hi, lowBits_pow, ble_dec, fr_refl, fr_at, fr_up, fr_p, dum_ab, L8_0b, hlen, g0, g5, lv, c1']
    exact Round.exit (R := PlR p w h0 base) ⟨rfl, by simp [len_setT, sl_same, sl_ne, hlen], by simp [len_setT, sl_same, sl_ne, hlen, g3], by simp [len_setT, sl_same, sl_ne, hlen, g4], hbn, gx⟩
/-- The reference's pool, new. -/
def X0 : List (List AV) := List.replicate 24 rz
def R0 : List (AV × AV) := List.replicate 24 (.nils, .nils)
theorem rps_new {h : Mem} {nx w : Nat} {t : TypeId} (hb : h.blk w = some ⟨t, 217, true, false, rcells X0 0⟩) (hw : w < nx) : RPS h nx w F0 U0 0 A0 A0 X0 R0 := by
  have u : ∀ i, ¬ U0[i]? = some true := fun i h => by
    have e : U0[i]? = if i < 24 then some false else none := List.getElem?_replicate
    rw [e] at h
    split at h <;> cases h
  refine ⟨⟨t, hb⟩, hw, ⟨rfl, fun x hx => ?_⟩, rfl, rfl, rfl, rfl, rfl, fun i h1 h2 h3 h4 => ?_, fun i _ _ h => absurd h (u i), fun i _ _ h => absurd h (u i), fun ⟨i, _, h, _⟩ => u i h, fun i j _ _ b _ h => absurd h (u i), fun i _ b h => absurd h (u i)⟩
  · rw [List.eq_of_mem_replicate hx]; rfl
  · have e1 : X0[i] = rz := List.getElem_replicate ..
    have e2 : U0[i] = false := List.getElem_replicate ..
    refine e1.trans ?_
    rw [show U0[i] = false from e2]; rfl
set_option maxRecDepth 20000 in
set_option maxHeartbeats 8000000 in
theorem play_ok (va : AV) (la : List (List AV)) (h : Mem) (nx : Nat) (hr : SRow 5 va h nx la) (hl : ∀ y ∈ la, Askv h nx y) : ∃ h' nx' tc wr, (∀ k, xF T (k + 1700) 8 [va] h nx 0 = some ⟨.bool true, h', nx', tc, wr⟩) ∧ nx ≤ nx' ∧ ∀ q, q < nx → h'.blk q = h.blk q := by
  have key : Post (xF T 1700 8 [va] h nx 0) fun v' h' nx' tc wr => v' = .bool true ∧ nx ≤ nx' ∧ ∀ q, q < nx → h'.blk q = h.blk q := by
    obtain ⟨h1, x1, ps1, k1⟩ := new_at h nx 0
    obtain ⟨H2, hH2⟩ : ∃ H2, H2 = h1.set (nx + 1) (some ⟨55, 217, true, false, rcells X0 0⟩) := ⟨_, rfl⟩
    have k2 : ∀ b, b < nx + 1 → H2.blk b = h1.blk b := fun b hb => by rw [hH2, Mem.blk_set_ne _ _ _ _ (by omega)]
    have rs : RPS H2 (nx + 2) (nx + 1) F0 U0 0 A0 A0 X0 R0 := rps_new (t := 55) (by rw [hH2, Mem.blk_set_same]) (by omega)
    have nF : ∀ b, ¬ Own F0 b := fun b ⟨i, hi, hb⟩ => by
      have e : F0[i] = ⟨0, 0, 0, 0, 0, 0, .nils, .nils⟩ := List.getElem_replicate ..
      rw [e] at hb
      rcases hb with hb | hb <;> cases hb
    have nR : ∀ b, ¬ ROwn U0 R0 b := fun b ⟨i, _, h, _⟩ => by
      have e : U0[i]? = if i < 24 then some false else none := List.getElem?_replicate
      rw [e] at h
      split at h <;> cases h
    have gx : Gx nx h H2 (nx + 2) nx (nx + 1) := ⟨F0, U0, 0, A0, A0, X0, R0, ⟨⟨ps1.keeps (by omega) k2, rs, few_0, few_0, by omega, fun b hb => absurd hb (nF b), nR _⟩, Nat.le_refl _, by omega, fun b hb => absurd hb (nF b), fun b hb => absurd hb (nR b), fun b hb => by rw [k2 b (by omega), k1 b hb]⟩⟩
    have s2 := hH2.symm
    have eX : rcells X0 0 = (List.replicate 24 rz).flatten ++ [.int .i64 0] := rfl
    rw [eX] at s2
    simp only [List.replicate_succ, List.replicate_zero, List.flatten_cons, List.flatten_nil, rz, List.cons_append, List.nil_append, List.append_nil] at s2
    rw [xF_fr T8]
    simp (maxSteps := 4000000) [↓step_none, ↓step_t, ↓step_f, ↓step_nt, ↓step_nf, ↓op_load, ↓op_store, ↓op_slice, ↓op_app, ↓P_skip, ↓P_exit, ↓P_ret, ↓P_seq, ↓P_cond, ↓P_blk, ↓P_reg, ↓P_draw, ↓P_nil, ↓P_cons, condP_t, condP_f, dum_ab, stepR, want_none, want_some, opRun, ev_t, ev_c, put_none, put_some, resAll, res_tmp, res_cell, oneOf, minI, maxI, min2A, max2A, mn2, mx2, mx3, rdBlk, wrBlk, newBlk, partA, abin, ibin, isShift, AV.cells, AV.one, lay, sub, fillA, lenA, toN, allApart, apartFrom, Nat.testBit, Mem.blk_set_same, Mem.blk_set_ne, Mem.set_set, bit_zero, bit_self, lowBits_or, lowBits_zero, len_setT, sl_same, sl_ne, len_frame, sl_frame,↓op_len, lenOp_slc, lenOp_nils, ↓Post.some, ↓Post_bind, ↓Post_ret, ↓Post_draw, ↓PostL_nil, ↓PostL_cons, Post_fail, ofOpt_some, ofOpt_none, eA_b, eA_i, eA_s, eA_nn, eA_np, eA_pn, eA_lnn, eA_lnp, eA_lpn, eA_i2, eA_i3, blt_dec, Nat.add_assoc, keeps_refl, keeps_at, keeps_up, new_one, and_pow, bit_hi, lowBits_pow, ble_dec, fr_refl, fr_at, fr_up, fr_p, dum_ab, F8, x1, s2]
    refine Post.loop (pl_round va la h nx nx (nx + 1) hr hl) 100 ⟨0, rfl, by omega, by simp [len_setT, sl_same, sl_ne, len_frame], by simp [len_setT, sl_same, sl_ne, len_frame, sl_frame], by simp [len_setT, sl_same, sl_ne, len_frame, sl_frame], by simp [len_setT, sl_same, sl_ne, len_frame, sl_frame], by simp [len_setT, sl_same, sl_ne, len_frame, sl_frame], by omega, gx⟩ (by omega) ?_
    rintro e ts2 h3 nx3 tc3 wr3 ⟨rfl, hlen, g3, g4, hb3, gx3⟩
    obtain ⟨h4, nx4, tc4, wr4, x4, n4, gx4⟩ := gx3.same
    obtain ⟨F, U, s, A, B, X, R, g4'⟩ := gx4
    simp (maxSteps := 4000000) [↓step_none, ↓step_t, ↓step_f, ↓step_nt, ↓step_nf, ↓op_load, ↓op_store, ↓op_slice, ↓op_app, ↓P_skip, ↓P_exit, ↓P_ret, ↓P_seq, ↓P_cond, ↓P_blk, ↓P_reg, ↓P_draw, ↓P_nil, ↓P_cons, condP_t, condP_f, dum_ab, stepR, want_none, want_some, opRun, ev_t, ev_c, put_none, put_some, resAll, res_tmp, res_cell, oneOf, minI, maxI, min2A, max2A, mn2, mx2, mx3, rdBlk, wrBlk, newBlk, partA, abin, ibin, isShift, AV.cells, AV.one, lay, sub, fillA, lenA, toN, allApart, apartFrom, Nat.testBit, Mem.blk_set_same, Mem.blk_set_ne, Mem.set_set, bit_zero, bit_self, lowBits_or, lowBits_zero, len_setT, sl_same, sl_ne, len_frame, sl_frame,↓op_len, lenOp_slc, lenOp_nils, ↓Post.some, ↓Post_bind, ↓Post_ret, ↓Post_draw, ↓PostL_nil, ↓PostL_cons, Post_fail, ofOpt_some, ofOpt_none, eA_b, eA_i, eA_s, eA_nn, eA_np, eA_pn, eA_lnn, eA_lnp, eA_lpn, eA_i2, eA_i3, blt_dec, Nat.add_assoc, keeps_refl, keeps_at, keeps_up, new_one, and_pow, bit_hi, lowBits_pow, ble_dec, fr_refl, fr_at, fr_up, fr_p, dum_ab, hlen, g3, g4, x4]
    exact ⟨by omega, g4'.k⟩
  obtain ⟨v', h', nx', tc, wr, e, rfl, e1, e2⟩ := key.inv
  exact ⟨h', nx', tc, wr, fun k => xF_mono T (Nat.le_add_left ..) e, e1, e2⟩
end Go.Proofs.YtobcboiemibkkaaT
