/- Code: contracts of code's functions. -/
import Derived.Test.YtlbjdkhpabpmiaaRow
namespace Go.Proofs.YtlbjdkhpabpmiaaT
open Go Go.Proofs.YtlbjdkhpabpmiaaE Go.Proofs.YtlbjdkhpabpmiaaB
set_option linter.unusedSimpArgs false
set_option linter.unusedVariables false
attribute [local congr] Post_cg PostL_cg condP_cg

theorem within_ex (x lo hi : Int) (h1 : -100000 ≤ lo) (h2 : lo ≤ hi) (h3 : hi ≤ 100000) : ∃ r, lo ≤ r ∧ r ≤ hi ∧ ∀ (n : Nat) (h : Mem) (nx lg : Nat), xF T (n + 20) 13 [.int .i64 x, .int .i64 lo, .int .i64 hi] h nx lg = some ⟨.int .i64 r, h, nx, 0, 0⟩ := by
  have w1 : IntKind.i64.wrap (hi - lo) = hi - lo := by rw [IntKind.wrap_i64]; omega
  have w2 : IntKind.i64.wrap (hi - lo + 1) = hi - lo + 1 := by rw [IntKind.wrap_i64]; omega
  have w0 : ¬ hi - lo + 1 = 0 := by omega
  have t1 := Int.tmod_lt_of_pos x (show (0 : Int) < hi - lo + 1 by omega)
  have t2 : -(hi - lo + 1) < x.tmod (hi - lo + 1) := by
    have := Int.lt_tmod_of_pos x (show (0 : Int) < hi - lo + 1 by omega)
    omega
  have w3 : IntKind.i64.wrap (x.tmod (hi - lo + 1)) = x.tmod (hi - lo + 1) := by rw [IntKind.wrap_i64]; omega
  by_cases c : lo ≤ x ∧ x ≤ hi
  · obtain ⟨c1, c2⟩ := c
    refine ⟨x, c1, c2, fun n h nx lg => ?_⟩
    rw [xF_fr T13]; apply eq_of_Post
    simp [↓P_skip, ↓P_exit, ↓P_ret, ↓P_seq, ↓P_cond, ↓P_blk, ↓P_reg, ↓P_draw, ↓P_nil, ↓P_cons, condP_t, condP_f, dum_ab, stepR, want_none, want_some, opRun, ev_t, ev_c, put_none, put_some, resAll, res_tmp, res_cell, oneOf, minI, maxI, min2A, max2A, mn2, mx2, mx3, rdBlk, wrBlk, newBlk, partA, abin, ibin, isShift, AV.cells, AV.one, lay, sub, fillA, lenA, toN, allApart, apartFrom, Nat.testBit, Mem.blk_set_same, Mem.blk_set_ne, Mem.set_set, bit_zero, bit_self, lowBits_or, lowBits_zero, len_setT, sl_same, sl_ne, len_frame, sl_frame,↓op_len, lenOp_slc, lenOp_nils, ↓Post.some, ↓Post_bind, ↓Post_ret, ↓Post_draw, ↓PostL_nil, ↓PostL_cons, Post_fail, ofOpt_some, ofOpt_none, eA_b, eA_i, eA_s, eA_nn, eA_np, eA_pn, eA_lnn, eA_lnp, eA_lpn, eA_i2, eA_i3, blt_dec, Nat.add_assoc, keeps_refl, keeps_at, keeps_up, new_one, and_pow, bit_hi, lowBits_pow, ble_dec, fr_refl, fr_at, fr_up, fr_p, dum_ab, F13, c1, c2]
  · generalize hm : x.tmod (hi - lo + 1) = m at *
    by_cases c3 : m < 0
    · have w4 : IntKind.i64.wrap (m + hi) = m + hi := by rw [IntKind.wrap_i64]; omega
      have w5 : IntKind.i64.wrap (m + hi - lo) = m + hi - lo := by rw [IntKind.wrap_i64]; omega
      have w6 : IntKind.i64.wrap (m + hi - lo + 1) = m + hi - lo + 1 := by rw [IntKind.wrap_i64]; omega
      have w7 : IntKind.i64.wrap (lo + (m + hi - lo + 1)) = lo + (m + hi - lo + 1) := by rw [IntKind.wrap_i64]; omega
      refine ⟨lo + (m + hi - lo + 1), by omega, by omega, fun n h nx lg => ?_⟩
      rw [xF_fr T13]; apply eq_of_Post
      by_cases c1 : lo ≤ x
      · have c2 : ¬ x ≤ hi := fun e => c ⟨c1, e⟩
        simp [↓P_skip, ↓P_exit, ↓P_ret, ↓P_seq, ↓P_cond, ↓P_blk, ↓P_reg, ↓P_draw, ↓P_nil, ↓P_cons, condP_t, condP_f, dum_ab, stepR, want_none, want_some, opRun, ev_t, ev_c, put_none, put_some, resAll, res_tmp, res_cell, oneOf, minI, maxI, min2A, max2A, mn2, mx2, mx3, rdBlk, wrBlk, newBlk, partA, abin, ibin, isShift, AV.cells, AV.one, lay, sub, fillA, lenA, toN, allApart, apartFrom, Nat.testBit, Mem.blk_set_same, Mem.blk_set_ne, Mem.set_set, bit_zero, bit_self, lowBits_or, lowBits_zero, len_setT, sl_same, sl_ne, len_frame, sl_frame,↓op_len, lenOp_slc, lenOp_nils, ↓Post.some, ↓Post_bind, ↓Post_ret, ↓Post_draw, ↓PostL_nil, ↓PostL_cons, Post_fail, ofOpt_some, ofOpt_none, eA_b, eA_i, eA_s, eA_nn, eA_np, eA_pn, eA_lnn, eA_lnp, eA_lpn, eA_i2, eA_i3, blt_dec, Nat.add_assoc, keeps_refl, keeps_at, keeps_up, new_one, and_pow, bit_hi, lowBits_pow, ble_dec, fr_refl, fr_at, fr_up, fr_p, dum_ab, F13, c1, c2, w0, w1, w2, w3, w4, w5, w6, w7, hm, c3]
      · simp [↓P_skip, ↓P_exit, ↓P_ret, ↓P_seq, ↓P_cond, ↓P_blk, ↓P_reg, ↓P_draw, ↓P_nil, ↓P_cons, condP_t, condP_f, dum_ab, stepR, want_none, want_some, opRun, ev_t, ev_c, put_none, put_some, resAll, res_tmp, res_cell, oneOf, minI, maxI, min2A, max2A, mn2, mx2, mx3, rdBlk, wrBlk, newBlk, partA, abin, ibin, isShift, AV.cells, AV.one, lay, sub, fillA, lenA, toN, allApart, apartFrom, Nat.testBit, Mem.blk_set_same, Mem.blk_set_ne, Mem.set_set, bit_zero, bit_self, lowBits_or, lowBits_zero, len_setT, sl_same, sl_ne, len_frame, sl_frame,↓op_len, lenOp_slc, lenOp_nils, ↓Post.some, ↓Post_bind, ↓Post_ret, ↓Post_draw, ↓PostL_nil, ↓PostL_cons, Post_fail, ofOpt_some, ofOpt_none, eA_b, eA_i, eA_s, eA_nn, eA_np, eA_pn, eA_lnn, eA_lnp, eA_lpn, eA_i2, eA_i3, blt_dec, Nat.add_assoc, keeps_refl, keeps_at, keeps_up, new_one, and_pow, bit_hi, lowBits_pow, ble_dec, fr_refl, fr_at, fr_up, fr_p, dum_ab, F13, c1, w0, w1, w2, w3, w4, w5, w6, w7, hm, c3]
    · have w7 : IntKind.i64.wrap (lo + m) = lo + m := by rw [IntKind.wrap_i64]; omega
      refine ⟨lo + m, by omega, by omega, fun n h nx lg => ?_⟩
      rw [xF_fr T13]; apply eq_of_Post
      by_cases c1 : lo ≤ x
      · have c2 : ¬ x ≤ hi := fun e => c ⟨c1, e⟩
        simp [↓P_skip, ↓P_exit, ↓P_ret, ↓P_seq, ↓P_cond, ↓P_blk, ↓P_reg, ↓P_draw, ↓P_nil, ↓P_cons, condP_t, condP_f, dum_ab, stepR, want_none, want_some, opRun, ev_t, ev_c, put_none, put_some, resAll, res_tmp, res_cell, oneOf, minI, maxI, min2A, max2A, mn2, mx2, mx3, rdBlk, wrBlk, newBlk, partA, abin, ibin, isShift, AV.cells, AV.one, lay, sub, fillA, lenA, toN, allApart, apartFrom, Nat.testBit, Mem.blk_set_same, Mem.blk_set_ne, Mem.set_set, bit_zero, bit_self, lowBits_or, lowBits_zero, len_setT, sl_same, sl_ne, len_frame, sl_frame,↓op_len, lenOp_slc, lenOp_nils, ↓Post.some, ↓Post_bind, ↓Post_ret, ↓Post_draw, ↓PostL_nil, ↓PostL_cons, Post_fail, ofOpt_some, ofOpt_none, eA_b, eA_i, eA_s, eA_nn, eA_np, eA_pn, eA_lnn, eA_lnp, eA_lpn, eA_i2, eA_i3, blt_dec, Nat.add_assoc, keeps_refl, keeps_at, keeps_up, new_one, and_pow, bit_hi, lowBits_pow, ble_dec, fr_refl, fr_at, fr_up, fr_p, dum_ab, F13, c1, c2, w0, w1, w2, w3, w7, hm, c3]
      · simp [↓P_skip, ↓P_exit, ↓P_ret, ↓P_seq, ↓P_cond, ↓P_blk, ↓P_reg, ↓P_draw, ↓P_nil, ↓P_cons, condP_t, condP_f, dum_ab, stepR, want_none, want_some, opRun, ev_t, ev_c, put_none, put_some, resAll, res_tmp, res_cell, oneOf, minI, maxI, min2A, max2A, mn2, mx2, mx3, rdBlk, wrBlk, newBlk, partA, abin, ibin, isShift, AV.cells, AV.one, lay, sub, fillA, lenA, toN, allApart, apartFrom, Nat.testBit, Mem.blk_set_same, Mem.blk_set_ne, Mem.set_set, bit_zero, bit_self, lowBits_or, lowBits_zero, len_setT, sl_same, sl_ne, len_frame, sl_frame,↓op_len, lenOp_slc, lenOp_nils, ↓Post.some, ↓Post_bind, ↓Post_ret, ↓Post_draw, ↓PostL_nil, ↓PostL_cons, Post_fail, ofOpt_some, ofOpt_none, eA_b, eA_i, eA_s, eA_nn, eA_np, eA_pn, eA_lnn, eA_lnp, eA_lpn, eA_i2, eA_i3, blt_dec, Nat.add_assoc, keeps_refl, keeps_at, keeps_up, new_one, and_pow, bit_hi, lowBits_pow, ble_dec, fr_refl, fr_at, fr_up, fr_p, dum_ab, F13, c1, w0, w1, w2, w3, w7, hm, c3]

def lits (n : Nat) : List Int := (List.range n).map fun (i : Nat) => (i : Int)
def tkv (x : Int) : Int := if x = 14 ∨ x = 17 ∨ x = 21 ∨ x = 23 then 0 else if x = 6 ∨ x = 7 ∨ x = 10 ∨ x = 11 ∨ x = 15 ∨ x = 16 ∨ x = 18 ∨ x = 22 then 1 else if x = 9 ∨ x = 19 then 3 else if x = 24 then -1 else 2
theorem tkv_in (x : Int) (h : x ≤ 23) : 0 ≤ tkv x ∧ tkv x ≤ 3 := by
  unfold tkv
  split
  · omega
  · split
    · omega
    · split
      · omega
      · rw [if_neg (by omega)]; omega
theorem takes_of (x : Int) (h0 : 0 ≤ x) (h1 : x ≤ 24) : ∀ (n : Nat) (h : Mem) (nx lg : Nat), xF T (n + 100) 16 [.int .i64 x] h nx lg = some ⟨.int .i64 (tkv x), h, nx, 0, 0⟩ := by
  intro n h nx lg
  have : x = 0 ∨ x = 1 ∨ x = 2 ∨ x = 3 ∨ x = 4 ∨ x = 5 ∨ x = 6 ∨ x = 7 ∨ x = 8 ∨ x = 9 ∨ x = 10 ∨ x = 11 ∨ x = 12 ∨ x = 13 ∨ x = 14 ∨ x = 15 ∨ x = 16 ∨ x = 17 ∨ x = 18 ∨ x = 19 ∨ x = 20 ∨ x = 21 ∨ x = 22 ∨ x = 23 ∨ x = 24 := by omega
  rcases this with rfl | rfl | rfl | rfl | rfl | rfl | rfl | rfl | rfl | rfl | rfl | rfl | rfl | rfl | rfl | rfl | rfl | rfl | rfl | rfl | rfl | rfl | rfl | rfl | rfl
  all_goals
    rw [xF_fr T16]; apply eq_of_Post
    simp (maxSteps := 4000000) [↓P_skip, ↓P_exit, ↓P_ret, ↓P_seq, ↓P_cond, ↓P_blk, ↓P_reg, ↓P_draw, ↓P_nil, ↓P_cons, condP_t, condP_f, dum_ab, stepR, want_none, want_some, opRun, ev_t, ev_c, put_none, put_some, resAll, res_tmp, res_cell, oneOf, minI, maxI, min2A, max2A, mn2, mx2, mx3, rdBlk, wrBlk, newBlk, partA, abin, ibin, isShift, AV.cells, AV.one, lay, sub, fillA, lenA, toN, allApart, apartFrom, Nat.testBit, Mem.blk_set_same, Mem.blk_set_ne, Mem.set_set, bit_zero, bit_self, lowBits_or, lowBits_zero, len_setT, sl_same, sl_ne, len_frame, sl_frame,↓op_len, lenOp_slc, lenOp_nils, ↓Post.some, ↓Post_bind, ↓Post_ret, ↓Post_draw, ↓PostL_nil, ↓PostL_cons, Post_fail, ofOpt_some, ofOpt_none, eA_b, eA_i, eA_s, eA_nn, eA_np, eA_pn, eA_lnn, eA_lnp, eA_lpn, eA_i2, eA_i3, blt_dec, Nat.add_assoc, keeps_refl, keeps_at, keeps_up, new_one, and_pow, bit_hi, lowBits_pow, ble_dec, fr_refl, fr_at, fr_up, fr_p, dum_ab, F16, tkv]
def nms : List AV := [.str (.mk (.mk [112, 117, 115, 104, 116, 101, 109, 112])), .str (.mk (.mk [112, 117, 115, 104, 102, 105, 101, 108, 100])), .str (.mk (.mk [112, 117, 115, 104, 108, 105, 116])), .str (.mk (.mk [112, 117, 115, 104, 115, 101, 108, 102])), .str (.mk (.mk [112, 117, 115, 104, 110, 105, 108])), .str (.mk (.mk [112, 117, 115, 104, 116, 114, 117, 101])), .str (.mk (.mk [112, 117, 115, 104, 102, 97, 108, 115, 101])), .str (.mk (.mk [112, 117, 115, 104, 110, 117, 109])), .str (.mk (.mk [112, 111, 112])), .str (.mk (.mk [100, 117, 112])), .str (.mk (.mk [115, 116, 111, 114, 101, 116, 101, 109, 112])), .str (.mk (.mk [115, 116, 111, 114, 101, 102, 105, 101, 108, 100])), .str (.mk (.mk [115, 101, 110, 100])), .str (.mk (.mk [115, 117, 112, 101, 114])), .str (.mk (.mk [114, 101, 116, 117, 114, 110])), .str (.mk (.mk [106, 117, 109, 112])), .str (.mk (.mk [98, 97, 99, 107])), .str (.mk (.mk [105, 102, 102, 97, 108, 115, 101])), .str (.mk (.mk [98, 108, 111, 99, 107])), .str (.mk (.mk [104, 111, 109, 101])), .str (.mk (.mk [110, 101, 119])), .str (.mk (.mk [112, 114, 105, 109]))]

theorem nms_ne (i : Nat) (h : i < 22) : ∃ s : ByteArray, nms[i]? = some (.str s) ∧ s.toList.isEmpty = false ∧ (AV.str s).cells = [.str s] := by
  have : i = 0 ∨ i = 1 ∨ i = 2 ∨ i = 3 ∨ i = 4 ∨ i = 5 ∨ i = 6 ∨ i = 7 ∨ i = 8 ∨ i = 9 ∨ i = 10 ∨ i = 11 ∨ i = 12 ∨ i = 13 ∨ i = 14 ∨ i = 15 ∨ i = 16 ∨ i = 17 ∨ i = 18 ∨ i = 19 ∨ i = 20 ∨ i = 21 := by omega
  rcases this with rfl | rfl | rfl | rfl | rfl | rfl | rfl | rfl | rfl | rfl | rfl | rfl | rfl | rfl | rfl | rfl | rfl | rfl | rfl | rfl | rfl | rfl
  all_goals
    refine ⟨_, rfl, ?_, rfl⟩
    decide +kernel
set_option maxHeartbeats 4000000 in
theorem name_yes (i : Nat) (hi : i < 22) (s : ByteArray) (hs : nms[i]? = some (.str s)) (h : Mem) (nx lg : Nat) (hlg : lg ≤ nx) : ∃ h' tc, (∀ n, xF T (n + 40) 17 [.int .i64 i] h nx lg = some ⟨.str s, h', nx + 1, tc, 0⟩) ∧ ∀ b, b < nx → h'.blk b = h.blk b := by
  have key : Post (xF T 40 17 [.int .i64 i] h nx lg) fun v' h' nx' tc wr => v' = .str s ∧ nx' = nx + 1 ∧ wr = 0 ∧ ∀ b, b < nx → h'.blk b = h.blk b := by
    have c1 : ¬ (i : Int) < 0 := by omega
    have c2 : ¬ (22 : Int) ≤ (i : Int) := by omega
    have c3 : (i : Int) < 22 := by omega
    have hs' := hs
    unfold nms at hs'
    have b0 : bit lg nx = 0 := bit_up hlg
    rw [xF_fr T17]
    simp (maxSteps := 4000000) [↓P_skip, ↓P_exit, ↓P_ret, ↓P_seq, ↓P_cond, ↓P_blk, ↓P_reg, ↓P_draw, ↓P_nil, ↓P_cons, condP_t, condP_f, dum_ab, stepR, want_none, want_some, opRun, ev_t, ev_c, put_none, put_some, resAll, res_tmp, res_cell, oneOf, minI, maxI, min2A, max2A, mn2, mx2, mx3, rdBlk, wrBlk, newBlk, partA, abin, ibin, isShift, AV.cells, AV.one, lay, sub, fillA, lenA, toN, allApart, apartFrom, Nat.testBit, Mem.blk_set_same, Mem.blk_set_ne, Mem.set_set, bit_zero, bit_self, lowBits_or, lowBits_zero, len_setT, sl_same, sl_ne, len_frame, sl_frame,↓op_len, lenOp_slc, lenOp_nils, ↓Post.some, ↓Post_bind, ↓Post_ret, ↓Post_draw, ↓PostL_nil, ↓PostL_cons, Post_fail, ofOpt_some, ofOpt_none, eA_b, eA_i, eA_s, eA_nn, eA_np, eA_pn, eA_lnn, eA_lnp, eA_lpn, eA_i2, eA_i3, blt_dec, Nat.add_assoc, keeps_refl, keeps_at, keeps_up, new_one, and_pow, bit_hi, lowBits_pow, ble_dec, fr_refl, fr_at, fr_up, fr_p, dum_ab, F17, reps, c1, c2, c3, hi, hs', get_of hs', b0]
    intro b hb
    exact Mem.blk_set_ne _ _ _ _ (by omega)
  obtain ⟨v', h', nx', tc, wr, e, rfl, rfl, rfl, k⟩ := key.inv
  exact ⟨h', tc, fun n => xF_mono T (Nat.le_add_left ..) e, k⟩
/-- Fetch. -/
def meth (a t : Int) (l v : AV) : AV := .agg [.int .i64 a, .int .i64 t, l, v]
def inst (a b : Int) : AV := .agg [.int .i64 a, .int .i64 b]
def FetchOk (args : List AV) (h : Mem) (nx : Nat) (r : AV) : Prop := ∀ lg, lg ≤ nx → ∃ h' tc, (∀ n, xF T (n + 40) 15 args h nx lg = some ⟨r, h', nx + 2, tc, 0⟩) ∧ ∀ b, b < nx → h'.blk b = h.blk b
set_option maxHeartbeats 4000000 in
theorem fetch_yes {h : Mem} {nx : Nat} {v : AV} {l : List Int} (g : RV 1 l.length v h 0 nx (u8s l)) (hl : l.length ≤ 1000) (hb8 : ∀ x ∈ l, 0 ≤ x ∧ x < 256) (i j : Nat) (hj : j = 2 * i) (hi : j + 1 < l.length) (a t : Int) : FetchOk [.agg [.int .i64 a, .int .i64 t, .nils, v], .int .i64 j] h nx (.tup [.agg [.int .i64 (l[j]'(by omega)), .int .i64 (l[j + 1]'hi)], .bool true]) := by
  intro lg hlg
  have hj0 : j < l.length := by omega
  have key : Post (xF T 40 15 [.agg [.int .i64 a, .int .i64 t, .nils, v], .int .i64 j] h nx lg) fun v' h' nx' tc wr => v' = .tup [.agg [.int .i64 (l[j]'(by omega)), .int .i64 (l[j + 1]'hi)], .bool true] ∧ nx' = nx + 2 ∧ wr = 0 ∧ ∀ b, b < nx → h'.blk b = h.blk b := by
    have c1 : ¬ (j : Int) < 0 := by omega
    have tm : (j : Int).tmod 2 = ((j % 2 : Nat) : Int) := rfl
    have c2 : (j : Int).tmod 2 = 0 := by rw [tm]; omega
    have c2'' : j % 2 = 0 := by omega
    have c2b : (2 : Int) ∣ (j : Int) := by omega
    have w1 : IntKind.i64.wrap ((l.length : Int) - 1) = (l.length : Int) - 1 := by rw [IntKind.wrap_i64]; omega
    have w2 : IntKind.i64.wrap ((j : Int) + 1) = (j : Int) + 1 := by rw [IntKind.wrap_i64]; omega
    have c3 : ¬ (l.length : Int) - 1 ≤ (j : Int) := by omega
    have c4 : (0 : Int) ≤ (j : Int) + 1 := by omega
    have c5 : ((j : Int) + 1) < (l.length : Int) := by omega
    have ll := g.lenOp
    obtain ⟨b, o, c, K, y, e, hb1, hb2, hK, hy, hc⟩ := RV.at1 g hj0
    obtain ⟨b', o', c', K', y', e', hb1', hb2', hK', hy', hc'⟩ := RV.at1 g hi
    rw [e] at e'
    cases e'
    rw [hK] at hK'
    cases hK'
    rw [u8s_at hj0] at hy
    rw [u8s_at hi] at hy'
    cases hy; cases hy'
    subst e
    have p0 := hb8 _ (List.getElem_mem hj0)
    have p1 := hb8 _ (List.getElem_mem hi)
    generalize l[j] = q0 at *
    generalize l[j + 1] = q1 at *
    have v0 : IntKind.i64.wrap q0 = q0 := by rw [IntKind.wrap_i64]; omega
    have v1 : IntKind.i64.wrap q1 = q1 := by rw [IntKind.wrap_i64]; omega
    have n0 : ¬ b = nx := by omega
    have n1 : ¬ b = nx + 1 := by omega
    have hb3 : b < nx + 1 := by omega
    have hb4 : b < nx + 2 := by omega
    have d0 := get_of hc
    have d1 := get_of hc'
    rw [xF_fr T15]
    simp (maxSteps := 4000000) [↓P_skip, ↓P_exit, ↓P_ret, ↓P_seq, ↓P_cond, ↓P_blk, ↓P_reg, ↓P_draw, ↓P_nil, ↓P_cons, condP_t, condP_f, dum_ab, stepR, want_none, want_some, opRun, ev_t, ev_c, put_none, put_some, resAll, res_tmp, res_cell, oneOf, minI, maxI, min2A, max2A, mn2, mx2, mx3, rdBlk, wrBlk, newBlk, partA, abin, ibin, isShift, AV.cells, AV.one, lay, sub, fillA, lenA, toN, allApart, apartFrom, Nat.testBit, Mem.blk_set_same, Mem.blk_set_ne, Mem.set_set, bit_zero, bit_self, lowBits_or, lowBits_zero, len_setT, sl_same, sl_ne, len_frame, sl_frame,↓op_len, lenOp_slc, lenOp_nils, ↓Post.some, ↓Post_bind, ↓Post_ret, ↓Post_draw, ↓PostL_nil, ↓PostL_cons, Post_fail, ofOpt_some, ofOpt_none, eA_b, eA_i, eA_s, eA_nn, eA_np, eA_pn, eA_lnn, eA_lnp, eA_lpn, eA_i2, eA_i3, blt_dec, Nat.add_assoc, keeps_refl, keeps_at, keeps_up, new_one, and_pow, bit_hi, lowBits_pow, ble_dec, fr_refl, fr_at, fr_up, fr_p, dum_ab, F15, reps, c1, c2, c2'', c3, c4, c5, w1, w2, ll, hK, n0, n1, hb3, hb4, hb2, hc, hc', d0, d1, v0, v1, hi, hj0]
    refine ⟨bit_up (by omega), fun b hb => ?_⟩
    rw [Mem.blk_set_ne _ _ _ _ (by omega), Mem.blk_set_ne _ _ _ _ (by omega)]
  obtain ⟨v', h', nx', tc, wr, e, rfl, rfl, rfl, k⟩ := key.inv
  exact ⟨h', tc, fun n => xF_mono T (Nat.le_add_left ..) e, k⟩
set_option maxHeartbeats 4000000 in
theorem fetch_no {h : Mem} {nx : Nat} {v : AV} {l : List Int} (g : RV 1 l.length v h 0 nx (u8s l)) (hl : l.length ≤ 1000) (j : Nat) (hj : j % 2 = 1 ∨ l.length ≤ j + 1) (a t : Int) : FetchOk [.agg [.int .i64 a, .int .i64 t, .nils, v], .int .i64 j] h nx (.tup [.agg [.int .i64 0, .int .i64 0], .bool false]) := by
  intro lg hlg
  have key : Post (xF T 40 15 [.agg [.int .i64 a, .int .i64 t, .nils, v], .int .i64 j] h nx lg) fun v' h' nx' tc wr => v' = .tup [.agg [.int .i64 0, .int .i64 0], .bool false] ∧ nx' = nx + 2 ∧ wr = 0 ∧ ∀ b, b < nx → h'.blk b = h.blk b := by
    have c1 : ¬ (j : Int) < 0 := by omega
    have w1 : IntKind.i64.wrap ((l.length : Int) - 1) = (l.length : Int) - 1 := by rw [IntKind.wrap_i64]; omega
    have ll := g.lenOp
    have tm : (j : Int).tmod 2 = ((j % 2 : Nat) : Int) := rfl
    have fin : ∀ (K1 K2 : Blk) (b : Nat), b < nx → (((h.set nx (some K1)).set (nx + 1) (some K2)).blk b) = h.blk b := fun K1 K2 b hb => by
      rw [Mem.blk_set_ne _ _ _ _ (by omega), Mem.blk_set_ne _ _ _ _ (by omega)]
    by_cases c2 : j % 2 = 1
    · have c2' : ((j : Int).tmod 2 != 0) = true := by rw [tm, c2]; rfl
      rw [xF_fr T15]
      simp (maxSteps := 4000000) [↓P_skip, ↓P_exit, ↓P_ret, ↓P_seq, ↓P_cond, ↓P_blk, ↓P_reg, ↓P_draw, ↓P_nil, ↓P_cons, condP_t, condP_f, dum_ab, stepR, want_none, want_some, opRun, ev_t, ev_c, put_none, put_some, resAll, res_tmp, res_cell, oneOf, minI, maxI, min2A, max2A, mn2, mx2, mx3, rdBlk, wrBlk, newBlk, partA, abin, ibin, isShift, AV.cells, AV.one, lay, sub, fillA, lenA, toN, allApart, apartFrom, Nat.testBit, Mem.blk_set_same, Mem.blk_set_ne, Mem.set_set, bit_zero, bit_self, lowBits_or, lowBits_zero, len_setT, sl_same, sl_ne, len_frame, sl_frame,↓op_len, lenOp_slc, lenOp_nils, ↓Post.some, ↓Post_bind, ↓Post_ret, ↓Post_draw, ↓PostL_nil, ↓PostL_cons, Post_fail, ofOpt_some, ofOpt_none, eA_b, eA_i, eA_s, eA_nn, eA_np, eA_pn, eA_lnn, eA_lnp, eA_lpn, eA_i2, eA_i3, blt_dec, Nat.add_assoc, keeps_refl, keeps_at, keeps_up, new_one, and_pow, bit_hi, lowBits_pow, ble_dec, fr_refl, fr_at, fr_up, fr_p, dum_ab, F15, reps, c1, c2']
      exact ⟨bit_up (by omega), fin _ _⟩
    · have c2' : ((j : Int).tmod 2 != 0) = false := by rw [tm, show j % 2 = 0 by omega]; rfl
      have c3 : (l.length : Int) - 1 ≤ (j : Int) := by omega
      rcases g.form with ⟨rfl, hz⟩ | ⟨b, o, c, rfl⟩
      · have w0 : IntKind.i64.wrap (0 - 1) = -1 := by decide
        have w0' : IntKind.i64.wrap (-1) = -1 := by decide
        have c4 : (-1 : Int) ≤ (j : Int) := by omega
        rw [xF_fr T15]
        simp (maxSteps := 4000000) [↓P_skip, ↓P_exit, ↓P_ret, ↓P_seq, ↓P_cond, ↓P_blk, ↓P_reg, ↓P_draw, ↓P_nil, ↓P_cons, condP_t, condP_f, dum_ab, stepR, want_none, want_some, opRun, ev_t, ev_c, put_none, put_some, resAll, res_tmp, res_cell, oneOf, minI, maxI, min2A, max2A, mn2, mx2, mx3, rdBlk, wrBlk, newBlk, partA, abin, ibin, isShift, AV.cells, AV.one, lay, sub, fillA, lenA, toN, allApart, apartFrom, Nat.testBit, Mem.blk_set_same, Mem.blk_set_ne, Mem.set_set, bit_zero, bit_self, lowBits_or, lowBits_zero, len_setT, sl_same, sl_ne, len_frame, sl_frame,↓op_len, lenOp_slc, lenOp_nils, ↓Post.some, ↓Post_bind, ↓Post_ret, ↓Post_draw, ↓PostL_nil, ↓PostL_cons, Post_fail, ofOpt_some, ofOpt_none, eA_b, eA_i, eA_s, eA_nn, eA_np, eA_pn, eA_lnn, eA_lnp, eA_lpn, eA_i2, eA_i3, blt_dec, Nat.add_assoc, keeps_refl, keeps_at, keeps_up, new_one, and_pow, bit_hi, lowBits_pow, ble_dec, fr_refl, fr_at, fr_up, fr_p, dum_ab, F15, reps, c1, c2', w0, w0', c4]
        exact ⟨bit_up (by omega), fin _ _⟩
      · rw [xF_fr T15]
        simp (maxSteps := 4000000) [↓P_skip, ↓P_exit, ↓P_ret, ↓P_seq, ↓P_cond, ↓P_blk, ↓P_reg, ↓P_draw, ↓P_nil, ↓P_cons, condP_t, condP_f, dum_ab, stepR, want_none, want_some, opRun, ev_t, ev_c, put_none, put_some, resAll, res_tmp, res_cell, oneOf, minI, maxI, min2A, max2A, mn2, mx2, mx3, rdBlk, wrBlk, newBlk, partA, abin, ibin, isShift, AV.cells, AV.one, lay, sub, fillA, lenA, toN, allApart, apartFrom, Nat.testBit, Mem.blk_set_same, Mem.blk_set_ne, Mem.set_set, bit_zero, bit_self, lowBits_or, lowBits_zero, len_setT, sl_same, sl_ne, len_frame, sl_frame,↓op_len, lenOp_slc, lenOp_nils, ↓Post.some, ↓Post_bind, ↓Post_ret, ↓Post_draw, ↓PostL_nil, ↓PostL_cons, Post_fail, ofOpt_some, ofOpt_none, eA_b, eA_i, eA_s, eA_nn, eA_np, eA_pn, eA_lnn, eA_lnp, eA_lpn, eA_i2, eA_i3, blt_dec, Nat.add_assoc, keeps_refl, keeps_at, keeps_up, new_one, and_pow, bit_hi, lowBits_pow, ble_dec, fr_refl, fr_at, fr_up, fr_p, dum_ab, F15, reps, c1, c2', c3, w1, ll]
        exact ⟨bit_up (by omega), fin _ _⟩
  obtain ⟨v', h', nx', tc, wr, e, rfl, rfl, rfl, k⟩ := key.inv
  exact ⟨h', tc, fun n => xF_mono T (Nat.le_add_left ..) e, k⟩
end Go.Proofs.YtlbjdkhpabpmiaaT
