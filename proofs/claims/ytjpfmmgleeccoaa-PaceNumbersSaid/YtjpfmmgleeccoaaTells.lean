/- Pace: PaceTells. -/
import Derived.Test.YtjpfmmgleeccoaaPlay
import Derived.Test.YtjpfmmgleeccoaaE24
namespace Go.Proofs.YtjpfmmgleeccoaaT
open Go Go.Proofs.YtjpfmmgleeccoaaE Go.Proofs.YtjpfmmgleeccoaaB
set_option linter.unusedSimpArgs false
set_option linter.unusedVariables false
attribute [local congr] Post_congr

theorem play_at (k : Int) (l : List Int) (v : AV) (h0 : Mem) (p : Nat) (hr : IRow .i64 v h0 p l) :
    ∃ K tc wr, ∀ n, xF T (n + 400) 8 [.int .i64 k, v] h0 p 0 = some ⟨.bool true, h0.set p (some K), p + 1, tc, wr⟩ := by
  obtain ⟨a, h1, n1, tc, wr, e, rfl, rfl, K, rfl⟩ := (play_eq 0 k l v h0 p hr).inv
  exact ⟨K, tc, wr, fun n => xF_mono T (by omega) e⟩

/-- What the making of the few keeps. -/
def FewI (k : Int) (l : List Int) (v : AV) (h0 : Mem) (p : Nat) (m : Nat) (ts : List AV) (h : Mem) (nx tc wr : Nat) : Prop := p ≤ nx ∧ (∀ b, b < p → h.blk b = h0.blk b) ∧ ∃ (i : Nat) (s : AV), GRow s h p nx (((l.take i).map (· % 128)).map (AV.int .i64 ·)) ∧ m = l.length - i ∧ i ≤ l.length ∧ ts.length = 33 ∧ sl ts 9 = .int .i64 i ∧ sl ts 8 = .int .i64 l.length ∧ sl ts 5 = s ∧ sl ts 1 = v ∧ sl ts 0 = .int .i64 k
def FewR (k : Int) (l : List Int) (v : AV) (h0 : Mem) (p : Nat) (e : Ex) (ts : List AV) (h : Mem) (nx tc wr : Nat) : Prop := e = .exit 0 ∧ p ≤ nx ∧ (∀ b, b < p → h.blk b = h0.blk b) ∧ ∃ s : AV, GRow s h p nx ((l.map (· % 128)).map (AV.int .i64 ·)) ∧ ts.length = 33 ∧ sl ts 5 = s ∧ sl ts 1 = v ∧ sl ts 0 = .int .i64 k

set_option maxHeartbeats 2000000 in
theorem few_round (k : Int) (l : List Int) (v : AV) (y : l.length * 8 ≤ 140737488351232) (h0 : Mem) (p : Nat) (hr : IRow .i64 v h0 p l) (m : Nat) (ts : List AV) (h : Mem) (nx tc wr : Nat) (hi : FewI k l v h0 p m ts h nx tc wr) :
    Post (xC T 200 L4_0b ts h nx 0) fun v' h' nx' tc' wr' => Round (FewI k l v h0 p) (FewR k l v h0 p) m v' h' nx' (tc ||| tc') (wr ||| wr') := by
  obtain ⟨hpn, hk, i, s, hg, rfl, hi, hl, h9, h8, h5, h1, h0'⟩ := hi
  by_cases c1 : i < l.length
  · have c1' : (i : Int) < (l.length : Int) := by omega
    obtain ⟨b, c, K, rfl, hb, hK, hc⟩ := hr.at c1
    have hb1 : Nat.blt b nx = true := blt_of (by omega)
    have hs : h.blk b = some K := by rw [hk b hb]; exact hK
    have i1 : IntKind.i64.wrap ((i : Int) + 1) = ((i + 1 : Nat) : Int) := by rw [IntKind.wrap_i64]; omega
    have tk : l.take (i + 1) = l.take i ++ [l[i]] := by rw [List.take_add_one, List.getElem?_eq_getElem c1]; rfl
    generalize l[i] = x at hc tk
    have hb2 : Nat.blt nx (nx + 1) = true := blt_of (by omega)
    simp [yC_skip, yC_exit, yC_ret, yC_seq, yC_cond, yC_blk, yC_reg, yC_draw, reg_nil, reg_cons, stepR, want_none, want_some, opRun, ev_t, ev_c, put_none, put_some, resAll, res_tmp, res_cell, oneOf, minI, maxI, min2A, max2A, mn2, mx2, mx3, rdBlk, wrBlk, newBlk, partA, abin, ibin, isShift, AV.cells, AV.one, lay, sub, fillA, eqA, eqP, eqL, eqIf, eqB, eqI, eqS, lenA, toN, allApart, apartFrom, Nat.testBit, Mem.blk_set_same, Mem.blk_set_ne, Mem.set_set, bit_zero, bit_self, lowBits_or, lowBits_zero, len_setT, sl_same, sl_ne, len_frame, sl_frame,↓op_len, lenOp_slc, lenOp_nils, ↓Post.some, ↓Post_bind, ↓Post_ret, ↓Post_draw, ↓PostL_nil, ↓PostL_cons, Post_fail, ofOpt_some, ofOpt_none, L4_0b, hl, h9, h8, h1, h5, c1', toN_nat c1, hb1, hb2, hs, hc, and127, reps, rdEls]
    refine (app_one 3 8 (.int .i64 (x % 128)) (hg.new _) (Nat.zero_le _) (by omega) ?_ rfl).mono ?_
    · simp only [List.length_map, List.length_take]
      unfold fits
      rw [Nat.ble_eq_true_of_le (by omega), Nat.ble_eq_true_of_le (by omega)]
      rfl
    · rintro s' h' nx' tc' wr' ⟨rfl, g', hk', rfl, rfl⟩
      simp [yC_skip, yC_exit, yC_ret, yC_seq, yC_cond, yC_blk, yC_reg, yC_draw, reg_nil, reg_cons, stepR, want_none, want_some, opRun, ev_t, ev_c, put_none, put_some, resAll, res_tmp, res_cell, oneOf, minI, maxI, min2A, max2A, mn2, mx2, mx3, rdBlk, wrBlk, newBlk, partA, abin, ibin, isShift, AV.cells, AV.one, lay, sub, fillA, eqA, eqP, eqL, eqIf, eqB, eqI, eqS, lenA, toN, allApart, apartFrom, Nat.testBit, Mem.blk_set_same, Mem.blk_set_ne, Mem.set_set, bit_zero, bit_self, lowBits_or, lowBits_zero, len_setT, sl_same, sl_ne, len_frame, sl_frame,↓op_len, lenOp_slc, lenOp_nils, ↓Post.some, ↓Post_bind, ↓Post_ret, ↓Post_draw, ↓PostL_nil, ↓PostL_cons, Post_fail, ofOpt_some, ofOpt_none, hl, h9, h8, h1, h5, i1]
      refine Round.nor (m' := l.length - (i + 1)) (by omega) ⟨by omega, fun b hb => ?_, i + 1, s', ?_, rfl, by omega, by simp [yC_skip, yC_exit, yC_ret, yC_seq, yC_cond, yC_blk, yC_reg, yC_draw, reg_nil, reg_cons, stepR, want_none, want_some, opRun, ev_t, ev_c, put_none, put_some, resAll, res_tmp, res_cell, oneOf, minI, maxI, min2A, max2A, mn2, mx2, mx3, rdBlk, wrBlk, newBlk, partA, abin, ibin, isShift, AV.cells, AV.one, lay, sub, fillA, eqA, eqP, eqL, eqIf, eqB, eqI, eqS, lenA, toN, allApart, apartFrom, Nat.testBit, Mem.blk_set_same, Mem.blk_set_ne, Mem.set_set, bit_zero, bit_self, lowBits_or, lowBits_zero, len_setT, sl_same, sl_ne, len_frame, sl_frame,↓op_len, lenOp_slc, lenOp_nils, ↓Post.some, ↓Post_bind, ↓Post_ret, ↓Post_draw, ↓PostL_nil, ↓PostL_cons, Post_fail, ofOpt_some, ofOpt_none, hl, h9, h8, h1, h5, h0']⟩
      · rw [hk' b hb (by omega), Mem.blk_set_ne _ _ _ _ (by omega)]; exact hk b hb
      · rw [tk, List.map_append, List.map_append]; exact g'
  · have c1' : ¬ (i : Int) < (l.length : Int) := by omega
    simp [yC_skip, yC_exit, yC_ret, yC_seq, yC_cond, yC_blk, yC_reg, yC_draw, reg_nil, reg_cons, stepR, want_none, want_some, opRun, ev_t, ev_c, put_none, put_some, resAll, res_tmp, res_cell, oneOf, minI, maxI, min2A, max2A, mn2, mx2, mx3, rdBlk, wrBlk, newBlk, partA, abin, ibin, isShift, AV.cells, AV.one, lay, sub, fillA, eqA, eqP, eqL, eqIf, eqB, eqI, eqS, lenA, toN, allApart, apartFrom, Nat.testBit, Mem.blk_set_same, Mem.blk_set_ne, Mem.set_set, bit_zero, bit_self, lowBits_or, lowBits_zero, len_setT, sl_same, sl_ne, len_frame, sl_frame,↓op_len, lenOp_slc, lenOp_nils, ↓Post.some, ↓Post_bind, ↓Post_ret, ↓Post_draw, ↓PostL_nil, ↓PostL_cons, Post_fail, ofOpt_some, ofOpt_none, L4_0b, hl, h9, h8, h1, h5, c1']
    refine Round.exit (R := FewR k l v h0 p) ?_
    refine ⟨rfl, hpn, hk, s, ?_, by simp [yC_skip, yC_exit, yC_ret, yC_seq, yC_cond, yC_blk, yC_reg, yC_draw, reg_nil, reg_cons, stepR, want_none, want_some, opRun, ev_t, ev_c, put_none, put_some, resAll, res_tmp, res_cell, oneOf, minI, maxI, min2A, max2A, mn2, mx2, mx3, rdBlk, wrBlk, newBlk, partA, abin, ibin, isShift, AV.cells, AV.one, lay, sub, fillA, eqA, eqP, eqL, eqIf, eqB, eqI, eqS, lenA, toN, allApart, apartFrom, Nat.testBit, Mem.blk_set_same, Mem.blk_set_ne, Mem.set_set, bit_zero, bit_self, lowBits_or, lowBits_zero, len_setT, sl_same, sl_ne, len_frame, sl_frame,↓op_len, lenOp_slc, lenOp_nils, ↓Post.some, ↓Post_bind, ↓Post_ret, ↓Post_draw, ↓PostL_nil, ↓PostL_cons, Post_fail, ofOpt_some, ofOpt_none, hl, h5, h1, h0']⟩
    rw [List.take_of_length_le (by omega)] at hg
    exact hg

theorem tells_law (k : Int) (w0 : (Lit.int .i64 k).wf = true) (l : List Int) (v : AV) (y : l.length * 8 ≤ 140737488351232) (q : ∀ x ∈ l, (Lit.int .i64 x).wf = true) (h0 : Mem) (p : Nat) (hr : IRow .i64 v h0 p l) : Yes T 4 [.int .i64 k, v] h0 p := by
  refine Yes.of (l.length + 1000) ?_
  rw [xF_fr T4]
  have hlen : lenOp v = A.ret (.int .i64 l.length) := hr.lenOp
  have hv : (v = .nils ∧ l = []) ∨ ∃ b c, v = .slc b 0 l.length c := by
    rcases hr with g | ⟨b, c, g, _⟩
    · exact .inl g
    · exact .inr ⟨b, c, g⟩
  have main : ∀ ts, ts.length = 33 → sl ts 9 = .int .i64 0 → sl ts 8 = .int .i64 l.length → sl ts 5 = .nils → sl ts 1 = v → sl ts 0 = .int .i64 k → ∀ n, l.length + 201 ≤ n →
      Post (xC T n L4_0 ts h0 p 0) fun r h nx tc wr => FewR k l v h0 p r.1 r.2 h nx tc wr := by
    intro ts hl h9 h8 h5 h1 h0' n hn
    exact Post.loop (few_round k l v y h0 p hr) l.length ⟨Nat.le_refl _, fun _ _ => rfl, 0, .nils, GRow.nil .., by omega, by omega, hl, h9, h8, h5, h1, h0'⟩ (by omega) fun e ts' h' nx' tc wr r => r
  rcases hv with ⟨rfl, rfl⟩ | ⟨b, c, rfl⟩
  all_goals
    simp [yC_skip, yC_exit, yC_ret, yC_seq, yC_cond, yC_blk, yC_reg, yC_draw, reg_nil, reg_cons, stepR, want_none, want_some, opRun, ev_t, ev_c, put_none, put_some, resAll, res_tmp, res_cell, oneOf, minI, maxI, min2A, max2A, mn2, mx2, mx3, rdBlk, wrBlk, newBlk, partA, abin, ibin, isShift, AV.cells, AV.one, lay, sub, fillA, eqA, eqP, eqL, eqIf, eqB, eqI, eqS, lenA, toN, allApart, apartFrom, Nat.testBit, Mem.blk_set_same, Mem.blk_set_ne, Mem.set_set, bit_zero, bit_self, lowBits_or, lowBits_zero, len_setT, sl_same, sl_ne, len_frame, sl_frame,↓op_len, lenOp_slc, lenOp_nils, ↓Post.some, ↓Post_bind, ↓Post_ret, ↓Post_draw, ↓PostL_nil, ↓PostL_cons, Post_fail, ofOpt_some, ofOpt_none, F4]
    refine (main _ (by simp [yC_skip, yC_exit, yC_ret, yC_seq, yC_cond, yC_blk, yC_reg, yC_draw, reg_nil, reg_cons, stepR, want_none, want_some, opRun, ev_t, ev_c, put_none, put_some, resAll, res_tmp, res_cell, oneOf, minI, maxI, min2A, max2A, mn2, mx2, mx3, rdBlk, wrBlk, newBlk, partA, abin, ibin, isShift, AV.cells, AV.one, lay, sub, fillA, eqA, eqP, eqL, eqIf, eqB, eqI, eqS, lenA, toN, allApart, apartFrom, Nat.testBit, Mem.blk_set_same, Mem.blk_set_ne, Mem.set_set, bit_zero, bit_self, lowBits_or, lowBits_zero, len_setT, sl_same, sl_ne, len_frame, sl_frame,↓op_len, lenOp_slc, lenOp_nils, ↓Post.some, ↓Post_bind, ↓Post_ret, ↓Post_draw, ↓PostL_nil, ↓PostL_cons, Post_fail, ofOpt_some, ofOpt_none]) (by simp [yC_skip, yC_exit, yC_ret, yC_seq, yC_cond, yC_blk, yC_reg, yC_draw, reg_nil, reg_cons, stepR, want_none, want_some, opRun, ev_t, ev_c, put_none, put_some, resAll, res_tmp, res_cell, oneOf, minI, maxI, min2A, max2A, mn2, mx2, mx3, rdBlk, wrBlk, newBlk, partA, abin, ibin, isShift, AV.cells, AV.one, lay, sub, fillA, eqA, eqP, eqL, eqIf, eqB, eqI, eqS, lenA, toN, allApart, apartFrom, Nat.testBit, Mem.blk_set_same, Mem.blk_set_ne, Mem.set_set, bit_zero, bit_self, lowBits_or, lowBits_zero, len_setT, sl_same, sl_ne, len_frame, sl_frame,↓op_len, lenOp_slc, lenOp_nils, ↓Post.some, ↓Post_bind, ↓Post_ret, ↓Post_draw, ↓PostL_nil, ↓PostL_cons, Post_fail, ofOpt_some, ofOpt_none]) (by simp [yC_skip, yC_exit, yC_ret, yC_seq, yC_cond, yC_blk, yC_reg, yC_draw, reg_nil, reg_cons, stepR, want_none, want_some, opRun, ev_t, ev_c, put_none, put_some, resAll, res_tmp, res_cell, oneOf, minI, maxI, min2A, max2A, mn2, mx2, mx3, rdBlk, wrBlk, newBlk, partA, abin, ibin, isShift, AV.cells, AV.one, lay, sub, fillA, eqA, eqP, eqL, eqIf, eqB, eqI, eqS, lenA, toN, allApart, apartFrom, Nat.testBit, Mem.blk_set_same, Mem.blk_set_ne, Mem.set_set, bit_zero, bit_self, lowBits_or, lowBits_zero, len_setT, sl_same, sl_ne, len_frame, sl_frame,↓op_len, lenOp_slc, lenOp_nils, ↓Post.some, ↓Post_bind, ↓Post_ret, ↓Post_draw, ↓PostL_nil, ↓PostL_cons, Post_fail, ofOpt_some, ofOpt_none]) (by simp [yC_skip, yC_exit, yC_ret, yC_seq, yC_cond, yC_blk, yC_reg, yC_draw, reg_nil, reg_cons, stepR, want_none, want_some, opRun, ev_t, ev_c, put_none, put_some, resAll, res_tmp, res_cell, oneOf, minI, maxI, min2A, max2A, mn2, mx2, mx3, rdBlk, wrBlk, newBlk, partA, abin, ibin, isShift, AV.cells, AV.one, lay, sub, fillA, eqA, eqP, eqL, eqIf, eqB, eqI, eqS, lenA, toN, allApart, apartFrom, Nat.testBit, Mem.blk_set_same, Mem.blk_set_ne, Mem.set_set, bit_zero, bit_self, lowBits_or, lowBits_zero, len_setT, sl_same, sl_ne, len_frame, sl_frame,↓op_len, lenOp_slc, lenOp_nils, ↓Post.some, ↓Post_bind, ↓Post_ret, ↓Post_draw, ↓PostL_nil, ↓PostL_cons, Post_fail, ofOpt_some, ofOpt_none]) (by simp [yC_skip, yC_exit, yC_ret, yC_seq, yC_cond, yC_blk, yC_reg, yC_draw, reg_nil, reg_cons, stepR, want_none, want_some, opRun, ev_t, ev_c, put_none, put_some, resAll, res_tmp, res_cell, oneOf, minI, maxI, min2A, max2A, mn2, mx2, mx3, rdBlk, wrBlk, newBlk, partA, abin, ibin, isShift, AV.cells, AV.one, lay, sub, fillA, eqA, eqP, eqL, eqIf, eqB, eqI, eqS, lenA, toN, allApart, apartFrom, Nat.testBit, Mem.blk_set_same, Mem.blk_set_ne, Mem.set_set, bit_zero, bit_self, lowBits_or, lowBits_zero, len_setT, sl_same, sl_ne, len_frame, sl_frame,↓op_len, lenOp_slc, lenOp_nils, ↓Post.some, ↓Post_bind, ↓Post_ret, ↓Post_draw, ↓PostL_nil, ↓PostL_cons, Post_fail, ofOpt_some, ofOpt_none]) (by simp [yC_skip, yC_exit, yC_ret, yC_seq, yC_cond, yC_blk, yC_reg, yC_draw, reg_nil, reg_cons, stepR, want_none, want_some, opRun, ev_t, ev_c, put_none, put_some, resAll, res_tmp, res_cell, oneOf, minI, maxI, min2A, max2A, mn2, mx2, mx3, rdBlk, wrBlk, newBlk, partA, abin, ibin, isShift, AV.cells, AV.one, lay, sub, fillA, eqA, eqP, eqL, eqIf, eqB, eqI, eqS, lenA, toN, allApart, apartFrom, Nat.testBit, Mem.blk_set_same, Mem.blk_set_ne, Mem.set_set, bit_zero, bit_self, lowBits_or, lowBits_zero, len_setT, sl_same, sl_ne, len_frame, sl_frame,↓op_len, lenOp_slc, lenOp_nils, ↓Post.some, ↓Post_bind, ↓Post_ret, ↓Post_draw, ↓PostL_nil, ↓PostL_cons, Post_fail, ofOpt_some, ofOpt_none]) _ (by simp)).mono ?_
    rintro ⟨e, ts'⟩ h' nx' tc wr ⟨he, hpn, hk, s, hg, hl, h5, h1, h0'⟩
    simp only at he hl h5 h1 h0'
    subst he
    obtain ⟨K1, tc1, wr1, e1⟩ := play_at k _ _ h' nx' (hr.keep hpn hk)
    obtain ⟨K2, tc2, wr2, e2⟩ := play_at (k % 32) _ s (h'.set nx' (some K1)) (nx' + 1) (hg.new (some K1)).irow
    simp [yC_skip, yC_exit, yC_ret, yC_seq, yC_cond, yC_blk, yC_reg, yC_draw, reg_nil, reg_cons, stepR, want_none, want_some, opRun, ev_t, ev_c, put_none, put_some, resAll, res_tmp, res_cell, oneOf, minI, maxI, min2A, max2A, mn2, mx2, mx3, rdBlk, wrBlk, newBlk, partA, abin, ibin, isShift, AV.cells, AV.one, lay, sub, fillA, eqA, eqP, eqL, eqIf, eqB, eqI, eqS, lenA, toN, allApart, apartFrom, Nat.testBit, Mem.blk_set_same, Mem.blk_set_ne, Mem.set_set, bit_zero, bit_self, lowBits_or, lowBits_zero, len_setT, sl_same, sl_ne, len_frame, sl_frame,↓op_len, lenOp_slc, lenOp_nils, ↓Post.some, ↓Post_bind, ↓Post_ret, ↓Post_draw, ↓PostL_nil, ↓PostL_cons, Post_fail, ofOpt_some, ofOpt_none, hl, h5, h1, h0', e1, e2, and31, known_eq]

end Go.Proofs.YtjpfmmgleeccoaaT
