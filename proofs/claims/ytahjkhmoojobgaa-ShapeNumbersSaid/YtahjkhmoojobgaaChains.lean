/- Shape: ShapeChains. -/
import Derived.Test.YtahjkhmoojobgaaGood
namespace Go.Proofs.YtahjkhmoojobgaaT
open Go Go.Proofs.YtahjkhmoojobgaaE Go.Proofs.YtahjkhmoojobgaaB
set_option linter.unusedSimpArgs false
set_option linter.unusedVariables false
attribute [local congr] Post_cg PostL_cg condP_cg

theorem ints_of {h : Mem} {nx : Nat} : ∀ {l : List (List AV)}, (∀ y ∈ l, KdsV h nx [.l (.i .i64)] y) → ∃ ws : List Int, l = i64s ws
  | [], _ => ⟨[], rfl⟩
  | y :: l, g => by
    obtain ⟨ws, h1⟩ := ints_of (l := l) fun z hz => g z (by simp [hz])
    have := g y (by simp)
    simp only [KdsV, KdV, LeafV] at this
    obtain ⟨_, _, rfl, ⟨w, rfl, _⟩, rfl⟩ := this
    exact ⟨w :: ws, by rw [h1]; rfl⟩
theorem tape_of {h : Mem} {nx : Nat} {v : AV} (g : KdV h nx (.sl [.l (.i .i64)]) v) : ∃ T0, RD 1 v h nx (i64s T0) ∧ T0.length ≤ big := by
  obtain ⟨L, r, hl, hk⟩ := g.rd
  obtain ⟨ws, rfl⟩ := ints_of hk
  exact ⟨ws, r, by rw [i64s_len] at hl; unfold maxLen at hl; unfold big; omega⟩
theorem tp_new {h : Mem} {nx : Nat} {v : AV} {T0 : List Int} (r : RD 1 v h nx (i64s T0)) (hl : T0.length ≤ big) : TP (h.set nx (some ⟨32, 2, true, false, [v, .int .i64 0]⟩)) (nx + 1) nx v T0 :=
  ⟨by omega, ⟨0, Nat.zero_le _, Mem.blk_set_same ..⟩, r.keeps (by omega) fun q hq => Mem.blk_set_ne _ _ _ _ (by omega), fun e => by have := r.lt e; omega, hl⟩
theorem KlsF.bb {L : List C} (k : KlsF L) : ∀ c ∈ L, c.B.length ≤ 6 := fun c hc => (k.b c hc).2
def JnI (cv r : AV) (i k : Int) (ln : Nat) (l : List Int) (h0 : Mem) (nx0 : Nat) (mm : Nat) (ts : List AV) (h : Mem) (nx tc wr : Nat) : Prop := ∃ j : Nat, mm = l.length - j ∧ j ≤ l.length ∧ ts.length = 114 ∧ sl ts 5 = cv ∧ sl ts 6 = .int .i64 i ∧ sl ts 7 = r ∧ sl ts 9 = .int .i64 k ∧ sl ts 72 = cv ∧ sl ts 73 = .int .i64 ln ∧ sl ts 74 = .int .i64 k ∧ sl ts 10 = .bool (decide (k ∈ l.take j)) ∧ sl ts 77 = r ∧ sl ts 78 = .int .i64 l.length ∧ sl ts 79 = .int .i64 j ∧ h = h0 ∧ nx = nx0
def JnR (cv r : AV) (i k : Int) (ln : Nat) (l : List Int) (h0 : Mem) (nx0 : Nat) (e : Ex) (ts : List AV) (h : Mem) (nx tc wr : Nat) : Prop := e = .exit 2 ∧ ts.length = 114 ∧ sl ts 5 = cv ∧ sl ts 6 = .int .i64 i ∧ sl ts 7 = r ∧ sl ts 9 = .int .i64 k ∧ sl ts 72 = cv ∧ sl ts 73 = .int .i64 ln ∧ sl ts 74 = .int .i64 k ∧ sl ts 10 = .bool (decide (k ∈ l)) ∧ h = h0 ∧ nx = nx0
set_option maxHeartbeats 4000000 in
theorem jn_round {cv r : AV} (i k : Int) (ln : Nat) {l : List Int} {h0 : Mem} {nx0 : Nat} (g : RD 1 r h0 nx0 (i64s l)) (hl : l.length ≤ 100) (lg : Nat) (mm : Nat) (ts : List AV) (h : Mem) (nx tc wr : Nat) (hi : JnI cv r i k ln l h0 nx0 mm ts h nx tc wr) :
    Post (xC T 60 L5_0b ts h nx lg) fun v' h' nx' tc' wr' => Round (JnI cv r i k ln l h0 nx0) (JnR cv r i k ln l h0 nx0) mm v' h' nx' (tc ||| tc') (wr ||| wr') := by
  obtain ⟨j, rfl, hj, hlen, g5, g6, g7, g9, g72, g73, g74, g10, g77, g78, g79, rfl, rfl⟩ := hi
  by_cases c : j < l.length
  · obtain ⟨b, o, el⟩ := g.el (i := j) (by rw [i64s_len]; exact c)
    rw [i64s_at] at el
    have e0 := fun lg => el.fst rfl lg
    have p0 := el.pl
    have ci : IntKind.i64.wrap ((j : Int) + 1) = ((j + 1 : Nat) : Int) := by rw [IntKind.wrap_i64]; omega
    have mem : decide (k ∈ l.take (j + 1)) = (decide (k ∈ l.take j) || (l[j] == k)) := by
      rw [List.take_succ_eq_append_getElem c]
      simp only [List.mem_append, List.mem_singleton, Bool.decide_or]
      congr 1
      rw [Bool.eq_iff_iff, decide_eq_true_eq, beq_iff_eq]
      exact eq_comm
    cases q : decide (k ∈ l.take j) <;> rw [q] at g10 mem
    all_goals
      simp (maxSteps := 4000000) (maxDischargeDepth := 6) [↓step_none, ↓step_t, ↓step_f, ↓step_nt, ↓step_nf, ↓op_load, ↓op_store, ↓op_slice, ↓op_app, ↓op_islc, ↓P_skip, ↓P_exit, ↓P_ret, ↓P_seq, ↓P_cond, ↓P_blk, ↓P_reg, ↓P_draw, ↓P_nil, ↓P_cons, condP_t, condP_f, dum_ab, stepR, want_none, want_some, opRun, ev_t, ev_c, put_none, put_some, resAll, res_tmp, res_cell, oneOf, minI, maxI, min2A, max2A, mn2, mx2, mx3, rdBlk, wrBlk, newBlk, partA, abin, ibin, isShift, AV.cells, AV.one, lay, sub, fillA, lenA, toN, allApart, apartFrom, Nat.testBit, Mem.blk_set_same, Mem.blk_set_ne, Mem.set_set, bit_zero, bit_self, lowBits_or, lowBits_zero, len_setT, sl_same, sl_ne, len_frame, sl_frame,↓op_len, lenOp_slc, lenOp_nils, ↓Post.some, ↓Post_bind, ↓Post_ret, ↓Post_draw, ↓PostL_nil, ↓PostL_cons, Post_fail, ofOpt_some, ofOpt_none, eA_b, eA_i, eA_s, eA_nn, eA_np, eA_pn, eA_lnn, eA_lnp, eA_lpn, eA_i2, eA_i3, blt_dec, Nat.add_assoc, keeps_refl, keeps_at, keeps_up, new_one, and_pow, bit_hi, lowBits_pow, ble_dec, fr_refl, fr_at, fr_up, fr_p, dum_ab, reps, L5_0b, hlen, g5, g6, g7, g9, g10, g77, g78, g79, c, e0, p0, ci]
      refine Round.nor (m' := l.length - (j + 1)) (by omega) ⟨j + 1, rfl, by omega, ?_, ?_, ?_, ?_, ?_, ?_, ?_, ?_, ?_, ?_, ?_, ?_, rfl, rfl⟩
      all_goals first | rw [mem] | skip
      all_goals simp [len_setT, sl_same, sl_ne, hlen, g5, g6, g7, g9, g72, g73, g74, g77, g78]
  · rw [List.take_of_length_le (by omega)] at g10
    simp (maxSteps := 4000000) (maxDischargeDepth := 6) [↓step_none, ↓step_t, ↓step_f, ↓step_nt, ↓step_nf, ↓op_load, ↓op_store, ↓op_slice, ↓op_app, ↓op_islc, ↓P_skip, ↓P_exit, ↓P_ret, ↓P_seq, ↓P_cond, ↓P_blk, ↓P_reg, ↓P_draw, ↓P_nil, ↓P_cons, condP_t, condP_f, dum_ab, stepR, want_none, want_some, opRun, ev_t, ev_c, put_none, put_some, resAll, res_tmp, res_cell, oneOf, minI, maxI, min2A, max2A, mn2, mx2, mx3, rdBlk, wrBlk, newBlk, partA, abin, ibin, isShift, AV.cells, AV.one, lay, sub, fillA, lenA, toN, allApart, apartFrom, Nat.testBit, Mem.blk_set_same, Mem.blk_set_ne, Mem.set_set, bit_zero, bit_self, lowBits_or, lowBits_zero, len_setT, sl_same, sl_ne, len_frame, sl_frame,↓op_len, lenOp_slc, lenOp_nils, ↓Post.some, ↓Post_bind, ↓Post_ret, ↓Post_draw, ↓PostL_nil, ↓PostL_cons, Post_fail, ofOpt_some, ofOpt_none, eA_b, eA_i, eA_s, eA_nn, eA_np, eA_pn, eA_lnn, eA_lnp, eA_lpn, eA_i2, eA_i3, blt_dec, Nat.add_assoc, keeps_refl, keeps_at, keeps_up, new_one, and_pow, bit_hi, lowBits_pow, ble_dec, fr_refl, fr_at, fr_up, fr_p, dum_ab, reps, L5_0b, hlen, g77, g78, g79, c]
    refine Round.exit (R := JnR cv r i k ln l h nx) ⟨rfl, ?_, ?_, ?_, ?_, ?_, ?_, ?_, ?_, ?_, rfl, rfl⟩ <;> simp [len_setT, sl_same, sl_ne, hlen, g5, g6, g7, g9, g10, g72, g73, g74]
def JkI (cv r : AV) (i : Nat) (L : List C) (l : List Int) (mm : Nat) (ts : List AV) (h : Mem) (nx tc wr : Nat) : Prop := ∃ k : Nat, mm = L.length - k ∧ k ≤ L.length ∧ ts.length = 114 ∧ sl ts 5 = cv ∧ sl ts 6 = .int .i64 i ∧ sl ts 7 = r ∧ sl ts 72 = cv ∧ sl ts 73 = .int .i64 L.length ∧ sl ts 74 = .int .i64 k ∧ CR cv h nx L ∧ RD 1 r h nx (i64s l)
def JkR (e : Ex) (ts : List AV) (h : Mem) (nx tc wr : Nat) : Prop := e = .exit 0 ∧ ts.length = 114
set_option maxHeartbeats 16000000 in
theorem jk_round {cv r : AV} {i : Nat} {L : List C} (kl : KlsF L) (hi : i < L.length) (mm : Nat) (ts : List AV) (h : Mem) (nx tc wr : Nat) (hI : JkI cv r i L (chain L i) mm ts h nx tc wr) :
    Post (xC T 400 L5_1b ts h nx 0) fun v' h' nx' tc' wr' => Round (JkI cv r i L (chain L i)) JkR mm v' h' nx' (tc ||| tc') (wr ||| wr') := by
  obtain ⟨k, rfl, hk, hlen, g5, g6, g7, g72, g73, g74, cr, rr⟩ := hI
  have h5 := kl.n5
  have cl : (chain L i).length ≤ 8 := chainN_len L 8 i
  by_cases c : k < L.length
  · have c' : (k : Int) < (L.length : Int) := by omega
    have ci : IntKind.i64.wrap ((k : Int) + 1) = ((k + 1 : Nat) : Int) := by rw [IntKind.wrap_i64]; omega
    have lr := rr.lenOp
    rw [i64s_len] at lr
    simp (maxSteps := 4000000) (maxDischargeDepth := 6) [↓step_none, ↓step_t, ↓step_f, ↓step_nt, ↓step_nf, ↓op_load, ↓op_store, ↓op_slice, ↓op_app, ↓op_islc, ↓P_skip, ↓P_exit, ↓P_ret, ↓P_seq, ↓P_cond, ↓P_blk, ↓P_reg, ↓P_draw, ↓P_nil, ↓P_cons, condP_t, condP_f, dum_ab, stepR, want_none, want_some, opRun, ev_t, ev_c, put_none, put_some, resAll, res_tmp, res_cell, oneOf, minI, maxI, min2A, max2A, mn2, mx2, mx3, rdBlk, wrBlk, newBlk, partA, abin, ibin, isShift, AV.cells, AV.one, lay, sub, fillA, lenA, toN, allApart, apartFrom, Nat.testBit, Mem.blk_set_same, Mem.blk_set_ne, Mem.set_set, bit_zero, bit_self, lowBits_or, lowBits_zero, len_setT, sl_same, sl_ne, len_frame, sl_frame,↓op_len, lenOp_slc, lenOp_nils, ↓Post.some, ↓Post_bind, ↓Post_ret, ↓Post_draw, ↓PostL_nil, ↓PostL_cons, Post_fail, ofOpt_some, ofOpt_none, eA_b, eA_i, eA_s, eA_nn, eA_np, eA_pn, eA_lnn, eA_lnp, eA_lpn, eA_i2, eA_i3, blt_dec, Nat.add_assoc, keeps_refl, keeps_at, keeps_up, new_one, and_pow, bit_hi, lowBits_pow, ble_dec, fr_refl, fr_at, fr_up, fr_p, dum_ab, reps, L5_1b, hlen, g5, g6, g7, g72, g73, g74, c, c', lr, L5_0]
    refine Post.loop (jn_round (cv := cv) i k L.length rr (by omega) 0) ((chain L i).length - 0) ⟨0, rfl, by omega, ?_, ?_, ?_, ?_, ?_, ?_, ?_, ?_, ?_, ?_, ?_, ?_, rfl, rfl⟩ ?_ ?_
    any_goals simp [len_setT, sl_same, sl_ne, hlen, g5, g6, g7, g72, g73, g74]
    · omega
    rintro e ts2 h2 nx2 tc2 wr2 ⟨rfl, hlen2, a5, a6, a7, a9, a72, a73, a74, a10, rfl, rfl⟩
    simp (maxSteps := 4000000) (maxDischargeDepth := 6) [↓step_none, ↓step_t, ↓step_f, ↓step_nt, ↓step_nf, ↓op_load, ↓op_store, ↓op_slice, ↓op_app, ↓op_islc, ↓P_skip, ↓P_exit, ↓P_ret, ↓P_seq, ↓P_cond, ↓P_blk, ↓P_reg, ↓P_draw, ↓P_nil, ↓P_cons, condP_t, condP_f, dum_ab, stepR, want_none, want_some, opRun, ev_t, ev_c, put_none, put_some, resAll, res_tmp, res_cell, oneOf, minI, maxI, min2A, max2A, mn2, mx2, mx3, rdBlk, wrBlk, newBlk, partA, abin, ibin, isShift, AV.cells, AV.one, lay, sub, fillA, lenA, toN, allApart, apartFrom, Nat.testBit, Mem.blk_set_same, Mem.blk_set_ne, Mem.set_set, bit_zero, bit_self, lowBits_or, lowBits_zero, len_setT, sl_same, sl_ne, len_frame, sl_frame,↓op_len, lenOp_slc, lenOp_nils, ↓Post.some, ↓Post_bind, ↓Post_ret, ↓Post_draw, ↓PostL_nil, ↓PostL_cons, Post_fail, ofOpt_some, ofOpt_none, eA_b, eA_i, eA_s, eA_nn, eA_np, eA_pn, eA_lnn, eA_lnp, eA_lpn, eA_i2, eA_i3, blt_dec, Nat.add_assoc, keeps_refl, keeps_at, keeps_up, new_one, and_pow, bit_hi, lowBits_pow, ble_dec, fr_refl, fr_at, fr_up, fr_p, dum_ab, reps, hlen2, a5, a6, a7, a9, a10]
    refine (is_nw cr i k).post (by omega) (by omega) ?_
    rintro r3 h3 nx3 tc3 wr3 rfl n3 k3 w3
    have cr3 := cr.keeps n3 k3
    have rr3 := rr.keeps n3 k3
    obtain ⟨b1, o1, el1⟩ := cr3.el c
    obtain ⟨b2, o2, el2⟩ := cr3.el hi
    have p1 := el1.pl
    have p2 := el2.pl
    have e1 := fun lg => el1.one 2 (v := .int .i64 L[k].fld) rfl lg
    have e2 := fun lg => el2.one 2 (v := .int .i64 L[i].fld) rfl lg
    cases q : decide ((k : Int) ∈ chain L i) with
    | false =>
      rw [q] at a10
      simp (maxSteps := 4000000) (maxDischargeDepth := 6) [↓step_none, ↓step_t, ↓step_f, ↓step_nt, ↓step_nf, ↓op_load, ↓op_store, ↓op_slice, ↓op_app, ↓op_islc, ↓P_skip, ↓P_exit, ↓P_ret, ↓P_seq, ↓P_cond, ↓P_blk, ↓P_reg, ↓P_draw, ↓P_nil, ↓P_cons, condP_t, condP_f, dum_ab, stepR, want_none, want_some, opRun, ev_t, ev_c, put_none, put_some, resAll, res_tmp, res_cell, oneOf, minI, maxI, min2A, max2A, mn2, mx2, mx3, rdBlk, wrBlk, newBlk, partA, abin, ibin, isShift, AV.cells, AV.one, lay, sub, fillA, lenA, toN, allApart, apartFrom, Nat.testBit, Mem.blk_set_same, Mem.blk_set_ne, Mem.set_set, bit_zero, bit_self, lowBits_or, lowBits_zero, len_setT, sl_same, sl_ne, len_frame, sl_frame,↓op_len, lenOp_slc, lenOp_nils, ↓Post.some, ↓Post_bind, ↓Post_ret, ↓Post_draw, ↓PostL_nil, ↓PostL_cons, Post_fail, ofOpt_some, ofOpt_none, eA_b, eA_i, eA_s, eA_nn, eA_np, eA_pn, eA_lnn, eA_lnp, eA_lpn, eA_i2, eA_i3, blt_dec, Nat.add_assoc, keeps_refl, keeps_at, keeps_up, new_one, and_pow, bit_hi, lowBits_pow, ble_dec, fr_refl, fr_at, fr_up, fr_p, dum_ab, reps, hlen2, a5, a6, a7, a9, a10, a74, ci]
      refine Round.nor (m' := L.length - (k + 1)) (by omega) ⟨k + 1, rfl, by omega, ?_, ?_, ?_, ?_, ?_, ?_, ?_, cr3, rr3⟩ <;> simp [len_setT, sl_same, sl_ne, hlen2, a5, a6, a7, a72, a73]
    | true =>
      rw [q] at a10
      have fl : L[k].fld ≤ L[i].fld := by
        obtain ⟨_, hx, hf⟩ := chain_fld kl 8 i (by omega) (by omega) k (of_decide_eq_true q)
        simpa using hf
      have fl' : ¬ L[i].fld < L[k].fld := by omega
      simp (maxSteps := 4000000) (maxDischargeDepth := 6) [↓step_none, ↓step_t, ↓step_f, ↓step_nt, ↓step_nf, ↓op_load, ↓op_store, ↓op_slice, ↓op_app, ↓op_islc, ↓P_skip, ↓P_exit, ↓P_ret, ↓P_seq, ↓P_cond, ↓P_blk, ↓P_reg, ↓P_draw, ↓P_nil, ↓P_cons, condP_t, condP_f, dum_ab, stepR, want_none, want_some, opRun, ev_t, ev_c, put_none, put_some, resAll, res_tmp, res_cell, oneOf, minI, maxI, min2A, max2A, mn2, mx2, mx3, rdBlk, wrBlk, newBlk, partA, abin, ibin, isShift, AV.cells, AV.one, lay, sub, fillA, lenA, toN, allApart, apartFrom, Nat.testBit, Mem.blk_set_same, Mem.blk_set_ne, Mem.set_set, bit_zero, bit_self, lowBits_or, lowBits_zero, len_setT, sl_same, sl_ne, len_frame, sl_frame,↓op_len, lenOp_slc, lenOp_nils, ↓Post.some, ↓Post_bind, ↓Post_ret, ↓Post_draw, ↓PostL_nil, ↓PostL_cons, Post_fail, ofOpt_some, ofOpt_none, eA_b, eA_i, eA_s, eA_nn, eA_np, eA_pn, eA_lnn, eA_lnp, eA_lpn, eA_i2, eA_i3, blt_dec, Nat.add_assoc, keeps_refl, keeps_at, keeps_up, new_one, and_pow, bit_hi, lowBits_pow, ble_dec, fr_refl, fr_at, fr_up, fr_p, dum_ab, reps, hlen2, a5, a6, a7, a9, a10, a74, ci, p1, p2, e1, e2, fl, fl']
      refine Round.nor (m' := L.length - (k + 1)) (by omega) ⟨k + 1, rfl, by omega, ?_, ?_, ?_, ?_, ?_, ?_, ?_, cr3, rr3⟩ <;> simp [len_setT, sl_same, sl_ne, hlen2, a5, a6, a7, a72, a73]
  · simp (maxSteps := 4000000) (maxDischargeDepth := 6) [↓step_none, ↓step_t, ↓step_f, ↓step_nt, ↓step_nf, ↓op_load, ↓op_store, ↓op_slice, ↓op_app, ↓op_islc, ↓P_skip, ↓P_exit, ↓P_ret, ↓P_seq, ↓P_cond, ↓P_blk, ↓P_reg, ↓P_draw, ↓P_nil, ↓P_cons, condP_t, condP_f, dum_ab, stepR, want_none, want_some, opRun, ev_t, ev_c, put_none, put_some, resAll, res_tmp, res_cell, oneOf, minI, maxI, min2A, max2A, mn2, mx2, mx3, rdBlk, wrBlk, newBlk, partA, abin, ibin, isShift, AV.cells, AV.one, lay, sub, fillA, lenA, toN, allApart, apartFrom, Nat.testBit, Mem.blk_set_same, Mem.blk_set_ne, Mem.set_set, bit_zero, bit_self, lowBits_or, lowBits_zero, len_setT, sl_same, sl_ne, len_frame, sl_frame,↓op_len, lenOp_slc, lenOp_nils, ↓Post.some, ↓Post_bind, ↓Post_ret, ↓Post_draw, ↓PostL_nil, ↓PostL_cons, Post_fail, ofOpt_some, ofOpt_none, eA_b, eA_i, eA_s, eA_nn, eA_np, eA_pn, eA_lnn, eA_lnp, eA_lpn, eA_i2, eA_i3, blt_dec, Nat.add_assoc, keeps_refl, keeps_at, keeps_up, new_one, and_pow, bit_hi, lowBits_pow, ble_dec, fr_refl, fr_at, fr_up, fr_p, dum_ab, reps, L5_1b, hlen, g5, g6, g7, g72, g73, g74, c]
    refine Round.exit (R := JkR) ⟨rfl, ?_⟩
    simp [len_setT, sl_same, sl_ne, hlen]
set_option maxHeartbeats 16000000 in
theorem chains_law (h : Mem) (nx : Nat) (avs : List AV) (g : KdsV h nx [.sl [.l (.i .i64)], .l (.i .i64)] avs) : Yes T 5 avs h nx := by
  simp only [KdsV, KdV, LeafV] at g
  obtain ⟨v, _, rfl, gv, _, _, rfl, ⟨at0, rfl, _⟩, rfl⟩ := g
  obtain ⟨T0, rv, hT⟩ := tape_of (v := v) (by simp only [KdV]; exact gv)
  have tp := tp_new rv hT
  refine Yes.of 8000 ?_
  have vc := rv.one.1
  rw [xF_fr T5]
  have fm := rv.form
  rcases fm with ⟨rfl, _⟩ | ⟨b, o, c, rfl⟩
  all_goals
    simp (maxSteps := 4000000) (maxDischargeDepth := 6) [↓step_none, ↓step_t, ↓step_f, ↓step_nt, ↓step_nf, ↓op_load, ↓op_store, ↓op_slice, ↓op_app, ↓op_islc, ↓P_skip, ↓P_exit, ↓P_ret, ↓P_seq, ↓P_cond, ↓P_blk, ↓P_reg, ↓P_draw, ↓P_nil, ↓P_cons, condP_t, condP_f, dum_ab, stepR, want_none, want_some, opRun, ev_t, ev_c, put_none, put_some, resAll, res_tmp, res_cell, oneOf, minI, maxI, min2A, max2A, mn2, mx2, mx3, rdBlk, wrBlk, newBlk, partA, abin, ibin, isShift, AV.cells, AV.one, lay, sub, fillA, lenA, toN, allApart, apartFrom, Nat.testBit, Mem.blk_set_same, Mem.blk_set_ne, Mem.set_set, bit_zero, bit_self, lowBits_or, lowBits_zero, len_setT, sl_same, sl_ne, len_frame, sl_frame,↓op_len, lenOp_slc, lenOp_nils, ↓Post.some, ↓Post_bind, ↓Post_ret, ↓Post_draw, ↓PostL_nil, ↓PostL_cons, Post_fail, ofOpt_some, ofOpt_none, eA_b, eA_i, eA_s, eA_nn, eA_np, eA_pn, eA_lnn, eA_lnp, eA_lpn, eA_i2, eA_i3, blt_dec, Nat.add_assoc, keeps_refl, keeps_at, keeps_up, new_one, and_pow, bit_hi, lowBits_pow, ble_dec, fr_refl, fr_at, fr_up, fr_p, dum_ab, reps, F5]
    refine (unit_tp tp).post nx (by omega) (by omega) (by omega) ?_
    rintro _ h1 nx1 tc1 wr1 ⟨nv, cv, mv, ov, L, M, rfl, t1, uq⟩ n1 k1 m1 _
    have kl := uq.kl
    have h3 := kl.n3
    have h5 := kl.n5
    have cr1 := uq.cr
    simp (maxSteps := 4000000) (maxDischargeDepth := 6) [↓step_none, ↓step_t, ↓step_f, ↓step_nt, ↓step_nf, ↓op_load, ↓op_store, ↓op_slice, ↓op_app, ↓op_islc, ↓P_skip, ↓P_exit, ↓P_ret, ↓P_seq, ↓P_cond, ↓P_blk, ↓P_reg, ↓P_draw, ↓P_nil, ↓P_cons, condP_t, condP_f, dum_ab, stepR, want_none, want_some, opRun, ev_t, ev_c, put_none, put_some, resAll, res_tmp, res_cell, oneOf, minI, maxI, min2A, max2A, mn2, mx2, mx3, rdBlk, wrBlk, newBlk, partA, abin, ibin, isShift, AV.cells, AV.one, lay, sub, fillA, lenA, toN, allApart, apartFrom, Nat.testBit, Mem.blk_set_same, Mem.blk_set_ne, Mem.set_set, bit_zero, bit_self, lowBits_or, lowBits_zero, len_setT, sl_same, sl_ne, len_frame, sl_frame,↓op_len, lenOp_slc, lenOp_nils, ↓Post.some, ↓Post_bind, ↓Post_ret, ↓Post_draw, ↓PostL_nil, ↓PostL_cons, Post_fail, ofOpt_some, ofOpt_none, eA_b, eA_i, eA_s, eA_nn, eA_np, eA_pn, eA_lnn, eA_lnp, eA_lpn, eA_i2, eA_i3, blt_dec, Nat.add_assoc, keeps_refl, keeps_at, keeps_up, new_one, and_pow, bit_hi, lowBits_pow, ble_dec, fr_refl, fr_at, fr_up, fr_p, dum_ab, reps, ]
    refine (right_nw 6 9 cr1 kl.bb).post (by omega) (by omega) ?_
    rintro r2 h2 nx2 tc2 wr2 rfl n2 k2 w2
    have cr2 := cr1.keeps n2 k2
    have lc := cr2.lenOp
    have wl : IntKind.i64.wrap ((L.length : Int) - 1) = (L.length : Int) - 1 := by rw [IntKind.wrap_i64]; omega
    rw [kl.right]
    obtain ⟨wi, wi1, wi2, _, wx⟩ := within_ex at0 0 ((L.length : Int) - 1) (by omega) (by omega) (by omega)
    obtain ⟨i, rfl⟩ : ∃ i : Nat, wi = i := ⟨wi.toNat, by omega⟩
    have hi : i < L.length := by omega
    simp (maxSteps := 4000000) (maxDischargeDepth := 6) [↓step_none, ↓step_t, ↓step_f, ↓step_nt, ↓step_nf, ↓op_load, ↓op_store, ↓op_slice, ↓op_app, ↓op_islc, ↓P_skip, ↓P_exit, ↓P_ret, ↓P_seq, ↓P_cond, ↓P_blk, ↓P_reg, ↓P_draw, ↓P_nil, ↓P_cons, condP_t, condP_f, dum_ab, stepR, want_none, want_some, opRun, ev_t, ev_c, put_none, put_some, resAll, res_tmp, res_cell, oneOf, minI, maxI, min2A, max2A, mn2, mx2, mx3, rdBlk, wrBlk, newBlk, partA, abin, ibin, isShift, AV.cells, AV.one, lay, sub, fillA, lenA, toN, allApart, apartFrom, Nat.testBit, Mem.blk_set_same, Mem.blk_set_ne, Mem.set_set, bit_zero, bit_self, lowBits_or, lowBits_zero, len_setT, sl_same, sl_ne, len_frame, sl_frame,↓op_len, lenOp_slc, lenOp_nils, ↓Post.some, ↓Post_bind, ↓Post_ret, ↓Post_draw, ↓PostL_nil, ↓PostL_cons, Post_fail, ofOpt_some, ofOpt_none, eA_b, eA_i, eA_s, eA_nn, eA_np, eA_pn, eA_lnn, eA_lnp, eA_lpn, eA_i2, eA_i3, blt_dec, Nat.add_assoc, keeps_refl, keeps_at, keeps_up, new_one, and_pow, bit_hi, lowBits_pow, ble_dec, fr_refl, fr_at, fr_up, fr_p, dum_ab, reps, lc, wl, wx]
    refine (chain_nw cr2 i).post (by omega) (by omega) ?_
    rintro c h3' nx3 tc3 wr3 ⟨rc, _⟩ n3 k3 w3
    have cr3 := cr2.keeps n3 k3
    have cs := chain_sup kl i hi
    have lrc := rc.lenOp
    rw [i64s_len] at lrc
    obtain ⟨q, hq⟩ : ∃ q, q = chain L L[i].sup := ⟨_, rfl⟩
    rw [← hq] at cs
    rw [cs] at lrc rc
    have ql : q.length ≤ 8 := by rw [hq]; exact chainN_len L 8 _
    have lz : (((i : Int) :: q).length : Int) = (q.length : Int) + 1 := by simp
    rw [lz] at lrc
    obtain ⟨b0, o0, el0⟩ := rc.el (i := 0) (by simp [i64s])
    have p0 := el0.pl
    have e0 := fun lg => el0.fst (v := .int .i64 i) rfl lg
    simp only [show ((0 : Nat) : Int) = 0 from rfl] at p0
    have nz : (((q.length : Int) + 1) == 0) = false := beq_eq_false_iff_ne.2 (by omega)
    simp (maxSteps := 4000000) (maxDischargeDepth := 6) [↓step_none, ↓step_t, ↓step_f, ↓step_nt, ↓step_nf, ↓op_load, ↓op_store, ↓op_slice, ↓op_app, ↓op_islc, ↓P_skip, ↓P_exit, ↓P_ret, ↓P_seq, ↓P_cond, ↓P_blk, ↓P_reg, ↓P_draw, ↓P_nil, ↓P_cons, condP_t, condP_f, dum_ab, stepR, want_none, want_some, opRun, ev_t, ev_c, put_none, put_some, resAll, res_tmp, res_cell, oneOf, minI, maxI, min2A, max2A, mn2, mx2, mx3, rdBlk, wrBlk, newBlk, partA, abin, ibin, isShift, AV.cells, AV.one, lay, sub, fillA, lenA, toN, allApart, apartFrom, Nat.testBit, Mem.blk_set_same, Mem.blk_set_ne, Mem.set_set, bit_zero, bit_self, lowBits_or, lowBits_zero, len_setT, sl_same, sl_ne, len_frame, sl_frame,↓op_len, lenOp_slc, lenOp_nils, ↓Post.some, ↓Post_bind, ↓Post_ret, ↓Post_draw, ↓PostL_nil, ↓PostL_cons, Post_fail, ofOpt_some, ofOpt_none, eA_b, eA_i, eA_s, eA_nn, eA_np, eA_pn, eA_lnn, eA_lnp, eA_lpn, eA_i2, eA_i3, blt_dec, Nat.add_assoc, keeps_refl, keeps_at, keeps_up, new_one, and_pow, bit_hi, lowBits_pow, ble_dec, fr_refl, fr_at, fr_up, fr_p, dum_ab, reps, lrc, p0, e0, nz]
    refine (depth_nw cr3 i).post (by omega) (by omega) ?_
    rintro r4 h4 nx4 tc4 wr4 rfl n4 k4 w4
    have cr4 := cr3.keeps n4 k4
    have rc4 := rc.keeps n4 k4
    rw [cs, lz]
    obtain ⟨b1, o1, el1⟩ := cr4.el hi
    have p1 := el1.pl
    have e1 := fun lg => el1.one 1 (v := .int .i64 L[i].sup) rfl lg
    have e2 := fun lg => el1.one 2 (v := .int .i64 L[i].fld) rfl lg
    have lc4 := cr4.lenOp
    by_cases c0 : 0 ≤ L[i].sup
    · have c0' : ¬ L[i].sup < 0 := by omega
      simp (maxSteps := 4000000) (maxDischargeDepth := 6) [↓step_none, ↓step_t, ↓step_f, ↓step_nt, ↓step_nf, ↓op_load, ↓op_store, ↓op_slice, ↓op_app, ↓op_islc, ↓P_skip, ↓P_exit, ↓P_ret, ↓P_seq, ↓P_cond, ↓P_blk, ↓P_reg, ↓P_draw, ↓P_nil, ↓P_cons, condP_t, condP_f, dum_ab, stepR, want_none, want_some, opRun, ev_t, ev_c, put_none, put_some, resAll, res_tmp, res_cell, oneOf, minI, maxI, min2A, max2A, mn2, mx2, mx3, rdBlk, wrBlk, newBlk, partA, abin, ibin, isShift, AV.cells, AV.one, lay, sub, fillA, lenA, toN, allApart, apartFrom, Nat.testBit, Mem.blk_set_same, Mem.blk_set_ne, Mem.set_set, bit_zero, bit_self, lowBits_or, lowBits_zero, len_setT, sl_same, sl_ne, len_frame, sl_frame,↓op_len, lenOp_slc, lenOp_nils, ↓Post.some, ↓Post_bind, ↓Post_ret, ↓Post_draw, ↓PostL_nil, ↓PostL_cons, Post_fail, ofOpt_some, ofOpt_none, eA_b, eA_i, eA_s, eA_nn, eA_np, eA_pn, eA_lnn, eA_lnp, eA_lpn, eA_i2, eA_i3, blt_dec, Nat.add_assoc, keeps_refl, keeps_at, keeps_up, new_one, and_pow, bit_hi, lowBits_pow, ble_dec, fr_refl, fr_at, fr_up, fr_p, dum_ab, reps, lrc, p1, e1, c0, c0']
      refine (chain_nw cr4 L[i].sup).post (by omega) (by omega) ?_
      rintro c5 h5' nx5 tc5 wr5 ⟨rc5, sf5⟩ n5 k5 w5
      have cr5 := cr4.keeps n5 k5
      have rcK := rc4.keeps n5 k5
      obtain ⟨y, ry, by', cut⟩ := rcK.cut (a := 1) (e := ((i : Int) :: q).length) (by simp) (by rw [i64s_len]; exact Nat.le_refl _) (some (.int .i64 (1 : Nat))) none (.inr rfl) (.inl ⟨rfl, by rw [i64s_len]⟩)
      have ey : ((i64s ((i : Int) :: q)).drop 1).take (((i : Int) :: q).length - 1) = i64s q := by
        unfold i64s
        rw [List.map_cons, List.drop_succ_cons, List.drop_zero, List.length_cons, Nat.add_sub_cancel, List.take_of_length_le (by rw [List.length_map]; exact Nat.le_refl _)]
      rw [ey] at ry
      obtain ⟨tcc, cut, hcc⟩ := cut nx5
      simp only [show ((1 : Nat) : Int) = 1 from rfl] at cut
      simp (maxSteps := 4000000) (maxDischargeDepth := 6) [↓step_none, ↓step_t, ↓step_f, ↓step_nt, ↓step_nf, ↓op_load, ↓op_store, ↓op_slice, ↓op_app, ↓op_islc, ↓P_skip, ↓P_exit, ↓P_ret, ↓P_seq, ↓P_cond, ↓P_blk, ↓P_reg, ↓P_draw, ↓P_nil, ↓P_cons, condP_t, condP_f, dum_ab, stepR, want_none, want_some, opRun, ev_t, ev_c, put_none, put_some, resAll, res_tmp, res_cell, oneOf, minI, maxI, min2A, max2A, mn2, mx2, mx3, rdBlk, wrBlk, newBlk, partA, abin, ibin, isShift, AV.cells, AV.one, lay, sub, fillA, lenA, toN, allApart, apartFrom, Nat.testBit, Mem.blk_set_same, Mem.blk_set_ne, Mem.set_set, bit_zero, bit_self, lowBits_or, lowBits_zero, len_setT, sl_same, sl_ne, len_frame, sl_frame,↓op_len, lenOp_slc, lenOp_nils, ↓Post.some, ↓Post_bind, ↓Post_ret, ↓Post_draw, ↓PostL_nil, ↓PostL_cons, Post_fail, ofOpt_some, ofOpt_none, eA_b, eA_i, eA_s, eA_nn, eA_np, eA_pn, eA_lnn, eA_lnp, eA_lpn, eA_i2, eA_i3, blt_dec, Nat.add_assoc, keeps_refl, keeps_at, keeps_up, new_one, and_pow, bit_hi, lowBits_pow, ble_dec, fr_refl, fr_at, fr_up, fr_p, dum_ab, reps, lrc, cut]
      rw [← hq] at rc5
      refine (same_rd rc5 ry (by unfold big; omega)).post (by omega) (by omega) fun tc6 => ?_
      simp (maxSteps := 4000000) (maxDischargeDepth := 6) [↓step_none, ↓step_t, ↓step_f, ↓step_nt, ↓step_nf, ↓op_load, ↓op_store, ↓op_slice, ↓op_app, ↓op_islc, ↓P_skip, ↓P_exit, ↓P_ret, ↓P_seq, ↓P_cond, ↓P_blk, ↓P_reg, ↓P_draw, ↓P_nil, ↓P_cons, condP_t, condP_f, dum_ab, stepR, want_none, want_some, opRun, ev_t, ev_c, put_none, put_some, resAll, res_tmp, res_cell, oneOf, minI, maxI, min2A, max2A, mn2, mx2, mx3, rdBlk, wrBlk, newBlk, partA, abin, ibin, isShift, AV.cells, AV.one, lay, sub, fillA, lenA, toN, allApart, apartFrom, Nat.testBit, Mem.blk_set_same, Mem.blk_set_ne, Mem.set_set, bit_zero, bit_self, lowBits_or, lowBits_zero, len_setT, sl_same, sl_ne, len_frame, sl_frame,↓op_len, lenOp_slc, lenOp_nils, ↓Post.some, ↓Post_bind, ↓Post_ret, ↓Post_draw, ↓PostL_nil, ↓PostL_cons, Post_fail, ofOpt_some, ofOpt_none, eA_b, eA_i, eA_s, eA_nn, eA_np, eA_pn, eA_lnn, eA_lnp, eA_lpn, eA_i2, eA_i3, blt_dec, Nat.add_assoc, keeps_refl, keeps_at, keeps_up, new_one, and_pow, bit_hi, lowBits_pow, ble_dec, fr_refl, fr_at, fr_up, fr_p, dum_ab, reps, lrc, c0, c0', lc4, L5_1]
      refine ⟨and_zero fun x => ?_, ?_⟩
      · by_cases hx : bid c = some x
        · have := rc4.lt hx
          exact .inl (ap1 (w5 x this) (new_lo this))
        · exact .inr (hcc x hx)
      refine Post.loop (jk_round (cv := cv) (r := c) kl hi) (L.length - 0) ⟨0, rfl, by omega, ?_, ?_, ?_, ?_, ?_, ?_, ?_, cr5, by rw [cs]; exact rcK⟩ ?_ ?_
      any_goals simp (maxDischargeDepth := 6) [len_setT, sl_same, sl_ne, sl_frame, len_frame]
      · omega
      rintro e ts9 h9 nx9 tc9 wr9 ⟨rfl, hlen9⟩
      simp (maxSteps := 4000000) (maxDischargeDepth := 6) [↓step_none, ↓step_t, ↓step_f, ↓step_nt, ↓step_nf, ↓op_load, ↓op_store, ↓op_slice, ↓op_app, ↓op_islc, ↓P_skip, ↓P_exit, ↓P_ret, ↓P_seq, ↓P_cond, ↓P_blk, ↓P_reg, ↓P_draw, ↓P_nil, ↓P_cons, condP_t, condP_f, dum_ab, stepR, want_none, want_some, opRun, ev_t, ev_c, put_none, put_some, resAll, res_tmp, res_cell, oneOf, minI, maxI, min2A, max2A, mn2, mx2, mx3, rdBlk, wrBlk, newBlk, partA, abin, ibin, isShift, AV.cells, AV.one, lay, sub, fillA, lenA, toN, allApart, apartFrom, Nat.testBit, Mem.blk_set_same, Mem.blk_set_ne, Mem.set_set, bit_zero, bit_self, lowBits_or, lowBits_zero, len_setT, sl_same, sl_ne, len_frame, sl_frame,↓op_len, lenOp_slc, lenOp_nils, ↓Post.some, ↓Post_bind, ↓Post_ret, ↓Post_draw, ↓PostL_nil, ↓PostL_cons, Post_fail, ofOpt_some, ofOpt_none, eA_b, eA_i, eA_s, eA_nn, eA_np, eA_pn, eA_lnn, eA_lnp, eA_lpn, eA_i2, eA_i3, blt_dec, Nat.add_assoc, keeps_refl, keeps_at, keeps_up, new_one, and_pow, bit_hi, lowBits_pow, ble_dec, fr_refl, fr_at, fr_up, fr_p, dum_ab, reps, hlen9]
      refine (known_nw h9 nx9).post (by omega) (by omega) ?_
      rintro rX hX nxX tcX wrX rfl nX kX wX
      simp (maxSteps := 4000000) (maxDischargeDepth := 6) [↓step_none, ↓step_t, ↓step_f, ↓step_nt, ↓step_nf, ↓op_load, ↓op_store, ↓op_slice, ↓op_app, ↓op_islc, ↓P_skip, ↓P_exit, ↓P_ret, ↓P_seq, ↓P_cond, ↓P_blk, ↓P_reg, ↓P_draw, ↓P_nil, ↓P_cons, condP_t, condP_f, dum_ab, stepR, want_none, want_some, opRun, ev_t, ev_c, put_none, put_some, resAll, res_tmp, res_cell, oneOf, minI, maxI, min2A, max2A, mn2, mx2, mx3, rdBlk, wrBlk, newBlk, partA, abin, ibin, isShift, AV.cells, AV.one, lay, sub, fillA, lenA, toN, allApart, apartFrom, Nat.testBit, Mem.blk_set_same, Mem.blk_set_ne, Mem.set_set, bit_zero, bit_self, lowBits_or, lowBits_zero, len_setT, sl_same, sl_ne, len_frame, sl_frame,↓op_len, lenOp_slc, lenOp_nils, ↓Post.some, ↓Post_bind, ↓Post_ret, ↓Post_draw, ↓PostL_nil, ↓PostL_cons, Post_fail, ofOpt_some, ofOpt_none, eA_b, eA_i, eA_s, eA_nn, eA_np, eA_pn, eA_lnn, eA_lnp, eA_lpn, eA_i2, eA_i3, blt_dec, Nat.add_assoc, keeps_refl, keeps_at, keeps_up, new_one, and_pow, bit_hi, lowBits_pow, ble_dec, fr_refl, fr_at, fr_up, fr_p, dum_ab, reps, hlen9]
    · have c0' : L[i].sup < 0 := by omega
      have q0 : q = [] := by
        rw [hq]; unfold chain chainN
        rw [dif_neg (by omega)]
      have qz : (q.length : Int) = 0 := by rw [q0]; rfl
      have n1 : (((q.length : Int) + 1) != 1) = false := by rw [qz]; rfl
      simp (maxSteps := 4000000) (maxDischargeDepth := 6) [↓step_none, ↓step_t, ↓step_f, ↓step_nt, ↓step_nf, ↓op_load, ↓op_store, ↓op_slice, ↓op_app, ↓op_islc, ↓P_skip, ↓P_exit, ↓P_ret, ↓P_seq, ↓P_cond, ↓P_blk, ↓P_reg, ↓P_draw, ↓P_nil, ↓P_cons, condP_t, condP_f, dum_ab, stepR, want_none, want_some, opRun, ev_t, ev_c, put_none, put_some, resAll, res_tmp, res_cell, oneOf, minI, maxI, min2A, max2A, mn2, mx2, mx3, rdBlk, wrBlk, newBlk, partA, abin, ibin, isShift, AV.cells, AV.one, lay, sub, fillA, lenA, toN, allApart, apartFrom, Nat.testBit, Mem.blk_set_same, Mem.blk_set_ne, Mem.set_set, bit_zero, bit_self, lowBits_or, lowBits_zero, len_setT, sl_same, sl_ne, len_frame, sl_frame,↓op_len, lenOp_slc, lenOp_nils, ↓Post.some, ↓Post_bind, ↓Post_ret, ↓Post_draw, ↓PostL_nil, ↓PostL_cons, Post_fail, ofOpt_some, ofOpt_none, eA_b, eA_i, eA_s, eA_nn, eA_np, eA_pn, eA_lnn, eA_lnp, eA_lpn, eA_i2, eA_i3, blt_dec, Nat.add_assoc, keeps_refl, keeps_at, keeps_up, new_one, and_pow, bit_hi, lowBits_pow, ble_dec, fr_refl, fr_at, fr_up, fr_p, dum_ab, reps, lrc, p1, e1, c0, c0', lc4, n1, L5_1]
      refine Post.loop (jk_round (cv := cv) (r := c) kl hi) (L.length - 0) ⟨0, rfl, by omega, ?_, ?_, ?_, ?_, ?_, ?_, ?_, cr4, by rw [cs]; exact rc4⟩ ?_ ?_
      any_goals simp (maxDischargeDepth := 6) [len_setT, sl_same, sl_ne, sl_frame, len_frame]
      · omega
      rintro e ts9 h9 nx9 tc9 wr9 ⟨rfl, hlen9⟩
      simp (maxSteps := 4000000) (maxDischargeDepth := 6) [↓step_none, ↓step_t, ↓step_f, ↓step_nt, ↓step_nf, ↓op_load, ↓op_store, ↓op_slice, ↓op_app, ↓op_islc, ↓P_skip, ↓P_exit, ↓P_ret, ↓P_seq, ↓P_cond, ↓P_blk, ↓P_reg, ↓P_draw, ↓P_nil, ↓P_cons, condP_t, condP_f, dum_ab, stepR, want_none, want_some, opRun, ev_t, ev_c, put_none, put_some, resAll, res_tmp, res_cell, oneOf, minI, maxI, min2A, max2A, mn2, mx2, mx3, rdBlk, wrBlk, newBlk, partA, abin, ibin, isShift, AV.cells, AV.one, lay, sub, fillA, lenA, toN, allApart, apartFrom, Nat.testBit, Mem.blk_set_same, Mem.blk_set_ne, Mem.set_set, bit_zero, bit_self, lowBits_or, lowBits_zero, len_setT, sl_same, sl_ne, len_frame, sl_frame,↓op_len, lenOp_slc, lenOp_nils, ↓Post.some, ↓Post_bind, ↓Post_ret, ↓Post_draw, ↓PostL_nil, ↓PostL_cons, Post_fail, ofOpt_some, ofOpt_none, eA_b, eA_i, eA_s, eA_nn, eA_np, eA_pn, eA_lnn, eA_lnp, eA_lpn, eA_i2, eA_i3, blt_dec, Nat.add_assoc, keeps_refl, keeps_at, keeps_up, new_one, and_pow, bit_hi, lowBits_pow, ble_dec, fr_refl, fr_at, fr_up, fr_p, dum_ab, reps, hlen9]
      refine (known_nw h9 nx9).post (by omega) (by omega) ?_
      rintro rX hX nxX tcX wrX rfl nX kX wX
      simp (maxSteps := 4000000) (maxDischargeDepth := 6) [↓step_none, ↓step_t, ↓step_f, ↓step_nt, ↓step_nf, ↓op_load, ↓op_store, ↓op_slice, ↓op_app, ↓op_islc, ↓P_skip, ↓P_exit, ↓P_ret, ↓P_seq, ↓P_cond, ↓P_blk, ↓P_reg, ↓P_draw, ↓P_nil, ↓P_cons, condP_t, condP_f, dum_ab, stepR, want_none, want_some, opRun, ev_t, ev_c, put_none, put_some, resAll, res_tmp, res_cell, oneOf, minI, maxI, min2A, max2A, mn2, mx2, mx3, rdBlk, wrBlk, newBlk, partA, abin, ibin, isShift, AV.cells, AV.one, lay, sub, fillA, lenA, toN, allApart, apartFrom, Nat.testBit, Mem.blk_set_same, Mem.blk_set_ne, Mem.set_set, bit_zero, bit_self, lowBits_or, lowBits_zero, len_setT, sl_same, sl_ne, len_frame, sl_frame,↓op_len, lenOp_slc, lenOp_nils, ↓Post.some, ↓Post_bind, ↓Post_ret, ↓Post_draw, ↓PostL_nil, ↓PostL_cons, Post_fail, ofOpt_some, ofOpt_none, eA_b, eA_i, eA_s, eA_nn, eA_np, eA_pn, eA_lnn, eA_lnp, eA_lpn, eA_i2, eA_i3, blt_dec, Nat.add_assoc, keeps_refl, keeps_at, keeps_up, new_one, and_pow, bit_hi, lowBits_pow, ble_dec, fr_refl, fr_at, fr_up, fr_p, dum_ab, reps, hlen9]
end Go.Proofs.YtahjkhmoojobgaaT
