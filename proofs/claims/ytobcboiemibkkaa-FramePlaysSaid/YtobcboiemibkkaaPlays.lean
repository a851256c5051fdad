/- Frame: FramePlays. -/
import Derived.Test.YtobcboiemibkkaaPlay
import Derived.Test.YtobcboiemibkkaaE31
namespace Go.Proofs.YtobcboiemibkkaaT
open Go Go.Proofs.YtobcboiemibkkaaE Go.Proofs.YtobcboiemibkkaaB
set_option linter.unusedSimpArgs false
set_option linter.unusedVariables false
attribute [local congr] Post_cg PostL_cg condP_cg

/-- A row grows by one element that was just laid. -/
theorem grow_one {u : AV} {h : Mem} {nx base : Nat} {L : List (List AV)} (g : SGRow 5 u h base nx L) (hb : base ≤ nx) (hf : fits (L.length + 1) 56 = true) (y : List AV) (hy : y.length = 5) (ho : y.all AV.one = true) : ∃ u' h', appOp 26 5 56 u (.slc nx 0 1 (some 1)) (h.set nx (some ⟨26, 5, true, false, y⟩)) (nx + 1) 0 = some ⟨u', h', nx + 2, 0, 0⟩ ∧ SGRow 5 u' h' base (nx + 2) (L ++ [y]) ∧ ∀ b, b < base → h'.blk b = h.blk b := by
  have g1 : SGRow 5 u (h.set nx (some ⟨26, 5, true, false, y⟩)) base (nx + 1) L := g.new _
  obtain ⟨s', h', nx', tc, wr, e, rfl, g2, k2, rfl, rfl⟩ := (app_el (lg := 0) (by decide) 26 56 y g1 (Nat.zero_le _) (by omega) hf ho hy).inv
  refine ⟨s', h', ?_, g2, fun b hb => by rw [k2 b hb (by omega), Mem.blk_set_ne _ _ _ _ (by omega)]⟩
  have hr : rdEls 5 1 (.slc nx 0 1 (some 1)) (h.set nx (some ⟨26, 5, true, false, y⟩)) (nx + 1) 0 = some ⟨y, h.set nx (some ⟨26, 5, true, false, y⟩), nx + 1, 0, 0⟩ := by
    have e1 : sub y 0 (1 * 5) = some y := by
      unfold sub
      rw [hy, Nat.ble_eq_true_of_le (by omega)]
      simp only [List.drop_zero, ite_true]
      rw [List.take_of_length_le (by omega)]
    have e2 : Nat.ble 1 1 = true := rfl
    simp only [rdEls, e2, A.bind, rdBlk, blt_of (show nx < nx + 1 by omega), Mem.blk_set_same, e1, A.ofOpt, A.ret, bit_zero, Nat.or_zero]
  have := appOp_of (ty := 26) (bytes := 56) (s := u) (x := .slc nx 0 1 (some 1)) rfl hr e
  simpa using this
def SmeI (va : AV) (n : Nat) (h0 : Mem) (base : Nat) (m : Nat) (ts : List AV) (h : Mem) (nx tc wr : Nat) : Prop := ∃ (i : Nat) (u : AV) (L : List (List AV)), m = n - i ∧ i ≤ n ∧ L.length = i ∧ ts.length = 41 ∧ sl ts 0 = va ∧ sl ts 3 = u ∧ sl ts 7 = .int .i64 n ∧ sl ts 8 = .int .i64 i ∧ base ≤ nx ∧ SGRow 5 u h base nx L ∧ (∀ y ∈ L, Askv h0 base y) ∧ ∀ b, b < base → h.blk b = h0.blk b
def SmeR (va : AV) (h0 : Mem) (base : Nat) (e : Ex) (ts : List AV) (h : Mem) (nx tc wr : Nat) : Prop := e = .exit 0 ∧ ∃ (u : AV) (L : List (List AV)), ts.length = 41 ∧ sl ts 0 = va ∧ sl ts 3 = u ∧ base ≤ nx ∧ SGRow 5 u h base nx L ∧ (∀ y ∈ L, Askv h0 base y) ∧ ∀ b, b < base → h.blk b = h0.blk b
set_option maxHeartbeats 16000000 in
theorem sme_round (va : AV) (la : List (List AV)) (h0 : Mem) (base : Nat) (hy : la.length * 56 ≤ 140737488351232) (hr : SRow 5 va h0 base la) (hl : ∀ y ∈ la, Askv h0 base y) (m : Nat) (ts : List AV) (h : Mem) (nx tc wr : Nat) (hi : SmeI va la.length h0 base m ts h nx tc wr) :
    Post (xC T 200 L4_0b ts h nx 0) fun v' h' nx' tc' wr' => Round (SmeI va la.length h0 base) (SmeR va h0 base) m v' h' nx' (tc ||| tc') (wr ||| wr') := by
  obtain ⟨i, u, L, rfl, hi, hL, hlen, g0, g3, g7, g8, hbn, gr, gl, kk⟩ := hi
  by_cases c1 : i < la.length
  · have c1' : (i : Int) < (la.length : Int) := by omega
    have ci : IntKind.i64.wrap ((i : Int) + 1) = ((i + 1 : Nat) : Int) := by rw [IntKind.wrap_i64]; omega
    obtain ⟨bb, cc, K, rfl, hb, hK, hs, _⟩ := hr.at c1
    obtain ⟨q1, q2, q3, q4, q5, hx, one5, cel5, rest⟩ := hl _ (List.getElem_mem c1)
    rw [hx] at hs
    have kb : h.blk bb = some K := (kk bb hb).trans hK
    have l5 := fun lg => ld_sub kb (show bb < nx by omega) hs lg
    have one : ∀ r1 r2 r3 : Int, (ask r1 r2 r3 q4 q5).all AV.one = true := fun r1 r2 r3 => by
      simp only [ask, List.all_cons, List.all_nil, one5, Bool.and_true]; rfl
    obtain ⟨J, hJ⟩ : ∃ J : Int → Int → Int → Mem, J = fun r1 r2 r3 => h.set nx (some ⟨26, 5, true, false, ask r1 r2 r3 q4 q5⟩) := ⟨_, rfl⟩
    have bJ : ∀ r1 r2 r3, (J r1 r2 r3).blk nx = some ⟨26, 5, true, false, ask r1 r2 r3 q4 q5⟩ := fun r1 r2 r3 => by rw [hJ, Mem.blk_set_same]
    have kJ : ∀ r1 r2 r3 q, q < nx → (J r1 r2 r3).blk q = h.blk q := fun r1 r2 r3 q hq => by rw [hJ, Mem.blk_set_ne _ _ _ _ (by omega)]
    have sA : ∀ lg, stA 5 (.ptr nx 0) (.agg (ask q1 q2 q3 q4 q5)) (h.set nx (some ⟨26, 5, true, false, az⟩)) (nx + 1) lg = some ⟨.tup [], J q1 q2 q3, nx + 1, bit lg nx, bit lg nx⟩ := fun lg => by
      have := st_at (n := 5) (h := h.set nx (some ⟨26, 5, true, false, az⟩)) (Mem.blk_set_same ..) (show nx < nx + 1 by omega) (o := 0) (.agg (ask q1 q2 q3 q4 q5)) rfl (one ..) (by show 5 ≤ 5; omega) lg
      have eA : lay az 0 (AV.agg (ask q1 q2 q3 q4 q5)).cells = ask q1 q2 q3 q4 q5 := rfl
      rw [eA, Mem.set_set] at this
      rw [hJ]
      exact this
    have ld : ∀ r1 r2 r3 o v, (ask r1 r2 r3 q4 q5)[o]? = some v → ∀ lg, ldA none (.ptr nx o) (J r1 r2 r3) (nx + 1) lg = some ⟨v, J r1 r2 r3, nx + 1, bit lg nx, 0⟩ := fun r1 r2 r3 o v hv lg => ld_at (bJ ..) (by omega) hv lg
    have a0 := ld q1 q2 q3 0 _ rfl
    have a1 := ld q1 q2 q3 1 _ rfl
    have a2 := ld q1 q2 q3 2 _ rfl
    obtain ⟨r1, _, _, w1⟩ := within_ex q1 0 7 (by omega) (by omega) (by omega)
    obtain ⟨r2, _, _, w2⟩ := within_ex q2 0 12 (by omega) (by omega) (by omega)
    obtain ⟨r3, _, _, w3⟩ := within_ex q3 (-1) 9 (by omega) (by omega) (by omega)
    have st : ∀ (p1 p2 p3 p1' p2' p3' v : Int) (o : Nat), lay (ask p1 p2 p3 q4 q5) o [.int .i64 v] = ask p1' p2' p3' q4 q5 → o < 5 → ∀ lg, stA 1 (.ptr nx o) (.int .i64 v) (J p1 p2 p3) (nx + 1) lg = some ⟨.tup [], J p1' p2' p3', nx + 1, bit lg nx, bit lg nx⟩ := fun p1 p2 p3 p1' p2' p3' v o e ho lg => by
      have := st_at (n := 1) (bJ p1 p2 p3) (show nx < nx + 1 by omega) (o := o) (.int .i64 v) rfl rfl (by show o + 1 ≤ 5; omega) lg
      rw [show (AV.int .i64 v).cells = [.int .i64 v] from rfl, e] at this
      rw [this, hJ]
      simp only [Mem.set_set]
    have s0 := st q1 q2 q3 r1 q2 q3 r1 0 rfl (by omega)
    have s1 := st r1 q2 q3 r1 r2 q3 r2 1 rfl (by omega)
    have s2 := st r1 r2 q3 r1 r2 r3 r3 2 rfl (by omega)
    have l6 : ∀ lg, ldA (some 5) (.ptr nx 0) (J r1 r2 r3) (nx + 1) lg = some ⟨.agg (ask r1 r2 r3 q4 q5), J r1 r2 r3, nx + 1, bit lg nx, 0⟩ := fun lg => ld_sub (bJ ..) (by omega) (o := 0) (n := 5) rfl lg
    have gr1 : SGRow 5 u (J r1 r2 r3) base (nx + 1) L := gr.keep (by omega) fun b _ hb => kJ _ _ _ b hb
    obtain ⟨u', h', x7, g7', k7⟩ := grow_one gr1 (by omega) (by
      unfold fits
      rw [Nat.ble_eq_true_of_le (by omega), Nat.ble_eq_true_of_le (by omega)]; rfl) (ask r1 r2 r3 q4 q5) rfl (one ..)
    have kk' : ∀ b, b < base → h'.blk b = h0.blk b := fun b hb => by rw [k7 b hb, kJ _ _ _ b (by omega), kk b hb]
    have gl' : ∀ y ∈ L ++ [ask r1 r2 r3 q4 q5], Askv h0 base y := fun y hy => by
      rcases List.mem_append.1 hy with hy | hy
      · exact gl y hy
      · rw [List.mem_singleton.1 hy]
        exact ⟨r1, r2, r3, q4, q5, rfl, one5, cel5, rest⟩
    simp only [ask, az] at l5 sA l6 x7
    simp (maxSteps := 4000000) [↓step_none, ↓step_t, ↓step_f, ↓step_nt, ↓step_nf, ↓op_load, ↓op_store, ↓op_slice, ↓op_app, ↓P_skip, ↓P_exit, ↓P_ret, ↓P_seq, ↓P_cond, ↓P_blk, ↓P_reg, ↓P_draw, ↓P_nil, ↓P_cons, condP_t, condP_f, dum_ab, stepR, want_none, want_some, opRun, ev_t, ev_c, put_none, put_some, resAll, res_tmp, res_cell, oneOf, minI, maxI, min2A, max2A, mn2, mx2, mx3, rdBlk, wrBlk, newBlk, partA, abin, ibin, isShift, AV.cells, AV.one, lay, sub, fillA, lenA, toN, allApart, apartFrom, Nat.testBit, Mem.blk_set_same, Mem.blk_set_ne, Mem.set_set, bit_zero, bit_self, lowBits_or, lowBits_zero, len_setT, sl_same, sl_ne, len_frame, sl_frame,↓op_len, lenOp_slc, lenOp_nils, ↓Post.some, ↓Post_bind, ↓Post_ret, ↓Post_draw, ↓PostL_nil, ↓PostL_cons, Post_fail, ofOpt_some, ofOpt_none, eA_b, eA_i, eA_s, eA_nn, eA_np, eA_pn, eA_lnn, eA_lnp, eA_lpn, eA_i2, eA_i3, blt_dec, Nat.add_assoc, keeps_refl, keeps_at, keeps_up, new_one, and_pow, bit_hi, lowBits_pow, ble_dec, fr_refl, fr_at, fr_up, fr_p, dum_ab, L4_0b, reps, hlen, g0, g3, g7, g8, c1, c1', l5, sA, a0, w1, a1, w2, a2, w3, s0, s1, s2, l6, cel5, x7, ci]
    exact Round.nor (m' := la.length - (i + 1)) (by omega) ⟨i + 1, u', _, rfl, by omega, by rw [List.length_append, hL]; rfl, by simp [len_setT, sl_same, sl_ne, hlen], by simp [len_setT, sl_same, sl_ne, hlen, g0], by simp [len_setT, sl_same, sl_ne, hlen], by simp [len_setT, sl_same, sl_ne, hlen, g7], by simp [len_setT, sl_same, sl_ne, hlen], by omega, g7', gl', kk'⟩
  · have c1' : ¬ (i : Int) < (la.length : Int) := by omega
    simp (maxSteps := 4000000) [↓step_none, ↓step_t, ↓step_f, ↓step_nt, ↓step_nf, ↓op_load, ↓op_store, ↓op_slice, ↓op_app, ↓P_skip, ↓P_exit, ↓P_ret, ↓P_seq, ↓P_cond, ↓P_blk, ↓P_reg, ↓P_draw, ↓P_nil, ↓P_cons, condP_t, condP_f, dum_ab, stepR, want_none, want_some, opRun, ev_t, ev_c, put_none, put_some, resAll, res_tmp, res_cell, oneOf, minI, maxI, min2A, max2A, mn2, mx2, mx3, rdBlk, wrBlk, newBlk, partA, abin, ibin, isShift, AV.cells, AV.one, lay, sub, fillA, lenA, toN, allApart, apartFrom, Nat.testBit, Mem.blk_set_same, Mem.blk_set_ne, Mem.set_set, bit_zero, bit_self, lowBits_or, lowBits_zero, len_setT, sl_same, sl_ne, len_frame, sl_frame,↓op_len, lenOp_slc, lenOp_nils, ↓Post.some, ↓Post_bind, ↓Post_ret, ↓Post_draw, ↓PostL_nil, ↓PostL_cons, Post_fail, ofOpt_some, ofOpt_none, eA_b, eA_i, eA_s, eA_nn, eA_np, eA_pn, eA_lnn, eA_lnp, eA_lpn, eA_i2, eA_i3, blt_dec, Nat.add_assoc, keeps_refl, keeps_at, keeps_up, new_one, and_pow, bit_hi, lowBits_pow, ble_dec, fr_refl, fr_at, fr_up, fr_p, dum_ab, L4_0b, hlen, g0, g3, g7, g8, c1']
    exact Round.exit (R := SmeR va h0 base) ⟨rfl, u, L, by simp [len_setT, sl_same, sl_ne, hlen], by simp [len_setT, sl_same, sl_ne, hlen, g0], by simp [len_setT, sl_same, sl_ne, hlen, g3], hbn, gr, gl, kk⟩
set_option maxHeartbeats 8000000 in
theorem plays_law (h0 : Mem) (p : Nat) (avs : List AV) (g : KdsV h0 p [.sl ka] avs) (y0 : ∀ x, avs[0]? = some x → x.rowLen * 56 ≤ 140737488351232) : Yes T 4 avs h0 p := by
  simp only [KdsV] at g
  obtain ⟨va, _, rfl, ga, rfl⟩ := g
  have y1 := y0 va rfl
  obtain ⟨la, ra, la1, la2⟩ := ga.srow
  have hla : ∀ y ∈ la, Askv h0 p y := fun y hy => ask_cut (la2 y hy)
  have hlen : la.length * 56 ≤ 140737488351232 := by
    rcases ra with ⟨rfl, rfl⟩ | ⟨b, c, rfl, _⟩
    · simp
    · exact y1
  have lv := ra.lenOp
  refine Yes.of (la.length + 2000) ?_
  rw [xF_fr T4]
  simp (maxSteps := 8000000) [↓step_none, ↓step_t, ↓step_f, ↓step_nt, ↓step_nf, ↓op_load, ↓op_store, ↓op_slice, ↓op_app, ↓P_skip, ↓P_exit, ↓P_ret, ↓P_seq, ↓P_cond, ↓P_blk, ↓P_reg, ↓P_draw, ↓P_nil, ↓P_cons, condP_t, condP_f, dum_ab, stepR, want_none, want_some, opRun, ev_t, ev_c, put_none, put_some, resAll, res_tmp, res_cell, oneOf, minI, maxI, min2A, max2A, mn2, mx2, mx3, rdBlk, wrBlk, newBlk, partA, abin, ibin, isShift, AV.cells, AV.one, lay, sub, fillA, lenA, toN, allApart, apartFrom, Nat.testBit, Mem.blk_set_same, Mem.blk_set_ne, Mem.set_set, bit_zero, bit_self, lowBits_or, lowBits_zero, len_setT, sl_same, sl_ne, len_frame, sl_frame,↓op_len, lenOp_slc, lenOp_nils, ↓Post.some, ↓Post_bind, ↓Post_ret, ↓Post_draw, ↓PostL_nil, ↓PostL_cons, Post_fail, ofOpt_some, ofOpt_none, eA_b, eA_i, eA_s, eA_nn, eA_np, eA_pn, eA_lnn, eA_lnp, eA_lpn, eA_i2, eA_i3, blt_dec, Nat.add_assoc, keeps_refl, keeps_at, keeps_up, new_one, and_pow, bit_hi, lowBits_pow, ble_dec, fr_refl, fr_at, fr_up, fr_p, dum_ab, F4, reps, lv]
  refine Post.loop (sme_round va la h0 p hlen ra hla) la.length ⟨0, .nils, [], rfl, by omega, rfl, by simp [len_setT, sl_same, sl_ne, len_frame], by simp [len_setT, sl_same, sl_ne, len_frame, sl_frame], by simp [len_setT, sl_same, sl_ne, len_frame, sl_frame], by simp [len_setT, sl_same, sl_ne, len_frame, sl_frame], by simp [len_setT, sl_same, sl_ne, len_frame, sl_frame], Nat.le_refl _, SGRow.nil .., (fun y hy => nomatch hy), fun b _ => rfl⟩ (by omega) ?_
  rintro e ts2 h5 nx5 tc5 wr5 ⟨rfl, u, L, hlen2, g0, g3, hbn, gr, gl, kp⟩
  obtain ⟨h6, nx6, tc6, wr6, x6, n6, k6⟩ := play_ok va la h5 nx5 (ra.keep hbn kp) (fun y hy => (hla y hy).keep hbn kp)
  obtain ⟨h7, nx7, tc7, wr7, x7, n7, k7⟩ := play_ok u L h6 nx6 (gr.srow.keep n6 k6) (fun y hy => (gl y hy).keep (by omega) fun b hb => by rw [k6 b (by omega), kp b hb])
  obtain ⟨h8, nx8, tc8, wr8, x8, n8, k8⟩ := known_at h7 nx7 0 (Nat.zero_le _)
  simp (maxSteps := 8000000) [↓step_none, ↓step_t, ↓step_f, ↓step_nt, ↓step_nf, ↓op_load, ↓op_store, ↓op_slice, ↓op_app, ↓P_skip, ↓P_exit, ↓P_ret, ↓P_seq, ↓P_cond, ↓P_blk, ↓P_reg, ↓P_draw, ↓P_nil, ↓P_cons, condP_t, condP_f, dum_ab, stepR, want_none, want_some, opRun, ev_t, ev_c, put_none, put_some, resAll, res_tmp, res_cell, oneOf, minI, maxI, min2A, max2A, mn2, mx2, mx3, rdBlk, wrBlk, newBlk, partA, abin, ibin, isShift, AV.cells, AV.one, lay, sub, fillA, lenA, toN, allApart, apartFrom, Nat.testBit, Mem.blk_set_same, Mem.blk_set_ne, Mem.set_set, bit_zero, bit_self, lowBits_or, lowBits_zero, len_setT, sl_same, sl_ne, len_frame, sl_frame,↓op_len, lenOp_slc, lenOp_nils, ↓Post.some, ↓Post_bind, ↓Post_ret, ↓Post_draw, ↓PostL_nil, ↓PostL_cons, Post_fail, ofOpt_some, ofOpt_none, eA_b, eA_i, eA_s, eA_nn, eA_np, eA_pn, eA_lnn, eA_lnp, eA_lpn, eA_i2, eA_i3, blt_dec, Nat.add_assoc, keeps_refl, keeps_at, keeps_up, new_one, and_pow, bit_hi, lowBits_pow, ble_dec, fr_refl, fr_at, fr_up, fr_p, dum_ab, reps, hlen2, g0, g3, x6, x7, x8]
end Go.Proofs.YtobcboiemibkkaaT
