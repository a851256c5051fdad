/- The tape: a program's methods; its binds. -/
import Derived.Test.YtlbjdkhpabpmiaaU1
namespace Go.Proofs.YtlbjdkhpabpmiaaT
open Go Go.Proofs.YtlbjdkhpabpmiaaE Go.Proofs.YtlbjdkhpabpmiaaB
set_option linter.unusedSimpArgs false
set_option linter.unusedVariables false
attribute [local congr] Post_cg PostL_cg condP_cg

theorem Mk.mono {p : Nat} {s : AV} {nx0 nx tc wr : Nat} (m : Mk p s nx tc wr) (h : nx0 ≤ nx) : Mk p s nx0 tc wr := ⟨fun q hq hp => m.w q (by omega) hp, fun q hq hp => m.t q (by omega) hp⟩
set_option maxHeartbeats 4000000 in
theorem args_tp (p : Nat) (s : AV) (h : Mem) (nx : Nat) {j : Nat} (hj : j < 6) : TpC p s 30 22 [.int .i64 j] h nx fun v h' nx' => ∃ a : Int, v = .int .i64 a ∧ ∀ q, q < nx → h'.blk q = h.blk q := by
  intro lg hlg
  have B : (h.set nx (some ⟨3, 1, true, false, [.int .i64 0, .int .i64 1, .int .i64 1, .int .i64 2, .int .i64 0, .int .i64 0]⟩)).blk nx = some ⟨3, 1, true, false, ([0, 1, 1, 2, 0, 0] : List Int).map (AV.int .i64 ·)⟩ := by rw [Mem.blk_set_same]; rfl
  obtain ⟨o, x, e, f⟩ := lit_el [0, 1, 1, 2, 0, 0] B (show nx < nx + 1 by omega) j (by simp; omega)
  simp only [List.length_cons, List.length_nil, Nat.reduceAdd] at e
  rw [xF_fr T22]
  simp (maxSteps := 4000000) (maxDischargeDepth := 6) [↓step_none, ↓step_t, ↓step_f, ↓step_nt, ↓step_nf, ↓op_load, ↓op_store, ↓op_slice, ↓op_app, ↓op_islc, ↓P_skip, ↓P_exit, ↓P_ret, ↓P_seq, ↓P_cond, ↓P_blk, ↓P_reg, ↓P_draw, ↓P_nil, ↓P_cons, condP_t, condP_f, dum_ab, stepR, want_none, want_some, opRun, ev_t, ev_c, put_none, put_some, resAll, res_tmp, res_cell, oneOf, minI, maxI, min2A, max2A, mn2, mx2, mx3, rdBlk, wrBlk, newBlk, partA, abin, ibin, isShift, AV.cells, AV.one, lay, sub, fillA, lenA, toN, allApart, apartFrom, Nat.testBit, Mem.blk_set_same, Mem.blk_set_ne, Mem.set_set, bit_zero, bit_self, lowBits_or, lowBits_zero, len_setT, sl_same, sl_ne, len_frame, sl_frame,↓op_len, lenOp_slc, lenOp_nils, ↓Post.some, ↓Post_bind, ↓Post_ret, ↓Post_draw, ↓PostL_nil, ↓PostL_cons, Post_fail, ofOpt_some, ofOpt_none, eA_b, eA_i, eA_s, eA_nn, eA_np, eA_pn, eA_lnn, eA_lnp, eA_lpn, eA_i2, eA_i3, blt_dec, Nat.add_assoc, keeps_refl, keeps_at, keeps_up, new_one, and_pow, bit_hi, lowBits_pow, ble_dec, fr_refl, fr_at, fr_up, fr_p, dum_ab, reps, F22, e, f]
  refine ⟨fun q hq => Mem.blk_set_ne _ _ _ _ (by omega), fun q hq _ => Mem.blk_set_ne _ _ _ _ (by omega), ?_⟩
  first
  | exact Mk.b (Nat.le_refl _)
  | exact Mk.z ..
/-- A method of a row: its blocks are not the row's. -/
def MW (lo : Nat) (mv : AV) (h : Mem) (nx : Nat) (y : List AV) : Prop := ∃ (a : Int) (u : AV) (M : List (List AV)) (c : AV) (l : List Int), y = [.int .i64 a, .int .i64 2, u, c] ∧ OW 2 u h nx M ∧ (∀ z ∈ M, V2 z) ∧ M.length = 14 ∧ OW 1 c h nx (u8s l) ∧ Ok8 l ∧ l.length ≤ 100 ∧ (∀ x, bid u = some x ∨ bid c = some x → lo ≤ x ∧ bid mv ≠ some x)
theorem MW.keep {lo : Nat} {mv : AV} {h h' : Mem} {nx nx' : Nat} {y : List AV} (g : MW lo mv h nx y) (hn : nx ≤ nx') (e : ∀ x, lo ≤ x → x < nx → bid mv ≠ some x → h'.blk x = h.blk x) : MW lo mv h' nx' y := by
  obtain ⟨a, u, M, c, l, rfl, h1, h2, h3, h4, h5, h6, h7⟩ := g
  exact ⟨a, u, M, c, l, rfl, h1.keep hn fun x hx => e x (h7 x (.inl hx)).1 (h1.lt hx) (h7 x (.inl hx)).2, h2, h3, h4.keep hn fun x hx => e x (h7 x (.inr hx)).1 (h4.lt hx) (h7 x (.inr hx)).2, h5, h6, h7⟩
theorem MW.row {lo : Nat} {mv mv' : AV} {h : Mem} {nx : Nat} {y : List AV} (g : MW lo mv h nx y) (e : ∀ x, bid mv' = some x → bid mv = some x ∨ nx ≤ x) : MW lo mv' h nx y := by
  obtain ⟨a, u, M, c, l, rfl, h1, h2, h3, h4, h5, h6, h7⟩ := g
  refine ⟨a, u, M, c, l, rfl, h1, h2, h3, h4, h5, h6, fun x hx => ⟨(h7 x hx).1, fun hm => ?_⟩⟩
  rcases e x hm with e | e
  · exact (h7 x hx).2 e
  · rcases hx with hx | hx
    · have := h1.lt hx; omega
    · have := h4.lt hx; omega
theorem MV.mw {lo lo' : Nat} {mv : AV} {h : Mem} {nx : Nat} {y : List AV} (g : MV lo h nx y) (hl : lo' ≤ lo) (e : ∀ x, bid mv = some x → x < lo) : MW lo' mv h nx y := by
  obtain ⟨a, u, M, c, l, rfl, h1, h2, h3, h4, h5, h6, h7, h8⟩ := g
  refine ⟨a, u, M, c, l, rfl, h1, h2, h3, h4, h5, h6, fun x hx => ?_⟩
  have : lo ≤ x := by
    rcases hx with hx | hx
    · exact h7 x hx
    · exact h8 x hx
  exact ⟨by omega, fun hm => by have := e x hm; omega⟩
theorem MV.shape {lo : Nat} {h : Mem} {nx : Nat} {y : List AV} (g : MV lo h nx y) : y.length = 4 ∧ y.all AV.one = true := by
  obtain ⟨a, u, M, c, l, rfl, h1, h2, h3, h4, h5, h6, h7, h8⟩ := g
  exact ⟨rfl, one4 h1.one.2 h4.one.2⟩
def U4I (p : Nat) (s : AV) (T0 : List Int) (h0 : Mem) (nx0 b2 b : Nat) (nv cv : AV) (cl : Nat) (hA : Mem) (nxA : Nat) (m : Nat) (ts : List AV) (h : Mem) (nx tc wr : Nat) : Prop := ∃ (j : Nat) (mv : AV) (M : List (List AV)), m = 6 - j ∧ j ≤ 6 ∧ ts.length = 197 ∧ sl ts 0 = .ptr p 0 ∧ sl ts 2 = .ptr b2 0 ∧ sl ts 3 = .ptr b 0 ∧ sl ts 63 = .int .i64 6 ∧ sl ts 64 = .int .i64 j ∧ Us p s T0 h0 nx0 b2 b h nx nv cv mv .nils ∧ OW 4 mv h nx M ∧ (∀ x, bid mv = some x → nxA ≤ x) ∧ M.length = j ∧ (∀ y ∈ M, MW nxA mv h nx y) ∧ nxA ≤ nx ∧ (∀ q, q < nxA → ¬ q = p → ¬ q = b → h.blk q = hA.blk q) ∧ Mk p s nx0 tc wr
def U4R (p : Nat) (s : AV) (T0 : List Int) (h0 : Mem) (nx0 b2 b : Nat) (nv cv : AV) (cl : Nat) (hA : Mem) (nxA : Nat) (e : Ex) (ts : List AV) (h : Mem) (nx tc wr : Nat) : Prop := e = .exit 2 ∧ ∃ (mv : AV) (M : List (List AV)), ts.length = 197 ∧ sl ts 0 = .ptr p 0 ∧ sl ts 2 = .ptr b2 0 ∧ sl ts 3 = .ptr b 0 ∧ Us p s T0 h0 nx0 b2 b h nx nv cv mv .nils ∧ OW 4 mv h nx M ∧ (∀ x, bid mv = some x → nxA ≤ x) ∧ M.length = 6 ∧ (∀ y ∈ M, MW nxA mv h nx y) ∧ nxA ≤ nx ∧ (∀ q, q < nxA → ¬ q = p → ¬ q = b → h.blk q = hA.blk q) ∧ Mk p s nx0 tc wr
set_option maxHeartbeats 16000000 in
theorem u4_round {p : Nat} {s : AV} {T0 : List Int} {h0 : Mem} {nx0 b2 b : Nat} {nv cv : AV} {cl : Nat} (hc : 3 ≤ cl) (hc5 : cl ≤ 5) (lcv : lenOp cv = A.ret (.int .i64 cl)) {hA : Mem} {nxA : Nat} (hbA : b < nxA) (lg : Nat) (hlg : lg ≤ nx0) (m : Nat) (ts : List AV) (h : Mem) (nx tc wr : Nat) (hi : U4I p s T0 h0 nx0 b2 b nv cv cl hA nxA m ts h nx tc wr) :
    Post (xC T 700 L9_4b ts h nx lg) fun v' h' nx' tc' wr' => Round (U4I p s T0 h0 nx0 b2 b nv cv cl hA nxA) (U4R p s T0 h0 nx0 b2 b nv cv cl hA nxA) m v' h' nx' (tc ||| tc') (wr ||| wr') := by
  obtain ⟨j, mv, M, rfl, hj, hlen, g0, g2, g3, g63, g64, g, ow, own, hM, hMW, hnA, kA, mk⟩ := hi
  have hbn := g.bn
  have hbb := g.b2b
  have hbl := g.bl
  have hp := g.hp
  have ci : IntKind.i64.wrap ((j : Int) + 1) = ((j + 1 : Nat) : Int) := by rw [IntKind.wrap_i64]; omega
  by_cases c : j < 6
  · have c' : (j : Int) < 6 := by omega
    have lm := fun lg => ld_at g.blk g.bl (o := 2) (v := mv) rfl lg
    simp (maxSteps := 4000000) (maxDischargeDepth := 6) [↓step_none, ↓step_t, ↓step_f, ↓step_nt, ↓step_nf, ↓op_load, ↓op_store, ↓op_slice, ↓op_app, ↓op_islc, ↓P_skip, ↓P_exit, ↓P_ret, ↓P_seq, ↓P_cond, ↓P_blk, ↓P_reg, ↓P_draw, ↓P_nil, ↓P_cons, condP_t, condP_f, dum_ab, stepR, want_none, want_some, opRun, ev_t, ev_c, put_none, put_some, resAll, res_tmp, res_cell, oneOf, minI, maxI, min2A, max2A, mn2, mx2, mx3, rdBlk, wrBlk, newBlk, partA, abin, ibin, isShift, AV.cells, AV.one, lay, sub, fillA, lenA, toN, allApart, apartFrom, Nat.testBit, Mem.blk_set_same, Mem.blk_set_ne, Mem.set_set, bit_zero, bit_self, lowBits_or, lowBits_zero, len_setT, sl_same, sl_ne, len_frame, sl_frame,↓op_len, lenOp_slc, lenOp_nils, ↓Post.some, ↓Post_bind, ↓Post_ret, ↓Post_draw, ↓PostL_nil, ↓PostL_cons, Post_fail, ofOpt_some, ofOpt_none, eA_b, eA_i, eA_s, eA_nn, eA_np, eA_pn, eA_lnn, eA_lnp, eA_lpn, eA_i2, eA_i3, blt_dec, Nat.add_assoc, keeps_refl, keeps_at, keeps_up, new_one, and_pow, bit_hi, lowBits_pow, ble_dec, fr_refl, fr_at, fr_up, fr_p, dum_ab, reps, L9_4b, hlen, g0, g2, g3, g63, g64, c, c', lm]
    refine (args_tp p s h nx c).post nx (Nat.le_refl _) (by omega) (by omega) ?_
    rintro _ h1 nx1 tc1 wr1 ⟨a, rfl, kk1⟩ n1 k1 m1 i1
    have u1 := g.keeps n1 kk1
    have lc1 := fun lg => ld_at u1.blk u1.bl (o := 1) (v := cv) rfl lg
    simp (maxSteps := 4000000) (maxDischargeDepth := 6) [↓step_none, ↓step_t, ↓step_f, ↓step_nt, ↓step_nf, ↓op_load, ↓op_store, ↓op_slice, ↓op_app, ↓op_islc, ↓P_skip, ↓P_exit, ↓P_ret, ↓P_seq, ↓P_cond, ↓P_blk, ↓P_reg, ↓P_draw, ↓P_nil, ↓P_cons, condP_t, condP_f, dum_ab, stepR, want_none, want_some, opRun, ev_t, ev_c, put_none, put_some, resAll, res_tmp, res_cell, oneOf, minI, maxI, min2A, max2A, mn2, mx2, mx3, rdBlk, wrBlk, newBlk, partA, abin, ibin, isShift, AV.cells, AV.one, lay, sub, fillA, lenA, toN, allApart, apartFrom, Nat.testBit, Mem.blk_set_same, Mem.blk_set_ne, Mem.set_set, bit_zero, bit_self, lowBits_or, lowBits_zero, len_setT, sl_same, sl_ne, len_frame, sl_frame,↓op_len, lenOp_slc, lenOp_nils, ↓Post.some, ↓Post_bind, ↓Post_ret, ↓Post_draw, ↓PostL_nil, ↓PostL_cons, Post_fail, ofOpt_some, ofOpt_none, eA_b, eA_i, eA_s, eA_nn, eA_np, eA_pn, eA_lnn, eA_lnp, eA_lpn, eA_i2, eA_i3, blt_dec, Nat.add_assoc, keeps_refl, keeps_at, keeps_up, new_one, and_pow, bit_hi, lowBits_pow, ble_dec, fr_refl, fr_at, fr_up, fr_p, dum_ab, reps, hlen, g0, g2, g3, g63, g64, lc1, lcv]
    refine (method_tp u1.tp a (cl := cl) (by omega) (by omega) false).post nx1 (Nat.le_refl _) (by omega) (by omega) ?_
    rintro _ h2 nx2 tc2 wr2 ⟨y, rfl, mv2, t2⟩ n2 k2 m2 i2
    have u2 := u1.call t2 n2 k2
    have ys := mv2.shape
    have mvK := mv2
    obtain ⟨ya, yu, yM, yc, yl, rfl, y1, y2, y3, y4, y5, y6, y7, y8⟩ := mv2
    have ow2 : OW 4 mv h2 nx2 M := ow.keep (by omega) fun x hx => by
      have := own x hx
      have := ow.lt hx
      rw [k2 x (by omega) (by omega), kk1 x (by omega)]
    simp (maxSteps := 4000000) (maxDischargeDepth := 6) [↓step_none, ↓step_t, ↓step_f, ↓step_nt, ↓step_nf, ↓op_load, ↓op_store, ↓op_slice, ↓op_app, ↓op_islc, ↓P_skip, ↓P_exit, ↓P_ret, ↓P_seq, ↓P_cond, ↓P_blk, ↓P_reg, ↓P_draw, ↓P_nil, ↓P_cons, condP_t, condP_f, dum_ab, stepR, want_none, want_some, opRun, ev_t, ev_c, put_none, put_some, resAll, res_tmp, res_cell, oneOf, minI, maxI, min2A, max2A, mn2, mx2, mx3, rdBlk, wrBlk, newBlk, partA, abin, ibin, isShift, AV.cells, AV.one, lay, sub, fillA, lenA, toN, allApart, apartFrom, Nat.testBit, Mem.blk_set_same, Mem.blk_set_ne, Mem.set_set, bit_zero, bit_self, lowBits_or, lowBits_zero, len_setT, sl_same, sl_ne, len_frame, sl_frame,↓op_len, lenOp_slc, lenOp_nils, ↓Post.some, ↓Post_bind, ↓Post_ret, ↓Post_draw, ↓PostL_nil, ↓PostL_cons, Post_fail, ofOpt_some, ofOpt_none, eA_b, eA_i, eA_s, eA_nn, eA_np, eA_pn, eA_lnn, eA_lnp, eA_lpn, eA_i2, eA_i3, blt_dec, Nat.add_assoc, keeps_refl, keeps_at, keeps_up, new_one, and_pow, bit_hi, lowBits_pow, ble_dec, fr_refl, fr_at, fr_up, fr_p, dum_ab, reps, hlen, g0, g2, g3, g63, g64]
    obtain ⟨mv', hT, nxT, tcT, wrT, eT, nT, owT, kT, dT, tT, wT⟩ := OW.push (sz := 4) (by decide) 37 64 ow2 [.int .i64 ya, .int .i64 2, yu, yc] rfl (fun k hk => fits_few (by omega) (by omega)) ys.2 37 4 (nx2 + 1)
    refine Post.of eT ?_
    have hlo : ∀ x, bid mv = some x → x < nx := fun x hx => ow.lt hx
    have uT : Us p s T0 h0 nx0 b2 b hT nxT nv cv mv .nils := u2.other (by omega) (fun q => bid mv = some q) (fun q hq hx => kT q hq hx) (fun q hq => by have := own q hq; omega)
    have ownT : ∀ x, bid mv' = some x → nxA ≤ x := fun x hx => by
      rcases dT x hx with e | e
      · exact own x e
      · omega
    obtain ⟨HF, stF, uF, kF⟩ := uT.put 2 mv' owT.one.1 owT.one.2 nv cv mv' .nils rfl (by decide)
    simp (maxSteps := 4000000) (maxDischargeDepth := 6) [↓step_none, ↓step_t, ↓step_f, ↓step_nt, ↓step_nf, ↓op_load, ↓op_store, ↓op_slice, ↓op_app, ↓op_islc, ↓P_skip, ↓P_exit, ↓P_ret, ↓P_seq, ↓P_cond, ↓P_blk, ↓P_reg, ↓P_draw, ↓P_nil, ↓P_cons, condP_t, condP_f, dum_ab, stepR, want_none, want_some, opRun, ev_t, ev_c, put_none, put_some, resAll, res_tmp, res_cell, oneOf, minI, maxI, min2A, max2A, mn2, mx2, mx3, rdBlk, wrBlk, newBlk, partA, abin, ibin, isShift, AV.cells, AV.one, lay, sub, fillA, lenA, toN, allApart, apartFrom, Nat.testBit, Mem.blk_set_same, Mem.blk_set_ne, Mem.set_set, bit_zero, bit_self, lowBits_or, lowBits_zero, len_setT, sl_same, sl_ne, len_frame, sl_frame,↓op_len, lenOp_slc, lenOp_nils, ↓Post.some, ↓Post_bind, ↓Post_ret, ↓Post_draw, ↓PostL_nil, ↓PostL_cons, Post_fail, ofOpt_some, ofOpt_none, eA_b, eA_i, eA_s, eA_nn, eA_np, eA_pn, eA_lnn, eA_lnp, eA_lpn, eA_i2, eA_i3, blt_dec, Nat.add_assoc, keeps_refl, keeps_at, keeps_up, new_one, and_pow, bit_hi, lowBits_pow, ble_dec, fr_refl, fr_at, fr_up, fr_p, dum_ab, reps, hlen, g0, g2, g3, g63, g64, stF, ci]
    refine ⟨⟨ap3 (m1.w b (by omega) (by omega)) (new_lo (by omega)), by rw [Nat.and_comm]; exact ap3 (m1.w b (by omega) (by omega)) (new_lo (by omega)), ap3 (m2.w b (by omega) (by omega)) (new_lo (by omega)), bit_and (by omega)⟩, ?_⟩
    have key : ∀ x, nxA ≤ x → x < nx2 → bid mv ≠ some x → HF.blk x = h2.blk x := fun x h1 h2 h3 => (kF x (by omega)).trans (kT x h2 h3)
    have key0 : ∀ x, x < nx → ¬ x = p → h2.blk x = h.blk x := fun x h1 h2 => (k2 x (by omega) h2).trans (kk1 x h1)
    refine Round.nor (m' := 6 - (j + 1)) (by omega) ⟨j + 1, mv', M ++ [[.int .i64 ya, .int .i64 2, yu, yc]], rfl, by omega, ?_, ?_, ?_, ?_, ?_, ?_, uF, ?_, ownT, by rw [List.length_append, hM]; rfl, fun y hy => ?_, by omega, fun q hq hqp hqb => ?_, ?_⟩
    any_goals simp [len_setT, sl_same, sl_ne, hlen, g0, g2, g3, g63]
    · exact owT.keep (Nat.le_refl _) fun x hx => kF x (by have := ownT x hx; omega)
    · have row : ∀ x, bid mv' = some x → bid mv = some x ∨ nxT ≤ x ∨ nx2 ≤ x := fun x hx => by
        rcases dT x hx with e | e
        · exact .inl e
        · exact .inr (.inr (by omega))
      have fin : MW nxA mv h2 nx2 y → MW nxA mv' HF nxT y := fun w => by
        have w' : MW nxA mv' h2 nx2 y := w.row fun x hx => by
          rcases dT x hx with e | e
          · exact .inl e
          · exact .inr (by omega)
        obtain ⟨a0, u0, M0, c0, l0, rfl, q1, q2, q3, q4, q5, q6, q7⟩ := w
        obtain ⟨a1, u1, M1, c1, l1, e1, r1, r2, r3, r4, r5, r6, r7⟩ := w'
        cases e1
        exact ⟨a0, u0, M0, c0, l0, rfl, q1.keep (by omega) fun x hx => key x (q7 x (.inl hx)).1 (q1.lt hx) (q7 x (.inl hx)).2, q2, q3, q4.keep (by omega) fun x hx => key x (q7 x (.inr hx)).1 (q4.lt hx) (q7 x (.inr hx)).2, q5, q6, r7⟩
      rcases List.mem_append.1 hy with hy | hy
      · exact fin ((hMW y hy).keep (by omega) fun x h1 h2 h3 => key0 x h2 (by omega))
      · rw [List.mem_singleton.1 hy] at fin ⊢
        exact fin (mvK.mw (by omega) fun x hx => by have := hlo x hx; omega)
    · rw [kF q hqb, kT q (by omega) fun e => by have := own q e; omega, key0 q (by omega) hqp]
      exact kA q hq hqp hqb
    · refine ⟨fun q hq hp => ?_, fun q hq hp => ?_⟩
      · have z2 : ∀ lg', bit lg' b &&& 2 ^ q = 0 := fun lg => bit_and (by omega)
        have z3 : ∀ lg', lowBits lg (bit lg' b) &&& 2 ^ q = 0 := fun lg' => low_z (z2 _)
        have zT := low_z (lg := lg) (wT q fun e => by have := own q e; omega)
        simp only [Nat.and_or_distrib_right, mk.w q hq hp, ((m1.mono (show nx0 ≤ nx by omega)).low (lg := lg)).w q hq hp, ((m2.mono (show nx0 ≤ nx1 by omega)).low (lg := lg)).w q hq hp, z2, z3, zT, Nat.or_zero]
      · have z2 : ∀ lg', bit lg' b &&& 2 ^ q = 0 := fun lg => bit_and (by omega)
        have z3 : ∀ lg', lowBits lg (bit lg' b) &&& 2 ^ q = 0 := fun lg' => low_z (z2 _)
        have zT := low_z (lg := lg) (tT q (fun e => by have := own q e; omega) (by omega))
        simp only [Nat.and_or_distrib_right, mk.t q hq hp, ((m1.mono (show nx0 ≤ nx by omega)).low (lg := lg)).t q hq hp, ((m2.mono (show nx0 ≤ nx1 by omega)).low (lg := lg)).t q hq hp, z2, z3, zT, Nat.or_zero]
  · have c' : ¬ (j : Int) < 6 := by omega
    simp (maxSteps := 4000000) (maxDischargeDepth := 6) [↓step_none, ↓step_t, ↓step_f, ↓step_nt, ↓step_nf, ↓op_load, ↓op_store, ↓op_slice, ↓op_app, ↓op_islc, ↓P_skip, ↓P_exit, ↓P_ret, ↓P_seq, ↓P_cond, ↓P_blk, ↓P_reg, ↓P_draw, ↓P_nil, ↓P_cons, condP_t, condP_f, dum_ab, stepR, want_none, want_some, opRun, ev_t, ev_c, put_none, put_some, resAll, res_tmp, res_cell, oneOf, minI, maxI, min2A, max2A, mn2, mx2, mx3, rdBlk, wrBlk, newBlk, partA, abin, ibin, isShift, AV.cells, AV.one, lay, sub, fillA, lenA, toN, allApart, apartFrom, Nat.testBit, Mem.blk_set_same, Mem.blk_set_ne, Mem.set_set, bit_zero, bit_self, lowBits_or, lowBits_zero, len_setT, sl_same, sl_ne, len_frame, sl_frame,↓op_len, lenOp_slc, lenOp_nils, ↓Post.some, ↓Post_bind, ↓Post_ret, ↓Post_draw, ↓PostL_nil, ↓PostL_cons, Post_fail, ofOpt_some, ofOpt_none, eA_b, eA_i, eA_s, eA_nn, eA_np, eA_pn, eA_lnn, eA_lnp, eA_lpn, eA_i2, eA_i3, blt_dec, Nat.add_assoc, keeps_refl, keeps_at, keeps_up, new_one, and_pow, bit_hi, lowBits_pow, ble_dec, fr_refl, fr_at, fr_up, fr_p, dum_ab, reps, L9_4b, hlen, g0, g2, g3, g63, g64, c, c']
    obtain rfl : j = 6 := by omega
    refine Round.exit (R := U4R p s T0 h0 nx0 b2 b nv cv cl hA nxA) ⟨rfl, mv, M, ?_, ?_, ?_, ?_, g, ow, own, hM, hMW, hnA, kA, mk⟩ <;> simp [len_setT, sl_same, sl_ne, hlen, g0, g2, g3]

/-- Binds of names below j, each once. -/
structure BOk (j : Nat) (B : List (Int × Int)) : Prop where
  ok : ∀ i, i < B.length → okb B 6 9 i = true
  lt : ∀ x ∈ B, x.1 < j
  n : B.length ≤ j
theorem BOk.nil : BOk 0 [] := ⟨fun i h => absurd h (Nat.not_lt_zero _), fun x h => (nomatch h), Nat.le_refl _⟩
theorem BOk.up {j : Nat} {B : List (Int × Int)} (g : BOk j B) : BOk (j + 1) B := ⟨g.ok, fun x hx => by have := g.lt x hx; omega, by have := g.n; omega⟩
theorem BOk.more {j : Nat} {B : List (Int × Int)} (g : BOk j B) (hj : j < 6) : BOk (j + 1) (B ++ [((j : Int), (j : Int))]) := by
  have hn := g.n
  refine ⟨fun i hi => ?_, fun x hx => ?_, by rw [List.length_append]; simp; omega⟩
  · rw [List.length_append, List.length_singleton] at hi
    by_cases c : i < B.length
    · have := g.ok i c
      rw [okb_at c] at this
      rw [okb_at (by rw [List.length_append]; omega), List.getElem_append_left c, List.take_append_of_le_length (by omega)]
      exact this
    · obtain rfl : i = B.length := by omega
      rw [okb_at (by rw [List.length_append]; simp), List.getElem_append_right (by omega), List.take_append_of_le_length (by omega), List.take_of_length_le (by omega)]
      simp only [Nat.sub_self, List.getElem_cons_zero]
      have : anyS B ((j : Int), (j : Int)) = false := anyS_f fun y hy => by
        have := g.lt y hy
        exact beq_eq_false_iff_ne.2 (by simp only; omega)
      rw [this]
      simp
      omega
  · rcases List.mem_append.1 hx with hx | hx
    · have := g.lt x hx; omega
    · rw [List.mem_singleton.1 hx]; simp only; omega
theorem BOk.bindsV {j : Nat} {B : List (Int × Int)} (g : BOk j B) (hj : j ≤ 16) : bindsV B 6 9 = true := by
  rw [bindsV_yes g.ok]
  have := g.n
  exact decide_eq_true (by omega)
theorem bnds_app (B : List (Int × Int)) (x : Int × Int) : bnds (B ++ [x]) = bnds B ++ [[.int .i64 x.1, .int .i64 x.2]] := by unfold bnds; rw [List.map_append]; rfl
/-- A class with other binds. -/
def C.wb (c : C) (u : AV) (B : List (Int × Int)) : C := { c with bv := u, B := B }
theorem css_set (L : List C) (i : Nat) (c : C) : css (L.set i c) = (css L).set i c.cs := by unfold css; rw [List.map_set]
def U2I (p : Nat) (s : AV) (T0 : List Int) (h0 : Mem) (nx0 b2 b : Nat) (nv cv mv : AV) (L : List C) (c cb : Nat) (hc : Mem) (nxc : Nat) (m : Nat) (ts : List AV) (h : Mem) (nx tc wr : Nat) : Prop := ∃ (j : Nat) (u : AV) (B : List (Int × Int)), m = 6 - j ∧ j ≤ 6 ∧ ts.length = 197 ∧ sl ts 0 = .ptr p 0 ∧ sl ts 2 = .ptr b2 0 ∧ sl ts 3 = .ptr b 0 ∧ sl ts 7 = .int .i64 c ∧ sl ts 108 = .int .i64 6 ∧ sl ts 109 = .int .i64 j ∧ Us p s T0 h0 nx0 b2 b h nx nv cv mv .nils ∧ OW 4 cv h nx (css (L.set c ((L.getD c ⟨.empty, 0, 0, .nils, []⟩).wb u B))) ∧ OW 2 u h nx (bnds B) ∧ (∀ x, bid u = some x → nxc ≤ x) ∧ BOk j B ∧ nxc ≤ nx ∧ (∀ q, q < nxc → ¬ q = p → ¬ q = cb → h.blk q = hc.blk q) ∧ Mk p s nx0 tc wr
def U2R (p : Nat) (s : AV) (T0 : List Int) (h0 : Mem) (nx0 b2 b : Nat) (nv cv mv : AV) (L : List C) (c cb : Nat) (hc : Mem) (nxc : Nat) (e : Ex) (ts : List AV) (h : Mem) (nx tc wr : Nat) : Prop := e = .exit 6 ∧ ∃ (u : AV) (B : List (Int × Int)), ts.length = 197 ∧ sl ts 0 = .ptr p 0 ∧ sl ts 2 = .ptr b2 0 ∧ sl ts 3 = .ptr b 0 ∧ sl ts 7 = .int .i64 c ∧ Us p s T0 h0 nx0 b2 b h nx nv cv mv .nils ∧ OW 4 cv h nx (css (L.set c ((L.getD c ⟨.empty, 0, 0, .nils, []⟩).wb u B))) ∧ OW 2 u h nx (bnds B) ∧ (∀ x, bid u = some x → nxc ≤ x) ∧ BOk 6 B ∧ nxc ≤ nx ∧ (∀ q, q < nxc → ¬ q = p → ¬ q = cb → h.blk q = hc.blk q) ∧ Mk p s nx0 tc wr
set_option maxHeartbeats 16000000 in
theorem u2_round {p : Nat} {s : AV} {T0 : List Int} {h0 : Mem} {nx0 b2 b : Nat} {nv cv mv : AV} {L : List C} {c cb : Nat} (hcL : c < L.length) (hcb : bid cv = some cb) (hcb0 : nx0 ≤ cb) (hcbb : cb ≠ b) (hcb2 : cb ≠ b2) {hc : Mem} {nxc : Nat} (hcbn : cb < nxc) (hbn : b < nxc) (lg : Nat) (hlg : lg ≤ nx0) (m : Nat) (ts : List AV) (h : Mem) (nx tc wr : Nat) (hi : U2I p s T0 h0 nx0 b2 b nv cv mv L c cb hc nxc m ts h nx tc wr) :
    Post (xC T 160 L9_2b ts h nx lg) fun v' h' nx' tc' wr' => Round (U2I p s T0 h0 nx0 b2 b nv cv mv L c cb hc nxc) (U2R p s T0 h0 nx0 b2 b nv cv mv L c cb hc nxc) m v' h' nx' (tc ||| tc') (wr ||| wr') := by
  obtain ⟨j, u, B, rfl, hj, hlen, g0, g2, g3, g7, g108, g109, g, ow, uo, own, bk, hnc, kc, mk⟩ := hi
  have hb2 := g.bn
  have hbb := g.b2b
  have hbl := g.bl
  have hp := g.hp
  have ci : IntKind.i64.wrap ((j : Int) + 1) = ((j + 1 : Nat) : Int) := by rw [IntKind.wrap_i64]; omega
  by_cases cj : j < 6
  · have cj' : (j : Int) < 6 := by omega
    simp (maxSteps := 4000000) (maxDischargeDepth := 6) [↓step_none, ↓step_t, ↓step_f, ↓step_nt, ↓step_nf, ↓op_load, ↓op_store, ↓op_slice, ↓op_app, ↓op_islc, ↓P_skip, ↓P_exit, ↓P_ret, ↓P_seq, ↓P_cond, ↓P_blk, ↓P_reg, ↓P_draw, ↓P_nil, ↓P_cons, condP_t, condP_f, dum_ab, stepR, want_none, want_some, opRun, ev_t, ev_c, put_none, put_some, resAll, res_tmp, res_cell, oneOf, minI, maxI, min2A, max2A, mn2, mx2, mx3, rdBlk, wrBlk, newBlk, partA, abin, ibin, isShift, AV.cells, AV.one, lay, sub, fillA, lenA, toN, allApart, apartFrom, Nat.testBit, Mem.blk_set_same, Mem.blk_set_ne, Mem.set_set, bit_zero, bit_self, lowBits_or, lowBits_zero, len_setT, sl_same, sl_ne, len_frame, sl_frame,↓op_len, lenOp_slc, lenOp_nils, ↓Post.some, ↓Post_bind, ↓Post_ret, ↓Post_draw, ↓PostL_nil, ↓PostL_cons, Post_fail, ofOpt_some, ofOpt_none, eA_b, eA_i, eA_s, eA_nn, eA_np, eA_pn, eA_lnn, eA_lnp, eA_lpn, eA_i2, eA_i3, blt_dec, Nat.add_assoc, keeps_refl, keeps_at, keeps_up, new_one, and_pow, bit_hi, lowBits_pow, ble_dec, fr_refl, fr_at, fr_up, fr_p, dum_ab, reps, L9_2b, hlen, g0, g2, g3, g7, g108, g109, cj, cj']
    refine (next_fx g.tp 3 (by decide) (by decide)).post (by omega) (by omega) ?_
    rintro _ h1 nx1 tc1 wr1 ⟨r1, rfl, hr1, t1⟩ n1 k1 w1 x1
    have u1 := g.call t1 n1 k1
    have M1 : Mk p s nx0 tc1 wr1 := ⟨fun q hq hp => w1 q (by omega) hp, fun q hq hp => x1 q (by omega) hp⟩
    have ow1 : OW 4 cv h1 nx1 _ := ow.keep (by omega) fun x hx => by
      rw [hcb] at hx; cases hx
      exact k1 cb (by omega) (by omega)
    have uo1 : OW 2 u h1 nx1 (bnds B) := uo.keep (by omega) fun x hx => by
      have := own x hx
      exact k1 x (uo.lt hx) (by omega)
    have kc1 : ∀ q, q < nxc → ¬ q = p → ¬ q = cb → h1.blk q = hc.blk q := fun q hq a b => (k1 q (by omega) a).trans (kc q hq a b)
    by_cases cr : 0 < r1
    · have cr' : (0 : Int) < (r1 : Int) := by omega
      have lb := fun lg => ld_at u1.blk u1.bl (o := 1) (v := cv) rfl lg
      obtain ⟨cb', e', hb', pl, lds, _⟩ := ow1.at (i := c) (by rw [css_len, List.length_set]; exact hcL)
      rw [hcb] at e'; cases e'
      have l3 := lds 3 u (by rw [css_at, List.getElem_set_self]; rfl)
      simp (maxSteps := 4000000) (maxDischargeDepth := 6) [↓step_none, ↓step_t, ↓step_f, ↓step_nt, ↓step_nf, ↓op_load, ↓op_store, ↓op_slice, ↓op_app, ↓op_islc, ↓P_skip, ↓P_exit, ↓P_ret, ↓P_seq, ↓P_cond, ↓P_blk, ↓P_reg, ↓P_draw, ↓P_nil, ↓P_cons, condP_t, condP_f, dum_ab, stepR, want_none, want_some, opRun, ev_t, ev_c, put_none, put_some, resAll, res_tmp, res_cell, oneOf, minI, maxI, min2A, max2A, mn2, mx2, mx3, rdBlk, wrBlk, newBlk, partA, abin, ibin, isShift, AV.cells, AV.one, lay, sub, fillA, lenA, toN, allApart, apartFrom, Nat.testBit, Mem.blk_set_same, Mem.blk_set_ne, Mem.set_set, bit_zero, bit_self, lowBits_or, lowBits_zero, len_setT, sl_same, sl_ne, len_frame, sl_frame,↓op_len, lenOp_slc, lenOp_nils, ↓Post.some, ↓Post_bind, ↓Post_ret, ↓Post_draw, ↓PostL_nil, ↓PostL_cons, Post_fail, ofOpt_some, ofOpt_none, eA_b, eA_i, eA_s, eA_nn, eA_np, eA_pn, eA_lnn, eA_lnp, eA_lpn, eA_i2, eA_i3, blt_dec, Nat.add_assoc, keeps_refl, keeps_at, keeps_up, new_one, and_pow, bit_hi, lowBits_pow, ble_dec, fr_refl, fr_at, fr_up, fr_p, dum_ab, reps, hlen, g0, g2, g3, g7, g108, g109, cr, cr', lb, pl, l3]
      obtain ⟨u', hT, nxT, tcT, wrT, eT, nT, owT, kT, dT, tT, wT⟩ := OW.push (sz := 2) (by decide) 64 16 uo1 [.int .i64 j, .int .i64 j] rfl (fun k hk => fits16 (n := 6) (by rw [bnds_len] at hk; have := bk.n; omega) (by omega)) rfl 64 2 (nx1 + 1)
      refine Post.of eT ?_
      have no : ∀ q, q < nxc → bid u ≠ some q := fun q hq e => by have := own q e; omega
      have uT : Us p s T0 h0 nx0 b2 b hT nxT nv cv mv .nils := u1.other (by omega) (fun q => bid u = some q) (fun q hq hx => kT q hq hx) (fun q hq => by have := own q hq; omega)
      have owc : OW 4 cv hT nxT _ := ow1.keep (by omega) fun x hx => by
        rw [hcb] at hx; cases hx
        exact kT cb (by omega) (no cb hcbn)
      have ownT : ∀ x, bid u' = some x → nxc ≤ x := fun x hx => by
        rcases dT x hx with e | e
        · exact own x e
        · omega
      obtain ⟨cb', e', hb', plT, _, stx⟩ := owc.at (i := c) (by rw [css_len, List.length_set]; exact hcL)
      rw [hcb] at e'; cases e'
      obtain ⟨HF, stF, owF, kF⟩ := stx 3 (by decide) u' owT.one.1 owT.one.2
      have uF : Us p s T0 h0 nx0 b2 b HF nxT nv cv mv .nils := uT.other (Nat.le_refl _) (fun q => q = cb) (fun q _ hq => kF q hq) (fun q hq => by subst hq; exact ⟨hcb0, hcbb, hcb2⟩)
      have eS : (css (L.set c ((L.getD c ⟨.empty, 0, 0, .nils, []⟩).wb u B))).set c ((css (L.set c ((L.getD c ⟨.empty, 0, 0, .nils, []⟩).wb u B)))[c]'(by rw [css_len, List.length_set]; exact hcL) |>.set 3 u') = css (L.set c ((L.getD c ⟨.empty, 0, 0, .nils, []⟩).wb u' (B ++ [((j : Int), (j : Int))]))) := by
        rw [css_at, List.getElem_set_self, css_set, List.set_set, css_set]
        rfl
      rw [eS] at owF
      simp (maxSteps := 4000000) (maxDischargeDepth := 6) [↓step_none, ↓step_t, ↓step_f, ↓step_nt, ↓step_nf, ↓op_load, ↓op_store, ↓op_slice, ↓op_app, ↓op_islc, ↓P_skip, ↓P_exit, ↓P_ret, ↓P_seq, ↓P_cond, ↓P_blk, ↓P_reg, ↓P_draw, ↓P_nil, ↓P_cons, condP_t, condP_f, dum_ab, stepR, want_none, want_some, opRun, ev_t, ev_c, put_none, put_some, resAll, res_tmp, res_cell, oneOf, minI, maxI, min2A, max2A, mn2, mx2, mx3, rdBlk, wrBlk, newBlk, partA, abin, ibin, isShift, AV.cells, AV.one, lay, sub, fillA, lenA, toN, allApart, apartFrom, Nat.testBit, Mem.blk_set_same, Mem.blk_set_ne, Mem.set_set, bit_zero, bit_self, lowBits_or, lowBits_zero, len_setT, sl_same, sl_ne, len_frame, sl_frame,↓op_len, lenOp_slc, lenOp_nils, ↓Post.some, ↓Post_bind, ↓Post_ret, ↓Post_draw, ↓PostL_nil, ↓PostL_cons, Post_fail, ofOpt_some, ofOpt_none, eA_b, eA_i, eA_s, eA_nn, eA_np, eA_pn, eA_lnn, eA_lnp, eA_lpn, eA_i2, eA_i3, blt_dec, Nat.add_assoc, keeps_refl, keeps_at, keeps_up, new_one, and_pow, bit_hi, lowBits_pow, ble_dec, fr_refl, fr_at, fr_up, fr_p, dum_ab, reps, hlen, g0, g2, g3, g7, g108, g109, plT, stF, ci]
      refine ⟨⟨⟨bit_and (by omega), bit_and (by omega)⟩, ap3 (wT b (no b hbn)) (new_lo (by omega))⟩, ?_⟩
      refine Round.nor (m' := 6 - (j + 1)) (by omega) ⟨j + 1, u', B ++ [((j : Int), (j : Int))], rfl, by omega, ?_, ?_, ?_, ?_, ?_, ?_, ?_, uF, owF, ?_, ownT, bk.more cj, by omega, fun q hq hqp hqc => ?_, ?_⟩
      any_goals simp [len_setT, sl_same, sl_ne, hlen, g0, g2, g3, g7, g108]
      · rw [bnds_app]
        exact owT.keep (Nat.le_refl _) fun x hx => kF x (by have := ownT x hx; omega)
      · rw [kF q hqc, kT q (by omega) (no q hq)]
        exact kc1 q hq hqp hqc
      · refine ⟨fun q hq hp => ?_, fun q hq hp => ?_⟩
        · have z2 : ∀ lg', lowBits lg (bit lg' cb) &&& 2 ^ q = 0 := fun lg' => low_z (bit_and (by omega))
          have zT := low_z (lg := lg) (wT q (no q (by omega)))
          simp only [Nat.and_or_distrib_right, mk.w q hq hp, M1.w q hq hp, z2, zT, Nat.or_zero]
        · have z2 : ∀ lg', lowBits lg (bit lg' cb) &&& 2 ^ q = 0 := fun lg' => low_z (bit_and (by omega))
          have z3 : ∀ lg', lowBits lg (bit lg' b) &&& 2 ^ q = 0 := fun lg' => low_z (bit_and (by omega))
          have zT := low_z (lg := lg) (tT q (no q (by omega)) (by omega))
          simp only [Nat.and_or_distrib_right, mk.t q hq hp, M1.t q hq hp, z2, z3, zT, Nat.or_zero]
    · have cr' : ¬ (0 : Int) < (r1 : Int) := by omega
      simp (maxSteps := 4000000) (maxDischargeDepth := 6) [↓step_none, ↓step_t, ↓step_f, ↓step_nt, ↓step_nf, ↓op_load, ↓op_store, ↓op_slice, ↓op_app, ↓op_islc, ↓P_skip, ↓P_exit, ↓P_ret, ↓P_seq, ↓P_cond, ↓P_blk, ↓P_reg, ↓P_draw, ↓P_nil, ↓P_cons, condP_t, condP_f, dum_ab, stepR, want_none, want_some, opRun, ev_t, ev_c, put_none, put_some, resAll, res_tmp, res_cell, oneOf, minI, maxI, min2A, max2A, mn2, mx2, mx3, rdBlk, wrBlk, newBlk, partA, abin, ibin, isShift, AV.cells, AV.one, lay, sub, fillA, lenA, toN, allApart, apartFrom, Nat.testBit, Mem.blk_set_same, Mem.blk_set_ne, Mem.set_set, bit_zero, bit_self, lowBits_or, lowBits_zero, len_setT, sl_same, sl_ne, len_frame, sl_frame,↓op_len, lenOp_slc, lenOp_nils, ↓Post.some, ↓Post_bind, ↓Post_ret, ↓Post_draw, ↓PostL_nil, ↓PostL_cons, Post_fail, ofOpt_some, ofOpt_none, eA_b, eA_i, eA_s, eA_nn, eA_np, eA_pn, eA_lnn, eA_lnp, eA_lpn, eA_i2, eA_i3, blt_dec, Nat.add_assoc, keeps_refl, keeps_at, keeps_up, new_one, and_pow, bit_hi, lowBits_pow, ble_dec, fr_refl, fr_at, fr_up, fr_p, dum_ab, reps, hlen, g0, g2, g3, g7, g108, g109, cr, cr', ci]
      refine Round.nor (m' := 6 - (j + 1)) (by omega) ⟨j + 1, u, B, rfl, by omega, ?_, ?_, ?_, ?_, ?_, ?_, ?_, u1, ow1, uo1, own, bk.up, by omega, kc1, mk.or M1⟩ <;> simp [len_setT, sl_same, sl_ne, hlen, g0, g2, g3, g7, g108]
  · have cj' : ¬ (j : Int) < 6 := by omega
    simp (maxSteps := 4000000) (maxDischargeDepth := 6) [↓step_none, ↓step_t, ↓step_f, ↓step_nt, ↓step_nf, ↓op_load, ↓op_store, ↓op_slice, ↓op_app, ↓op_islc, ↓P_skip, ↓P_exit, ↓P_ret, ↓P_seq, ↓P_cond, ↓P_blk, ↓P_reg, ↓P_draw, ↓P_nil, ↓P_cons, condP_t, condP_f, dum_ab, stepR, want_none, want_some, opRun, ev_t, ev_c, put_none, put_some, resAll, res_tmp, res_cell, oneOf, minI, maxI, min2A, max2A, mn2, mx2, mx3, rdBlk, wrBlk, newBlk, partA, abin, ibin, isShift, AV.cells, AV.one, lay, sub, fillA, lenA, toN, allApart, apartFrom, Nat.testBit, Mem.blk_set_same, Mem.blk_set_ne, Mem.set_set, bit_zero, bit_self, lowBits_or, lowBits_zero, len_setT, sl_same, sl_ne, len_frame, sl_frame,↓op_len, lenOp_slc, lenOp_nils, ↓Post.some, ↓Post_bind, ↓Post_ret, ↓Post_draw, ↓PostL_nil, ↓PostL_cons, Post_fail, ofOpt_some, ofOpt_none, eA_b, eA_i, eA_s, eA_nn, eA_np, eA_pn, eA_lnn, eA_lnp, eA_lpn, eA_i2, eA_i3, blt_dec, Nat.add_assoc, keeps_refl, keeps_at, keeps_up, new_one, and_pow, bit_hi, lowBits_pow, ble_dec, fr_refl, fr_at, fr_up, fr_p, dum_ab, reps, L9_2b, hlen, g0, g2, g3, g7, g108, g109, cj, cj']
    obtain rfl : j = 6 := by omega
    refine Round.exit (R := U2R p s T0 h0 nx0 b2 b nv cv mv L c cb hc nxc) ⟨rfl, u, B, ?_, ?_, ?_, ?_, ?_, g, ow, uo, own, bk, hnc, kc, mk⟩ <;> simp [len_setT, sl_same, sl_ne, hlen, g0, g2, g3, g7]
/-- Binds are there for the classes below c. -/
structure KlB (L0 L : List C) (h : Mem) (nx c : Nat) : Prop where
  n : L.length = L0.length
  e : ∀ i (h1 : i < L.length) (h2 : i < L0.length), L[i].name = L0[i].name ∧ L[i].sup = L0[i].sup ∧ L[i].fld = L0[i].fld ∧ (c ≤ i → L[i] = L0[i])
  b : ∀ x ∈ L, RD 2 x.bv h nx (bnds x.B) ∧ bindsV x.B 6 9 = true ∧ x.B.length ≤ 6
def U3I (p : Nat) (s : AV) (T0 : List Int) (h0 : Mem) (nx0 b2 b : Nat) (nv cv mv : AV) (L0 : List C) (cb : Nat) (hA : Mem) (nxA : Nat) (m : Nat) (ts : List AV) (h : Mem) (nx tc wr : Nat) : Prop := ∃ (c : Nat) (L : List C), m = L0.length - c ∧ 1 ≤ c ∧ c ≤ L0.length ∧ ts.length = 197 ∧ sl ts 0 = .ptr p 0 ∧ sl ts 2 = .ptr b2 0 ∧ sl ts 3 = .ptr b 0 ∧ sl ts 7 = .int .i64 c ∧ Us p s T0 h0 nx0 b2 b h nx nv cv mv .nils ∧ OW 4 cv h nx (css L) ∧ KlB L0 L h nx c ∧ (∀ x ∈ L, ∀ q, bid x.bv = some q → nxA ≤ q) ∧ nxA ≤ nx ∧ (∀ q, q < nxA → ¬ q = p → ¬ q = cb → h.blk q = hA.blk q) ∧ Mk p s nx0 tc wr
def U3R (p : Nat) (s : AV) (T0 : List Int) (h0 : Mem) (nx0 b2 b : Nat) (nv cv mv : AV) (L0 : List C) (cb : Nat) (hA : Mem) (nxA : Nat) (e : Ex) (ts : List AV) (h : Mem) (nx tc wr : Nat) : Prop := e = .exit 4 ∧ ∃ (L : List C), ts.length = 197 ∧ sl ts 0 = .ptr p 0 ∧ sl ts 2 = .ptr b2 0 ∧ sl ts 3 = .ptr b 0 ∧ Us p s T0 h0 nx0 b2 b h nx nv cv mv .nils ∧ OW 4 cv h nx (css L) ∧ KlB L0 L h nx L0.length ∧ (∀ x ∈ L, ∀ q, bid x.bv = some q → nxA ≤ q) ∧ nxA ≤ nx ∧ (∀ q, q < nxA → ¬ q = p → ¬ q = cb → h.blk q = hA.blk q) ∧ Mk p s nx0 tc wr
set_option maxHeartbeats 16000000 in
theorem u3_round {p : Nat} {s : AV} {T0 : List Int} {h0 : Mem} {nx0 b2 b : Nat} {nv cv mv : AV} {L0 : List C} {cb : Nat} (hL5 : L0.length ≤ 5) (hcb : bid cv = some cb) (hcb0 : nx0 ≤ cb) (hcbb : cb ≠ b) (hcb2 : cb ≠ b2) (z : ∀ i (h : i < L0.length), 1 ≤ i → L0[i].bv = .nils ∧ L0[i].B = []) {hA : Mem} {nxA : Nat} (hcbn : cb < nxA) (hbn : b < nxA) (lg : Nat) (hlg : lg ≤ nx0) (m : Nat) (ts : List AV) (h : Mem) (nx tc wr : Nat) (hi : U3I p s T0 h0 nx0 b2 b nv cv mv L0 cb hA nxA m ts h nx tc wr) :
    Post (xC T 260 L9_3b ts h nx lg) fun v' h' nx' tc' wr' => Round (U3I p s T0 h0 nx0 b2 b nv cv mv L0 cb hA nxA) (U3R p s T0 h0 nx0 b2 b nv cv mv L0 cb hA nxA) m v' h' nx' (tc ||| tc') (wr ||| wr') := by
  obtain ⟨c, L, rfl, hc1, hcL, hlen, g0, g2, g3, g7, g, ow, kb, bo, hnA, kA, mk⟩ := hi
  have hb2 := g.bn
  have hbb := g.b2b
  have hbl := g.bl
  have hp := g.hp
  have hn := kb.n
  have ci : IntKind.i64.wrap ((c : Int) + 1) = ((c + 1 : Nat) : Int) := by rw [IntKind.wrap_i64]; omega
  have lb := fun lg => ld_at g.blk g.bl (o := 1) (v := cv) rfl lg
  have lc := ow.lenOp
  rw [css_len, hn] at lc
  by_cases cc : c < L0.length
  · have cc' : (c : Int) < (L0.length : Int) := by omega
    simp (maxSteps := 4000000) (maxDischargeDepth := 6) [↓step_none, ↓step_t, ↓step_f, ↓step_nt, ↓step_nf, ↓op_load, ↓op_store, ↓op_slice, ↓op_app, ↓op_islc, ↓P_skip, ↓P_exit, ↓P_ret, ↓P_seq, ↓P_cond, ↓P_blk, ↓P_reg, ↓P_draw, ↓P_nil, ↓P_cons, condP_t, condP_f, dum_ab, stepR, want_none, want_some, opRun, ev_t, ev_c, put_none, put_some, resAll, res_tmp, res_cell, oneOf, minI, maxI, min2A, max2A, mn2, mx2, mx3, rdBlk, wrBlk, newBlk, partA, abin, ibin, isShift, AV.cells, AV.one, lay, sub, fillA, lenA, toN, allApart, apartFrom, Nat.testBit, Mem.blk_set_same, Mem.blk_set_ne, Mem.set_set, bit_zero, bit_self, lowBits_or, lowBits_zero, len_setT, sl_same, sl_ne, len_frame, sl_frame,↓op_len, lenOp_slc, lenOp_nils, ↓Post.some, ↓Post_bind, ↓Post_ret, ↓Post_draw, ↓PostL_nil, ↓PostL_cons, Post_fail, ofOpt_some, ofOpt_none, eA_b, eA_i, eA_s, eA_nn, eA_np, eA_pn, eA_lnn, eA_lnp, eA_lpn, eA_i2, eA_i3, blt_dec, Nat.add_assoc, keeps_refl, keeps_at, keeps_up, new_one, and_pow, bit_hi, lowBits_pow, ble_dec, fr_refl, fr_at, fr_up, fr_p, dum_ab, reps, L9_3b, hlen, g0, g2, g3, g7, lb, lc, cc, cc']
    refine (nms_tp p s h nx).post nx (Nat.le_refl _) (by omega) (by omega) ?_
    rintro _ h1 nx1 tc1 wr1 ⟨⟨rfl, kk1⟩, _⟩ n1 _ m1 _
    have u1 := g.keeps n1 kk1
    have ow1 := ow.keeps n1 kk1
    simp (maxSteps := 4000000) (maxDischargeDepth := 6) [↓step_none, ↓step_t, ↓step_f, ↓step_nt, ↓step_nf, ↓op_load, ↓op_store, ↓op_slice, ↓op_app, ↓op_islc, ↓P_skip, ↓P_exit, ↓P_ret, ↓P_seq, ↓P_cond, ↓P_blk, ↓P_reg, ↓P_draw, ↓P_nil, ↓P_cons, condP_t, condP_f, dum_ab, stepR, want_none, want_some, opRun, ev_t, ev_c, put_none, put_some, resAll, res_tmp, res_cell, oneOf, minI, maxI, min2A, max2A, mn2, mx2, mx3, rdBlk, wrBlk, newBlk, partA, abin, ibin, isShift, AV.cells, AV.one, lay, sub, fillA, lenA, toN, allApart, apartFrom, Nat.testBit, Mem.blk_set_same, Mem.blk_set_ne, Mem.set_set, bit_zero, bit_self, lowBits_or, lowBits_zero, len_setT, sl_same, sl_ne, len_frame, sl_frame,↓op_len, lenOp_slc, lenOp_nils, ↓Post.some, ↓Post_bind, ↓Post_ret, ↓Post_draw, ↓PostL_nil, ↓PostL_cons, Post_fail, ofOpt_some, ofOpt_none, eA_b, eA_i, eA_s, eA_nn, eA_np, eA_pn, eA_lnn, eA_lnp, eA_lpn, eA_i2, eA_i3, blt_dec, Nat.add_assoc, keeps_refl, keeps_at, keeps_up, new_one, and_pow, bit_hi, lowBits_pow, ble_dec, fr_refl, fr_at, fr_up, fr_p, dum_ab, reps, hlen, g0, g2, g3, g7, L9_2]
    have hcl : c < L.length := by omega
    have gd : L.getD c ⟨.empty, 0, 0, .nils, []⟩ = L[c] := by rw [List.getD_eq_getElem?_getD, List.getElem?_eq_getElem hcl]; rfl
    have ez := (kb.e c hcl cc).2.2.2 (Nat.le_refl _)
    obtain ⟨z1, z2⟩ := z c cc hc1
    have same : L.set c ((L.getD c ⟨.empty, 0, 0, .nils, []⟩).wb .nils []) = L := by
      rw [gd]
      have : L[c].wb .nils [] = L[c] := by
        rw [ez]
        unfold C.wb
        rw [← z1, ← z2]
      rw [this, List.set_getElem_self]
    refine Post.loop (u2_round (p := p) (s := s) (T0 := T0) (h0 := h0) (nx0 := nx0) (b2 := b2) (b := b) (nv := nv) (cv := cv) (mv := mv) (L := L) (c := c) (cb := cb) hcl hcb hcb0 hcbb hcb2 (hc := h1) (nxc := nx1) (by omega) (by omega) lg hlg) 6 ⟨0, .nils, [], rfl, by omega, ?_, ?_, ?_, ?_, ?_, ?_, ?_, u1, by rw [same]; exact ow1, OW.nil .., (fun x hx => by cases hx), BOk.nil, Nat.le_refl _, fun q _ _ _ => rfl, Mk.z ..⟩ ?_ ?_
    any_goals simp [len_setT, sl_same, sl_ne, hlen, g0, g2, g3, g7]
    rintro e ts2 h2 nx2 tc2 wr2 ⟨rfl, u, B, hlen2, a0, a2, a3, a7, g2', ow2, uo, uown, bk, hn2, kc2, mk2⟩
    rw [gd] at ow2
    simp (maxSteps := 4000000) (maxDischargeDepth := 6) [↓step_none, ↓step_t, ↓step_f, ↓step_nt, ↓step_nf, ↓op_load, ↓op_store, ↓op_slice, ↓op_app, ↓op_islc, ↓P_skip, ↓P_exit, ↓P_ret, ↓P_seq, ↓P_cond, ↓P_blk, ↓P_reg, ↓P_draw, ↓P_nil, ↓P_cons, condP_t, condP_f, dum_ab, stepR, want_none, want_some, opRun, ev_t, ev_c, put_none, put_some, resAll, res_tmp, res_cell, oneOf, minI, maxI, min2A, max2A, mn2, mx2, mx3, rdBlk, wrBlk, newBlk, partA, abin, ibin, isShift, AV.cells, AV.one, lay, sub, fillA, lenA, toN, allApart, apartFrom, Nat.testBit, Mem.blk_set_same, Mem.blk_set_ne, Mem.set_set, bit_zero, bit_self, lowBits_or, lowBits_zero, len_setT, sl_same, sl_ne, len_frame, sl_frame,↓op_len, lenOp_slc, lenOp_nils, ↓Post.some, ↓Post_bind, ↓Post_ret, ↓Post_draw, ↓PostL_nil, ↓PostL_cons, Post_fail, ofOpt_some, ofOpt_none, eA_b, eA_i, eA_s, eA_nn, eA_np, eA_pn, eA_lnn, eA_lnp, eA_lpn, eA_i2, eA_i3, blt_dec, Nat.add_assoc, keeps_refl, keeps_at, keeps_up, new_one, and_pow, bit_hi, lowBits_pow, ble_dec, fr_refl, fr_at, fr_up, fr_p, dum_ab, reps, hlen2, a7, ci]
    have bid_lt : ∀ x ∈ L, ∀ q, bid x.bv = some q → q < nx1 ∧ ¬ q = p ∧ ¬ q = cb := fun x hx q hq => by
      have h1 := bo x hx q hq
      have h2 := ((kb.b x hx).1).lt hq
      omega
    refine Round.nor (m' := L0.length - (c + 1)) (by omega) ⟨c + 1, L.set c (L[c].wb u B), rfl, by omega, by omega, ?_, ?_, ?_, ?_, ?_, g2', ow2, ⟨by rw [List.length_set]; exact hn, fun i h1 h2 => ?_, fun x hx => ?_⟩, fun x hx q hq => ?_, by omega, fun q hq hqp hqc => ?_, by have := mk.or ((Mk.b (lg := lg) (show nx0 ≤ b by omega)).or ((m1.mono (show nx0 ≤ nx by omega)).or mk2)); rwa [Nat.zero_or] at this⟩
    any_goals simp [len_setT, sl_same, sl_ne, hlen2, a0, a2, a3]
    · by_cases e : i = c
      · subst e
        have q := kb.e i hcl h2
        rw [List.getElem_set_self]
        exact ⟨q.1, q.2.1, q.2.2.1, fun h => by omega⟩
      · rw [List.getElem_set_ne (Ne.symm e)]
        have q := kb.e i (by rw [List.length_set] at h1; exact h1) h2
        exact ⟨q.1, q.2.1, q.2.2.1, fun h => q.2.2.2 (by omega)⟩
    · rcases List.mem_or_eq_of_mem_set hx with hx | rfl
      · obtain ⟨r1, r2, r3⟩ := kb.b x hx
        refine ⟨r1.keep (by omega) fun q hq _ => ?_, r2, r3⟩
        have := bid_lt x hx q hq
        exact (kc2 q this.1 this.2.1 this.2.2).trans (kk1 q (r1.lt hq))
      · exact ⟨uo.rd (by decide), bk.bindsV (by omega), bk.n⟩
    · rcases List.mem_or_eq_of_mem_set hx with hx | rfl
      · exact bo x hx q hq
      · have := uown q hq; omega
    · rw [kc2 q (by omega) hqp hqc, kk1 q (by omega)]
      exact kA q hq hqp hqc
  · have cc' : ¬ (c : Int) < (L0.length : Int) := by omega
    simp (maxSteps := 4000000) (maxDischargeDepth := 6) [↓step_none, ↓step_t, ↓step_f, ↓step_nt, ↓step_nf, ↓op_load, ↓op_store, ↓op_slice, ↓op_app, ↓op_islc, ↓P_skip, ↓P_exit, ↓P_ret, ↓P_seq, ↓P_cond, ↓P_blk, ↓P_reg, ↓P_draw, ↓P_nil, ↓P_cons, condP_t, condP_f, dum_ab, stepR, want_none, want_some, opRun, ev_t, ev_c, put_none, put_some, resAll, res_tmp, res_cell, oneOf, minI, maxI, min2A, max2A, mn2, mx2, mx3, rdBlk, wrBlk, newBlk, partA, abin, ibin, isShift, AV.cells, AV.one, lay, sub, fillA, lenA, toN, allApart, apartFrom, Nat.testBit, Mem.blk_set_same, Mem.blk_set_ne, Mem.set_set, bit_zero, bit_self, lowBits_or, lowBits_zero, len_setT, sl_same, sl_ne, len_frame, sl_frame,↓op_len, lenOp_slc, lenOp_nils, ↓Post.some, ↓Post_bind, ↓Post_ret, ↓Post_draw, ↓PostL_nil, ↓PostL_cons, Post_fail, ofOpt_some, ofOpt_none, eA_b, eA_i, eA_s, eA_nn, eA_np, eA_pn, eA_lnn, eA_lnp, eA_lpn, eA_i2, eA_i3, blt_dec, Nat.add_assoc, keeps_refl, keeps_at, keeps_up, new_one, and_pow, bit_hi, lowBits_pow, ble_dec, fr_refl, fr_at, fr_up, fr_p, dum_ab, reps, L9_3b, hlen, g0, g2, g3, g7, lb, lc, cc, cc']
    obtain rfl : c = L0.length := by omega
    have mk' := mk.or (Mk.b (lg := lg) (show nx0 ≤ b by omega))
    rw [Nat.or_zero] at mk'
    refine Round.exit (R := U3R p s T0 h0 nx0 b2 b nv cv mv L0 cb hA nxA) ⟨rfl, L, ?_, ?_, ?_, ?_, g, ow, kb, bo, hnA, kA, mk'⟩ <;> simp [len_setT, sl_same, sl_ne, hlen, g0, g2, g3]
end Go.Proofs.YtlbjdkhpabpmiaaT
