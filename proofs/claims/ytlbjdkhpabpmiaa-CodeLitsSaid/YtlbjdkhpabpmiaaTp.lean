/- The tape: numbers that are read; instructions that are appended. -/
import Derived.Test.YtlbjdkhpabpmiaaCb
namespace Go.Proofs.YtlbjdkhpabpmiaaT
open Go Go.Proofs.YtlbjdkhpabpmiaaE Go.Proofs.YtlbjdkhpabpmiaaB
set_option linter.unusedSimpArgs false
set_option linter.unusedVariables false
attribute [local congr] Post_cg PostL_cg condP_cg

theorem within_ex (x lo hi : Int) (h1 : -100000 ≤ lo) (h2 : lo ≤ hi) (h3 : hi ≤ 2000000000) : ∃ r, lo ≤ r ∧ r ≤ hi ∧ (lo ≤ x → x ≤ hi → r = x) ∧ ∀ (n : Nat) (h : Mem) (nx lg : Nat), xF T (n + 20) 13 [.int .i64 x, .int .i64 lo, .int .i64 hi] h nx lg = some ⟨.int .i64 r, h, nx, 0, 0⟩ := by
  have w1 : IntKind.i64.wrap (hi - lo) = hi - lo := by rw [IntKind.wrap_i64]; omega
  have w2 : IntKind.i64.wrap (hi - lo + 1) = hi - lo + 1 := by rw [IntKind.wrap_i64]; omega
  have w0 : ¬ hi - lo + 1 = 0 := by omega
  have t1 := Int.tmod_lt_of_pos x (show (0 : Int) < hi - lo + 1 by omega)
  have t2 : -(hi - lo + 1) < x.tmod (hi - lo + 1) := by
    have := Int.lt_tmod_of_pos x (show (0 : Int) < hi - lo + 1 by omega)
    omega
  have w3 : IntKind.i64.wrap (x.tmod (hi - lo + 1)) = x.tmod (hi - lo + 1) := by rw [IntKind.wrap_i64]; omega
  by_cases c : lo ≤ x ∧ x ≤ hi
  · obtain ⟨c1, c2⟩ := c
    refine ⟨x, c1, c2, fun _ _ => rfl, fun n h nx lg => ?_⟩
    rw [xF_fr T13]; apply eq_of_Post
    simp [↓P_skip, ↓P_exit, ↓P_ret, ↓P_seq, ↓P_cond, ↓P_blk, ↓P_reg, ↓P_draw, ↓P_nil, ↓P_cons, condP_t, condP_f, dum_ab, stepR, want_none, want_some, opRun, ev_t, ev_c, put_none, put_some, resAll, res_tmp, res_cell, oneOf, minI, maxI, min2A, max2A, mn2, mx2, mx3, rdBlk, wrBlk, newBlk, partA, abin, ibin, isShift, AV.cells, AV.one, lay, sub, fillA, lenA, toN, allApart, apartFrom, Nat.testBit, Mem.blk_set_same, Mem.blk_set_ne, Mem.set_set, bit_zero, bit_self, lowBits_or, lowBits_zero, len_setT, sl_same, sl_ne, len_frame, sl_frame,↓op_len, lenOp_slc, lenOp_nils, ↓Post.some, ↓Post_bind, ↓Post_ret, ↓Post_draw, ↓PostL_nil, ↓PostL_cons, Post_fail, ofOpt_some, ofOpt_none, eA_b, eA_i, eA_s, eA_nn, eA_np, eA_pn, eA_lnn, eA_lnp, eA_lpn, eA_i2, eA_i3, blt_dec, Nat.add_assoc, keeps_refl, keeps_at, keeps_up, new_one, and_pow, bit_hi, lowBits_pow, ble_dec, fr_refl, fr_at, fr_up, fr_p, dum_ab, F13, c1, c2]
  · generalize hm : x.tmod (hi - lo + 1) = m at *
    by_cases c3 : m < 0
    · have w4 : IntKind.i64.wrap (m + hi) = m + hi := by rw [IntKind.wrap_i64]; omega
      have w5 : IntKind.i64.wrap (m + hi - lo) = m + hi - lo := by rw [IntKind.wrap_i64]; omega
      have w6 : IntKind.i64.wrap (m + hi - lo + 1) = m + hi - lo + 1 := by rw [IntKind.wrap_i64]; omega
      have w7 : IntKind.i64.wrap (lo + (m + hi - lo + 1)) = lo + (m + hi - lo + 1) := by rw [IntKind.wrap_i64]; omega
      refine ⟨lo + (m + hi - lo + 1), by omega, by omega, fun a b => absurd ⟨a, b⟩ c, fun n h nx lg => ?_⟩
      rw [xF_fr T13]; apply eq_of_Post
      by_cases c1 : lo ≤ x
      · have c2 : ¬ x ≤ hi := fun e => c ⟨c1, e⟩
        simp [↓P_skip, ↓P_exit, ↓P_ret, ↓P_seq, ↓P_cond, ↓P_blk, ↓P_reg, ↓P_draw, ↓P_nil, ↓P_cons, condP_t, condP_f, dum_ab, stepR, want_none, want_some, opRun, ev_t, ev_c, put_none, put_some, resAll, res_tmp, res_cell, oneOf, minI, maxI, min2A, max2A, mn2, mx2, mx3, rdBlk, wrBlk, newBlk, partA, abin, ibin, isShift, AV.cells, AV.one, lay, sub, fillA, lenA, toN, allApart, apartFrom, Nat.testBit, Mem.blk_set_same, Mem.blk_set_ne, Mem.set_set, bit_zero, bit_self, lowBits_or, lowBits_zero, len_setT, sl_same, sl_ne, len_frame, sl_frame,↓op_len, lenOp_slc, lenOp_nils, ↓Post.some, ↓Post_bind, ↓Post_ret, ↓Post_draw, ↓PostL_nil, ↓PostL_cons, Post_fail, ofOpt_some, ofOpt_none, eA_b, eA_i, eA_s, eA_nn, eA_np, eA_pn, eA_lnn, eA_lnp, eA_lpn, eA_i2, eA_i3, blt_dec, Nat.add_assoc, keeps_refl, keeps_at, keeps_up, new_one, and_pow, bit_hi, lowBits_pow, ble_dec, fr_refl, fr_at, fr_up, fr_p, dum_ab, F13, c1, c2, w0, w1, w2, w3, w4, w5, w6, w7, hm, c3]
      · simp [↓P_skip, ↓P_exit, ↓P_ret, ↓P_seq, ↓P_cond, ↓P_blk, ↓P_reg, ↓P_draw, ↓P_nil, ↓P_cons, condP_t, condP_f, dum_ab, stepR, want_none, want_some, opRun, ev_t, ev_c, put_none, put_some, resAll, res_tmp, res_cell, oneOf, minI, maxI, min2A, max2A, mn2, mx2, mx3, rdBlk, wrBlk, newBlk, partA, abin, ibin, isShift, AV.cells, AV.one, lay, sub, fillA, lenA, toN, allApart, apartFrom, Nat.testBit, Mem.blk_set_same, Mem.blk_set_ne, Mem.set_set, bit_zero, bit_self, lowBits_or, lowBits_zero, len_setT, sl_same, sl_ne, len_frame, sl_frame,↓op_len, lenOp_slc, lenOp_nils, ↓Post.some, ↓Post_bind, ↓Post_ret, ↓Post_draw, ↓PostL_nil, ↓PostL_cons, Post_fail, ofOpt_some, ofOpt_none, eA_b, eA_i, eA_s, eA_nn, eA_np, eA_pn, eA_lnn, eA_lnp, eA_lpn, eA_i2, eA_i3, blt_dec, Nat.add_assoc, keeps_refl, keeps_at, keeps_up, new_one, and_pow, bit_hi, lowBits_pow, ble_dec, fr_refl, fr_at, fr_up, fr_p, dum_ab, F13, c1, w0, w1, w2, w3, w4, w5, w6, w7, hm, c3]
    · have w7 : IntKind.i64.wrap (lo + m) = lo + m := by rw [IntKind.wrap_i64]; omega
      refine ⟨lo + m, by omega, by omega, fun a b => absurd ⟨a, b⟩ c, fun n h nx lg => ?_⟩
      rw [xF_fr T13]; apply eq_of_Post
      by_cases c1 : lo ≤ x
      · have c2 : ¬ x ≤ hi := fun e => c ⟨c1, e⟩
        simp [↓P_skip, ↓P_exit, ↓P_ret, ↓P_seq, ↓P_cond, ↓P_blk, ↓P_reg, ↓P_draw, ↓P_nil, ↓P_cons, condP_t, condP_f, dum_ab, stepR, want_none, want_some, opRun, ev_t, ev_c, put_none, put_some, resAll, res_tmp, res_cell, oneOf, minI, maxI, min2A, max2A, mn2, mx2, mx3, rdBlk, wrBlk, newBlk, partA, abin, ibin, isShift, AV.cells, AV.one, lay, sub, fillA, lenA, toN, allApart, apartFrom, Nat.testBit, Mem.blk_set_same, Mem.blk_set_ne, Mem.set_set, bit_zero, bit_self, lowBits_or, lowBits_zero, len_setT, sl_same, sl_ne, len_frame, sl_frame,↓op_len, lenOp_slc, lenOp_nils, ↓Post.some, ↓Post_bind, ↓Post_ret, ↓Post_draw, ↓PostL_nil, ↓PostL_cons, Post_fail, ofOpt_some, ofOpt_none, eA_b, eA_i, eA_s, eA_nn, eA_np, eA_pn, eA_lnn, eA_lnp, eA_lpn, eA_i2, eA_i3, blt_dec, Nat.add_assoc, keeps_refl, keeps_at, keeps_up, new_one, and_pow, bit_hi, lowBits_pow, ble_dec, fr_refl, fr_at, fr_up, fr_p, dum_ab, F13, c1, c2, w0, w1, w2, w3, w7, hm, c3]
      · simp [↓P_skip, ↓P_exit, ↓P_ret, ↓P_seq, ↓P_cond, ↓P_blk, ↓P_reg, ↓P_draw, ↓P_nil, ↓P_cons, condP_t, condP_f, dum_ab, stepR, want_none, want_some, opRun, ev_t, ev_c, put_none, put_some, resAll, res_tmp, res_cell, oneOf, minI, maxI, min2A, max2A, mn2, mx2, mx3, rdBlk, wrBlk, newBlk, partA, abin, ibin, isShift, AV.cells, AV.one, lay, sub, fillA, lenA, toN, allApart, apartFrom, Nat.testBit, Mem.blk_set_same, Mem.blk_set_ne, Mem.set_set, bit_zero, bit_self, lowBits_or, lowBits_zero, len_setT, sl_same, sl_ne, len_frame, sl_frame,↓op_len, lenOp_slc, lenOp_nils, ↓Post.some, ↓Post_bind, ↓Post_ret, ↓Post_draw, ↓PostL_nil, ↓PostL_cons, Post_fail, ofOpt_some, ofOpt_none, eA_b, eA_i, eA_s, eA_nn, eA_np, eA_pn, eA_lnn, eA_lnp, eA_lpn, eA_i2, eA_i3, blt_dec, Nat.add_assoc, keeps_refl, keeps_at, keeps_up, new_one, and_pow, bit_hi, lowBits_pow, ble_dec, fr_refl, fr_at, fr_up, fr_p, dum_ab, F13, c1, w0, w1, w2, w3, w7, hm, c3]

/-- A tape. -/
structure TP (h : Mem) (nx p : Nat) (s : AV) (L : List Int) : Prop where
  hp : p < nx
  blk : ∃ a : Nat, a ≤ L.length ∧ h.blk p = some ⟨32, 2, true, false, [s, .int .i64 a]⟩
  row : RD 1 s h nx (i64s L)
  ne : bid s ≠ some p
  len : L.length ≤ big
theorem TP.keeps {h h' : Mem} {nx nx' p : Nat} {s : AV} {L : List Int} (t : TP h nx p s L) (hn : nx ≤ nx') (e : ∀ q, q < nx → h'.blk q = h.blk q) : TP h' nx' p s L := by
  obtain ⟨a, ha, hb⟩ := t.blk
  exact ⟨by have := t.hp; omega, ⟨a, ha, (e p t.hp).trans hb⟩, t.row.keeps hn e, t.ne, t.len⟩
theorem TP.keep {h h' : Mem} {nx nx' p : Nat} {s : AV} {L : List Int} (t : TP h nx p s L) (hn : nx ≤ nx') (e : ∀ q, q < nx → q = p ∨ bid s = some q → h'.blk q = h.blk q) : TP h' nx' p s L := by
  obtain ⟨a, ha, hb⟩ := t.blk
  exact ⟨by have := t.hp; omega, ⟨a, ha, (e p t.hp (.inl rfl)).trans hb⟩, t.row.keep hn fun b hb hl => e b hl (.inr hb), t.ne, t.len⟩
/-- A call that may write some blocks, and may touch some. -/
def FxC (d f : Nat) (args : List AV) (h : Mem) (nx : Nat) (X Y : Nat → Prop) (Q : AV → Mem → Nat → Prop) : Prop := ∀ lg, lg ≤ nx → Post (xF T d f args h nx lg) fun v h' nx' tc wr => Q v h' nx' ∧ nx ≤ nx' ∧ (∀ q, q < nx → ¬ X q → h'.blk q = h.blk q) ∧ (∀ q, q < nx → ¬ X q → wr &&& 2 ^ q = 0) ∧ (∀ q, q < nx → ¬ Y q → tc &&& 2 ^ q = 0)
theorem FxC.post {d f : Nat} {args : List AV} {h : Mem} {nx : Nat} {X Y : Nat → Prop} {Q : AV → Mem → Nat → Prop} (s : FxC d f args h nx X Y Q) {n lg : Nat} (hn : d ≤ n) (hl : lg ≤ nx) {R : AV → Mem → Nat → Nat → Nat → Prop}
    (k : ∀ v h' nx' tc wr, Q v h' nx' → nx ≤ nx' → (∀ q, q < nx → ¬ X q → h'.blk q = h.blk q) → (∀ q, q < nx → ¬ X q → wr &&& 2 ^ q = 0) → (∀ q, q < nx → ¬ Y q → tc &&& 2 ^ q = 0) → R v h' nx' tc wr) : Post (xF T n f args h nx lg) R :=
  Post_up hn ((s lg hl).mono fun v h' nx' tc wr ⟨a, b, c, d, e⟩ => k v h' nx' tc wr a b c d e)
theorem FxC.postL {d f : Nat} {args : List AV} {h : Mem} {nx : Nat} {X Y : Nat → Prop} {Q : AV → Mem → Nat → Prop} (s : FxC d f args h nx X Y Q) {n lg : Nat} (hn : d ≤ n) (hl : lg ≤ nx) {R : AV → Mem → Nat → Nat → Nat → Prop}
    (k : ∀ v h' nx' tc wr, Q v h' nx' → nx ≤ nx' → (∀ q, q < nx → ¬ X q → h'.blk q = h.blk q) → (∀ q, q < nx → ¬ X q → wr &&& 2 ^ q = 0) → (∀ q, q < nx → ¬ Y q → tc &&& 2 ^ q = 0) → (∀ q, lg ≤ q → tc &&& 2 ^ q = 0 ∧ wr &&& 2 ^ q = 0) → R v h' nx' tc wr) : Post (xF T n f args h nx lg) R :=
  Post_up hn ((Post_hi hl (s lg hl)).mono fun v h' nx' tc wr ⟨⟨a, b, c, d, e⟩, f⟩ => k v h' nx' tc wr a b c d e f)
set_option maxHeartbeats 4000000 in
theorem next_fx {h : Mem} {nx p : Nat} {s : AV} {L : List Int} (t : TP h nx p s L) (n : Int) (h1 : 1 ≤ n) (h2 : n ≤ 1000000) : FxC 60 20 [.ptr p 0, .int .i64 n] h nx (fun q => q = p) (fun q => q = p ∨ bid s = some q) fun v h' nx' => ∃ r : Nat, v = .int .i64 r ∧ (r : Int) < n ∧ TP h' nx' p s L := by
  intro lg hlg
  obtain ⟨a, ha, hb⟩ := t.blk
  have hp := t.hp
  have ls := t.row.lenOp
  have hl := t.len
  rw [i64s_len] at ls
  have l0 := fun lg => ld_at hb hp (o := 0) (v := s) rfl lg
  have l1 := fun lg => ld_at hb hp (o := 1) (v := .int .i64 a) rfl lg
  have c1 : ¬ n < 1 := by omega
  rw [xF_fr T20]
  have zz : ∀ q, q < nx → ¬ (q = p ∨ bid s = some q) → bit lg p &&& 2 ^ q = 0 := fun q _ hq => bit_and fun e => hq (.inl e)
  have lz : ∀ q, q < nx → ¬ (q = p ∨ bid s = some q) → lowBits lg (2 ^ p) &&& 2 ^ q = 0 := fun q _ hq => low_z (and_pow fun e => hq (.inl e.symm))
  by_cases c : (L.length : Int) ≤ a
  · simp (maxSteps := 4000000) (maxDischargeDepth := 6) [↓step_none, ↓step_t, ↓step_f, ↓step_nt, ↓step_nf, ↓op_load, ↓op_store, ↓op_slice, ↓op_app, ↓op_islc, ↓P_skip, ↓P_exit, ↓P_ret, ↓P_seq, ↓P_cond, ↓P_blk, ↓P_reg, ↓P_draw, ↓P_nil, ↓P_cons, condP_t, condP_f, dum_ab, stepR, want_none, want_some, opRun, ev_t, ev_c, put_none, put_some, resAll, res_tmp, res_cell, oneOf, minI, maxI, min2A, max2A, mn2, mx2, mx3, rdBlk, wrBlk, newBlk, partA, abin, ibin, isShift, AV.cells, AV.one, lay, sub, fillA, lenA, toN, allApart, apartFrom, Nat.testBit, Mem.blk_set_same, Mem.blk_set_ne, Mem.set_set, bit_zero, bit_self, lowBits_or, lowBits_zero, len_setT, sl_same, sl_ne, len_frame, sl_frame,↓op_len, lenOp_slc, lenOp_nils, ↓Post.some, ↓Post_bind, ↓Post_ret, ↓Post_draw, ↓PostL_nil, ↓PostL_cons, Post_fail, ofOpt_some, ofOpt_none, eA_b, eA_i, eA_s, eA_nn, eA_np, eA_pn, eA_lnn, eA_lnp, eA_lpn, eA_i2, eA_i3, blt_dec, Nat.add_assoc, keeps_refl, keeps_at, keeps_up, new_one, and_pow, bit_hi, lowBits_pow, ble_dec, fr_refl, fr_at, fr_up, fr_p, dum_ab, reps, F20, l0, l1, ls, c, hp]
    exact ⟨⟨0, rfl, by omega, t⟩, fun q hq a b => zz q hq fun e => e.elim a b⟩
  · obtain ⟨A1, hA1⟩ : ∃ A1 : Int, A1 = ((a + 1 : Nat) : Int) := ⟨_, rfl⟩
    have w1 : IntKind.i64.wrap ((a : Int) + 1) = A1 := by rw [IntKind.wrap_i64]; unfold big at hl; omega
    have w2 : IntKind.i64.wrap (A1 - 1) = (a : Int) := by rw [IntKind.wrap_i64]; unfold big at hl; omega
    have st := fun lg => st_at hb hp (n := 1) (o := 1) (.int .i64 A1) rfl rfl (by simp) lg
    have e1 : lay [s, AV.int .i64 a] 1 [AV.int .i64 A1] = [s, .int .i64 A1] := rfl
    simp only [AV.cells, e1] at st
    obtain ⟨H, hH⟩ : ∃ H, H = h.set p (some ⟨32, 2, true, false, [s, .int .i64 A1]⟩) := ⟨_, rfl⟩
    rw [← hH] at st
    have hbH : H.blk p = some ⟨32, 2, true, false, [s, .int .i64 A1]⟩ := by rw [hH, Mem.blk_set_same]
    have kH : ∀ q, q ≠ p → H.blk q = h.blk q := fun q hq => by rw [hH, Mem.blk_set_ne _ _ _ _ hq]
    have tH : TP H nx p s L := ⟨hp, ⟨a + 1, by omega, by rw [← hA1]; exact hbH⟩, t.row.keep (Nat.le_refl _) fun b hb _ => kH b fun e => t.ne (e ▸ hb), t.ne, hl⟩
    have m0 := fun lg => ld_at hbH hp (o := 0) (v := s) rfl lg
    have m1 := fun lg => ld_at hbH hp (o := 1) (v := .int .i64 A1) rfl lg
    obtain ⟨b', o, el⟩ := tH.row.el (i := a) (by rw [i64s_len]; omega)
    rw [i64s_at] at el
    have e0 := fun lg => el.fst rfl lg
    have p0 := el.pl
    have hsb := el.bd
    have hbl := el.lt
    obtain ⟨r, r1, r2, _, wi⟩ := within_ex (L[a]'(by omega)) 0 1073741824 (by omega) (by omega) (by omega)
    have wi' : ∀ (n : Nat) (h : Mem) (nx lg : Nat), xF T (n + 20) 13 [.int .i64 (L[a]'(by omega)), .int .i64 0, .int .i64 1073741824] h nx lg = some ⟨.int .i64 r, h, nx, 0, 0⟩ := wi
    have n0 : (n == 0) = false := beq_eq_false_iff_ne.2 (by omega)
    have n0' : ¬ n = 0 := by omega
    have rm := Int.tmod_lt_of_pos r (show (0 : Int) < n by omega)
    have rm0 := Int.tmod_nonneg n r1
    have wr : IntKind.i64.wrap (r.tmod n) = r.tmod n := by rw [IntKind.wrap_i64]; omega
    simp (maxSteps := 4000000) (maxDischargeDepth := 6) [↓step_none, ↓step_t, ↓step_f, ↓step_nt, ↓step_nf, ↓op_load, ↓op_store, ↓op_slice, ↓op_app, ↓op_islc, ↓P_skip, ↓P_exit, ↓P_ret, ↓P_seq, ↓P_cond, ↓P_blk, ↓P_reg, ↓P_draw, ↓P_nil, ↓P_cons, condP_t, condP_f, dum_ab, stepR, want_none, want_some, opRun, ev_t, ev_c, put_none, put_some, resAll, res_tmp, res_cell, oneOf, minI, maxI, min2A, max2A, mn2, mx2, mx3, rdBlk, wrBlk, newBlk, partA, abin, ibin, isShift, AV.cells, AV.one, lay, sub, fillA, lenA, toN, allApart, apartFrom, Nat.testBit, Mem.blk_set_same, Mem.blk_set_ne, Mem.set_set, bit_zero, bit_self, lowBits_or, lowBits_zero, len_setT, sl_same, sl_ne, len_frame, sl_frame,↓op_len, lenOp_slc, lenOp_nils, ↓Post.some, ↓Post_bind, ↓Post_ret, ↓Post_draw, ↓PostL_nil, ↓PostL_cons, Post_fail, ofOpt_some, ofOpt_none, eA_b, eA_i, eA_s, eA_nn, eA_np, eA_pn, eA_lnn, eA_lnp, eA_lpn, eA_i2, eA_i3, blt_dec, Nat.add_assoc, keeps_refl, keeps_at, keeps_up, new_one, and_pow, bit_hi, lowBits_pow, ble_dec, fr_refl, fr_at, fr_up, fr_p, dum_ab, reps, F20, l0, l1, ls, c, hp, c1, w1, w2, st, m0, m1, e0, p0, wi', n0, n0', wr, hbl]
    refine ⟨⟨(r.tmod n).toNat, by omega, by omega, tH⟩, fun q _ hq => kH q hq, fun q _ hq => bit_and hq, fun q hq a b => ?_⟩
    have z1 := bit_and (lg := lg) a
    have z2 : bit lg b' &&& 2 ^ q = 0 := bit_and fun e => b (e ▸ hsb)
    simp only [Nat.and_or_distrib_right, z1, z2, Nat.or_zero]

/-! ### Instructions -/
def u8s (l : List Int) : List (List AV) := l.map fun x => [.int .u8 x]
theorem u8s_len (l : List Int) : (u8s l).length = l.length := by unfold u8s; rw [List.length_map]
theorem u8s_app (l m : List Int) : u8s (l ++ m) = u8s l ++ u8s m := by unfold u8s; rw [List.map_append]
def Ok8 (l : List Int) : Prop := ∀ x ∈ l, 0 ≤ x ∧ x < 256
theorem u8_wrap (x : Int) : 0 ≤ IntKind.u8.wrap x ∧ IntKind.u8.wrap x < 256 := by rw [IntKind.wrap_u8]; omega
/-- Code beside a tape. -/
structure Sp (p : Nat) (s : AV) (L : List Int) (h0 : Mem) (nx0 : Nat) (c0 : AV) (h : Mem) (nx : Nat) (c : AV) (l : List Int) : Prop where
  tp : TP h nx p s L
  ow : OW 1 c h nx (u8s l)
  ok : Ok8 l
  len : l.length ≤ 1000
  cp : bid c ≠ some p
  cs : ∀ b, bid c = some b → bid s ≠ some b
  own : ∀ b, bid c = some b → bid c0 = some b ∨ nx0 ≤ b
  n : nx0 ≤ nx
  k : ∀ q, q < nx0 → q ≠ p → bid c0 ≠ some q → h.blk q = h0.blk q
theorem Sp.keeps {p : Nat} {s : AV} {L : List Int} {h0 : Mem} {nx0 : Nat} {c0 : AV} {h h' : Mem} {nx nx' : Nat} {c : AV} {l : List Int} (g : Sp p s L h0 nx0 c0 h nx c l) (hn : nx ≤ nx') (e : ∀ q, q < nx → h'.blk q = h.blk q) : Sp p s L h0 nx0 c0 h' nx' c l :=
  ⟨g.tp.keeps hn e, g.ow.keeps hn e, g.ok, g.len, g.cp, g.cs, g.own, by have := g.n; omega, fun q hq a b => (e q (by have := g.n; omega)).trans (g.k q hq a b)⟩
theorem Sp.new {p : Nat} {s : AV} {L : List Int} {h0 : Mem} {nx0 : Nat} {c0 : AV} {h : Mem} {nx : Nat} {c : AV} {l : List Int} (g : Sp p s L h0 nx0 c0 h nx c l) (K : Option Blk) : Sp p s L h0 nx0 c0 (h.set nx K) (nx + 1) c l :=
  g.keeps (by omega) fun q hq => Mem.blk_set_ne _ _ _ _ (by omega)
theorem next_sp {p : Nat} {s : AV} {L : List Int} {h0 : Mem} {nx0 : Nat} {c0 : AV} {h : Mem} {nx : Nat} {c : AV} {l : List Int} (g : Sp p s L h0 nx0 c0 h nx c l) (n : Int) (h1 : 1 ≤ n) (h2 : n ≤ 1000000) : FxC 60 20 [.ptr p 0, .int .i64 n] h nx (fun q => q = p) (fun q => q = p ∨ bid s = some q) fun v h' nx' => ∃ r : Nat, v = .int .i64 r ∧ (r : Int) < n ∧ Sp p s L h0 nx0 c0 h' nx' c l :=
  fun lg hlg => (next_fx g.tp n h1 h2 lg hlg).mono fun v h' nx' tc wr ⟨⟨r, e, hr, t⟩, hn, hk, hw, ht⟩ =>
    ⟨⟨r, e, hr, t, g.ow.keep hn fun b hb => hk b (g.ow.lt hb) fun e => g.cp (e ▸ hb), g.ok, g.len, g.cp, g.cs, g.own, by have := g.n; omega, fun q hq a b => (hk q (by have := g.n; omega) a).trans (g.k q hq a b)⟩, hn, hk, hw, ht⟩
set_option maxHeartbeats 4000000 in
theorem op_sp {p : Nat} {s : AV} {L : List Int} {h0 : Mem} {nx0 : Nat} {c0 : AV} {h : Mem} {nx : Nat} {c : AV} {l : List Int} (g : Sp p s L h0 nx0 c0 h nx c l) (hl : l.length ≤ 900) (o a : Int) : FxC 40 36 [c, .int .i64 o, .int .i64 a] h nx (fun q => bid c = some q) (fun q => bid c = some q) fun v h' nx' => Sp p s L h0 nx0 c0 h' nx' v (l ++ [IntKind.u8.wrap o, IntKind.u8.wrap a]) := by
  intro lg hlg
  have ob := u8_wrap o
  have ab := u8_wrap a
  generalize ho : IntKind.u8.wrap o = o' at *
  generalize ha : IntKind.u8.wrap a = a' at *
  have g1 : OW 1 c (h.set nx (some ⟨5, 1, true, false, [.int .u8 o', .int .u8 a']⟩)) (nx + 1) (u8s l) := g.ow.keep (by omega) fun b hb => Mem.blk_set_ne _ _ _ _ (by have := g.ow.lt hb; omega)
  have gx : RD 1 (.slc nx 0 2 (some 2)) (h.set nx (some ⟨5, 1, true, false, [.int .u8 o', .int .u8 a']⟩)) (nx + 1) (u8s [o', a']) := RD.lit (M := u8s [o', a']) (t := 5) (z := 1) (o := true) (g := false) rfl (by unfold u8s; simp) (by omega) (by rw [Mem.blk_set_same]; rfl)
  obtain ⟨c', h', nx', tc', wr', e, n1, ow', k1, d1, t1, w1⟩ := OW.cat (sz := 1) (by decide) 5 1 g1 gx (fun n hn => fits_few (by rw [u8s_len] at hn; have : (u8s [o', a']).length = 2 := rfl; omega) (by omega)) rfl lg
  have fin : Sp p s L h0 nx0 c0 h' nx' c' (l ++ [o', a']) := by
    have kk : ∀ q, q < nx → bid c ≠ some q → h'.blk q = h.blk q := fun q hq hc => (k1 q (by omega) hc).trans (Mem.blk_set_ne _ _ _ _ (by omega))
    refine ⟨g.tp.keep (by omega) fun q hq hx => kk q hq ?_, by rw [u8s_app]; exact ow', ?_, by rw [List.length_append]; simp; omega, ?_, ?_, ?_, by have := g.n; omega, fun q hq a b => (kk q (by have := g.n; omega) fun e => ?_).trans (g.k q hq a b)⟩
    · rcases hx with rfl | hx
      · exact g.cp
      · exact fun e => g.cs q e hx
    · intro x hx
      rcases List.mem_append.1 hx with hx | hx
      · exact g.ok x hx
      · simp only [List.mem_cons, List.not_mem_nil, or_false] at hx
        rcases hx with rfl | rfl <;> assumption
    · intro e
      rcases d1 p e with e | e
      · exact g.cp e
      · have := g.tp.hp; omega
    · intro b e hs
      rcases d1 b e with e | e
      · exact g.cs b e hs
      · have := g.tp.row.lt hs; omega
    · intro b e
      rcases d1 b e with e | e
      · exact g.own b e
      · have := g.n; right; omega
    · rcases g.own q e with e | e
      · exact b e
      · omega
  rw [xF_fr T36]
  simp (maxSteps := 4000000) (maxDischargeDepth := 6) [↓step_none, ↓step_t, ↓step_f, ↓step_nt, ↓step_nf, ↓op_load, ↓op_store, ↓op_slice, ↓op_app, ↓op_islc, ↓P_skip, ↓P_exit, ↓P_ret, ↓P_seq, ↓P_cond, ↓P_blk, ↓P_reg, ↓P_draw, ↓P_nil, ↓P_cons, condP_t, condP_f, dum_ab, stepR, want_none, want_some, opRun, ev_t, ev_c, put_none, put_some, resAll, res_tmp, res_cell, oneOf, minI, maxI, min2A, max2A, mn2, mx2, mx3, rdBlk, wrBlk, newBlk, partA, abin, ibin, isShift, AV.cells, AV.one, lay, sub, fillA, lenA, toN, allApart, apartFrom, Nat.testBit, Mem.blk_set_same, Mem.blk_set_ne, Mem.set_set, bit_zero, bit_self, lowBits_or, lowBits_zero, len_setT, sl_same, sl_ne, len_frame, sl_frame,↓op_len, lenOp_slc, lenOp_nils, ↓Post.some, ↓Post_bind, ↓Post_ret, ↓Post_draw, ↓PostL_nil, ↓PostL_cons, Post_fail, ofOpt_some, ofOpt_none, eA_b, eA_i, eA_s, eA_nn, eA_np, eA_pn, eA_lnn, eA_lnp, eA_lpn, eA_i2, eA_i3, blt_dec, Nat.add_assoc, keeps_refl, keeps_at, keeps_up, new_one, and_pow, bit_hi, lowBits_pow, ble_dec, fr_refl, fr_at, fr_up, fr_p, dum_ab, reps, F36, ho, ha, e]
  refine ⟨fin, by omega, fun q hq hx => (k1 q (by omega) hx).trans (Mem.blk_set_ne _ _ _ _ (by omega)), fun q hq hx => w1 q hx, fun q hq hx => t1 q hx (by intro e; cases e; omega)⟩
end Go.Proofs.YtlbjdkhpabpmiaaT
