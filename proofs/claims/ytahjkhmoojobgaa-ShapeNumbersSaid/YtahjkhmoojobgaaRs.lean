/- Shape: the reference judges classes. -/
import Derived.Test.YtahjkhmoojobgaaRg2
namespace Go.Proofs.YtahjkhmoojobgaaT
open Go Go.Proofs.YtahjkhmoojobgaaE Go.Proofs.YtahjkhmoojobgaaB
set_option linter.unusedSimpArgs false
set_option linter.unusedVariables false
attribute [local congr] Post_cg PostL_cg condP_cg

def textV (s : ByteArray) : Bool := decide (1 ≤ (s.size : Int)) && decide ((s.size : Int) ≤ 16)
theorem text_rd (s : ByteArray) (h : Mem) (nx : Nat) : RdC T 40 34 [.str s] h nx (.bool (textV s)) := by
  intro lg hlg
  unfold textV
  rw [xF_fr T34]
  by_cases c1 : 1 ≤ (s.size : Int)
  · by_cases c2 : (s.size : Int) ≤ 16
    · simp (maxSteps := 4000000) (maxDischargeDepth := 6) [↓step_none, ↓step_t, ↓step_f, ↓step_nt, ↓step_nf, ↓op_load, ↓op_store, ↓op_slice, ↓op_app, ↓op_islc, ↓op_lens, lenS_str, ↓P_skip, ↓P_exit, ↓P_ret, ↓P_seq, ↓P_cond, ↓P_blk, ↓P_reg, ↓P_draw, ↓P_nil, ↓P_cons, condP_t, condP_f, dum_ab, stepR, want_none, want_some, opRun, ev_t, ev_c, put_none, put_some, resAll, res_tmp, res_cell, oneOf, minI, maxI, min2A, max2A, mn2, mx2, mx3, rdBlk, wrBlk, newBlk, partA, abin, ibin, isShift, AV.cells, AV.one, lay, sub, fillA, lenA, toN, allApart, apartFrom, Nat.testBit, Mem.blk_set_same, Mem.blk_set_ne, Mem.set_set, bit_zero, bit_self, lowBits_or, lowBits_zero, len_setT, sl_same, sl_ne, len_frame, sl_frame,↓op_len, lenOp_slc, lenOp_nils, ↓Post.some, ↓Post_bind, ↓Post_ret, ↓Post_draw, ↓PostL_nil, ↓PostL_cons, Post_fail, ofOpt_some, ofOpt_none, eA_b, eA_i, eA_s, eA_nn, eA_np, eA_pn, eA_lnn, eA_lnp, eA_lpn, eA_i2, eA_i3, blt_dec, Nat.add_assoc, keeps_refl, keeps_at, keeps_up, new_one, and_pow, bit_hi, lowBits_pow, ble_dec, fr_refl, fr_at, fr_up, fr_p, dum_ab, reps, F34, c1, c2]
    · simp (maxSteps := 4000000) (maxDischargeDepth := 6) [↓step_none, ↓step_t, ↓step_f, ↓step_nt, ↓step_nf, ↓op_load, ↓op_store, ↓op_slice, ↓op_app, ↓op_islc, ↓op_lens, lenS_str, ↓P_skip, ↓P_exit, ↓P_ret, ↓P_seq, ↓P_cond, ↓P_blk, ↓P_reg, ↓P_draw, ↓P_nil, ↓P_cons, condP_t, condP_f, dum_ab, stepR, want_none, want_some, opRun, ev_t, ev_c, put_none, put_some, resAll, res_tmp, res_cell, oneOf, minI, maxI, min2A, max2A, mn2, mx2, mx3, rdBlk, wrBlk, newBlk, partA, abin, ibin, isShift, AV.cells, AV.one, lay, sub, fillA, lenA, toN, allApart, apartFrom, Nat.testBit, Mem.blk_set_same, Mem.blk_set_ne, Mem.set_set, bit_zero, bit_self, lowBits_or, lowBits_zero, len_setT, sl_same, sl_ne, len_frame, sl_frame,↓op_len, lenOp_slc, lenOp_nils, ↓Post.some, ↓Post_bind, ↓Post_ret, ↓Post_draw, ↓PostL_nil, ↓PostL_cons, Post_fail, ofOpt_some, ofOpt_none, eA_b, eA_i, eA_s, eA_nn, eA_np, eA_pn, eA_lnn, eA_lnp, eA_lpn, eA_i2, eA_i3, blt_dec, Nat.add_assoc, keeps_refl, keeps_at, keeps_up, new_one, and_pow, bit_hi, lowBits_pow, ble_dec, fr_refl, fr_at, fr_up, fr_p, dum_ab, reps, F34, c1, c2]
  · simp (maxSteps := 4000000) (maxDischargeDepth := 6) [↓step_none, ↓step_t, ↓step_f, ↓step_nt, ↓step_nf, ↓op_load, ↓op_store, ↓op_slice, ↓op_app, ↓op_islc, ↓op_lens, lenS_str, ↓P_skip, ↓P_exit, ↓P_ret, ↓P_seq, ↓P_cond, ↓P_blk, ↓P_reg, ↓P_draw, ↓P_nil, ↓P_cons, condP_t, condP_f, dum_ab, stepR, want_none, want_some, opRun, ev_t, ev_c, put_none, put_some, resAll, res_tmp, res_cell, oneOf, minI, maxI, min2A, max2A, mn2, mx2, mx3, rdBlk, wrBlk, newBlk, partA, abin, ibin, isShift, AV.cells, AV.one, lay, sub, fillA, lenA, toN, allApart, apartFrom, Nat.testBit, Mem.blk_set_same, Mem.blk_set_ne, Mem.set_set, bit_zero, bit_self, lowBits_or, lowBits_zero, len_setT, sl_same, sl_ne, len_frame, sl_frame,↓op_len, lenOp_slc, lenOp_nils, ↓Post.some, ↓Post_bind, ↓Post_ret, ↓Post_draw, ↓PostL_nil, ↓PostL_cons, Post_fail, ofOpt_some, ofOpt_none, eA_b, eA_i, eA_s, eA_nn, eA_np, eA_pn, eA_lnn, eA_lnp, eA_lpn, eA_i2, eA_i3, blt_dec, Nat.add_assoc, keeps_refl, keeps_at, keeps_up, new_one, and_pow, bit_hi, lowBits_pow, ble_dec, fr_refl, fr_at, fr_up, fr_p, dum_ab, reps, F34, c1]
def RnI (v y : AV) (B : List C) (n m : Int) (lb j : Nat) (x : C) (p : Nat) (h0 : Mem) (nx0 : Nat) (k : Nat) (ts : List AV) (h : Mem) (nx tc wr : Nat) : Prop := ∃ i : Nat, k = B.length - i ∧ i ≤ B.length ∧ ts.length = 81 ∧ sl ts 0 = v ∧ sl ts 1 = .int .i64 n ∧ sl ts 2 = .int .i64 m ∧ sl ts 8 = .ptr p 0 ∧ sl ts 45 = v ∧ sl ts 46 = .int .i64 lb ∧ sl ts 47 = .int .i64 j ∧ sl ts 7 = .int .i64 j ∧ sl ts 58 = y ∧ sl ts 59 = .int .i64 B.length ∧ sl ts 60 = .int .i64 i ∧ (∀ z ∈ B.take i, (z.name.toList == x.name.toList) = false) ∧ nx0 ≤ nx ∧ (∀ q, q < nx0 → h.blk q = h0.blk q) ∧ ∀ q, q < nx0 → wr &&& 2 ^ q = 0
def RnR (v : AV) (B : List C) (n m : Int) (lb j : Nat) (x : C) (p : Nat) (h0 : Mem) (nx0 : Nat) (e : Ex) (ts : List AV) (h : Mem) (nx tc wr : Nat) : Prop := ts.length = 81 ∧ nx0 ≤ nx ∧ (∀ q, q < nx0 → h.blk q = h0.blk q) ∧ (∀ q, q < nx0 → wr &&& 2 ^ q = 0) ∧ ((e = .exit 2 ∧ anyN B x = false ∧ sl ts 0 = v ∧ sl ts 1 = .int .i64 n ∧ sl ts 2 = .int .i64 m ∧ sl ts 45 = v ∧ sl ts 46 = .int .i64 lb ∧ sl ts 47 = .int .i64 j ∧ sl ts 8 = .ptr p 0 ∧ sl ts 7 = .int .i64 j) ∨ (e = .ret ∧ anyN B x = true ∧ sl ts 6 = .int .i64 13))
set_option maxHeartbeats 8000000 in
theorem rn_round {y : AV} {B : List C} (n m : Int) (lb j : Nat) (v : AV) {c : C} {p : Nat} {h0 : Mem} {nx0 : Nat} (g : CR y h0 nx0 B) (hp : h0.blk p = some ⟨38, 4, true, false, c.cs⟩) (hpn : p < nx0) (lg : Nat) (hlg : lg ≤ nx0) (k : Nat) (ts : List AV) (h : Mem) (nx tc wr : Nat) (hi : RnI v y B n m lb j c p h0 nx0 k ts h nx tc wr) :
    Post (xC T 60 L24_0b ts h nx lg) fun v' h' nx' tc' wr' => Round (RnI v y B n m lb j c p h0 nx0) (RnR v B n m lb j c p h0 nx0) k v' h' nx' (tc ||| tc') (wr ||| wr') := by
  obtain ⟨i, rfl, hi, hlen, g0, g1, g2, g8, g11, g12, g13, g7, g40, g41, g42, ha, hn, hk, hw⟩ := hi
  have hl := g.n
  by_cases ci : i < B.length
  · have gc := g.keeps hn hk
    obtain ⟨b, o, el⟩ := gc.el ci
    have e0 := el.all lg
    have p0 := el.pl
    have cw : IntKind.i64.wrap ((i : Int) + 1) = ((i + 1 : Nat) : Int) := by rw [IntKind.wrap_i64]; unfold big at hl; omega
    obtain ⟨H, st, hb, hs⟩ := cvar gc ci
    have l0 := fun lg => ld_at hb (show nx < nx + 1 by omega) (o := 0) (v := .str B[i].name) rfl lg
    have kk : ∀ q, q < nx0 → H.blk q = h0.blk q := fun q hq => (hs q (by omega)).trans (hk q hq)
    have l1 := fun lg => ld_at ((kk p hpn).trans hp) (show p < nx + 1 by omega) (o := 0) (v := .str c.name) rfl lg
    have bitz : bit lg nx = 0 := bit_up (by omega)
    simp only [C.cs, cz] at e0 st
    cases d : (B[i].name.toList == c.name.toList) with
    | true =>
      simp (maxSteps := 4000000) (maxDischargeDepth := 6) [↓step_none, ↓step_t, ↓step_f, ↓step_nt, ↓step_nf, ↓op_load, ↓op_store, ↓op_slice, ↓op_app, ↓op_islc, ↓P_skip, ↓P_exit, ↓P_ret, ↓P_seq, ↓P_cond, ↓P_blk, ↓P_reg, ↓P_draw, ↓P_nil, ↓P_cons, condP_t, condP_f, dum_ab, stepR, want_none, want_some, opRun, ev_t, ev_c, put_none, put_some, resAll, res_tmp, res_cell, oneOf, minI, maxI, min2A, max2A, mn2, mx2, mx3, rdBlk, wrBlk, newBlk, partA, abin, ibin, isShift, AV.cells, AV.one, lay, sub, fillA, lenA, toN, allApart, apartFrom, Nat.testBit, Mem.blk_set_same, Mem.blk_set_ne, Mem.set_set, bit_zero, bit_self, lowBits_or, lowBits_zero, len_setT, sl_same, sl_ne, len_frame, sl_frame,↓op_len, lenOp_slc, lenOp_nils, ↓Post.some, ↓Post_bind, ↓Post_ret, ↓Post_draw, ↓PostL_nil, ↓PostL_cons, Post_fail, ofOpt_some, ofOpt_none, eA_b, eA_i, eA_s, eA_nn, eA_np, eA_pn, eA_lnn, eA_lnp, eA_lpn, eA_i2, eA_i3, blt_dec, Nat.add_assoc, keeps_refl, keeps_at, keeps_up, new_one, and_pow, bit_hi, lowBits_pow, ble_dec, fr_refl, fr_at, fr_up, fr_p, dum_ab, reps, L24_0b, hlen, g0, g1, g2, g8, g40, g41, g42, ci, e0, p0, st, l0, l1, bitz, d]
      refine Round.ret (R := RnR v B n m lb j c p h0 nx0) ⟨?_, by omega, kk, hw, .inr ⟨rfl, anyN_t ci d, ?_⟩⟩ <;> simp [len_setT, sl_same, sl_ne, hlen]
    | false =>
      simp (maxSteps := 4000000) (maxDischargeDepth := 6) [↓step_none, ↓step_t, ↓step_f, ↓step_nt, ↓step_nf, ↓op_load, ↓op_store, ↓op_slice, ↓op_app, ↓op_islc, ↓P_skip, ↓P_exit, ↓P_ret, ↓P_seq, ↓P_cond, ↓P_blk, ↓P_reg, ↓P_draw, ↓P_nil, ↓P_cons, condP_t, condP_f, dum_ab, stepR, want_none, want_some, opRun, ev_t, ev_c, put_none, put_some, resAll, res_tmp, res_cell, oneOf, minI, maxI, min2A, max2A, mn2, mx2, mx3, rdBlk, wrBlk, newBlk, partA, abin, ibin, isShift, AV.cells, AV.one, lay, sub, fillA, lenA, toN, allApart, apartFrom, Nat.testBit, Mem.blk_set_same, Mem.blk_set_ne, Mem.set_set, bit_zero, bit_self, lowBits_or, lowBits_zero, len_setT, sl_same, sl_ne, len_frame, sl_frame,↓op_len, lenOp_slc, lenOp_nils, ↓Post.some, ↓Post_bind, ↓Post_ret, ↓Post_draw, ↓PostL_nil, ↓PostL_cons, Post_fail, ofOpt_some, ofOpt_none, eA_b, eA_i, eA_s, eA_nn, eA_np, eA_pn, eA_lnn, eA_lnp, eA_lpn, eA_i2, eA_i3, blt_dec, Nat.add_assoc, keeps_refl, keeps_at, keeps_up, new_one, and_pow, bit_hi, lowBits_pow, ble_dec, fr_refl, fr_at, fr_up, fr_p, dum_ab, reps, L24_0b, hlen, g0, g1, g2, g8, g40, g41, g42, ci, e0, p0, st, l0, l1, bitz, d, cw]
      refine Round.nor (m' := B.length - (i + 1)) (by omega) ⟨i + 1, rfl, by omega, ?_, ?_, ?_, ?_, ?_, ?_, ?_, ?_, ?_, ?_, ?_, ?_, take_more ci ha d, by omega, kk, hw⟩ <;> simp [len_setT, sl_same, sl_ne, hlen, g0, g1, g2, g7, g8, g11, g12, g13, g40, g41]
  · simp (maxSteps := 4000000) (maxDischargeDepth := 6) [↓step_none, ↓step_t, ↓step_f, ↓step_nt, ↓step_nf, ↓op_load, ↓op_store, ↓op_slice, ↓op_app, ↓op_islc, ↓P_skip, ↓P_exit, ↓P_ret, ↓P_seq, ↓P_cond, ↓P_blk, ↓P_reg, ↓P_draw, ↓P_nil, ↓P_cons, condP_t, condP_f, dum_ab, stepR, want_none, want_some, opRun, ev_t, ev_c, put_none, put_some, resAll, res_tmp, res_cell, oneOf, minI, maxI, min2A, max2A, mn2, mx2, mx3, rdBlk, wrBlk, newBlk, partA, abin, ibin, isShift, AV.cells, AV.one, lay, sub, fillA, lenA, toN, allApart, apartFrom, Nat.testBit, Mem.blk_set_same, Mem.blk_set_ne, Mem.set_set, bit_zero, bit_self, lowBits_or, lowBits_zero, len_setT, sl_same, sl_ne, len_frame, sl_frame,↓op_len, lenOp_slc, lenOp_nils, ↓Post.some, ↓Post_bind, ↓Post_ret, ↓Post_draw, ↓PostL_nil, ↓PostL_cons, Post_fail, ofOpt_some, ofOpt_none, eA_b, eA_i, eA_s, eA_nn, eA_np, eA_pn, eA_lnn, eA_lnp, eA_lpn, eA_i2, eA_i3, blt_dec, Nat.add_assoc, keeps_refl, keeps_at, keeps_up, new_one, and_pow, bit_hi, lowBits_pow, ble_dec, fr_refl, fr_at, fr_up, fr_p, dum_ab, L24_0b, hlen, g0, g1, g40, g41, g42, ci]
    rw [List.take_of_length_le (by omega)] at ha
    refine Round.exit (R := RnR v B n m lb j c p h0 nx0) ⟨?_, hn, hk, hw, .inl ⟨rfl, anyN_f ha, ?_, ?_, ?_, ?_, ?_, ?_, ?_, ?_⟩⟩ <;> simp [len_setT, sl_same, sl_ne, hlen, g0, g1, g2, g7, g8, g11, g12, g13]
set_option maxHeartbeats 16000000 in
theorem rs_round {v : AV} {L : List C} (n m : Int) {bb : Nat} {h0 : Mem} {nx0 : Nat} (g : CR v h0 nx0 L) (h12 : L.length ≤ 12) (hbb : ∀ c ∈ L, c.B.length ≤ bb) (lg : Nat) (hlg : lg ≤ nx0) (k : Nat) (ts : List AV) (h : Mem) (nx tc wr : Nat) (hi : RgI 81 45 v L n m h0 nx0 k ts h nx tc wr) :
    Post (xC T (2 * bb + 400) L24_1b ts h nx lg) fun v' h' nx' tc' wr' => Round (RgI 81 45 v L n m h0 nx0) (RgR 81 L n m h0 nx0) k v' h' nx' (tc ||| tc') (wr ||| wr') := by
  obtain ⟨j, rfl, hj, hlen, g0, g1, g2, g45, g46, g47, hd, et, hn, hk, hw⟩ := hi
  have hl := g.n
  by_cases cj : j < L.length
  · have gc := g.keeps hn hk
    obtain ⟨b, o, el⟩ := gc.el cj
    have e0 := el.all lg
    have p0 := el.pl
    have ok := errAt_at (n := n) (m := m) cj
    rw [errN_at cj] at et
    have ci : IntKind.i64.wrap ((j : Int) + 1) = ((j + 1 : Nat) : Int) := by rw [IntKind.wrap_i64]; omega
    obtain ⟨H, st, hb, hs⟩ := cvar gc cj
    have gH := gc.keeps (nx' := nx + 1) (by omega) hs
    have l0 := fun lg => ld_at hb (show nx < nx + 1 by omega) (o := 0) (v := .str L[j].name) rfl lg
    have kk : ∀ q, q < nx0 → H.blk q = h0.blk q := fun q hq => (hs q (by omega)).trans (hk q hq)
    obtain ⟨y, ry, cu⟩ := gH.cut hj
    obtain ⟨tcc, cu⟩ := cu lg
    have bitz : bit lg nx = 0 := bit_up (by omega)
    have gB := (g.bind (List.getElem_mem cj))
    have lB := hbb _ (List.getElem_mem cj)
    have sz := (g.b _ (List.getElem_mem cj)).2.2
    have nb : nameBad L j L[j] = (decide (L[j].name.size < 1) || decide (16 < L[j].name.size) || anyN (L.take j) L[j]) := rfl
    have e3 : ∀ {h' nx'}, h'.blk nx = some ⟨38, 4, true, false, L[j].cs⟩ → nx < nx' → ∀ lg, ldA none (.ptr nx 3) h' nx' lg = some ⟨L[j].bv, h', nx', bit lg nx, 0⟩ := fun hb hn lg => ld_at hb hn (o := 3) rfl lg
    have nms := names_nw ry (c := L[j]) (show nx < nx + 1 by omega) hb
    generalize hc : L[j] = c at *
    simp only [C.cs, cz] at e0 st
    have bad : nameBad L j c = true → ∀ ts' h' nx' tc2 wr2, ts'.length = 81 → sl ts' 6 = .int .i64 13 → nx0 ≤ nx' → (∀ q, q < nx0 → h'.blk q = h0.blk q) → (∀ q, q < nx0 → wr2 &&& 2 ^ q = 0) → ∀ mm, Round (RgI 81 45 v L n m h0 nx0) (RgR 81 L n m h0 nx0) mm (.ret, ts') h' nx' tc2 wr2 := fun e ts' h' nx' tc2 wr2 a1 a2 a3 a4 a5 mm => by
      rw [e] at ok
      simp only [cond_true] at ok
      rw [ok, if_neg (by decide)] at et
      exact Round.ret (R := RgR 81 L n m h0 nx0) ⟨a1, a3, a4, a5, .inr ⟨rfl, by rw [a2, ← et]⟩⟩
    have tx := text_rd c.name H (nx + 1)
    simp (maxSteps := 4000000) (maxDischargeDepth := 6) [↓step_none, ↓step_t, ↓step_f, ↓step_nt, ↓step_nf, ↓op_load, ↓op_store, ↓op_slice, ↓op_app, ↓op_islc, ↓op_lens, lenS_str, ↓P_skip, ↓P_exit, ↓P_ret, ↓P_seq, ↓P_cond, ↓P_blk, ↓P_reg, ↓P_draw, ↓P_nil, ↓P_cons, condP_t, condP_f, dum_ab, stepR, want_none, want_some, opRun, ev_t, ev_c, put_none, put_some, resAll, res_tmp, res_cell, oneOf, minI, maxI, min2A, max2A, mn2, mx2, mx3, rdBlk, wrBlk, newBlk, partA, abin, ibin, isShift, AV.cells, AV.one, lay, sub, fillA, lenA, toN, allApart, apartFrom, Nat.testBit, Mem.blk_set_same, Mem.blk_set_ne, Mem.set_set, bit_zero, bit_self, lowBits_or, lowBits_zero, len_setT, sl_same, sl_ne, len_frame, sl_frame,↓op_len, lenOp_slc, lenOp_nils, ↓Post.some, ↓Post_bind, ↓Post_ret, ↓Post_draw, ↓PostL_nil, ↓PostL_cons, Post_fail, ofOpt_some, ofOpt_none, eA_b, eA_i, eA_s, eA_nn, eA_np, eA_pn, eA_lnn, eA_lnp, eA_lpn, eA_i2, eA_i3, blt_dec, Nat.add_assoc, keeps_refl, keeps_at, keeps_up, new_one, and_pow, bit_hi, lowBits_pow, ble_dec, fr_refl, fr_at, fr_up, fr_p, dum_ab, reps, L24_1b, hlen, g0, g1, g2, g45, g46, g47, cj, e0, p0, st, l0, bitz]
    refine tx.post (by omega) (by omega) fun tc1 => ?_
    by_cases c1 : c.name.size < 1 ∨ 16 < c.name.size
    · have tv : textV c.name = false := by unfold textV; simp; omega
      rw [tv]
      have := bad (by rw [nb]; rcases c1 with c1 | c1 <;> simp [c1])
      simp (maxSteps := 4000000) (maxDischargeDepth := 6) [↓step_none, ↓step_t, ↓step_f, ↓step_nt, ↓step_nf, ↓op_load, ↓op_store, ↓op_slice, ↓op_app, ↓op_islc, ↓op_lens, lenS_str, ↓P_skip, ↓P_exit, ↓P_ret, ↓P_seq, ↓P_cond, ↓P_blk, ↓P_reg, ↓P_draw, ↓P_nil, ↓P_cons, condP_t, condP_f, dum_ab, stepR, want_none, want_some, opRun, ev_t, ev_c, put_none, put_some, resAll, res_tmp, res_cell, oneOf, minI, maxI, min2A, max2A, mn2, mx2, mx3, rdBlk, wrBlk, newBlk, partA, abin, ibin, isShift, AV.cells, AV.one, lay, sub, fillA, lenA, toN, allApart, apartFrom, Nat.testBit, Mem.blk_set_same, Mem.blk_set_ne, Mem.set_set, bit_zero, bit_self, lowBits_or, lowBits_zero, len_setT, sl_same, sl_ne, len_frame, sl_frame,↓op_len, lenOp_slc, lenOp_nils, ↓Post.some, ↓Post_bind, ↓Post_ret, ↓Post_draw, ↓PostL_nil, ↓PostL_cons, Post_fail, ofOpt_some, ofOpt_none, eA_b, eA_i, eA_s, eA_nn, eA_np, eA_pn, eA_lnn, eA_lnp, eA_lpn, eA_i2, eA_i3, blt_dec, Nat.add_assoc, keeps_refl, keeps_at, keeps_up, new_one, and_pow, bit_hi, lowBits_pow, ble_dec, fr_refl, fr_at, fr_up, fr_p, dum_ab, reps, hlen]
      refine this _ _ _ _ _ ?_ ?_ (by omega) kk hw _ <;> simp [len_setT, sl_same, sl_ne, hlen]
    have tv : textV c.name = true := by unfold textV; simp; omega
    have nb' : nameBad L j c = anyN (L.take j) c := by
      rw [nb]
      have : ¬ c.name.size < 1 ∧ ¬ 16 < c.name.size := by omega
      simp [this.1, this.2]
    rw [tv]
    have ly := ry.lenOp
    rw [List.length_take, Nat.min_eq_left hj] at ly
    simp (maxSteps := 4000000) (maxDischargeDepth := 6) [↓step_none, ↓step_t, ↓step_f, ↓step_nt, ↓step_nf, ↓op_load, ↓op_store, ↓op_slice, ↓op_app, ↓op_islc, ↓op_lens, lenS_str, ↓P_skip, ↓P_exit, ↓P_ret, ↓P_seq, ↓P_cond, ↓P_blk, ↓P_reg, ↓P_draw, ↓P_nil, ↓P_cons, condP_t, condP_f, dum_ab, stepR, want_none, want_some, opRun, ev_t, ev_c, put_none, put_some, resAll, res_tmp, res_cell, oneOf, minI, maxI, min2A, max2A, mn2, mx2, mx3, rdBlk, wrBlk, newBlk, partA, abin, ibin, isShift, AV.cells, AV.one, lay, sub, fillA, lenA, toN, allApart, apartFrom, Nat.testBit, Mem.blk_set_same, Mem.blk_set_ne, Mem.set_set, bit_zero, bit_self, lowBits_or, lowBits_zero, len_setT, sl_same, sl_ne, len_frame, sl_frame,↓op_len, lenOp_slc, lenOp_nils, ↓Post.some, ↓Post_bind, ↓Post_ret, ↓Post_draw, ↓PostL_nil, ↓PostL_cons, Post_fail, ofOpt_some, ofOpt_none, eA_b, eA_i, eA_s, eA_nn, eA_np, eA_pn, eA_lnn, eA_lnp, eA_lpn, eA_i2, eA_i3, blt_dec, Nat.add_assoc, keeps_refl, keeps_at, keeps_up, new_one, and_pow, bit_hi, lowBits_pow, ble_dec, fr_refl, fr_at, fr_up, fr_p, dum_ab, reps, hlen, g0, cu, ly, L24_0]
    refine Post.loop (rn_round n m L.length j v ry (c := c) hb (show nx < nx + 1 by omega) lg (show lg ≤ nx + 1 by omega)) ((L.take j).length - 0) ⟨0, rfl, by omega, ?_, ?_, ?_, ?_, ?_, ?_, ?_, ?_, ?_, ?_, ?_, ?_, by simp, Nat.le_refl _, fun _ _ => rfl, fun q _ => Nat.zero_and _⟩ ?_ ?_
    any_goals simp [len_setT, sl_same, sl_ne, hlen, g0, g1, g2, g45, g46, g47]
    · omega
    · omega
    rintro e ts' h2 nx2 tc2 wr2 ⟨hlen', hn2, hk2, hw2, ⟨rfl, d, a0, a1, a2, a45, a46, a47, a8, a7⟩ | ⟨rfl, d, a6⟩⟩
    all_goals
      have kk2 : ∀ q, q < nx0 → h2.blk q = h0.blk q := fun q hq => (hk2 q (by omega)).trans (kk q hq)
      have ww2 : ∀ q, q < nx0 → (wr ||| wr2) &&& 2 ^ q = 0 := fun q hq => wr_or (hw q hq) (hw2 q (by omega))
      have hb2 := (hk2 nx (by omega)).trans hb
    case inr =>
      simp (maxSteps := 4000000) (maxDischargeDepth := 6) [↓step_none, ↓step_t, ↓step_f, ↓step_nt, ↓step_nf, ↓op_load, ↓op_store, ↓op_slice, ↓op_app, ↓op_islc, ↓P_skip, ↓P_exit, ↓P_ret, ↓P_seq, ↓P_cond, ↓P_blk, ↓P_reg, ↓P_draw, ↓P_nil, ↓P_cons, condP_t, condP_f, dum_ab, stepR, want_none, want_some, opRun, ev_t, ev_c, put_none, put_some, resAll, res_tmp, res_cell, oneOf, minI, maxI, min2A, max2A, mn2, mx2, mx3, rdBlk, wrBlk, newBlk, partA, abin, ibin, isShift, AV.cells, AV.one, lay, sub, fillA, lenA, toN, allApart, apartFrom, Nat.testBit, Mem.blk_set_same, Mem.blk_set_ne, Mem.set_set, bit_zero, bit_self, lowBits_or, lowBits_zero, len_setT, sl_same, sl_ne, len_frame, sl_frame,↓op_len, lenOp_slc, lenOp_nils, ↓Post.some, ↓Post_bind, ↓Post_ret, ↓Post_draw, ↓PostL_nil, ↓PostL_cons, Post_fail, ofOpt_some, ofOpt_none, eA_b, eA_i, eA_s, eA_nn, eA_np, eA_pn, eA_lnn, eA_lnp, eA_lpn, eA_i2, eA_i3, blt_dec, Nat.add_assoc, keeps_refl, keeps_at, keeps_up, new_one, and_pow, bit_hi, lowBits_pow, ble_dec, fr_refl, fr_at, fr_up, fr_p, dum_ab, hlen']
      refine bad (nb'.trans d) _ _ _ _ _ ?_ ?_ (by omega) kk2 ww2 _ <;> simp [len_setT, sl_same, sl_ne, hlen', a6]
    case inl =>
      rw [nb', d] at ok
      simp only [cond_false] at ok
      simp (maxSteps := 4000000) (maxDischargeDepth := 6) [↓step_none, ↓step_t, ↓step_f, ↓step_nt, ↓step_nf, ↓op_load, ↓op_store, ↓op_slice, ↓op_app, ↓op_islc, ↓P_skip, ↓P_exit, ↓P_ret, ↓P_seq, ↓P_cond, ↓P_blk, ↓P_reg, ↓P_draw, ↓P_nil, ↓P_cons, condP_t, condP_f, dum_ab, stepR, want_none, want_some, opRun, ev_t, ev_c, put_none, put_some, resAll, res_tmp, res_cell, oneOf, minI, maxI, min2A, max2A, mn2, mx2, mx3, rdBlk, wrBlk, newBlk, partA, abin, ibin, isShift, AV.cells, AV.one, lay, sub, fillA, lenA, toN, allApart, apartFrom, Nat.testBit, Mem.blk_set_same, Mem.blk_set_ne, Mem.set_set, bit_zero, bit_self, lowBits_or, lowBits_zero, len_setT, sl_same, sl_ne, len_frame, sl_frame,↓op_len, lenOp_slc, lenOp_nils, ↓Post.some, ↓Post_bind, ↓Post_ret, ↓Post_draw, ↓PostL_nil, ↓PostL_cons, Post_fail, ofOpt_some, ofOpt_none, eA_b, eA_i, eA_s, eA_nn, eA_np, eA_pn, eA_lnn, eA_lnp, eA_lpn, eA_i2, eA_i3, blt_dec, Nat.add_assoc, keeps_refl, keeps_at, keeps_up, new_one, and_pow, bit_hi, lowBits_pow, ble_dec, fr_refl, fr_at, fr_up, fr_p, dum_ab, hlen', a0, a7]
      have gH2 := gH.keeps hn2 hk2
      have rs := rsup_nw gH2 cj (by omega) hd
      refine rs.post (by omega) (by omega) ?_
      rintro r h3 nx3 tc3 wr3 rfl hn3 hk3 hw3
      have kk3 : ∀ q, q < nx0 → h3.blk q = h0.blk q := fun q hq => (hk3 q (by omega)).trans (kk2 q hq)
      have ww3 : ∀ q, q < nx0 → (wr ||| wr2 ||| wr3) &&& 2 ^ q = 0 := fun q hq => wr_or (ww2 q hq) (hw3 q (by omega))
      have ww3' : ∀ q, q < nx0 → (wr ||| (wr2 ||| wr3)) &&& 2 ^ q = 0 := fun q hq => by rw [← Nat.or_assoc]; exact ww3 q hq
      cases s : supB L j with
      | false =>
        rw [s] at ok
        simp only [cond_false] at ok
        rw [ok, if_neg (by decide)] at et
        simp (maxSteps := 4000000) (maxDischargeDepth := 6) [↓step_none, ↓step_t, ↓step_f, ↓step_nt, ↓step_nf, ↓op_load, ↓op_store, ↓op_slice, ↓op_app, ↓op_islc, ↓P_skip, ↓P_exit, ↓P_ret, ↓P_seq, ↓P_cond, ↓P_blk, ↓P_reg, ↓P_draw, ↓P_nil, ↓P_cons, condP_t, condP_f, dum_ab, stepR, want_none, want_some, opRun, ev_t, ev_c, put_none, put_some, resAll, res_tmp, res_cell, oneOf, minI, maxI, min2A, max2A, mn2, mx2, mx3, rdBlk, wrBlk, newBlk, partA, abin, ibin, isShift, AV.cells, AV.one, lay, sub, fillA, lenA, toN, allApart, apartFrom, Nat.testBit, Mem.blk_set_same, Mem.blk_set_ne, Mem.set_set, bit_zero, bit_self, lowBits_or, lowBits_zero, len_setT, sl_same, sl_ne, len_frame, sl_frame,↓op_len, lenOp_slc, lenOp_nils, ↓Post.some, ↓Post_bind, ↓Post_ret, ↓Post_draw, ↓PostL_nil, ↓PostL_cons, Post_fail, ofOpt_some, ofOpt_none, eA_b, eA_i, eA_s, eA_nn, eA_np, eA_pn, eA_lnn, eA_lnp, eA_lpn, eA_i2, eA_i3, blt_dec, Nat.add_assoc, keeps_refl, keeps_at, keeps_up, new_one, and_pow, bit_hi, lowBits_pow, ble_dec, fr_refl, fr_at, fr_up, fr_p, dum_ab, hlen']
        refine Round.ret (R := RgR 81 L n m h0 nx0) ⟨?_, by omega, kk3, ?_, .inr ⟨rfl, ?_⟩⟩
        · simp [len_setT, sl_same, sl_ne, hlen']
        · first | exact ww3 | exact ww3'
        · simp [len_setT, sl_same, sl_ne, hlen', et]
      | true =>
        rw [s] at ok
        simp only [cond_true] at ok
        have hb3 := (hk3 nx (by omega)).trans hb2
        have e3' := fun lg => e3 hb3 (show nx < nx3 by omega) lg
        simp (maxSteps := 4000000) (maxDischargeDepth := 6) [↓step_none, ↓step_t, ↓step_f, ↓step_nt, ↓step_nf, ↓op_load, ↓op_store, ↓op_slice, ↓op_app, ↓op_islc, ↓P_skip, ↓P_exit, ↓P_ret, ↓P_seq, ↓P_cond, ↓P_blk, ↓P_reg, ↓P_draw, ↓P_nil, ↓P_cons, condP_t, condP_f, dum_ab, stepR, want_none, want_some, opRun, ev_t, ev_c, put_none, put_some, resAll, res_tmp, res_cell, oneOf, minI, maxI, min2A, max2A, mn2, mx2, mx3, rdBlk, wrBlk, newBlk, partA, abin, ibin, isShift, AV.cells, AV.one, lay, sub, fillA, lenA, toN, allApart, apartFrom, Nat.testBit, Mem.blk_set_same, Mem.blk_set_ne, Mem.set_set, bit_zero, bit_self, lowBits_or, lowBits_zero, len_setT, sl_same, sl_ne, len_frame, sl_frame,↓op_len, lenOp_slc, lenOp_nils, ↓Post.some, ↓Post_bind, ↓Post_ret, ↓Post_draw, ↓PostL_nil, ↓PostL_cons, Post_fail, ofOpt_some, ofOpt_none, eA_b, eA_i, eA_s, eA_nn, eA_np, eA_pn, eA_lnn, eA_lnp, eA_lpn, eA_i2, eA_i3, blt_dec, Nat.add_assoc, keeps_refl, keeps_at, keeps_up, new_one, and_pow, bit_hi, lowBits_pow, ble_dec, fr_refl, fr_at, fr_up, fr_p, dum_ab, hlen', e3', a1, a2, a8, bitz]
        refine (rbinds_nw n m (gB.keeps (show nx0 ≤ nx3 by omega) kk3)).post (by omega) (by omega) ?_
        rintro r h4 nx4 tc4 wr4 rfl hn4 hk4 hw4
        have kk4 : ∀ q, q < nx0 → h4.blk q = h0.blk q := fun q hq => (hk4 q (by omega)).trans (kk3 q hq)
        have ww4 : ∀ q, q < nx0 → (wr ||| (wr2 ||| (wr3 ||| wr4))) &&& 2 ^ q = 0 := fun q hq => wr_or (hw q hq) (wr_or (hw2 q (by omega)) (wr_or (hw3 q (by omega)) (hw4 q (by omega))))
        have ww4' : ∀ q, q < nx0 → (wr ||| wr2 ||| wr3 ||| wr4) &&& 2 ^ q = 0 := fun q hq => wr_or (wr_or (wr_or (hw q hq) (hw2 q (by omega))) (hw3 q (by omega))) (hw4 q (by omega))
        cases bv : bindsV c.B n m with
        | false =>
          rw [bv] at ok
          simp only [cond_false] at ok
          rw [ok, if_neg (by decide)] at et
          simp (maxSteps := 4000000) (maxDischargeDepth := 6) [↓step_none, ↓step_t, ↓step_f, ↓step_nt, ↓step_nf, ↓op_load, ↓op_store, ↓op_slice, ↓op_app, ↓op_islc, ↓P_skip, ↓P_exit, ↓P_ret, ↓P_seq, ↓P_cond, ↓P_blk, ↓P_reg, ↓P_draw, ↓P_nil, ↓P_cons, condP_t, condP_f, dum_ab, stepR, want_none, want_some, opRun, ev_t, ev_c, put_none, put_some, resAll, res_tmp, res_cell, oneOf, minI, maxI, min2A, max2A, mn2, mx2, mx3, rdBlk, wrBlk, newBlk, partA, abin, ibin, isShift, AV.cells, AV.one, lay, sub, fillA, lenA, toN, allApart, apartFrom, Nat.testBit, Mem.blk_set_same, Mem.blk_set_ne, Mem.set_set, bit_zero, bit_self, lowBits_or, lowBits_zero, len_setT, sl_same, sl_ne, len_frame, sl_frame,↓op_len, lenOp_slc, lenOp_nils, ↓Post.some, ↓Post_bind, ↓Post_ret, ↓Post_draw, ↓PostL_nil, ↓PostL_cons, Post_fail, ofOpt_some, ofOpt_none, eA_b, eA_i, eA_s, eA_nn, eA_np, eA_pn, eA_lnn, eA_lnp, eA_lpn, eA_i2, eA_i3, blt_dec, Nat.add_assoc, keeps_refl, keeps_at, keeps_up, new_one, and_pow, bit_hi, lowBits_pow, ble_dec, fr_refl, fr_at, fr_up, fr_p, dum_ab, hlen']
          refine Round.ret (R := RgR 81 L n m h0 nx0) ⟨?_, by omega, kk4, ?_, .inr ⟨rfl, ?_⟩⟩
          · simp [len_setT, sl_same, sl_ne, hlen']
          · first | exact ww4 | exact ww4'
          · simp [len_setT, sl_same, sl_ne, hlen', et]
        | true =>
          rw [bv] at ok
          simp only [cond_true] at ok
          rw [ok, if_pos rfl] at et
          simp (maxSteps := 4000000) (maxDischargeDepth := 6) [↓step_none, ↓step_t, ↓step_f, ↓step_nt, ↓step_nf, ↓op_load, ↓op_store, ↓op_slice, ↓op_app, ↓op_islc, ↓P_skip, ↓P_exit, ↓P_ret, ↓P_seq, ↓P_cond, ↓P_blk, ↓P_reg, ↓P_draw, ↓P_nil, ↓P_cons, condP_t, condP_f, dum_ab, stepR, want_none, want_some, opRun, ev_t, ev_c, put_none, put_some, resAll, res_tmp, res_cell, oneOf, minI, maxI, min2A, max2A, mn2, mx2, mx3, rdBlk, wrBlk, newBlk, partA, abin, ibin, isShift, AV.cells, AV.one, lay, sub, fillA, lenA, toN, allApart, apartFrom, Nat.testBit, Mem.blk_set_same, Mem.blk_set_ne, Mem.set_set, bit_zero, bit_self, lowBits_or, lowBits_zero, len_setT, sl_same, sl_ne, len_frame, sl_frame,↓op_len, lenOp_slc, lenOp_nils, ↓Post.some, ↓Post_bind, ↓Post_ret, ↓Post_draw, ↓PostL_nil, ↓PostL_cons, Post_fail, ofOpt_some, ofOpt_none, eA_b, eA_i, eA_s, eA_nn, eA_np, eA_pn, eA_lnn, eA_lnp, eA_lpn, eA_i2, eA_i3, blt_dec, Nat.add_assoc, keeps_refl, keeps_at, keeps_up, new_one, and_pow, bit_hi, lowBits_pow, ble_dec, fr_refl, fr_at, fr_up, fr_p, dum_ab, hlen', a47, ci]
          refine Round.nor (m' := L.length - (j + 1)) (by omega) ⟨j + 1, rfl, by omega, ?_, ?_, ?_, ?_, ?_, ?_, ?_, hd.more cj s, et, by omega, kk4, ?_⟩
          any_goals first | exact ww4 | exact ww4'
          all_goals simp [len_setT, sl_same, sl_ne, hlen', a0, a1, a2, a45, a46]
  · simp (maxSteps := 4000000) (maxDischargeDepth := 6) [↓step_none, ↓step_t, ↓step_f, ↓step_nt, ↓step_nf, ↓op_load, ↓op_store, ↓op_slice, ↓op_app, ↓op_islc, ↓P_skip, ↓P_exit, ↓P_ret, ↓P_seq, ↓P_cond, ↓P_blk, ↓P_reg, ↓P_draw, ↓P_nil, ↓P_cons, condP_t, condP_f, dum_ab, stepR, want_none, want_some, opRun, ev_t, ev_c, put_none, put_some, resAll, res_tmp, res_cell, oneOf, minI, maxI, min2A, max2A, mn2, mx2, mx3, rdBlk, wrBlk, newBlk, partA, abin, ibin, isShift, AV.cells, AV.one, lay, sub, fillA, lenA, toN, allApart, apartFrom, Nat.testBit, Mem.blk_set_same, Mem.blk_set_ne, Mem.set_set, bit_zero, bit_self, lowBits_or, lowBits_zero, len_setT, sl_same, sl_ne, len_frame, sl_frame,↓op_len, lenOp_slc, lenOp_nils, ↓Post.some, ↓Post_bind, ↓Post_ret, ↓Post_draw, ↓PostL_nil, ↓PostL_cons, Post_fail, ofOpt_some, ofOpt_none, eA_b, eA_i, eA_s, eA_nn, eA_np, eA_pn, eA_lnn, eA_lnp, eA_lpn, eA_i2, eA_i3, blt_dec, Nat.add_assoc, keeps_refl, keeps_at, keeps_up, new_one, and_pow, bit_hi, lowBits_pow, ble_dec, fr_refl, fr_at, fr_up, fr_p, dum_ab, L24_1b, hlen, g0, g1, g45, g46, g47, cj]
    have : j = L.length := by omega
    rw [this, Nat.sub_self, errN] at et
    refine Round.exit (R := RgR 81 L n m h0 nx0) ⟨?_, hn, hk, hw, .inl ⟨rfl, et.symm⟩⟩
    simp [len_setT, sl_same, sl_ne, hlen]
set_option maxHeartbeats 16000000 in
theorem rright_nw {v : AV} {L : List C} (n m : Int) {bb : Nat} {h : Mem} {nx : Nat} (g : CR v h nx L) (hbb : ∀ c ∈ L, c.B.length ≤ bb) : NwC T (2 * bb + 500) 24 [v, .int .i64 n, .int .i64 m] h nx fun r h' nx' => r = .int .i64 (rightV L n m) := by
  intro lg hlg
  have ls := g.lenOp
  rw [xF_fr T24]
  by_cases c1 : L.length < 2
  · have c1' : (L.length : Int) < 2 := by omega
    have : rightV L n m = 3 := by unfold rightV; rw [if_pos (.inl c1)]
    rw [this]
    simp (maxSteps := 4000000) (maxDischargeDepth := 6) [↓step_none, ↓step_t, ↓step_f, ↓step_nt, ↓step_nf, ↓op_load, ↓op_store, ↓op_slice, ↓op_app, ↓op_islc, ↓op_lens, lenS_str, ↓P_skip, ↓P_exit, ↓P_ret, ↓P_seq, ↓P_cond, ↓P_blk, ↓P_reg, ↓P_draw, ↓P_nil, ↓P_cons, condP_t, condP_f, dum_ab, stepR, want_none, want_some, opRun, ev_t, ev_c, put_none, put_some, resAll, res_tmp, res_cell, oneOf, minI, maxI, min2A, max2A, mn2, mx2, mx3, rdBlk, wrBlk, newBlk, partA, abin, ibin, isShift, AV.cells, AV.one, lay, sub, fillA, lenA, toN, allApart, apartFrom, Nat.testBit, Mem.blk_set_same, Mem.blk_set_ne, Mem.set_set, bit_zero, bit_self, lowBits_or, lowBits_zero, len_setT, sl_same, sl_ne, len_frame, sl_frame,↓op_len, lenOp_slc, lenOp_nils, ↓Post.some, ↓Post_bind, ↓Post_ret, ↓Post_draw, ↓PostL_nil, ↓PostL_cons, Post_fail, ofOpt_some, ofOpt_none, eA_b, eA_i, eA_s, eA_nn, eA_np, eA_pn, eA_lnn, eA_lnp, eA_lpn, eA_i2, eA_i3, blt_dec, Nat.add_assoc, keeps_refl, keeps_at, keeps_up, new_one, and_pow, bit_hi, lowBits_pow, ble_dec, fr_refl, fr_at, fr_up, fr_p, dum_ab, reps, F24, ls, c1']
  by_cases c2 : 12 < L.length
  · have c1' : ¬ (L.length : Int) < 2 := by omega
    have c2' : 12 < (L.length : Int) := by omega
    have : rightV L n m = 3 := by unfold rightV; rw [if_pos (.inr c2)]
    rw [this]
    simp (maxSteps := 4000000) (maxDischargeDepth := 6) [↓step_none, ↓step_t, ↓step_f, ↓step_nt, ↓step_nf, ↓op_load, ↓op_store, ↓op_slice, ↓op_app, ↓op_islc, ↓op_lens, lenS_str, ↓P_skip, ↓P_exit, ↓P_ret, ↓P_seq, ↓P_cond, ↓P_blk, ↓P_reg, ↓P_draw, ↓P_nil, ↓P_cons, condP_t, condP_f, dum_ab, stepR, want_none, want_some, opRun, ev_t, ev_c, put_none, put_some, resAll, res_tmp, res_cell, oneOf, minI, maxI, min2A, max2A, mn2, mx2, mx3, rdBlk, wrBlk, newBlk, partA, abin, ibin, isShift, AV.cells, AV.one, lay, sub, fillA, lenA, toN, allApart, apartFrom, Nat.testBit, Mem.blk_set_same, Mem.blk_set_ne, Mem.set_set, bit_zero, bit_self, lowBits_or, lowBits_zero, len_setT, sl_same, sl_ne, len_frame, sl_frame,↓op_len, lenOp_slc, lenOp_nils, ↓Post.some, ↓Post_bind, ↓Post_ret, ↓Post_draw, ↓PostL_nil, ↓PostL_cons, Post_fail, ofOpt_some, ofOpt_none, eA_b, eA_i, eA_s, eA_nn, eA_np, eA_pn, eA_lnn, eA_lnp, eA_lpn, eA_i2, eA_i3, blt_dec, Nat.add_assoc, keeps_refl, keeps_at, keeps_up, new_one, and_pow, bit_hi, lowBits_pow, ble_dec, fr_refl, fr_at, fr_up, fr_p, dum_ab, reps, F24, ls, c1', c2']
  have c1' : ¬ (L.length : Int) < 2 := by omega
  have c2' : ¬ 12 < (L.length : Int) := by omega
  have hR : rightV L n m = if headBad L = true then 14 else errN L n m L.length := by unfold rightV; rw [if_neg (by omega)]
  obtain ⟨b0, o0, el0⟩ := g.el (show 0 < L.length by omega)
  obtain ⟨b1, o1, el1⟩ := g.el (show 1 < L.length by omega)
  have p0 := el0.pl
  have p1 := el1.pl
  have e0 := el0.all
  have e1 := el1.all
  have lt0 := el0.lt
  have lt1 := el1.lt
  have hh := headBad_at (L := L) (by omega)
  obtain ⟨x, hx⟩ : ∃ x, x = L[0]'(by omega) := ⟨_, rfl⟩
  obtain ⟨y, hy⟩ : ∃ y, y = L[1]'(by omega) := ⟨_, rfl⟩
  rw [← hx] at e0
  rw [← hy] at e1
  rw [← hx, ← hy] at hh
  simp only [C.cs] at e0 e1
  simp only [show ((0 : Nat) : Int) = 0 from rfl, show ((1 : Nat) : Int) = 1 from rfl] at p0 p1
  have x1 := fun lg => el0.one 1 _ rfl lg
  have x2 := fun lg => el0.one 2 _ rfl lg
  have y1 := fun lg => el1.one 1 _ rfl lg
  have y2 := fun lg => el1.one 2 _ rfl lg
  rw [← hx] at x1 x2
  rw [← hy] at y1 y2
  have bad : headBad L = true → rightV L n m = 14 := fun e => by rw [hR, if_pos e]
  by_cases d1 : x.sup = -1
  · rw [d1] at x1
    by_cases d2 : y.sup = -1
    · rw [d2] at y1
      by_cases d3 : x.fld = 4
      · rw [d3] at x2
        by_cases d4 : y.fld = 0
        · have hg : rightV L n m = errN L n m L.length := by rw [hR, if_neg (by rw [hh, d1, d2, d3, d4]; decide)]
          rw [d4] at y2
          rw [hg]
          simp (maxSteps := 4000000) (maxDischargeDepth := 6) [↓step_none, ↓step_t, ↓step_f, ↓step_nt, ↓step_nf, ↓op_load, ↓op_store, ↓op_slice, ↓op_app, ↓op_islc, ↓op_lens, lenS_str, ↓P_skip, ↓P_exit, ↓P_ret, ↓P_seq, ↓P_cond, ↓P_blk, ↓P_reg, ↓P_draw, ↓P_nil, ↓P_cons, condP_t, condP_f, dum_ab, stepR, want_none, want_some, opRun, ev_t, ev_c, put_none, put_some, resAll, res_tmp, res_cell, oneOf, minI, maxI, min2A, max2A, mn2, mx2, mx3, rdBlk, wrBlk, newBlk, partA, abin, ibin, isShift, AV.cells, AV.one, lay, sub, fillA, lenA, toN, allApart, apartFrom, Nat.testBit, Mem.blk_set_same, Mem.blk_set_ne, Mem.set_set, bit_zero, bit_self, lowBits_or, lowBits_zero, len_setT, sl_same, sl_ne, len_frame, sl_frame,↓op_len, lenOp_slc, lenOp_nils, ↓Post.some, ↓Post_bind, ↓Post_ret, ↓Post_draw, ↓PostL_nil, ↓PostL_cons, Post_fail, ofOpt_some, ofOpt_none, eA_b, eA_i, eA_s, eA_nn, eA_np, eA_pn, eA_lnn, eA_lnp, eA_lpn, eA_i2, eA_i3, blt_dec, Nat.add_assoc, keeps_refl, keeps_at, keeps_up, new_one, and_pow, bit_hi, lowBits_pow, ble_dec, fr_refl, fr_at, fr_up, fr_p, dum_ab, reps, F24, ls, c1', c2', p0, p1, e0, e1, lt0, lt1, x1, x2, y1, y2, L24_1]
          refine Post.loop (rs_round n m g (by omega) hbb lg hlg) (L.length - 0) ⟨0, rfl, by omega, ?_, ?_, ?_, ?_, ?_, ?_, ?_, fun j _ hj => absurd hj (Nat.not_lt_zero _), rfl, Nat.le_refl _, fun _ _ => rfl, fun q _ => Nat.zero_and _⟩ ?_ ?_
          any_goals simp (maxDischargeDepth := 6) [len_setT, sl_same, sl_ne, sl_frame, len_frame]
          · omega
          rintro e ts' h' nx' tc wr ⟨hlen, hn, hk, hw, ⟨rfl, hx⟩ | ⟨rfl, g6⟩⟩
          · simp (maxSteps := 4000000) [↓step_none, ↓step_t, ↓step_f, ↓step_nt, ↓step_nf, ↓op_load, ↓op_store, ↓op_slice, ↓op_app, ↓P_skip, ↓P_exit, ↓P_ret, ↓P_seq, ↓P_cond, ↓P_blk, ↓P_reg, ↓P_draw, ↓P_nil, ↓P_cons, condP_t, condP_f, dum_ab, stepR, want_none, want_some, opRun, ev_t, ev_c, put_none, put_some, resAll, res_tmp, res_cell, oneOf, minI, maxI, min2A, max2A, mn2, mx2, mx3, rdBlk, wrBlk, newBlk, partA, abin, ibin, isShift, AV.cells, AV.one, lay, sub, fillA, lenA, toN, allApart, apartFrom, Nat.testBit, Mem.blk_set_same, Mem.blk_set_ne, Mem.set_set, bit_zero, bit_self, lowBits_or, lowBits_zero, len_setT, sl_same, sl_ne, len_frame, sl_frame,↓op_len, lenOp_slc, lenOp_nils, ↓Post.some, ↓Post_bind, ↓Post_ret, ↓Post_draw, ↓PostL_nil, ↓PostL_cons, Post_fail, ofOpt_some, ofOpt_none, eA_b, eA_i, eA_s, eA_nn, eA_np, eA_pn, eA_lnn, eA_lnp, eA_lpn, eA_i2, eA_i3, blt_dec, Nat.add_assoc, keeps_refl, keeps_at, keeps_up, new_one, and_pow, bit_hi, lowBits_pow, ble_dec, fr_refl, fr_at, fr_up, fr_p, dum_ab, hlen, hx]
            exact ⟨hn, hk, hw⟩
          · simp (maxSteps := 4000000) [↓step_none, ↓step_t, ↓step_f, ↓step_nt, ↓step_nf, ↓op_load, ↓op_store, ↓op_slice, ↓op_app, ↓P_skip, ↓P_exit, ↓P_ret, ↓P_seq, ↓P_cond, ↓P_blk, ↓P_reg, ↓P_draw, ↓P_nil, ↓P_cons, condP_t, condP_f, dum_ab, stepR, want_none, want_some, opRun, ev_t, ev_c, put_none, put_some, resAll, res_tmp, res_cell, oneOf, minI, maxI, min2A, max2A, mn2, mx2, mx3, rdBlk, wrBlk, newBlk, partA, abin, ibin, isShift, AV.cells, AV.one, lay, sub, fillA, lenA, toN, allApart, apartFrom, Nat.testBit, Mem.blk_set_same, Mem.blk_set_ne, Mem.set_set, bit_zero, bit_self, lowBits_or, lowBits_zero, len_setT, sl_same, sl_ne, len_frame, sl_frame,↓op_len, lenOp_slc, lenOp_nils, ↓Post.some, ↓Post_bind, ↓Post_ret, ↓Post_draw, ↓PostL_nil, ↓PostL_cons, Post_fail, ofOpt_some, ofOpt_none, eA_b, eA_i, eA_s, eA_nn, eA_np, eA_pn, eA_lnn, eA_lnp, eA_lpn, eA_i2, eA_i3, blt_dec, Nat.add_assoc, keeps_refl, keeps_at, keeps_up, new_one, and_pow, bit_hi, lowBits_pow, ble_dec, fr_refl, fr_at, fr_up, fr_p, dum_ab, hlen, g6]
            exact ⟨hn, hk, hw⟩
        · have d4' : (y.fld != 0) = true := by simp [d4]
          rw [bad (by rw [hh, d4']; simp)]
          simp (maxSteps := 4000000) (maxDischargeDepth := 6) [↓step_none, ↓step_t, ↓step_f, ↓step_nt, ↓step_nf, ↓op_load, ↓op_store, ↓op_slice, ↓op_app, ↓op_islc, ↓op_lens, lenS_str, ↓P_skip, ↓P_exit, ↓P_ret, ↓P_seq, ↓P_cond, ↓P_blk, ↓P_reg, ↓P_draw, ↓P_nil, ↓P_cons, condP_t, condP_f, dum_ab, stepR, want_none, want_some, opRun, ev_t, ev_c, put_none, put_some, resAll, res_tmp, res_cell, oneOf, minI, maxI, min2A, max2A, mn2, mx2, mx3, rdBlk, wrBlk, newBlk, partA, abin, ibin, isShift, AV.cells, AV.one, lay, sub, fillA, lenA, toN, allApart, apartFrom, Nat.testBit, Mem.blk_set_same, Mem.blk_set_ne, Mem.set_set, bit_zero, bit_self, lowBits_or, lowBits_zero, len_setT, sl_same, sl_ne, len_frame, sl_frame,↓op_len, lenOp_slc, lenOp_nils, ↓Post.some, ↓Post_bind, ↓Post_ret, ↓Post_draw, ↓PostL_nil, ↓PostL_cons, Post_fail, ofOpt_some, ofOpt_none, eA_b, eA_i, eA_s, eA_nn, eA_np, eA_pn, eA_lnn, eA_lnp, eA_lpn, eA_i2, eA_i3, blt_dec, Nat.add_assoc, keeps_refl, keeps_at, keeps_up, new_one, and_pow, bit_hi, lowBits_pow, ble_dec, fr_refl, fr_at, fr_up, fr_p, dum_ab, reps, F24, ls, c1', c2', p0, p1, e0, e1, lt0, lt1, x1, x2, y1, y2, L24_1, d4']
      · have d3' : (x.fld != 4) = true := by simp [d3]
        rw [bad (by rw [hh, d3']; simp)]
        simp (maxSteps := 4000000) (maxDischargeDepth := 6) [↓step_none, ↓step_t, ↓step_f, ↓step_nt, ↓step_nf, ↓op_load, ↓op_store, ↓op_slice, ↓op_app, ↓op_islc, ↓op_lens, lenS_str, ↓P_skip, ↓P_exit, ↓P_ret, ↓P_seq, ↓P_cond, ↓P_blk, ↓P_reg, ↓P_draw, ↓P_nil, ↓P_cons, condP_t, condP_f, dum_ab, stepR, want_none, want_some, opRun, ev_t, ev_c, put_none, put_some, resAll, res_tmp, res_cell, oneOf, minI, maxI, min2A, max2A, mn2, mx2, mx3, rdBlk, wrBlk, newBlk, partA, abin, ibin, isShift, AV.cells, AV.one, lay, sub, fillA, lenA, toN, allApart, apartFrom, Nat.testBit, Mem.blk_set_same, Mem.blk_set_ne, Mem.set_set, bit_zero, bit_self, lowBits_or, lowBits_zero, len_setT, sl_same, sl_ne, len_frame, sl_frame,↓op_len, lenOp_slc, lenOp_nils, ↓Post.some, ↓Post_bind, ↓Post_ret, ↓Post_draw, ↓PostL_nil, ↓PostL_cons, Post_fail, ofOpt_some, ofOpt_none, eA_b, eA_i, eA_s, eA_nn, eA_np, eA_pn, eA_lnn, eA_lnp, eA_lpn, eA_i2, eA_i3, blt_dec, Nat.add_assoc, keeps_refl, keeps_at, keeps_up, new_one, and_pow, bit_hi, lowBits_pow, ble_dec, fr_refl, fr_at, fr_up, fr_p, dum_ab, reps, F24, ls, c1', c2', p0, p1, e0, e1, lt0, lt1, x1, x2, y1, y2, L24_1, d3']
    · have d2' : (y.sup != -1) = true := by simp [d2]
      rw [bad (by rw [hh, d2']; simp)]
      simp (maxSteps := 4000000) (maxDischargeDepth := 6) [↓step_none, ↓step_t, ↓step_f, ↓step_nt, ↓step_nf, ↓op_load, ↓op_store, ↓op_slice, ↓op_app, ↓op_islc, ↓op_lens, lenS_str, ↓P_skip, ↓P_exit, ↓P_ret, ↓P_seq, ↓P_cond, ↓P_blk, ↓P_reg, ↓P_draw, ↓P_nil, ↓P_cons, condP_t, condP_f, dum_ab, stepR, want_none, want_some, opRun, ev_t, ev_c, put_none, put_some, resAll, res_tmp, res_cell, oneOf, minI, maxI, min2A, max2A, mn2, mx2, mx3, rdBlk, wrBlk, newBlk, partA, abin, ibin, isShift, AV.cells, AV.one, lay, sub, fillA, lenA, toN, allApart, apartFrom, Nat.testBit, Mem.blk_set_same, Mem.blk_set_ne, Mem.set_set, bit_zero, bit_self, lowBits_or, lowBits_zero, len_setT, sl_same, sl_ne, len_frame, sl_frame,↓op_len, lenOp_slc, lenOp_nils, ↓Post.some, ↓Post_bind, ↓Post_ret, ↓Post_draw, ↓PostL_nil, ↓PostL_cons, Post_fail, ofOpt_some, ofOpt_none, eA_b, eA_i, eA_s, eA_nn, eA_np, eA_pn, eA_lnn, eA_lnp, eA_lpn, eA_i2, eA_i3, blt_dec, Nat.add_assoc, keeps_refl, keeps_at, keeps_up, new_one, and_pow, bit_hi, lowBits_pow, ble_dec, fr_refl, fr_at, fr_up, fr_p, dum_ab, reps, F24, ls, c1', c2', p0, p1, e0, e1, lt0, lt1, x1, x2, y1, y2, L24_1, d2']
  · have d1' : (x.sup != -1) = true := by simp [d1]
    rw [bad (by rw [hh, d1']; simp)]
    simp (maxSteps := 4000000) (maxDischargeDepth := 6) [↓step_none, ↓step_t, ↓step_f, ↓step_nt, ↓step_nf, ↓op_load, ↓op_store, ↓op_slice, ↓op_app, ↓op_islc, ↓op_lens, lenS_str, ↓P_skip, ↓P_exit, ↓P_ret, ↓P_seq, ↓P_cond, ↓P_blk, ↓P_reg, ↓P_draw, ↓P_nil, ↓P_cons, condP_t, condP_f, dum_ab, stepR, want_none, want_some, opRun, ev_t, ev_c, put_none, put_some, resAll, res_tmp, res_cell, oneOf, minI, maxI, min2A, max2A, mn2, mx2, mx3, rdBlk, wrBlk, newBlk, partA, abin, ibin, isShift, AV.cells, AV.one, lay, sub, fillA, lenA, toN, allApart, apartFrom, Nat.testBit, Mem.blk_set_same, Mem.blk_set_ne, Mem.set_set, bit_zero, bit_self, lowBits_or, lowBits_zero, len_setT, sl_same, sl_ne, len_frame, sl_frame,↓op_len, lenOp_slc, lenOp_nils, ↓Post.some, ↓Post_bind, ↓Post_ret, ↓Post_draw, ↓PostL_nil, ↓PostL_cons, Post_fail, ofOpt_some, ofOpt_none, eA_b, eA_i, eA_s, eA_nn, eA_np, eA_pn, eA_lnn, eA_lnp, eA_lpn, eA_i2, eA_i3, blt_dec, Nat.add_assoc, keeps_refl, keeps_at, keeps_up, new_one, and_pow, bit_hi, lowBits_pow, ble_dec, fr_refl, fr_at, fr_up, fr_p, dum_ab, reps, F24, ls, c1', c2', p0, p1, e0, e1, lt0, lt1, x1, x2, y1, y2, L24_1, d1']
end Go.Proofs.YtahjkhmoojobgaaT
