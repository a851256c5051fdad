/- Shape: a class's super and fields. -/
import Derived.Test.YtahjkhmoojobgaaBd2
namespace Go.Proofs.YtahjkhmoojobgaaT
open Go Go.Proofs.YtahjkhmoojobgaaE Go.Proofs.YtahjkhmoojobgaaB
set_option linter.unusedSimpArgs false
set_option linter.unusedVariables false
attribute [local congr] Post_cg PostL_cg condP_cg

def supB (L : List C) (i : Nat) : Bool := match L[i]? with
  | none => false
  | some c => decide (0 ≤ c.fld) && decide (c.fld ≤ 62) && decide (-1 ≤ c.sup) && decide (c.sup < i) && (c.sup == -1 || decide ((chain L c.sup).length < 8) && (match L[c.sup.toNat]? with
    | some s => decide (s.fld ≤ c.fld)
    | none => false))
def cz : List AV := [.str ⟨⟨[]⟩⟩, .int .i64 0, .int .i64 0, .nils]
theorem CR.one {v : AV} {h : Mem} {nx : Nat} {L : List C} (g : CR v h nx L) {c : C} (hc : c ∈ L) : c.cs.all AV.one = true := by
  have := (g.b c hc).1.one.2
  have e : c.cs.all AV.one = c.bv.one := by
    unfold C.cs
    simp only [List.all_cons, List.all_nil, Bool.and_true]
    rfl
  rw [e, this]
/-- A class as a variable. -/
theorem cvar {v : AV} {L : List C} {h : Mem} {nx : Nat} (g : CR v h nx L) {i : Nat} (hi : i < L.length) :
    ∃ H, (∀ lg, stA 4 (.ptr nx 0) (.agg L[i].cs) (h.set nx (some ⟨38, 4, true, false, cz⟩)) (nx + 1) lg = some ⟨.tup [], H, nx + 1, bit lg nx, bit lg nx⟩) ∧ H.blk nx = some ⟨38, 4, true, false, L[i].cs⟩ ∧ ∀ q, q < nx → H.blk q = h.blk q :=
  st_var h nx (n := 4) (t := 38) (sz := 4) (g := false) cz L[i].cs rfl rfl (g.one (List.getElem_mem hi))
set_option maxHeartbeats 8000000 in
theorem sup_nw {v : AV} {L : List C} {h : Mem} {nx : Nat} (g : CR v h nx L) {i : Nat} (hi : i < L.length) : NwC T 240 27 [v, .int .i64 i] h nx fun r h' nx' => r = .bool (supB L i) := by
  intro lg hlg
  obtain ⟨b, o, el⟩ := g.el hi
  obtain ⟨H, st, hb, hs⟩ := cvar g hi
  have gH := g.keeps (nx' := nx + 1) (by omega) hs
  have e0 := el.all lg
  have p0 := el.pl
  have ok : supB L i = (decide (0 ≤ L[i].fld) && decide (L[i].fld ≤ 62) && decide (-1 ≤ L[i].sup) && decide (L[i].sup < i) && (L[i].sup == -1 || decide ((chain L L[i].sup).length < 8) && (match L[L[i].sup.toNat]? with
    | some s => decide (s.fld ≤ L[i].fld)
    | none => false))) := by unfold supB; rw [List.getElem?_eq_getElem hi]
  have l1 := fun lg => ld_at hb (show nx < nx + 1 by omega) (o := 1) (v := .int .i64 L[i].sup) rfl lg
  have l2 := fun lg => ld_at hb (show nx < nx + 1 by omega) (o := 2) (v := .int .i64 L[i].fld) rfl lg
  have bitz : bit lg nx = 0 := bit_up hlg
  generalize hs1 : L[i].sup = s at *
  generalize hf1 : L[i].fld = f at *
  simp only [C.cs, cz] at e0 st
  rw [hs1, hf1] at e0 st
  rw [xF_fr T27]
  by_cases c1 : f < 0
  · rw [ok]
    simp (maxSteps := 4000000) (maxDischargeDepth := 6) [↓step_none, ↓step_t, ↓step_f, ↓step_nt, ↓step_nf, ↓op_load, ↓op_store, ↓op_slice, ↓op_app, ↓op_islc, ↓P_skip, ↓P_exit, ↓P_ret, ↓P_seq, ↓P_cond, ↓P_blk, ↓P_reg, ↓P_draw, ↓P_nil, ↓P_cons, condP_t, condP_f, dum_ab, stepR, want_none, want_some, opRun, ev_t, ev_c, put_none, put_some, resAll, res_tmp, res_cell, oneOf, minI, maxI, min2A, max2A, mn2, mx2, mx3, rdBlk, wrBlk, newBlk, partA, abin, ibin, isShift, AV.cells, AV.one, lay, sub, fillA, lenA, toN, allApart, apartFrom, Nat.testBit, Mem.blk_set_same, Mem.blk_set_ne, Mem.set_set, bit_zero, bit_self, lowBits_or, lowBits_zero, len_setT, sl_same, sl_ne, len_frame, sl_frame,↓op_len, lenOp_slc, lenOp_nils, ↓Post.some, ↓Post_bind, ↓Post_ret, ↓Post_draw, ↓PostL_nil, ↓PostL_cons, Post_fail, ofOpt_some, ofOpt_none, eA_b, eA_i, eA_s, eA_nn, eA_np, eA_pn, eA_lnn, eA_lnp, eA_lpn, eA_i2, eA_i3, blt_dec, Nat.add_assoc, keeps_refl, keeps_at, keeps_up, new_one, and_pow, bit_hi, lowBits_pow, ble_dec, fr_refl, fr_at, fr_up, fr_p, dum_ab, reps, F27, e0, p0, st, l1, l2, bitz, c1, show ¬ 0 ≤ f by omega]
    exact hs
  by_cases c2 : 62 < f
  · rw [ok]
    simp (maxSteps := 4000000) (maxDischargeDepth := 6) [↓step_none, ↓step_t, ↓step_f, ↓step_nt, ↓step_nf, ↓op_load, ↓op_store, ↓op_slice, ↓op_app, ↓op_islc, ↓P_skip, ↓P_exit, ↓P_ret, ↓P_seq, ↓P_cond, ↓P_blk, ↓P_reg, ↓P_draw, ↓P_nil, ↓P_cons, condP_t, condP_f, dum_ab, stepR, want_none, want_some, opRun, ev_t, ev_c, put_none, put_some, resAll, res_tmp, res_cell, oneOf, minI, maxI, min2A, max2A, mn2, mx2, mx3, rdBlk, wrBlk, newBlk, partA, abin, ibin, isShift, AV.cells, AV.one, lay, sub, fillA, lenA, toN, allApart, apartFrom, Nat.testBit, Mem.blk_set_same, Mem.blk_set_ne, Mem.set_set, bit_zero, bit_self, lowBits_or, lowBits_zero, len_setT, sl_same, sl_ne, len_frame, sl_frame,↓op_len, lenOp_slc, lenOp_nils, ↓Post.some, ↓Post_bind, ↓Post_ret, ↓Post_draw, ↓PostL_nil, ↓PostL_cons, Post_fail, ofOpt_some, ofOpt_none, eA_b, eA_i, eA_s, eA_nn, eA_np, eA_pn, eA_lnn, eA_lnp, eA_lpn, eA_i2, eA_i3, blt_dec, Nat.add_assoc, keeps_refl, keeps_at, keeps_up, new_one, and_pow, bit_hi, lowBits_pow, ble_dec, fr_refl, fr_at, fr_up, fr_p, dum_ab, reps, F27, e0, p0, st, l1, l2, bitz, c1, c2, show ¬ f ≤ 62 by omega]
    exact hs
  by_cases c3 : s < -1
  · rw [ok]
    simp (maxSteps := 4000000) (maxDischargeDepth := 6) [↓step_none, ↓step_t, ↓step_f, ↓step_nt, ↓step_nf, ↓op_load, ↓op_store, ↓op_slice, ↓op_app, ↓op_islc, ↓P_skip, ↓P_exit, ↓P_ret, ↓P_seq, ↓P_cond, ↓P_blk, ↓P_reg, ↓P_draw, ↓P_nil, ↓P_cons, condP_t, condP_f, dum_ab, stepR, want_none, want_some, opRun, ev_t, ev_c, put_none, put_some, resAll, res_tmp, res_cell, oneOf, minI, maxI, min2A, max2A, mn2, mx2, mx3, rdBlk, wrBlk, newBlk, partA, abin, ibin, isShift, AV.cells, AV.one, lay, sub, fillA, lenA, toN, allApart, apartFrom, Nat.testBit, Mem.blk_set_same, Mem.blk_set_ne, Mem.set_set, bit_zero, bit_self, lowBits_or, lowBits_zero, len_setT, sl_same, sl_ne, len_frame, sl_frame,↓op_len, lenOp_slc, lenOp_nils, ↓Post.some, ↓Post_bind, ↓Post_ret, ↓Post_draw, ↓PostL_nil, ↓PostL_cons, Post_fail, ofOpt_some, ofOpt_none, eA_b, eA_i, eA_s, eA_nn, eA_np, eA_pn, eA_lnn, eA_lnp, eA_lpn, eA_i2, eA_i3, blt_dec, Nat.add_assoc, keeps_refl, keeps_at, keeps_up, new_one, and_pow, bit_hi, lowBits_pow, ble_dec, fr_refl, fr_at, fr_up, fr_p, dum_ab, reps, F27, e0, p0, st, l1, l2, bitz, c1, c2, c3, show ¬ -1 ≤ s by omega]
    exact hs
  by_cases c4 : (i : Int) ≤ s
  · rw [ok]
    simp (maxSteps := 4000000) (maxDischargeDepth := 6) [↓step_none, ↓step_t, ↓step_f, ↓step_nt, ↓step_nf, ↓op_load, ↓op_store, ↓op_slice, ↓op_app, ↓op_islc, ↓P_skip, ↓P_exit, ↓P_ret, ↓P_seq, ↓P_cond, ↓P_blk, ↓P_reg, ↓P_draw, ↓P_nil, ↓P_cons, condP_t, condP_f, dum_ab, stepR, want_none, want_some, opRun, ev_t, ev_c, put_none, put_some, resAll, res_tmp, res_cell, oneOf, minI, maxI, min2A, max2A, mn2, mx2, mx3, rdBlk, wrBlk, newBlk, partA, abin, ibin, isShift, AV.cells, AV.one, lay, sub, fillA, lenA, toN, allApart, apartFrom, Nat.testBit, Mem.blk_set_same, Mem.blk_set_ne, Mem.set_set, bit_zero, bit_self, lowBits_or, lowBits_zero, len_setT, sl_same, sl_ne, len_frame, sl_frame,↓op_len, lenOp_slc, lenOp_nils, ↓Post.some, ↓Post_bind, ↓Post_ret, ↓Post_draw, ↓PostL_nil, ↓PostL_cons, Post_fail, ofOpt_some, ofOpt_none, eA_b, eA_i, eA_s, eA_nn, eA_np, eA_pn, eA_lnn, eA_lnp, eA_lpn, eA_i2, eA_i3, blt_dec, Nat.add_assoc, keeps_refl, keeps_at, keeps_up, new_one, and_pow, bit_hi, lowBits_pow, ble_dec, fr_refl, fr_at, fr_up, fr_p, dum_ab, reps, F27, e0, p0, st, l1, l2, bitz, c1, c2, c3, c4, show ¬ s < i by omega]
    exact hs
  have ok' : supB L i = (s == -1 || decide ((chain L s).length < 8) && (match L[s.toNat]? with
    | some s => decide (s.fld ≤ f)
    | none => false)) := by rw [ok]; simp [show 0 ≤ f by omega, show f ≤ 62 by omega, show -1 ≤ s by omega, show s < i by omega]
  by_cases c5 : s = -1
  · subst c5
    rw [ok']
    simp (maxSteps := 4000000) (maxDischargeDepth := 6) [↓step_none, ↓step_t, ↓step_f, ↓step_nt, ↓step_nf, ↓op_load, ↓op_store, ↓op_slice, ↓op_app, ↓op_islc, ↓P_skip, ↓P_exit, ↓P_ret, ↓P_seq, ↓P_cond, ↓P_blk, ↓P_reg, ↓P_draw, ↓P_nil, ↓P_cons, condP_t, condP_f, dum_ab, stepR, want_none, want_some, opRun, ev_t, ev_c, put_none, put_some, resAll, res_tmp, res_cell, oneOf, minI, maxI, min2A, max2A, mn2, mx2, mx3, rdBlk, wrBlk, newBlk, partA, abin, ibin, isShift, AV.cells, AV.one, lay, sub, fillA, lenA, toN, allApart, apartFrom, Nat.testBit, Mem.blk_set_same, Mem.blk_set_ne, Mem.set_set, bit_zero, bit_self, lowBits_or, lowBits_zero, len_setT, sl_same, sl_ne, len_frame, sl_frame,↓op_len, lenOp_slc, lenOp_nils, ↓Post.some, ↓Post_bind, ↓Post_ret, ↓Post_draw, ↓PostL_nil, ↓PostL_cons, Post_fail, ofOpt_some, ofOpt_none, eA_b, eA_i, eA_s, eA_nn, eA_np, eA_pn, eA_lnn, eA_lnp, eA_lpn, eA_i2, eA_i3, blt_dec, Nat.add_assoc, keeps_refl, keeps_at, keeps_up, new_one, and_pow, bit_hi, lowBits_pow, ble_dec, fr_refl, fr_at, fr_up, fr_p, dum_ab, reps, F27, e0, p0, st, l1, l2, bitz, c1, c2, c3, c4]
    exact hs
  · have c5' : (s == -1) = false := beq_eq_false_iff_ne.2 c5
    obtain ⟨k, rfl⟩ : ∃ k : Nat, s = k := ⟨s.toNat, by omega⟩
    have hk : k < L.length := by omega
    rw [ok', c5', Bool.false_or]
    simp (maxSteps := 4000000) (maxDischargeDepth := 6) [↓step_none, ↓step_t, ↓step_f, ↓step_nt, ↓step_nf, ↓op_load, ↓op_store, ↓op_slice, ↓op_app, ↓op_islc, ↓P_skip, ↓P_exit, ↓P_ret, ↓P_seq, ↓P_cond, ↓P_blk, ↓P_reg, ↓P_draw, ↓P_nil, ↓P_cons, condP_t, condP_f, dum_ab, stepR, want_none, want_some, opRun, ev_t, ev_c, put_none, put_some, resAll, res_tmp, res_cell, oneOf, minI, maxI, min2A, max2A, mn2, mx2, mx3, rdBlk, wrBlk, newBlk, partA, abin, ibin, isShift, AV.cells, AV.one, lay, sub, fillA, lenA, toN, allApart, apartFrom, Nat.testBit, Mem.blk_set_same, Mem.blk_set_ne, Mem.set_set, bit_zero, bit_self, lowBits_or, lowBits_zero, len_setT, sl_same, sl_ne, len_frame, sl_frame,↓op_len, lenOp_slc, lenOp_nils, ↓Post.some, ↓Post_bind, ↓Post_ret, ↓Post_draw, ↓PostL_nil, ↓PostL_cons, Post_fail, ofOpt_some, ofOpt_none, eA_b, eA_i, eA_s, eA_nn, eA_np, eA_pn, eA_lnn, eA_lnp, eA_lpn, eA_i2, eA_i3, blt_dec, Nat.add_assoc, keeps_refl, keeps_at, keeps_up, new_one, and_pow, bit_hi, lowBits_pow, ble_dec, fr_refl, fr_at, fr_up, fr_p, dum_ab, reps, F27, e0, p0, st, l1, l2, bitz, c1, c2, c3, c4, c5']
    refine (depth_nw gH k).post (by omega) (by omega) ?_
    rintro r h' nx' tc' wr' rfl hn' hk' hw'
    have hb' := (hk' nx (by omega)).trans hb
    have l1' := fun lg => ld_at hb' (show nx < nx' by omega) (o := 1) (v := .int .i64 k) (by rw [C.cs, hs1]; rfl) lg
    have l2' := fun lg => ld_at hb' (show nx < nx' by omega) (o := 2) (v := .int .i64 f) (by rw [C.cs, hf1]; rfl) lg
    have gH' := gH.keeps hn' hk'
    obtain ⟨b2, o2, el2⟩ := gH'.el hk
    have q2 := fun lg => el2.one 2 _ rfl lg
    have r2 := el2.pl
    have kk : ∀ q, q < nx → h'.blk q = h.blk q := fun q hq => (hk' q (by omega)).trans (hs q hq)
    have k2 : L[(k : Int).toNat]? = some L[k] := List.getElem?_eq_getElem hk
    rw [k2]
    have bo : (decide ((chain L k).length < 8) && decide (L[k].fld ≤ f)) = (decide (((chain L k).length : Int) < 8) && decide (L[k].fld ≤ f)) := by congr 1; simp only [decide_eq_decide]; omega
    simp only [bo]
    generalize hd : ((chain L k).length : Int) = d
    by_cases c6 : d < 8
    · simp (maxSteps := 4000000) (maxDischargeDepth := 6) [↓step_none, ↓step_t, ↓step_f, ↓step_nt, ↓step_nf, ↓op_load, ↓op_store, ↓op_slice, ↓op_app, ↓op_islc, ↓P_skip, ↓P_exit, ↓P_ret, ↓P_seq, ↓P_cond, ↓P_blk, ↓P_reg, ↓P_draw, ↓P_nil, ↓P_cons, condP_t, condP_f, dum_ab, stepR, want_none, want_some, opRun, ev_t, ev_c, put_none, put_some, resAll, res_tmp, res_cell, oneOf, minI, maxI, min2A, max2A, mn2, mx2, mx3, rdBlk, wrBlk, newBlk, partA, abin, ibin, isShift, AV.cells, AV.one, lay, sub, fillA, lenA, toN, allApart, apartFrom, Nat.testBit, Mem.blk_set_same, Mem.blk_set_ne, Mem.set_set, bit_zero, bit_self, lowBits_or, lowBits_zero, len_setT, sl_same, sl_ne, len_frame, sl_frame,↓op_len, lenOp_slc, lenOp_nils, ↓Post.some, ↓Post_bind, ↓Post_ret, ↓Post_draw, ↓PostL_nil, ↓PostL_cons, Post_fail, ofOpt_some, ofOpt_none, eA_b, eA_i, eA_s, eA_nn, eA_np, eA_pn, eA_lnn, eA_lnp, eA_lpn, eA_i2, eA_i3, blt_dec, Nat.add_assoc, keeps_refl, keeps_at, keeps_up, new_one, and_pow, bit_hi, lowBits_pow, ble_dec, fr_refl, fr_at, fr_up, fr_p, dum_ab, reps, c6, l1', l2', q2, r2, hk]
      exact ⟨by omega, kk, fun q hq => low_z (hw' q (by omega))⟩
    · simp (maxSteps := 4000000) (maxDischargeDepth := 6) [↓step_none, ↓step_t, ↓step_f, ↓step_nt, ↓step_nf, ↓op_load, ↓op_store, ↓op_slice, ↓op_app, ↓op_islc, ↓P_skip, ↓P_exit, ↓P_ret, ↓P_seq, ↓P_cond, ↓P_blk, ↓P_reg, ↓P_draw, ↓P_nil, ↓P_cons, condP_t, condP_f, dum_ab, stepR, want_none, want_some, opRun, ev_t, ev_c, put_none, put_some, resAll, res_tmp, res_cell, oneOf, minI, maxI, min2A, max2A, mn2, mx2, mx3, rdBlk, wrBlk, newBlk, partA, abin, ibin, isShift, AV.cells, AV.one, lay, sub, fillA, lenA, toN, allApart, apartFrom, Nat.testBit, Mem.blk_set_same, Mem.blk_set_ne, Mem.set_set, bit_zero, bit_self, lowBits_or, lowBits_zero, len_setT, sl_same, sl_ne, len_frame, sl_frame,↓op_len, lenOp_slc, lenOp_nils, ↓Post.some, ↓Post_bind, ↓Post_ret, ↓Post_draw, ↓PostL_nil, ↓PostL_cons, Post_fail, ofOpt_some, ofOpt_none, eA_b, eA_i, eA_s, eA_nn, eA_np, eA_pn, eA_lnn, eA_lnp, eA_lpn, eA_i2, eA_i3, blt_dec, Nat.add_assoc, keeps_refl, keeps_at, keeps_up, new_one, and_pow, bit_hi, lowBits_pow, ble_dec, fr_refl, fr_at, fr_up, fr_p, dum_ab, reps, c6]
      exact ⟨by omega, kk, fun q hq => low_z (hw' q (by omega))⟩

/-! ### The reference's -/
theorem chainN_take (L : List C) : ∀ a b i, a ≤ b → chainN L a i = (chainN L b i).take a
  | 0, b, i, _ => by rw [List.take_zero]; rfl
  | a + 1, 0, i, h => by omega
  | a + 1, b + 1, i, h => by
    unfold chainN
    split
    · rw [List.take_succ_cons, chainN_take L a b _ (by omega)]
    · rw [List.take_nil]
/-- Each class's super is ahead of it. -/
def Down (L : List C) (i : Nat) : Prop := ∀ j (h : j < L.length), j < i → -1 ≤ L[j].sup ∧ L[j].sup < j
def CkI (v : AV) (L : List C) (i p : Nat) (tot : Int) (h0 : Mem) (nx0 : Nat) (m : Nat) (ts : List AV) (h : Mem) (nx tc wr : Nat) : Prop := ∃ (d k : Int), m = (k + 1).toNat ∧ -1 ≤ k ∧ k < i ∧ 1 ≤ d ∧ d + k ≤ i ∧ ts.length = 60 ∧ sl ts 0 = v ∧ sl ts 1 = .int .i64 i ∧ sl ts 5 = .ptr p 0 ∧ sl ts 6 = .int .i64 d ∧ sl ts 7 = .int .i64 k ∧ d + (chainN L 12 k).length = tot ∧ h = h0 ∧ nx = nx0 ∧ wr = 0
def CkR (v : AV) (L : List C) (i p : Nat) (tot : Int) (h0 : Mem) (nx0 : Nat) (e : Ex) (ts : List AV) (h : Mem) (nx tc wr : Nat) : Prop := e = .exit 0 ∧ ts.length = 60 ∧ sl ts 0 = v ∧ sl ts 1 = .int .i64 i ∧ sl ts 5 = .ptr p 0 ∧ sl ts 6 = .int .i64 tot ∧ h = h0 ∧ nx = nx0 ∧ wr = 0
theorem chain_down {L : List C} {i : Nat} (hd : Down L i) (hL : i ≤ L.length) : ∀ (n : Nat) (k : Int), k < i → k + 1 ≤ (n : Int) → chainN L n k = chainN L (n + 1) k
  | 0, k, h, g => by
    unfold chainN
    rw [dif_neg (by omega)]
  | n + 1, k, h, g => by
    rw [chainN, chainN]
    split
    · rename_i hk
      congr 1
      have := hd k.toNat (by omega) (by omega)
      exact chain_down hd hL n _ (by omega) (by omega)
    · rfl
set_option maxHeartbeats 4000000 in
theorem ck_round {v : AV} {L : List C} {i p : Nat} {tot : Int} {h0 : Mem} {nx0 : Nat} (g : CR v h0 nx0 L) (hL : i ≤ L.length) (h12 : i ≤ 12) (hd : Down L i) (lg : Nat) (m : Nat) (ts : List AV) (h : Mem) (nx tc wr : Nat) (hi : CkI v L i p tot h0 nx0 m ts h nx tc wr) :
    Post (xC T 60 L35_0b ts h nx lg) fun v' h' nx' tc' wr' => Round (CkI v L i p tot h0 nx0) (CkR v L i p tot h0 nx0) m v' h' nx' (tc ||| tc') (wr ||| wr') := by
  obtain ⟨d, k, rfl, k1, k2, d1, d2, hlen, g0, g1, g5, g6, g7, et, rfl, rfl, rfl⟩ := hi
  by_cases c : 0 ≤ k
  · obtain ⟨j, rfl⟩ : ∃ j : Nat, k = j := ⟨k.toNat, by omega⟩
    have hj : j < L.length := by omega
    obtain ⟨b, o, el⟩ := g.el hj
    have e1 := fun lg => el.one 1 _ rfl lg
    have p0 := el.pl
    have hd' := hd j hj (by omega)
    have cw : IntKind.i64.wrap (d + 1) = d + 1 := by rw [IntKind.wrap_i64]; omega
    simp (maxSteps := 4000000) (maxDischargeDepth := 6) [↓step_none, ↓step_t, ↓step_f, ↓step_nt, ↓step_nf, ↓op_load, ↓op_store, ↓op_slice, ↓op_app, ↓op_islc, ↓P_skip, ↓P_exit, ↓P_ret, ↓P_seq, ↓P_cond, ↓P_blk, ↓P_reg, ↓P_draw, ↓P_nil, ↓P_cons, condP_t, condP_f, dum_ab, stepR, want_none, want_some, opRun, ev_t, ev_c, put_none, put_some, resAll, res_tmp, res_cell, oneOf, minI, maxI, min2A, max2A, mn2, mx2, mx3, rdBlk, wrBlk, newBlk, partA, abin, ibin, isShift, AV.cells, AV.one, lay, sub, fillA, lenA, toN, allApart, apartFrom, Nat.testBit, Mem.blk_set_same, Mem.blk_set_ne, Mem.set_set, bit_zero, bit_self, lowBits_or, lowBits_zero, len_setT, sl_same, sl_ne, len_frame, sl_frame,↓op_len, lenOp_slc, lenOp_nils, ↓Post.some, ↓Post_bind, ↓Post_ret, ↓Post_draw, ↓PostL_nil, ↓PostL_cons, Post_fail, ofOpt_some, ofOpt_none, eA_b, eA_i, eA_s, eA_nn, eA_np, eA_pn, eA_lnn, eA_lnp, eA_lpn, eA_i2, eA_i3, blt_dec, Nat.add_assoc, keeps_refl, keeps_at, keeps_up, new_one, and_pow, bit_hi, lowBits_pow, ble_dec, fr_refl, fr_at, fr_up, fr_p, dum_ab, reps, L35_0b, hlen, g0, g1, g6, g7, e1, p0, cw]
    refine Round.nor (m' := (L[j].sup + 1).toNat) (by omega) ⟨d + 1, L[j].sup, rfl, by omega, by omega, by omega, by omega, ?_, ?_, ?_, ?_, ?_, ?_, ?_, rfl, rfl, rfl⟩
    any_goals simp [len_setT, sl_same, sl_ne, hlen, g0, g1, g5]
    rw [chain_down hd hL 12 _ (by omega) (by omega), chainN, dif_pos ⟨c, by omega⟩, List.length_cons] at et
    simp only [Int.toNat_natCast] at et
    omega
  · obtain rfl : k = -1 := by omega
    rw [chainN, dif_neg (by omega)] at et
    simp only [List.length_nil] at et
    simp (maxSteps := 4000000) (maxDischargeDepth := 6) [↓step_none, ↓step_t, ↓step_f, ↓step_nt, ↓step_nf, ↓op_load, ↓op_store, ↓op_slice, ↓op_app, ↓op_islc, ↓P_skip, ↓P_exit, ↓P_ret, ↓P_seq, ↓P_cond, ↓P_blk, ↓P_reg, ↓P_draw, ↓P_nil, ↓P_cons, condP_t, condP_f, dum_ab, stepR, want_none, want_some, opRun, ev_t, ev_c, put_none, put_some, resAll, res_tmp, res_cell, oneOf, minI, maxI, min2A, max2A, mn2, mx2, mx3, rdBlk, wrBlk, newBlk, partA, abin, ibin, isShift, AV.cells, AV.one, lay, sub, fillA, lenA, toN, allApart, apartFrom, Nat.testBit, Mem.blk_set_same, Mem.blk_set_ne, Mem.set_set, bit_zero, bit_self, lowBits_or, lowBits_zero, len_setT, sl_same, sl_ne, len_frame, sl_frame,↓op_len, lenOp_slc, lenOp_nils, ↓Post.some, ↓Post_bind, ↓Post_ret, ↓Post_draw, ↓PostL_nil, ↓PostL_cons, Post_fail, ofOpt_some, ofOpt_none, eA_b, eA_i, eA_s, eA_nn, eA_np, eA_pn, eA_lnn, eA_lnp, eA_lpn, eA_i2, eA_i3, blt_dec, Nat.add_assoc, keeps_refl, keeps_at, keeps_up, new_one, and_pow, bit_hi, lowBits_pow, ble_dec, fr_refl, fr_at, fr_up, fr_p, dum_ab, reps, L35_0b, hlen, g0, g1, g6, g7]
    refine Round.exit (R := CkR v L i p tot h nx) ⟨rfl, ?_, ?_, ?_, ?_, ?_, rfl, rfl, rfl⟩ <;> simp [len_setT, sl_same, sl_ne, hlen, g0, g1, g5, g6]
    omega
set_option maxHeartbeats 8000000 in
theorem rsup_nw {v : AV} {L : List C} {h : Mem} {nx : Nat} (g : CR v h nx L) {i : Nat} (hi : i < L.length) (h12 : i ≤ 12) (hd : Down L i) : NwC T 240 35 [v, .int .i64 i] h nx fun r h' nx' => r = .bool (supB L i) := by
  intro lg hlg
  obtain ⟨b, o, el⟩ := g.el hi
  obtain ⟨H, st, hb, hs⟩ := cvar g hi
  have gH := g.keeps (nx' := nx + 1) (by omega) hs
  have e0 := el.all lg
  have p0 := el.pl
  have ok : supB L i = (decide (0 ≤ L[i].fld) && decide (L[i].fld ≤ 62) && decide (-1 ≤ L[i].sup) && decide (L[i].sup < i) && (L[i].sup == -1 || decide ((chain L L[i].sup).length < 8) && (match L[L[i].sup.toNat]? with
    | some s => decide (s.fld ≤ L[i].fld)
    | none => false))) := by unfold supB; rw [List.getElem?_eq_getElem hi]
  have l1 := fun lg => ld_at hb (show nx < nx + 1 by omega) (o := 1) (v := .int .i64 L[i].sup) rfl lg
  have l2 := fun lg => ld_at hb (show nx < nx + 1 by omega) (o := 2) (v := .int .i64 L[i].fld) rfl lg
  have bitz : bit lg nx = 0 := bit_up hlg
  generalize hs1 : L[i].sup = s at *
  generalize hf1 : L[i].fld = f at *
  simp only [C.cs, cz] at e0 st
  rw [hs1, hf1] at e0 st
  rw [xF_fr T35]
  by_cases c1 : s < -1
  · rw [ok]
    simp (maxSteps := 4000000) (maxDischargeDepth := 6) [↓step_none, ↓step_t, ↓step_f, ↓step_nt, ↓step_nf, ↓op_load, ↓op_store, ↓op_slice, ↓op_app, ↓op_islc, ↓P_skip, ↓P_exit, ↓P_ret, ↓P_seq, ↓P_cond, ↓P_blk, ↓P_reg, ↓P_draw, ↓P_nil, ↓P_cons, condP_t, condP_f, dum_ab, stepR, want_none, want_some, opRun, ev_t, ev_c, put_none, put_some, resAll, res_tmp, res_cell, oneOf, minI, maxI, min2A, max2A, mn2, mx2, mx3, rdBlk, wrBlk, newBlk, partA, abin, ibin, isShift, AV.cells, AV.one, lay, sub, fillA, lenA, toN, allApart, apartFrom, Nat.testBit, Mem.blk_set_same, Mem.blk_set_ne, Mem.set_set, bit_zero, bit_self, lowBits_or, lowBits_zero, len_setT, sl_same, sl_ne, len_frame, sl_frame,↓op_len, lenOp_slc, lenOp_nils, ↓Post.some, ↓Post_bind, ↓Post_ret, ↓Post_draw, ↓PostL_nil, ↓PostL_cons, Post_fail, ofOpt_some, ofOpt_none, eA_b, eA_i, eA_s, eA_nn, eA_np, eA_pn, eA_lnn, eA_lnp, eA_lpn, eA_i2, eA_i3, blt_dec, Nat.add_assoc, keeps_refl, keeps_at, keeps_up, new_one, and_pow, bit_hi, lowBits_pow, ble_dec, fr_refl, fr_at, fr_up, fr_p, dum_ab, reps, F35, e0, p0, st, l1, l2, bitz, c1, show ¬ -1 ≤ s by omega]
    exact hs
  by_cases c2 : (i : Int) ≤ s
  · rw [ok]
    simp (maxSteps := 4000000) (maxDischargeDepth := 6) [↓step_none, ↓step_t, ↓step_f, ↓step_nt, ↓step_nf, ↓op_load, ↓op_store, ↓op_slice, ↓op_app, ↓op_islc, ↓P_skip, ↓P_exit, ↓P_ret, ↓P_seq, ↓P_cond, ↓P_blk, ↓P_reg, ↓P_draw, ↓P_nil, ↓P_cons, condP_t, condP_f, dum_ab, stepR, want_none, want_some, opRun, ev_t, ev_c, put_none, put_some, resAll, res_tmp, res_cell, oneOf, minI, maxI, min2A, max2A, mn2, mx2, mx3, rdBlk, wrBlk, newBlk, partA, abin, ibin, isShift, AV.cells, AV.one, lay, sub, fillA, lenA, toN, allApart, apartFrom, Nat.testBit, Mem.blk_set_same, Mem.blk_set_ne, Mem.set_set, bit_zero, bit_self, lowBits_or, lowBits_zero, len_setT, sl_same, sl_ne, len_frame, sl_frame,↓op_len, lenOp_slc, lenOp_nils, ↓Post.some, ↓Post_bind, ↓Post_ret, ↓Post_draw, ↓PostL_nil, ↓PostL_cons, Post_fail, ofOpt_some, ofOpt_none, eA_b, eA_i, eA_s, eA_nn, eA_np, eA_pn, eA_lnn, eA_lnp, eA_lpn, eA_i2, eA_i3, blt_dec, Nat.add_assoc, keeps_refl, keeps_at, keeps_up, new_one, and_pow, bit_hi, lowBits_pow, ble_dec, fr_refl, fr_at, fr_up, fr_p, dum_ab, reps, F35, e0, p0, st, l1, l2, bitz, c1, c2, show ¬ s < i by omega]
    exact hs
  by_cases c3 : f < 0
  · rw [ok]
    simp (maxSteps := 4000000) (maxDischargeDepth := 6) [↓step_none, ↓step_t, ↓step_f, ↓step_nt, ↓step_nf, ↓op_load, ↓op_store, ↓op_slice, ↓op_app, ↓op_islc, ↓P_skip, ↓P_exit, ↓P_ret, ↓P_seq, ↓P_cond, ↓P_blk, ↓P_reg, ↓P_draw, ↓P_nil, ↓P_cons, condP_t, condP_f, dum_ab, stepR, want_none, want_some, opRun, ev_t, ev_c, put_none, put_some, resAll, res_tmp, res_cell, oneOf, minI, maxI, min2A, max2A, mn2, mx2, mx3, rdBlk, wrBlk, newBlk, partA, abin, ibin, isShift, AV.cells, AV.one, lay, sub, fillA, lenA, toN, allApart, apartFrom, Nat.testBit, Mem.blk_set_same, Mem.blk_set_ne, Mem.set_set, bit_zero, bit_self, lowBits_or, lowBits_zero, len_setT, sl_same, sl_ne, len_frame, sl_frame,↓op_len, lenOp_slc, lenOp_nils, ↓Post.some, ↓Post_bind, ↓Post_ret, ↓Post_draw, ↓PostL_nil, ↓PostL_cons, Post_fail, ofOpt_some, ofOpt_none, eA_b, eA_i, eA_s, eA_nn, eA_np, eA_pn, eA_lnn, eA_lnp, eA_lpn, eA_i2, eA_i3, blt_dec, Nat.add_assoc, keeps_refl, keeps_at, keeps_up, new_one, and_pow, bit_hi, lowBits_pow, ble_dec, fr_refl, fr_at, fr_up, fr_p, dum_ab, reps, F35, e0, p0, st, l1, l2, bitz, c1, c2, c3, show ¬ 0 ≤ f by omega]
    exact hs
  by_cases c4 : 62 < f
  · rw [ok]
    simp (maxSteps := 4000000) (maxDischargeDepth := 6) [↓step_none, ↓step_t, ↓step_f, ↓step_nt, ↓step_nf, ↓op_load, ↓op_store, ↓op_slice, ↓op_app, ↓op_islc, ↓P_skip, ↓P_exit, ↓P_ret, ↓P_seq, ↓P_cond, ↓P_blk, ↓P_reg, ↓P_draw, ↓P_nil, ↓P_cons, condP_t, condP_f, dum_ab, stepR, want_none, want_some, opRun, ev_t, ev_c, put_none, put_some, resAll, res_tmp, res_cell, oneOf, minI, maxI, min2A, max2A, mn2, mx2, mx3, rdBlk, wrBlk, newBlk, partA, abin, ibin, isShift, AV.cells, AV.one, lay, sub, fillA, lenA, toN, allApart, apartFrom, Nat.testBit, Mem.blk_set_same, Mem.blk_set_ne, Mem.set_set, bit_zero, bit_self, lowBits_or, lowBits_zero, len_setT, sl_same, sl_ne, len_frame, sl_frame,↓op_len, lenOp_slc, lenOp_nils, ↓Post.some, ↓Post_bind, ↓Post_ret, ↓Post_draw, ↓PostL_nil, ↓PostL_cons, Post_fail, ofOpt_some, ofOpt_none, eA_b, eA_i, eA_s, eA_nn, eA_np, eA_pn, eA_lnn, eA_lnp, eA_lpn, eA_i2, eA_i3, blt_dec, Nat.add_assoc, keeps_refl, keeps_at, keeps_up, new_one, and_pow, bit_hi, lowBits_pow, ble_dec, fr_refl, fr_at, fr_up, fr_p, dum_ab, reps, F35, e0, p0, st, l1, l2, bitz, c1, c2, c3, c4, show ¬ f ≤ 62 by omega]
    exact hs
  have ok' : supB L i = (s == -1 || decide ((chain L s).length < 8) && (match L[s.toNat]? with
    | some s => decide (s.fld ≤ f)
    | none => false)) := by rw [ok]; simp [show 0 ≤ f by omega, show f ≤ 62 by omega, show -1 ≤ s by omega, show s < i by omega]
  simp (maxSteps := 4000000) (maxDischargeDepth := 6) [↓step_none, ↓step_t, ↓step_f, ↓step_nt, ↓step_nf, ↓op_load, ↓op_store, ↓op_slice, ↓op_app, ↓op_islc, ↓P_skip, ↓P_exit, ↓P_ret, ↓P_seq, ↓P_cond, ↓P_blk, ↓P_reg, ↓P_draw, ↓P_nil, ↓P_cons, condP_t, condP_f, dum_ab, stepR, want_none, want_some, opRun, ev_t, ev_c, put_none, put_some, resAll, res_tmp, res_cell, oneOf, minI, maxI, min2A, max2A, mn2, mx2, mx3, rdBlk, wrBlk, newBlk, partA, abin, ibin, isShift, AV.cells, AV.one, lay, sub, fillA, lenA, toN, allApart, apartFrom, Nat.testBit, Mem.blk_set_same, Mem.blk_set_ne, Mem.set_set, bit_zero, bit_self, lowBits_or, lowBits_zero, len_setT, sl_same, sl_ne, len_frame, sl_frame,↓op_len, lenOp_slc, lenOp_nils, ↓Post.some, ↓Post_bind, ↓Post_ret, ↓Post_draw, ↓PostL_nil, ↓PostL_cons, Post_fail, ofOpt_some, ofOpt_none, eA_b, eA_i, eA_s, eA_nn, eA_np, eA_pn, eA_lnn, eA_lnp, eA_lpn, eA_i2, eA_i3, blt_dec, Nat.add_assoc, keeps_refl, keeps_at, keeps_up, new_one, and_pow, bit_hi, lowBits_pow, ble_dec, fr_refl, fr_at, fr_up, fr_p, dum_ab, reps, F35, e0, p0, st, l1, l2, bitz, c1, c2, c3, c4, L35_0]
  refine Post.loop (ck_round (p := nx) gH (by omega) h12 hd lg) (s + 1).toNat ⟨1, s, rfl, by omega, by omega, by omega, by omega, ?_, ?_, ?_, ?_, ?_, ?_, rfl, rfl, rfl, rfl⟩ ?_ ?_
  any_goals simp (maxDischargeDepth := 6) [len_setT, sl_same, sl_ne, sl_frame, len_frame]
  · omega
  rintro e ts' h' nx' tc wr ⟨rfl, hlen, g0, g1, g5, g6, rfl, rfl, rfl⟩
  have ch : (chain L s).length = min 8 (chainN L 12 s).length := by
    unfold chain
    rw [chainN_take L 8 12 s (by omega), List.length_take]
  by_cases c5 : s = -1
  · subst c5
    have c0 : (chainN L 12 (-1)).length = 0 := by rw [chainN, dif_neg (by omega)]; rfl
    rw [ok']
    rw [c0] at g6
    simp (maxSteps := 4000000) (maxDischargeDepth := 6) [↓step_none, ↓step_t, ↓step_f, ↓step_nt, ↓step_nf, ↓op_load, ↓op_store, ↓op_slice, ↓op_app, ↓op_islc, ↓P_skip, ↓P_exit, ↓P_ret, ↓P_seq, ↓P_cond, ↓P_blk, ↓P_reg, ↓P_draw, ↓P_nil, ↓P_cons, condP_t, condP_f, dum_ab, stepR, want_none, want_some, opRun, ev_t, ev_c, put_none, put_some, resAll, res_tmp, res_cell, oneOf, minI, maxI, min2A, max2A, mn2, mx2, mx3, rdBlk, wrBlk, newBlk, partA, abin, ibin, isShift, AV.cells, AV.one, lay, sub, fillA, lenA, toN, allApart, apartFrom, Nat.testBit, Mem.blk_set_same, Mem.blk_set_ne, Mem.set_set, bit_zero, bit_self, lowBits_or, lowBits_zero, len_setT, sl_same, sl_ne, len_frame, sl_frame,↓op_len, lenOp_slc, lenOp_nils, ↓Post.some, ↓Post_bind, ↓Post_ret, ↓Post_draw, ↓PostL_nil, ↓PostL_cons, Post_fail, ofOpt_some, ofOpt_none, eA_b, eA_i, eA_s, eA_nn, eA_np, eA_pn, eA_lnn, eA_lnp, eA_lpn, eA_i2, eA_i3, blt_dec, Nat.add_assoc, keeps_refl, keeps_at, keeps_up, new_one, and_pow, bit_hi, lowBits_pow, ble_dec, fr_refl, fr_at, fr_up, fr_p, dum_ab, reps, hlen, g0, g1, g5, g6, l1, l2]
    exact hs
  · have c5' : ¬ s < 0 := by omega
    obtain ⟨k, rfl⟩ : ∃ k : Nat, s = k := ⟨s.toNat, by omega⟩
    have hk : k < L.length := by omega
    have k2 : L[(k : Int).toNat]? = some L[k] := List.getElem?_eq_getElem hk
    have c6' : ((k : Int) == -1) = false := beq_eq_false_iff_ne.2 c5
    rw [ok', k2, c6', Bool.false_or]
    have bo : (decide ((chain L k).length < 8) && decide (L[k].fld ≤ f)) = (decide (1 + ((chainN L 12 k).length : Int) ≤ 8) && decide (L[k].fld ≤ f)) := by congr 1; simp only [decide_eq_decide, ch]; omega
    simp only [bo]
    generalize hd2 : 1 + ((chainN L 12 k).length : Int) = d at *
    obtain ⟨b2, o2, el2⟩ := gH.el hk
    have q2 := fun lg => el2.one 2 _ rfl lg
    have r2 := el2.pl
    by_cases c6 : d ≤ 8
    · simp (maxSteps := 4000000) (maxDischargeDepth := 6) [↓step_none, ↓step_t, ↓step_f, ↓step_nt, ↓step_nf, ↓op_load, ↓op_store, ↓op_slice, ↓op_app, ↓op_islc, ↓P_skip, ↓P_exit, ↓P_ret, ↓P_seq, ↓P_cond, ↓P_blk, ↓P_reg, ↓P_draw, ↓P_nil, ↓P_cons, condP_t, condP_f, dum_ab, stepR, want_none, want_some, opRun, ev_t, ev_c, put_none, put_some, resAll, res_tmp, res_cell, oneOf, minI, maxI, min2A, max2A, mn2, mx2, mx3, rdBlk, wrBlk, newBlk, partA, abin, ibin, isShift, AV.cells, AV.one, lay, sub, fillA, lenA, toN, allApart, apartFrom, Nat.testBit, Mem.blk_set_same, Mem.blk_set_ne, Mem.set_set, bit_zero, bit_self, lowBits_or, lowBits_zero, len_setT, sl_same, sl_ne, len_frame, sl_frame,↓op_len, lenOp_slc, lenOp_nils, ↓Post.some, ↓Post_bind, ↓Post_ret, ↓Post_draw, ↓PostL_nil, ↓PostL_cons, Post_fail, ofOpt_some, ofOpt_none, eA_b, eA_i, eA_s, eA_nn, eA_np, eA_pn, eA_lnn, eA_lnp, eA_lpn, eA_i2, eA_i3, blt_dec, Nat.add_assoc, keeps_refl, keeps_at, keeps_up, new_one, and_pow, bit_hi, lowBits_pow, ble_dec, fr_refl, fr_at, fr_up, fr_p, dum_ab, reps, hlen, g0, g1, g5, g6, l1, l2, c5', c6, q2, r2, hk]
      exact hs
    · simp (maxSteps := 4000000) (maxDischargeDepth := 6) [↓step_none, ↓step_t, ↓step_f, ↓step_nt, ↓step_nf, ↓op_load, ↓op_store, ↓op_slice, ↓op_app, ↓op_islc, ↓P_skip, ↓P_exit, ↓P_ret, ↓P_seq, ↓P_cond, ↓P_blk, ↓P_reg, ↓P_draw, ↓P_nil, ↓P_cons, condP_t, condP_f, dum_ab, stepR, want_none, want_some, opRun, ev_t, ev_c, put_none, put_some, resAll, res_tmp, res_cell, oneOf, minI, maxI, min2A, max2A, mn2, mx2, mx3, rdBlk, wrBlk, newBlk, partA, abin, ibin, isShift, AV.cells, AV.one, lay, sub, fillA, lenA, toN, allApart, apartFrom, Nat.testBit, Mem.blk_set_same, Mem.blk_set_ne, Mem.set_set, bit_zero, bit_self, lowBits_or, lowBits_zero, len_setT, sl_same, sl_ne, len_frame, sl_frame,↓op_len, lenOp_slc, lenOp_nils, ↓Post.some, ↓Post_bind, ↓Post_ret, ↓Post_draw, ↓PostL_nil, ↓PostL_cons, Post_fail, ofOpt_some, ofOpt_none, eA_b, eA_i, eA_s, eA_nn, eA_np, eA_pn, eA_lnn, eA_lnp, eA_lpn, eA_i2, eA_i3, blt_dec, Nat.add_assoc, keeps_refl, keeps_at, keeps_up, new_one, and_pow, bit_hi, lowBits_pow, ble_dec, fr_refl, fr_at, fr_up, fr_p, dum_ab, reps, hlen, g0, g1, g5, g6, l1, l2, c5', c6]
      exact hs
end Go.Proofs.YtahjkhmoojobgaaT
