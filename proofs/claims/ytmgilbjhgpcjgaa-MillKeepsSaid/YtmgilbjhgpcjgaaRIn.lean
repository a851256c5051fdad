/- Ring: In. -/
import Derived.Test.YtmgilbjhgpcjgaaRFn
namespace Go.Proofs.YtmgilbjhgpcjgaaT
open Go Go.Proofs.YtmgilbjhgpcjgaaE Go.Proofs.YtmgilbjhgpcjgaaB
set_option linter.unusedSimpArgs false
set_option linter.unusedVariables false
attribute [local congr] Post_cg PostL_cg condP_cg

def noIn (X : List Int) (c i a : Int) : Bool := decide (i < 0) || (decide ((X.length : Int) ≤ i) || (inR X i || (!inR X a && (decide (a ≠ -1) || decide (0 < c)))))
set_option maxHeartbeats 4000000 in
theorem in_no {h : Mem} {nx p bn bp : Nat} {X Y : List Int} {c : Int} (r : Rg h nx p bn bp X Y c) (i a : Int) (e : noIn X c i a = true) : Rd 60 35 [.ptr p 0, .int .i64 i, .int .i64 a] h nx (.bool false) := by
  intro lg hlg
  obtain ⟨tc, ie⟩ := (in_rd r i).at lg hlg
  obtain ⟨tc2, ie2⟩ := (in_rd r a).at lg hlg
  obtain ⟨⟨t0, q0⟩, ⟨t1, q1⟩, ⟨t2, q2⟩, hs, hp, hbn, hbp, d1, d2, d3⟩ := r
  unfold noIn at e
  rw [xF_fr T35]
  by_cases c1 : i < 0
  · simp (maxSteps := 4000000) [↓P_skip, ↓P_exit, ↓P_ret, ↓P_seq, ↓P_cond, ↓P_blk, ↓P_reg, ↓P_draw, ↓P_nil, ↓P_cons, condP_t, condP_f, dum_ab, stepR, want_none, want_some, opRun, ev_t, ev_c, put_none, put_some, resAll, res_tmp, res_cell, oneOf, minI, maxI, min2A, max2A, mn2, mx2, mx3, rdBlk, wrBlk, newBlk, partA, abin, ibin, isShift, AV.cells, AV.one, lay, sub, fillA, lenA, toN, allApart, apartFrom, Nat.testBit, Mem.blk_set_same, Mem.blk_set_ne, Mem.set_set, bit_zero, bit_self, lowBits_or, lowBits_zero, len_setT, sl_same, sl_ne, len_frame, sl_frame,↓op_len, lenOp_slc, lenOp_nils, ↓Post.some, ↓Post_bind, ↓Post_ret, ↓Post_draw, ↓PostL_nil, ↓PostL_cons, Post_fail, ofOpt_some, ofOpt_none, eA_b, eA_i, eA_s, eA_nn, eA_np, eA_pn, eA_lnn, eA_lnp, eA_lpn, eA_i2, eA_i3, blt_dec, Nat.add_assoc, keeps_refl, keeps_at, keeps_up, new_one, and_pow, bit_hi, lowBits_pow, ble_dec, fr_refl, fr_at, fr_up, fr_p, dum_ab, F35, c1]
  · by_cases c2 : (X.length : Int) ≤ i
    · simp (maxSteps := 4000000) [↓P_skip, ↓P_exit, ↓P_ret, ↓P_seq, ↓P_cond, ↓P_blk, ↓P_reg, ↓P_draw, ↓P_nil, ↓P_cons, condP_t, condP_f, dum_ab, stepR, want_none, want_some, opRun, ev_t, ev_c, put_none, put_some, resAll, res_tmp, res_cell, oneOf, minI, maxI, min2A, max2A, mn2, mx2, mx3, rdBlk, wrBlk, newBlk, partA, abin, ibin, isShift, AV.cells, AV.one, lay, sub, fillA, lenA, toN, allApart, apartFrom, Nat.testBit, Mem.blk_set_same, Mem.blk_set_ne, Mem.set_set, bit_zero, bit_self, lowBits_or, lowBits_zero, len_setT, sl_same, sl_ne, len_frame, sl_frame,↓op_len, lenOp_slc, lenOp_nils, ↓Post.some, ↓Post_bind, ↓Post_ret, ↓Post_draw, ↓PostL_nil, ↓PostL_cons, Post_fail, ofOpt_some, ofOpt_none, eA_b, eA_i, eA_s, eA_nn, eA_np, eA_pn, eA_lnn, eA_lnp, eA_lpn, eA_i2, eA_i3, blt_dec, Nat.add_assoc, keeps_refl, keeps_at, keeps_up, new_one, and_pow, bit_hi, lowBits_pow, ble_dec, fr_refl, fr_at, fr_up, fr_p, dum_ab, F35, c1, c2, q0, hp]
    · cases e3 : inR X i with
      | true => simp (maxSteps := 4000000) [↓P_skip, ↓P_exit, ↓P_ret, ↓P_seq, ↓P_cond, ↓P_blk, ↓P_reg, ↓P_draw, ↓P_nil, ↓P_cons, condP_t, condP_f, dum_ab, stepR, want_none, want_some, opRun, ev_t, ev_c, put_none, put_some, resAll, res_tmp, res_cell, oneOf, minI, maxI, min2A, max2A, mn2, mx2, mx3, rdBlk, wrBlk, newBlk, partA, abin, ibin, isShift, AV.cells, AV.one, lay, sub, fillA, lenA, toN, allApart, apartFrom, Nat.testBit, Mem.blk_set_same, Mem.blk_set_ne, Mem.set_set, bit_zero, bit_self, lowBits_or, lowBits_zero, len_setT, sl_same, sl_ne, len_frame, sl_frame,↓op_len, lenOp_slc, lenOp_nils, ↓Post.some, ↓Post_bind, ↓Post_ret, ↓Post_draw, ↓PostL_nil, ↓PostL_cons, Post_fail, ofOpt_some, ofOpt_none, eA_b, eA_i, eA_s, eA_nn, eA_np, eA_pn, eA_lnn, eA_lnp, eA_lpn, eA_i2, eA_i3, blt_dec, Nat.add_assoc, keeps_refl, keeps_at, keeps_up, new_one, and_pow, bit_hi, lowBits_pow, ble_dec, fr_refl, fr_at, fr_up, fr_p, dum_ab, F35, c1, c2, q0, hp, ie, e3]
      | false =>
        cases e4 : inR X a with
        | true => simp [c1, c2, e3, e4] at e
        | false =>
          by_cases c5 : a = -1
          · subst c5
            have c6 : 0 < c := by simpa [c1, c2, e3, e4] using e
            simp (maxSteps := 4000000) [↓P_skip, ↓P_exit, ↓P_ret, ↓P_seq, ↓P_cond, ↓P_blk, ↓P_reg, ↓P_draw, ↓P_nil, ↓P_cons, condP_t, condP_f, dum_ab, stepR, want_none, want_some, opRun, ev_t, ev_c, put_none, put_some, resAll, res_tmp, res_cell, oneOf, minI, maxI, min2A, max2A, mn2, mx2, mx3, rdBlk, wrBlk, newBlk, partA, abin, ibin, isShift, AV.cells, AV.one, lay, sub, fillA, lenA, toN, allApart, apartFrom, Nat.testBit, Mem.blk_set_same, Mem.blk_set_ne, Mem.set_set, bit_zero, bit_self, lowBits_or, lowBits_zero, len_setT, sl_same, sl_ne, len_frame, sl_frame,↓op_len, lenOp_slc, lenOp_nils, ↓Post.some, ↓Post_bind, ↓Post_ret, ↓Post_draw, ↓PostL_nil, ↓PostL_cons, Post_fail, ofOpt_some, ofOpt_none, eA_b, eA_i, eA_s, eA_nn, eA_np, eA_pn, eA_lnn, eA_lnp, eA_lpn, eA_i2, eA_i3, blt_dec, Nat.add_assoc, keeps_refl, keeps_at, keeps_up, new_one, and_pow, bit_hi, lowBits_pow, ble_dec, fr_refl, fr_at, fr_up, fr_p, dum_ab, F35, c1, c2, q0, hp, ie, e3, ie2, e4, c6]
          · have c5' : (a != -1) = true := by simpa using c5
            simp (maxSteps := 4000000) [↓P_skip, ↓P_exit, ↓P_ret, ↓P_seq, ↓P_cond, ↓P_blk, ↓P_reg, ↓P_draw, ↓P_nil, ↓P_cons, condP_t, condP_f, dum_ab, stepR, want_none, want_some, opRun, ev_t, ev_c, put_none, put_some, resAll, res_tmp, res_cell, oneOf, minI, maxI, min2A, max2A, mn2, mx2, mx3, rdBlk, wrBlk, newBlk, partA, abin, ibin, isShift, AV.cells, AV.one, lay, sub, fillA, lenA, toN, allApart, apartFrom, Nat.testBit, Mem.blk_set_same, Mem.blk_set_ne, Mem.set_set, bit_zero, bit_self, lowBits_or, lowBits_zero, len_setT, sl_same, sl_ne, len_frame, sl_frame,↓op_len, lenOp_slc, lenOp_nils, ↓Post.some, ↓Post_bind, ↓Post_ret, ↓Post_draw, ↓PostL_nil, ↓PostL_cons, Post_fail, ofOpt_some, ofOpt_none, eA_b, eA_i, eA_s, eA_nn, eA_np, eA_pn, eA_lnn, eA_lnp, eA_lpn, eA_i2, eA_i3, blt_dec, Nat.add_assoc, keeps_refl, keeps_at, keeps_up, new_one, and_pow, bit_hi, lowBits_pow, ble_dec, fr_refl, fr_at, fr_up, fr_p, dum_ab, F35, c1, c2, q0, hp, ie, e3, ie2, e4, c5']
theorem inR_neg (X : List Int) : inR X (-1) = false := by unfold inR; simp
set_option maxHeartbeats 16000000 in
theorem in_one {h : Mem} {nx p bn bp : Nat} {X Y : List Int} {c : Int} (r : Rg h nx p bn bp X Y c) (hc : c = 0) (i : Int) (c1 : 0 ≤ i) (c2 : i < X.length) (e : inR X i = false) : Ch 60 35 [.ptr p 0, .int .i64 i, .int .i64 (-1)] h nx p bn bp (.bool true) (X.set i.toNat i) (Y.set i.toNat i) (c + 1) := by
  subst hc
  intro lg hlg
  obtain ⟨tc, ie⟩ := (in_rd r i).at lg hlg
  obtain ⟨tc2, ie2⟩ := (in_rd r (-1)).at lg hlg
  have e2 := inR_neg X
  obtain ⟨⟨t0, q0⟩, ⟨t1, q1⟩, ⟨t2, q2⟩, hs, hp, hbn, hbp, d1, d2, d3⟩ := r
  have hi : i.toNat < X.length := by omega
  have hi2 : i.toNat < Y.length := by omega
  have gl := ints_len X
  have gl2 := ints_len Y
  have l3 := ints_lay (l := X) hi i
  have l4 := ints_lay (l := Y) hi2 i
  have m3 := ints_len (X.set i.toNat i)
  have m4 := ints_len (Y.set i.toNat i)
  rw [List.length_set] at m3 m4
  have wc : IntKind.i64.wrap 1 = 1 := by decide
  have d1' := d1.symm
  have d2' := d2.symm
  have d3' := d3.symm
  have s3 : i.toNat + 1 ≤ X.length := hi
  have c1' : ¬ i < 0 := by omega
  have c2' : ¬ (X.length : Int) ≤ i := by omega
  rw [xF_fr T35]
  simp (maxSteps := 4000000) [↓P_skip, ↓P_exit, ↓P_ret, ↓P_seq, ↓P_cond, ↓P_blk, ↓P_reg, ↓P_draw, ↓P_nil, ↓P_cons, condP_t, condP_f, dum_ab, stepR, want_none, want_some, opRun, ev_t, ev_c, put_none, put_some, resAll, res_tmp, res_cell, oneOf, minI, maxI, min2A, max2A, mn2, mx2, mx3, rdBlk, wrBlk, newBlk, partA, abin, ibin, isShift, AV.cells, AV.one, sub, fillA, lenA, toN, allApart, apartFrom, Nat.testBit, Mem.blk_set_same, Mem.blk_set_ne, Mem.set_set, bit_zero, bit_self, lowBits_or, lowBits_zero, len_setT, sl_same, sl_ne, len_frame, sl_frame,↓op_len, lenOp_slc, lenOp_nils, ↓Post.some, ↓Post_bind, ↓Post_ret, ↓Post_draw, ↓PostL_nil, ↓PostL_cons, Post_fail, ofOpt_some, ofOpt_none, eA_b, eA_i, eA_s, eA_nn, eA_np, eA_pn, eA_lnn, eA_lnp, eA_lpn, eA_i2, eA_i3, blt_dec, Nat.add_assoc, keeps_refl, keeps_at, keeps_up, new_one, and_pow, bit_hi, lowBits_pow, ble_dec, fr_refl, fr_at, fr_up, fr_p, dum_ab, F35, ie, ie2, e, e2, q0, q1, q2, hp, hbn, hbp, c1, c2, c1', c2', hi, hi2, hs, gl, gl2, l3, l4, m3, m4, wc, d1, d2, d3, d1', d2', d3', s3, lay32]
  refine ⟨⟨⟨t0, ?_⟩, ⟨t1, ?_⟩, ⟨t2, ?_⟩, by simp [hs], hp, hbn, hbp, d1, d2, d3⟩, ?_, ?_⟩
  · rw [Mem.blk_set_same]; simp
  · rw [Mem.blk_set_ne _ _ _ _ (by omega), Mem.blk_set_ne _ _ _ _ (by omega), Mem.blk_set_same]
  · rw [Mem.blk_set_ne _ _ _ _ (by omega), Mem.blk_set_same]
  · intro b b1 b2 b3
    rw [Mem.blk_set_ne _ _ _ _ (by omega), Mem.blk_set_ne _ _ _ _ (by omega), Mem.blk_set_ne _ _ _ _ (by omega)]
  · intro b b1 b2 b3
    simp [Nat.and_or_distrib_right, bit_and b1, bit_and b2, bit_and b3]
def inX (X Y : List Int) (i a : Int) : List Int := (X.set (Y.getD a.toNat (-1)).toNat i).set i.toNat a
def inY (X Y : List Int) (i a : Int) : List Int := (Y.set a.toNat i).set i.toNat (Y.getD a.toNat (-1))
set_option maxHeartbeats 16000000 in
theorem in_mid {h : Mem} {nx p bn bp : Nat} {X Y : List Int} {c : Int} (r : Rg h nx p bn bp X Y c) (hv : Valid X Y) (hc : 0 ≤ c ∧ c ≤ 10000) (i a : Int) (c1 : 0 ≤ i) (c2 : i < X.length) (e : inR X i = false) (e2 : inR X a = true) : Ch 60 35 [.ptr p 0, .int .i64 i, .int .i64 a] h nx p bn bp (.bool true) (inX X Y i a) (inY X Y i a) (c + 1) := by
  intro lg hlg
  obtain ⟨tc, ie⟩ := (in_rd r i).at lg hlg
  obtain ⟨tc2, ie2⟩ := (in_rd r a).at lg hlg
  obtain ⟨_, ⟨v3, v4⟩⟩ := hv a e2
  obtain ⟨⟨t0, q0⟩, ⟨t1, q1⟩, ⟨t2, q2⟩, hs, hp, hbn, hbp, d1, d2, d3⟩ := r
  obtain ⟨c3, c4⟩ := inR_in e2
  have hi : i.toNat < X.length := by omega
  have hi2 : i.toNat < Y.length := by omega
  have ha : a.toNat < X.length := by omega
  have ha2 : a.toNat < Y.length := by omega
  have g2 := get_of (ints_at ha2)
  have gl := ints_len X
  have gl2 := ints_len Y
  have gd2 : Y.getD a.toNat (-1) = Y[a.toNat] := by rw [List.getD_eq_getElem?_getD, List.getElem?_eq_getElem ha2]; rfl
  unfold inX inY
  rw [gd2] at v3 v4
  rw [gd2]
  generalize Y[a.toNat] = P at *
  have hP : P.toNat < X.length := by omega
  have l1 := ints_lay hP i
  have l2 := ints_lay ha2 i
  have l3 := ints_lay (l := X.set P.toNat i) (i := i.toNat) (by rw [List.length_set]; exact hi) a
  have l4 := ints_lay (l := Y.set a.toNat i) (i := i.toNat) (by rw [List.length_set]; exact hi2) P
  have m1 := ints_len (X.set P.toNat i)
  have m2 := ints_len (Y.set a.toNat i)
  have m3 := ints_len ((X.set P.toNat i).set i.toNat a)
  have m4 := ints_len ((Y.set a.toNat i).set i.toNat P)
  rw [List.length_set] at m1 m2
  rw [List.length_set, List.length_set] at m3 m4
  have wc : IntKind.i64.wrap (c + 1) = c + 1 := by rw [IntKind.wrap_i64]; omega
  have d1' := d1.symm
  have d2' := d2.symm
  have d3' := d3.symm
  have s1 : P.toNat + 1 ≤ X.length := hP
  have s2 : a.toNat + 1 ≤ X.length := ha
  have s3 : i.toNat + 1 ≤ X.length := hi
  have c1' : ¬ i < 0 := by omega
  have c2' : ¬ (X.length : Int) ≤ i := by omega
  have c3' : (a == -1) = false := by simp; omega
  rw [xF_fr T35]
  simp (maxSteps := 4000000) [↓P_skip, ↓P_exit, ↓P_ret, ↓P_seq, ↓P_cond, ↓P_blk, ↓P_reg, ↓P_draw, ↓P_nil, ↓P_cons, condP_t, condP_f, dum_ab, stepR, want_none, want_some, opRun, ev_t, ev_c, put_none, put_some, resAll, res_tmp, res_cell, oneOf, minI, maxI, min2A, max2A, mn2, mx2, mx3, rdBlk, wrBlk, newBlk, partA, abin, ibin, isShift, AV.cells, AV.one, sub, fillA, lenA, toN, allApart, apartFrom, Nat.testBit, Mem.blk_set_same, Mem.blk_set_ne, Mem.set_set, bit_zero, bit_self, lowBits_or, lowBits_zero, len_setT, sl_same, sl_ne, len_frame, sl_frame,↓op_len, lenOp_slc, lenOp_nils, ↓Post.some, ↓Post_bind, ↓Post_ret, ↓Post_draw, ↓PostL_nil, ↓PostL_cons, Post_fail, ofOpt_some, ofOpt_none, eA_b, eA_i, eA_s, eA_nn, eA_np, eA_pn, eA_lnn, eA_lnp, eA_lpn, eA_i2, eA_i3, blt_dec, Nat.add_assoc, keeps_refl, keeps_at, keeps_up, new_one, and_pow, bit_hi, lowBits_pow, ble_dec, fr_refl, fr_at, fr_up, fr_p, dum_ab, F35, ie, ie2, e, e2, q0, q1, q2, hp, hbn, hbp, c1, c2, c1', c2', c3, c4, c3', hi, hi2, ha, ha2, hs, g2, gl, gl2, v3, v4, hP, l1, l2, l3, l4, m1, m2, m3, m4, wc, d1, d2, d3, d1', d2', d3', s1, s2, s3, lay32]
  refine ⟨⟨⟨t0, ?_⟩, ⟨t1, ?_⟩, ⟨t2, ?_⟩, by simp [hs], hp, hbn, hbp, d1, d2, d3⟩, ?_, ?_⟩
  · rw [Mem.blk_set_same]; simp
  · rw [Mem.blk_set_ne _ _ _ _ (by omega), Mem.blk_set_ne _ _ _ _ (by omega), Mem.blk_set_same]
  · rw [Mem.blk_set_ne _ _ _ _ (by omega), Mem.blk_set_same]
  · intro b b1 b2 b3
    rw [Mem.blk_set_ne _ _ _ _ (by omega), Mem.blk_set_ne _ _ _ _ (by omega), Mem.blk_set_ne _ _ _ _ (by omega), Mem.blk_set_ne _ _ _ _ (by omega), Mem.blk_set_ne _ _ _ _ (by omega)]
  · intro b b1 b2 b3
    simp [Nat.and_or_distrib_right, bit_and b1, bit_and b2, bit_and b3]
end Go.Proofs.YtmgilbjhgpcjgaaT
