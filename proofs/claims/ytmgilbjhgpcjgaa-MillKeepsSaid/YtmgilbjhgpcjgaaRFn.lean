/- Ring, function by function: what the engine's run of each comes to. -/
import Derived.Test.YtmgilbjhgpcjgaaT
import Derived.Test.YtmgilbjhgpcjgaaB
import Derived.Test.YtmgilbjhgpcjgaaE27
namespace Go.Proofs.YtmgilbjhgpcjgaaT
open Go Go.Proofs.YtmgilbjhgpcjgaaE Go.Proofs.YtmgilbjhgpcjgaaB
set_option linter.unusedSimpArgs false
set_option linter.unusedVariables false
attribute [local congr] Post_cg PostL_cg condP_cg

/-- It reads, and answers so; nothing is written. -/
def Rd (c f : Nat) (args : List AV) (h : Mem) (nx : Nat) (v : AV) : Prop := ∀ lg, lg ≤ nx → Post (xF T c f args h nx lg) fun v' h' nx' tc wr => v' = v ∧ h' = h ∧ nx' = nx ∧ wr = 0
theorem Rd.at {c f : Nat} {args : List AV} {h : Mem} {nx : Nat} {v : AV} (s : Rd c f args h nx v) (lg : Nat) (hl : lg ≤ nx) : ∃ tc, ∀ k, xF T (k + c) f args h nx lg = some ⟨v, h, nx, tc, 0⟩ := by
  obtain ⟨v, h', nx', tc, wr, e, rfl, rfl, rfl, rfl⟩ := (s lg hl).inv
  exact ⟨tc, fun k => xF_mono T (Nat.le_add_left ..) e⟩
def ints (l : List Int) : List AV := l.map (AV.int .i64 ·)
theorem ints_len (l : List Int) : (ints l).length = l.length := by unfold ints; simp
theorem ints_app (l m : List Int) : ints (l ++ m) = ints l ++ ints m := by unfold ints; simp
theorem ints_at {l : List Int} {i : Nat} (hi : i < l.length) : (ints l)[i]? = some (.int .i64 l[i]) := by unfold ints; rw [List.getElem?_map, List.getElem?_eq_getElem hi]; rfl
theorem ints_set (l : List Int) (i : Nat) (x : Int) : (ints l).set i (.int .i64 x) = ints (l.set i x) := by unfold ints; rw [List.map_set]
theorem ints_lay {l : List Int} {i : Nat} (hi : i < l.length) (x : Int) : lay (ints l) i [.int .i64 x] = ints (l.set i x) := by
  rw [lay_one _ _ _ (by rw [ints_len]; exact hi), ints_set]
theorem ints_one (l : List Int) : (ints l).all AV.one = true := by unfold ints; simp [AV.one]
theorem lay32 (a b c x : AV) : lay [a, b, c] 2 [x] = [a, b, x] := rfl
/-- A ring in memory: its block, and the two rows. -/
structure Rg (h : Mem) (nx p bn bp : Nat) (X Y : List Int) (c : Int) : Prop where
  ty : ∃ t, h.blk p = some ⟨t, 3, true, false, [.slc bn 0 X.length (some X.length), .slc bp 0 X.length (some X.length), .int .i64 c]⟩
  bX : ∃ t, h.blk bn = some ⟨t, 1, true, false, ints X⟩
  bY : ∃ t, h.blk bp = some ⟨t, 1, true, false, ints Y⟩
  same : Y.length = X.length
  hp : p < nx
  hbn : bn < nx
  hbp : bp < nx
  d1 : p ≠ bn
  d2 : p ≠ bp
  d3 : bn ≠ bp
theorem Rg.stay {h h' : Mem} {nx nx' p bn bp : Nat} {X Y : List Int} {c : Int} (r : Rg h nx p bn bp X Y c) (hn : nx ≤ nx') (e1 : h'.blk p = h.blk p) (e2 : h'.blk bn = h.blk bn) (e3 : h'.blk bp = h.blk bp) : Rg h' nx' p bn bp X Y c := by
  obtain ⟨⟨t0, q0⟩, ⟨t1, q1⟩, ⟨t2, q2⟩, hs, hp, hbn, hbp, d1, d2, d3⟩ := r
  exact ⟨⟨t0, e1.trans q0⟩, ⟨t1, e2.trans q1⟩, ⟨t2, e3.trans q2⟩, hs, by omega, by omega, by omega, d1, d2, d3⟩
theorem Rg.keep {h h' : Mem} {nx nx' p bn bp : Nat} {X Y : List Int} {c : Int} (r : Rg h nx p bn bp X Y c) (hn : nx ≤ nx') (k : Keeps nx h h') : Rg h' nx' p bn bp X Y c := r.stay hn (k _ r.hp) (k _ r.hbn) (k _ r.hbp)
def inR (X : List Int) (i : Int) : Bool := decide (0 ≤ i) && (decide (i < X.length) && decide (0 ≤ X.getD i.toNat (-1)))
theorem in_rd {h : Mem} {nx p bn bp : Nat} {X Y : List Int} {c : Int} (r : Rg h nx p bn bp X Y c) (i : Int) : Rd 20 37 [.ptr p 0, .int .i64 i] h nx (.bool (inR X i)) := by
  intro lg hlg
  obtain ⟨⟨t0, q0⟩, ⟨t1, q1⟩, ⟨t2, q2⟩, hs, hp, hbn, hbp, d1, d2, d3⟩ := r
  rw [xF_fr T37]
  unfold inR
  by_cases c1 : 0 ≤ i
  · by_cases c2 : i < X.length
    · have hi : i.toNat < X.length := by omega
      have g := get_of (ints_at hi)
      have gl := ints_len X
      have gd : X.getD i.toNat (-1) = X[i.toNat] := by rw [List.getD_eq_getElem?_getD, List.getElem?_eq_getElem hi]; rfl
      rw [gd]
      simp (maxSteps := 4000000) [↓P_skip, ↓P_exit, ↓P_ret, ↓P_seq, ↓P_cond, ↓P_blk, ↓P_reg, ↓P_draw, ↓P_nil, ↓P_cons, condP_t, condP_f, dum_ab, stepR, want_none, want_some, opRun, ev_t, ev_c, put_none, put_some, resAll, res_tmp, res_cell, oneOf, minI, maxI, min2A, max2A, mn2, mx2, mx3, rdBlk, wrBlk, newBlk, partA, abin, ibin, isShift, AV.cells, AV.one, lay, sub, fillA, lenA, toN, allApart, apartFrom, Nat.testBit, Mem.blk_set_same, Mem.blk_set_ne, Mem.set_set, bit_zero, bit_self, lowBits_or, lowBits_zero, len_setT, sl_same, sl_ne, len_frame, sl_frame,↓op_len, lenOp_slc, lenOp_nils, ↓Post.some, ↓Post_bind, ↓Post_ret, ↓Post_draw, ↓PostL_nil, ↓PostL_cons, Post_fail, ofOpt_some, ofOpt_none, eA_b, eA_i, eA_s, eA_nn, eA_np, eA_pn, eA_lnn, eA_lnp, eA_lpn, eA_i2, eA_i3, blt_dec, Nat.add_assoc, keeps_refl, keeps_at, keeps_up, new_one, and_pow, bit_hi, lowBits_pow, ble_dec, fr_refl, fr_at, fr_up, fr_p, dum_ab, F37, q0, q1, hp, hbn, c1, c2, hi, g, gl]
    · simp (maxSteps := 4000000) [↓P_skip, ↓P_exit, ↓P_ret, ↓P_seq, ↓P_cond, ↓P_blk, ↓P_reg, ↓P_draw, ↓P_nil, ↓P_cons, condP_t, condP_f, dum_ab, stepR, want_none, want_some, opRun, ev_t, ev_c, put_none, put_some, resAll, res_tmp, res_cell, oneOf, minI, maxI, min2A, max2A, mn2, mx2, mx3, rdBlk, wrBlk, newBlk, partA, abin, ibin, isShift, AV.cells, AV.one, lay, sub, fillA, lenA, toN, allApart, apartFrom, Nat.testBit, Mem.blk_set_same, Mem.blk_set_ne, Mem.set_set, bit_zero, bit_self, lowBits_or, lowBits_zero, len_setT, sl_same, sl_ne, len_frame, sl_frame,↓op_len, lenOp_slc, lenOp_nils, ↓Post.some, ↓Post_bind, ↓Post_ret, ↓Post_draw, ↓PostL_nil, ↓PostL_cons, Post_fail, ofOpt_some, ofOpt_none, eA_b, eA_i, eA_s, eA_nn, eA_np, eA_pn, eA_lnn, eA_lnp, eA_lpn, eA_i2, eA_i3, blt_dec, Nat.add_assoc, keeps_refl, keeps_at, keeps_up, new_one, and_pow, bit_hi, lowBits_pow, ble_dec, fr_refl, fr_at, fr_up, fr_p, dum_ab, F37, q0, q1, hp, hbn, c1, c2]
  · simp (maxSteps := 4000000) [↓P_skip, ↓P_exit, ↓P_ret, ↓P_seq, ↓P_cond, ↓P_blk, ↓P_reg, ↓P_draw, ↓P_nil, ↓P_cons, condP_t, condP_f, dum_ab, stepR, want_none, want_some, opRun, ev_t, ev_c, put_none, put_some, resAll, res_tmp, res_cell, oneOf, minI, maxI, min2A, max2A, mn2, mx2, mx3, rdBlk, wrBlk, newBlk, partA, abin, ibin, isShift, AV.cells, AV.one, lay, sub, fillA, lenA, toN, allApart, apartFrom, Nat.testBit, Mem.blk_set_same, Mem.blk_set_ne, Mem.set_set, bit_zero, bit_self, lowBits_or, lowBits_zero, len_setT, sl_same, sl_ne, len_frame, sl_frame,↓op_len, lenOp_slc, lenOp_nils, ↓Post.some, ↓Post_bind, ↓Post_ret, ↓Post_draw, ↓PostL_nil, ↓PostL_cons, Post_fail, ofOpt_some, ofOpt_none, eA_b, eA_i, eA_s, eA_nn, eA_np, eA_pn, eA_lnn, eA_lnp, eA_lpn, eA_i2, eA_i3, blt_dec, Nat.add_assoc, keeps_refl, keeps_at, keeps_up, new_one, and_pow, bit_hi, lowBits_pow, ble_dec, fr_refl, fr_at, fr_up, fr_p, dum_ab, F37, q0, q1, hp, hbn, c1]
def nextO (X : List Int) (i : Int) : Int := cond (inR X i) (X.getD i.toNat (-1)) (-1)
theorem inR_in {X : List Int} {i : Int} (h : inR X i = true) : 0 ≤ i ∧ i < X.length := by
  unfold inR at h
  simp only [Bool.and_eq_true, decide_eq_true_eq] at h
  exact ⟨h.1, h.2.1⟩
theorem next_rd {h : Mem} {nx p bn bp : Nat} {X Y : List Int} {c : Int} (r : Rg h nx p bn bp X Y c) (i : Int) : Rd 40 33 [.ptr p 0, .int .i64 i] h nx (.int .i64 (nextO X i)) := by
  intro lg hlg
  obtain ⟨tc, ie⟩ := (in_rd r i).at lg hlg
  obtain ⟨⟨t0, q0⟩, ⟨t1, q1⟩, ⟨t2, q2⟩, hs, hp, hbn, hbp, d1, d2, d3⟩ := r
  rw [xF_fr T33]
  unfold nextO
  cases e : inR X i with
  | false => simp (maxSteps := 4000000) [↓P_skip, ↓P_exit, ↓P_ret, ↓P_seq, ↓P_cond, ↓P_blk, ↓P_reg, ↓P_draw, ↓P_nil, ↓P_cons, condP_t, condP_f, dum_ab, stepR, want_none, want_some, opRun, ev_t, ev_c, put_none, put_some, resAll, res_tmp, res_cell, oneOf, minI, maxI, min2A, max2A, mn2, mx2, mx3, rdBlk, wrBlk, newBlk, partA, abin, ibin, isShift, AV.cells, AV.one, lay, sub, fillA, lenA, toN, allApart, apartFrom, Nat.testBit, Mem.blk_set_same, Mem.blk_set_ne, Mem.set_set, bit_zero, bit_self, lowBits_or, lowBits_zero, len_setT, sl_same, sl_ne, len_frame, sl_frame,↓op_len, lenOp_slc, lenOp_nils, ↓Post.some, ↓Post_bind, ↓Post_ret, ↓Post_draw, ↓PostL_nil, ↓PostL_cons, Post_fail, ofOpt_some, ofOpt_none, eA_b, eA_i, eA_s, eA_nn, eA_np, eA_pn, eA_lnn, eA_lnp, eA_lpn, eA_i2, eA_i3, blt_dec, Nat.add_assoc, keeps_refl, keeps_at, keeps_up, new_one, and_pow, bit_hi, lowBits_pow, ble_dec, fr_refl, fr_at, fr_up, fr_p, dum_ab, F33, ie, e]
  | true =>
    obtain ⟨c1, c2⟩ := inR_in e
    have hi : i.toNat < X.length := by omega
    have g := get_of (ints_at hi)
    have gl := ints_len X
    have gd : X.getD i.toNat (-1) = X[i.toNat] := by rw [List.getD_eq_getElem?_getD, List.getElem?_eq_getElem hi]; rfl
    rw [gd]
    simp (maxSteps := 4000000) [↓P_skip, ↓P_exit, ↓P_ret, ↓P_seq, ↓P_cond, ↓P_blk, ↓P_reg, ↓P_draw, ↓P_nil, ↓P_cons, condP_t, condP_f, dum_ab, stepR, want_none, want_some, opRun, ev_t, ev_c, put_none, put_some, resAll, res_tmp, res_cell, oneOf, minI, maxI, min2A, max2A, mn2, mx2, mx3, rdBlk, wrBlk, newBlk, partA, abin, ibin, isShift, AV.cells, AV.one, lay, sub, fillA, lenA, toN, allApart, apartFrom, Nat.testBit, Mem.blk_set_same, Mem.blk_set_ne, Mem.set_set, bit_zero, bit_self, lowBits_or, lowBits_zero, len_setT, sl_same, sl_ne, len_frame, sl_frame,↓op_len, lenOp_slc, lenOp_nils, ↓Post.some, ↓Post_bind, ↓Post_ret, ↓Post_draw, ↓PostL_nil, ↓PostL_cons, Post_fail, ofOpt_some, ofOpt_none, eA_b, eA_i, eA_s, eA_nn, eA_np, eA_pn, eA_lnn, eA_lnp, eA_lpn, eA_i2, eA_i3, blt_dec, Nat.add_assoc, keeps_refl, keeps_at, keeps_up, new_one, and_pow, bit_hi, lowBits_pow, ble_dec, fr_refl, fr_at, fr_up, fr_p, dum_ab, F33, ie, e, q0, q1, hp, hbn, c1, c2, hi, g, gl]
/-- Who is in leads to places that are there. -/
def Valid (X Y : List Int) : Prop := ∀ i : Int, inR X i = true → (0 ≤ X.getD i.toNat (-1) ∧ X.getD i.toNat (-1) < X.length) ∧ (0 ≤ Y.getD i.toNat (-1) ∧ Y.getD i.toNat (-1) < X.length)
def outX (X Y : List Int) (i : Nat) : List Int := (X.set (Y.getD i (-1)).toNat (X.getD i (-1))).set i (-1)
def outY (X Y : List Int) (i : Nat) : List Int := (Y.set (X.getD i (-1)).toNat (Y.getD i (-1))).set i (-1)
theorem out_no {h : Mem} {nx p bn bp : Nat} {X Y : List Int} {c : Int} (r : Rg h nx p bn bp X Y c) (i : Int) (e : inR X i = false) : Rd 40 34 [.ptr p 0, .int .i64 i] h nx (.bool false) := by
  intro lg hlg
  obtain ⟨tc, ie⟩ := (in_rd r i).at lg hlg
  rw [xF_fr T34]
  simp (maxSteps := 4000000) [↓P_skip, ↓P_exit, ↓P_ret, ↓P_seq, ↓P_cond, ↓P_blk, ↓P_reg, ↓P_draw, ↓P_nil, ↓P_cons, condP_t, condP_f, dum_ab, stepR, want_none, want_some, opRun, ev_t, ev_c, put_none, put_some, resAll, res_tmp, res_cell, oneOf, minI, maxI, min2A, max2A, mn2, mx2, mx3, rdBlk, wrBlk, newBlk, partA, abin, ibin, isShift, AV.cells, AV.one, lay, sub, fillA, lenA, toN, allApart, apartFrom, Nat.testBit, Mem.blk_set_same, Mem.blk_set_ne, Mem.set_set, bit_zero, bit_self, lowBits_or, lowBits_zero, len_setT, sl_same, sl_ne, len_frame, sl_frame,↓op_len, lenOp_slc, lenOp_nils, ↓Post.some, ↓Post_bind, ↓Post_ret, ↓Post_draw, ↓PostL_nil, ↓PostL_cons, Post_fail, ofOpt_some, ofOpt_none, eA_b, eA_i, eA_s, eA_nn, eA_np, eA_pn, eA_lnn, eA_lnp, eA_lpn, eA_i2, eA_i3, blt_dec, Nat.add_assoc, keeps_refl, keeps_at, keeps_up, new_one, and_pow, bit_hi, lowBits_pow, ble_dec, fr_refl, fr_at, fr_up, fr_p, dum_ab, F34, ie, e]
/-- What a call that changes a ring comes to. -/
def Ch (c f : Nat) (args : List AV) (h : Mem) (nx p bn bp : Nat) (v : AV) (X Y : List Int) (k : Int) : Prop := ∀ lg, lg ≤ nx → Post (xF T c f args h nx lg) fun v' h' nx' tc wr => v' = v ∧ nx' = nx ∧ Rg h' nx p bn bp X Y k ∧ (∀ b, b ≠ p → b ≠ bn → b ≠ bp → h'.blk b = h.blk b) ∧ ∀ b, b ≠ p → b ≠ bn → b ≠ bp → wr &&& 2 ^ b = 0
theorem bit_and {lg a b : Nat} (h : b ≠ a) : bit lg a &&& 2 ^ b = 0 := by
  unfold bit
  cases Nat.blt a lg
  · exact Nat.zero_and _
  · exact and_pow (Ne.symm h)
theorem Ch.at {c f : Nat} {args : List AV} {h : Mem} {nx p bn bp : Nat} {v : AV} {X Y : List Int} {k : Int} (s : Ch c f args h nx p bn bp v X Y k) (lg : Nat) (hl : lg ≤ nx) : ∃ h' tc wr, (∀ j, xF T (j + c) f args h nx lg = some ⟨v, h', nx, tc, wr⟩) ∧ Rg h' nx p bn bp X Y k ∧ (∀ b, b ≠ p → b ≠ bn → b ≠ bp → h'.blk b = h.blk b) ∧ ∀ b, b ≠ p → b ≠ bn → b ≠ bp → wr &&& 2 ^ b = 0 := by
  obtain ⟨v, h', nx', tc, wr, e, rfl, rfl, e1, e2, e3⟩ := (s lg hl).inv
  exact ⟨h', tc, wr, fun k => xF_mono T (Nat.le_add_left ..) e, e1, e2, e3⟩
theorem rd_ch {c f : Nat} {args : List AV} {h : Mem} {nx p bn bp : Nat} {v : AV} {X Y : List Int} {k : Int} (r : Rg h nx p bn bp X Y k) (s : Rd c f args h nx v) : Ch c f args h nx p bn bp v X Y k := fun lg hl => (s lg hl).mono fun v' h' nx' tc wr ⟨a, b, c, d⟩ => by subst b; subst c; subst d; exact ⟨a, rfl, r, fun _ _ _ _ => rfl, fun _ _ _ _ => Nat.zero_and _⟩
set_option maxHeartbeats 16000000 in
theorem out_ch {h : Mem} {nx p bn bp : Nat} {X Y : List Int} {c : Int} (r : Rg h nx p bn bp X Y c) (hv : Valid X Y) (hc : 1 ≤ c ∧ c ≤ 10000) (i : Int) (e : inR X i = true) : Ch 60 34 [.ptr p 0, .int .i64 i] h nx p bn bp (.bool true) (outX X Y i.toNat) (outY X Y i.toNat) (c - 1) := by
  intro lg hlg
  obtain ⟨tc, ie⟩ := (in_rd r i).at lg hlg
  obtain ⟨⟨v1, v2⟩, ⟨v3, v4⟩⟩ := hv i e
  obtain ⟨⟨t0, q0⟩, ⟨t1, q1⟩, ⟨t2, q2⟩, hs, hp, hbn, hbp, d1, d2, d3⟩ := r
  obtain ⟨c1, c2⟩ := inR_in e
  have hi : i.toNat < X.length := by omega
  have hi2 : i.toNat < Y.length := by omega
  have g := get_of (ints_at hi)
  have g2 := get_of (ints_at hi2)
  have gl := ints_len X
  have gl2 := ints_len Y
  have gd : X.getD i.toNat (-1) = X[i.toNat] := by rw [List.getD_eq_getElem?_getD, List.getElem?_eq_getElem hi]; rfl
  have gd2 : Y.getD i.toNat (-1) = Y[i.toNat] := by rw [List.getD_eq_getElem?_getD, List.getElem?_eq_getElem hi2]; rfl
  unfold outX outY
  rw [gd] at v1 v2
  rw [gd2] at v3 v4
  rw [gd, gd2]
  generalize X[i.toNat] = N at *
  generalize Y[i.toNat] = P at *
  have hN : N.toNat < X.length := by omega
  have hP : P.toNat < X.length := by omega
  have hN2 : N.toNat < Y.length := by omega
  have l1 := ints_lay hP N
  have l2 := ints_lay hN2 P
  have l3 := ints_lay (l := X.set P.toNat N) (i := i.toNat) (by rw [List.length_set]; exact hi) (-1)
  have l4 := ints_lay (l := Y.set N.toNat P) (i := i.toNat) (by rw [List.length_set]; exact hi2) (-1)
  have m1 := ints_len (X.set P.toNat N)
  have m2 := ints_len (Y.set N.toNat P)
  have m3 := ints_len ((X.set P.toNat N).set i.toNat (-1))
  have m4 := ints_len ((Y.set N.toNat P).set i.toNat (-1))
  rw [List.length_set] at m1 m2
  rw [List.length_set, List.length_set] at m3 m4
  have wc : IntKind.i64.wrap (c - 1) = c - 1 := by rw [IntKind.wrap_i64]; omega
  have d1' := d1.symm
  have d2' := d2.symm
  have d3' := d3.symm
  have s1 : P.toNat + 1 ≤ X.length := hP
  have s2 : N.toNat + 1 ≤ X.length := hN
  have s3 : i.toNat + 1 ≤ X.length := hi
  rw [xF_fr T34]
  simp (maxSteps := 4000000) [↓P_skip, ↓P_exit, ↓P_ret, ↓P_seq, ↓P_cond, ↓P_blk, ↓P_reg, ↓P_draw, ↓P_nil, ↓P_cons, condP_t, condP_f, dum_ab, stepR, want_none, want_some, opRun, ev_t, ev_c, put_none, put_some, resAll, res_tmp, res_cell, oneOf, minI, maxI, min2A, max2A, mn2, mx2, mx3, rdBlk, wrBlk, newBlk, partA, abin, ibin, isShift, AV.cells, AV.one, sub, fillA, lenA, toN, allApart, apartFrom, Nat.testBit, Mem.blk_set_same, Mem.blk_set_ne, Mem.set_set, bit_zero, bit_self, lowBits_or, lowBits_zero, len_setT, sl_same, sl_ne, len_frame, sl_frame,↓op_len, lenOp_slc, lenOp_nils, ↓Post.some, ↓Post_bind, ↓Post_ret, ↓Post_draw, ↓PostL_nil, ↓PostL_cons, Post_fail, ofOpt_some, ofOpt_none, eA_b, eA_i, eA_s, eA_nn, eA_np, eA_pn, eA_lnn, eA_lnp, eA_lpn, eA_i2, eA_i3, blt_dec, Nat.add_assoc, keeps_refl, keeps_at, keeps_up, new_one, and_pow, bit_hi, lowBits_pow, ble_dec, fr_refl, fr_at, fr_up, fr_p, dum_ab, F34, ie, e, q0, q1, q2, hp, hbn, hbp, c1, c2, hi, hi2, hs, g, g2, gl, gl2, v1, v2, v3, v4, hN, hP, hN2, l1, l2, l3, l4, m1, m2, m3, m4, wc, d1, d2, d3, d1', d2', d3', s1, s2, s3, lay32]
  refine ⟨⟨⟨t0, ?_⟩, ⟨t1, ?_⟩, ⟨t2, ?_⟩, by simp [hs], hp, hbn, hbp, d1, d2, d3⟩, ?_, ?_⟩
  · rw [Mem.blk_set_same]; simp
  · rw [Mem.blk_set_ne _ _ _ _ (by omega), Mem.blk_set_ne _ _ _ _ (by omega), Mem.blk_set_same]
  · rw [Mem.blk_set_ne _ _ _ _ (by omega), Mem.blk_set_same]
  · intro b b1 b2 b3
    rw [Mem.blk_set_ne _ _ _ _ (by omega), Mem.blk_set_ne _ _ _ _ (by omega), Mem.blk_set_ne _ _ _ _ (by omega), Mem.blk_set_ne _ _ _ _ (by omega), Mem.blk_set_ne _ _ _ _ (by omega)]
  · intro b b1 b2 b3
    simp [Nat.and_or_distrib_right, bit_and b1, bit_and b2, bit_and b3]
end Go.Proofs.YtmgilbjhgpcjgaaT
