/- Mill: Color, Count, List. -/
import Derived.Test.YtmgilbjhgpcjgaaFn
namespace Go.Proofs.YtmgilbjhgpcjgaaT
open Go Go.Proofs.YtmgilbjhgpcjgaaE Go.Proofs.YtmgilbjhgpcjgaaB
set_option linter.unusedSimpArgs false
set_option linter.unusedVariables false
attribute [local congr] Post_cg PostL_cg condP_cg

theorem GL.row {s : AV} {h : Mem} {lo nx : Nat} {l : List Int} (g : GL s h lo nx l) : Row 1 l.length s h lo nx (ints l) := by
  rcases g with ⟨rfl, rfl⟩ | ⟨b, K, rfl, h1, h2, h4, h5⟩ | ⟨b, t, h1, h2, rfl, h4⟩
  · exact .inl ⟨rfl, rfl, rfl⟩
  · exact .inr ⟨b, K, _, h1, h2, rfl, by rw [ints_len, Nat.mul_one], h4, h5, .inl rfl⟩
  · exact .inr ⟨b, _, _, h1, h2, rfl, by rw [ints_len, Nat.mul_one], h4, rfl, .inr ⟨rfl, rfl, rfl, rfl⟩⟩
theorem Row.gl {s : AV} {h : Mem} {lo nx : Nat} {l : List Int} (g : Row 1 l.length s h lo nx (ints l)) (x : ∀ b c K, s = .slc b 0 l.length c → c = none → h.blk b = some K → ∃ ty, K = ⟨ty, 1, true, true, ints l⟩) : GL s h lo nx l := by
  rcases g with ⟨rfl, h1, h2⟩ | ⟨b, K, c, h1, h2, rfl, h3, h4, h5, h6⟩
  · exact .inl ⟨rfl, List.eq_nil_of_length_eq_zero h1⟩
  · rcases h6 with rfl | ⟨rfl, _⟩
    · exact .inr (.inl ⟨b, K, rfl, h1, h2, h4, h5⟩)
    · obtain ⟨ty, rfl⟩ := x b none K rfl rfl h4
      exact .inr (.inr ⟨b, ty, h1, h2, rfl, h4⟩)
/-- The row of a list of numbers. -/
def RI (s : AV) (h : Mem) (lo nx : Nat) (l : List Int) : Prop := Row 1 l.length s h lo nx (ints l)
theorem RI.keep {s : AV} {h h' : Mem} {lo nx nx' : Nat} {l : List Int} (g : RI s h lo nx l) (hn : nx ≤ nx') (e : ∀ b, lo ≤ b → b < nx → h'.blk b = h.blk b) : RI s h' lo nx' l := Row.keep g hn e
theorem RI.irow {s : AV} {h : Mem} {lo nx : Nat} {l : List Int} (g : RI s h lo nx l) : IRow .i64 s h nx l := by
  rcases g with ⟨rfl, h1, h2⟩ | ⟨b, K, c, h1, h2, rfl, h3, h4, h5, h6⟩
  · exact .inl ⟨rfl, List.eq_nil_of_length_eq_zero h1⟩
  · refine .inr ⟨b, c, rfl, fun _ => ⟨h2, K, h4, fun i hi => ?_⟩⟩
    rw [h5]
    exact ints_at hi
theorem RI.len {s : AV} {h : Mem} {lo nx : Nat} {l : List Int} (g : RI s h lo nx l) : lenOp s = A.ret (.int .i64 l.length) := g.rv.lenOp
/-- It makes a row. -/
def MkR (c f : Nat) (args : List AV) (h : Mem) (nx : Nat) (l : List Int) : Prop := ∀ lg, lg ≤ nx → Post (xF T c f args h nx lg) fun v' h' nx' tc wr => nx ≤ nx' ∧ RI v' h' nx nx' l ∧ Keeps nx h h' ∧ wr = 0
theorem MkR.at {c f : Nat} {args : List AV} {h : Mem} {nx : Nat} {l : List Int} (s : MkR c f args h nx l) (lg : Nat) (hl : lg ≤ nx) : ∃ v h' nx' tc, (∀ j, xF T (j + c) f args h nx lg = some ⟨v, h', nx', tc, 0⟩) ∧ nx ≤ nx' ∧ RI v h' nx nx' l ∧ Keeps nx h h' := by
  obtain ⟨v, h', nx', tc, wr, e, e1, e2, e3, rfl⟩ := (s lg hl).inv
  exact ⟨v, h', nx', tc, fun k => xF_mono T (Nat.le_add_left ..) e, e1, e2, e3⟩
theorem MkR.up {c d f : Nat} {args : List AV} {h : Mem} {nx : Nat} {l : List Int} (s : MkR c f args h nx l) (hd : c ≤ d) : MkR d f args h nx l := by
  intro lg hl
  obtain ⟨v', h', nx', tc, wr, e, q⟩ := (s lg hl).inv
  exact Post.of (xF_mono T hd e) q
theorem Rd.up {c d f : Nat} {args : List AV} {h : Mem} {nx : Nat} {v : AV} (s : Rd c f args h nx v) (hd : c ≤ d) : Rd d f args h nx v := by
  intro lg hl
  obtain ⟨v', h', nx', tc, wr, e, q⟩ := (s lg hl).inv
  exact Post.of (xF_mono T hd e) q
theorem sub_ints {l m : List Int} (e : l.take m.length = m) : (ints l).take m.length = ints m := by
  unfold ints
  rw [← List.map_take, e]
/-- Clip. -/
theorem clip_rd {s : AV} {h : Mem} {lo nx : Nat} {l : List Int} (g : RI s h lo nx l) (lg : Nat) : ∃ v tc, (∀ k, xF T (k + 20) 28 [s] h nx lg = some ⟨v, h, nx, tc, 0⟩) ∧ RI v h lo nx l ∧ Mk2 lo lg tc := by
  obtain ⟨v, msk, e, r, m⟩ := Row.clip (by omega) g lg
  refine ⟨v, msk, fun k => ?_, r, m⟩
  have hlen := g.len
  rw [xF_fr T28]; apply eq_of_Post
  simp (maxSteps := 4000000) [↓step_none, ↓op_slice, ↓op_app, ↓P_skip, ↓P_exit, ↓P_ret, ↓P_seq, ↓P_cond, ↓P_blk, ↓P_reg, ↓P_draw, ↓P_nil, ↓P_cons, condP_t, condP_f, dum_ab, stepR, want_none, want_some, opRun, ev_t, ev_c, put_none, put_some, resAll, res_tmp, res_cell, oneOf, minI, maxI, min2A, max2A, mn2, mx2, mx3, rdBlk, wrBlk, newBlk, partA, abin, ibin, isShift, AV.cells, AV.one, lay, sub, fillA, lenA, toN, allApart, apartFrom, Nat.testBit, Mem.blk_set_same, Mem.blk_set_ne, Mem.set_set, bit_zero, bit_self, lowBits_or, lowBits_zero, len_setT, sl_same, sl_ne, len_frame, sl_frame,↓op_len, lenOp_slc, lenOp_nils, ↓Post.some, ↓Post_bind, ↓Post_ret, ↓Post_draw, ↓PostL_nil, ↓PostL_cons, Post_fail, ofOpt_some, ofOpt_none, eA_b, eA_i, eA_s, eA_nn, eA_np, eA_pn, eA_lnn, eA_lnp, eA_lpn, eA_i2, eA_i3, blt_dec, Nat.add_assoc, keeps_refl, keeps_at, keeps_up, new_one, and_pow, bit_hi, lowBits_pow, ble_dec, fr_refl, fr_at, fr_up, fr_p, dum_ab, F28, hlen, e]
/-- Clone of what is some. -/
theorem clone_mk {x : AV} {h : Mem} {lo nx : Nat} {l : List Int} (g : RV 1 l.length x h lo nx (ints l)) (hx : l ≠ []) (hl : l.length ≤ 1000) (lg : Nat) (hlg : lg ≤ nx) (hlo : lo ≤ nx) : ∃ v h' nx' tc, (∀ k, xF T (k + 20) 29 [x] h nx lg = some ⟨v, h', nx', tc, 0⟩) ∧ nx ≤ nx' ∧ RI v h' nx nx' l ∧ Keeps nx h h' ∧ Mk2 lo lg tc := by
  have g0 : Row 1 0 (.slc nx 0 0 (some 0)) (h.set nx (some ⟨3, 1, true, false, []⟩)) nx (nx + 1) [] := Row.lit (Nat.le_refl _) (by omega) rfl (Mem.blk_set_same ..)
  have g' := g.keep (h' := h.set nx (some ⟨3, 1, true, false, []⟩)) (show nx ≤ nx + 1 by omega) fun b _ hb => Mem.blk_set_ne _ _ _ _ (by omega)
  have hone : (ints l).all AV.one = true := ints_one l
  obtain ⟨v, h', nx', tc, wr, e, e1, e2, e3, e4, e5⟩ := Row.app (by omega) 3 8 g0 g' (by omega) (fun i hi => fits_few (by omega) (by omega)) hone lg
  have z2 := e5.zero (by omega)
  subst z2
  rw [Nat.zero_add, List.nil_append] at e2
  have b0 : bit lg nx = 0 := bit_up (by omega)
  refine ⟨v, h', nx', tc, fun k => ?_, by omega, e2, fun b hb => by rw [e3 b hb, Mem.blk_set_ne _ _ _ _ (by omega)], e4.mono (by omega)⟩
  rw [xF_fr T29]; apply eq_of_Post
  rcases g.form with ⟨rfl, hz⟩ | ⟨b, o, c, rfl⟩
  · exact absurd (List.eq_nil_of_length_eq_zero hz) hx
  · simp (maxSteps := 4000000) [↓step_none, ↓op_slice, ↓op_app, ↓P_skip, ↓P_exit, ↓P_ret, ↓P_seq, ↓P_cond, ↓P_blk, ↓P_reg, ↓P_draw, ↓P_nil, ↓P_cons, condP_t, condP_f, dum_ab, stepR, want_none, want_some, opRun, ev_t, ev_c, put_none, put_some, resAll, res_tmp, res_cell, oneOf, minI, maxI, min2A, max2A, mn2, mx2, mx3, rdBlk, wrBlk, newBlk, partA, abin, ibin, isShift, AV.cells, AV.one, lay, sub, fillA, lenA, toN, allApart, apartFrom, Nat.testBit, Mem.blk_set_same, Mem.blk_set_ne, Mem.set_set, bit_zero, bit_self, lowBits_or, lowBits_zero, len_setT, sl_same, sl_ne, len_frame, sl_frame,↓op_len, lenOp_slc, lenOp_nils, ↓Post.some, ↓Post_bind, ↓Post_ret, ↓Post_draw, ↓PostL_nil, ↓PostL_cons, Post_fail, ofOpt_some, ofOpt_none, eA_b, eA_i, eA_s, eA_nn, eA_np, eA_pn, eA_lnn, eA_lnp, eA_lpn, eA_i2, eA_i3, blt_dec, Nat.add_assoc, keeps_refl, keeps_at, keeps_up, new_one, and_pow, bit_hi, lowBits_pow, ble_dec, fr_refl, fr_at, fr_up, fr_p, dum_ab, F29, e, reps, b0]

/-! ### Color, Count -/
open Classical in
noncomputable def colS (S : Nat → List Int) (i : Int) : Int := if i ∈ S 0 then 0 else if i ∈ S 1 then 1 else if i ∈ S 2 then 2 else if i ∈ S 3 then 3 else -1
def cntS (S : Nat → List Int) (c : Int) : Int := if c = 0 then ((S 0).length : Int) else if c = 1 then ((S 1).length : Int) else if c = 2 then ((S 2).length : Int) else if c = 3 then ((S 3).length : Int) else 0
theorem color_rd {h : Mem} {nx p r bn bp bc : Nat} {X Y : List Int} {S : Nat → List Int} {n : Nat} (j : ML h nx p r bn bp bc X Y S n) (i : Int) : Rd 60 16 [.ptr p 0, .int .i64 i] h nx (.int .i64 (colS S i)) := by
  intro lg hlg
  obtain ⟨k0, ⟨t, ty⟩, ⟨t2, C, cl, cn, cc⟩, al, hp, hbc, ⟨d1, d2, d3, d4⟩, ⟨d5, d6, d7⟩⟩ := j
  have dom : ∀ x, x ∈ LS S → 0 ≤ x ∧ x < n := fun x hx => by have := k0.k.dom x hx; rw [k0.len] at this; exact this
  rw [xF_fr T16]
  unfold mc at ty
  by_cases c1 : i < 0
  · have : colS S i = -1 := by
      have hh : i ∉ LS S := fun hh => by have := (dom i hh).1; omega
      unfold LS at hh
      simp only [List.mem_append, not_or] at hh
      unfold colS
      rw [if_neg hh.1, if_neg hh.2.1, if_neg hh.2.2.1, if_neg hh.2.2.2]
    simp (maxSteps := 4000000) [↓P_skip, ↓P_exit, ↓P_ret, ↓P_seq, ↓P_cond, ↓P_blk, ↓P_reg, ↓P_draw, ↓P_nil, ↓P_cons, condP_t, condP_f, dum_ab, stepR, want_none, want_some, opRun, ev_t, ev_c, put_none, put_some, resAll, res_tmp, res_cell, oneOf, minI, maxI, min2A, max2A, mn2, mx2, mx3, rdBlk, wrBlk, newBlk, partA, abin, ibin, isShift, AV.cells, AV.one, lay, sub, fillA, lenA, toN, allApart, apartFrom, Nat.testBit, Mem.blk_set_same, Mem.blk_set_ne, Mem.set_set, bit_zero, bit_self, lowBits_or, lowBits_zero, len_setT, sl_same, sl_ne, len_frame, sl_frame,↓op_len, lenOp_slc, lenOp_nils, ↓Post.some, ↓Post_bind, ↓Post_ret, ↓Post_draw, ↓PostL_nil, ↓PostL_cons, Post_fail, ofOpt_some, ofOpt_none, eA_b, eA_i, eA_s, eA_nn, eA_np, eA_pn, eA_lnn, eA_lnp, eA_lpn, eA_i2, eA_i3, blt_dec, Nat.add_assoc, keeps_refl, keeps_at, keeps_up, new_one, and_pow, bit_hi, lowBits_pow, ble_dec, fr_refl, fr_at, fr_up, fr_p, dum_ab, F16, c1, this]
  · by_cases c2 : (n : Int) ≤ i
    · have : colS S i = -1 := by
        have hh : i ∉ LS S := fun hh => by have := (dom i hh).2; omega
        unfold LS at hh
        simp only [List.mem_append, not_or] at hh
        unfold colS
        rw [if_neg hh.1, if_neg hh.2.1, if_neg hh.2.2.1, if_neg hh.2.2.2]
      simp (maxSteps := 4000000) [↓P_skip, ↓P_exit, ↓P_ret, ↓P_seq, ↓P_cond, ↓P_blk, ↓P_reg, ↓P_draw, ↓P_nil, ↓P_cons, condP_t, condP_f, dum_ab, stepR, want_none, want_some, opRun, ev_t, ev_c, put_none, put_some, resAll, res_tmp, res_cell, oneOf, minI, maxI, min2A, max2A, mn2, mx2, mx3, rdBlk, wrBlk, newBlk, partA, abin, ibin, isShift, AV.cells, AV.one, lay, sub, fillA, lenA, toN, allApart, apartFrom, Nat.testBit, Mem.blk_set_same, Mem.blk_set_ne, Mem.set_set, bit_zero, bit_self, lowBits_or, lowBits_zero, len_setT, sl_same, sl_ne, len_frame, sl_frame,↓op_len, lenOp_slc, lenOp_nils, ↓Post.some, ↓Post_bind, ↓Post_ret, ↓Post_draw, ↓PostL_nil, ↓PostL_cons, Post_fail, ofOpt_some, ofOpt_none, eA_b, eA_i, eA_s, eA_nn, eA_np, eA_pn, eA_lnn, eA_lnp, eA_lpn, eA_i2, eA_i3, blt_dec, Nat.add_assoc, keeps_refl, keeps_at, keeps_up, new_one, and_pow, bit_hi, lowBits_pow, ble_dec, fr_refl, fr_at, fr_up, fr_p, dum_ab, F16, c1, c2, this, ty, hp]
    · have ci : i.toNat < C.length := by omega
      have c3 : 0 ≤ i := by omega
      have c4 : i < n := by omega
      have hv : C[i.toNat] = colS S i := by
        have e1 : ∀ k, k < 4 → i ∈ S k → C[i.toNat] = (k : Int) := fun k hk hx => by
          have := cc k hk i hx
          unfold gx at this
          rw [List.getD_eq_getElem?_getD, List.getElem?_eq_getElem ci] at this
          exact this
        have := al i c3 c4
        unfold LS at this
        simp only [List.mem_append] at this
        unfold colS
        by_cases q0 : i ∈ S 0
        · rw [if_pos q0]; exact e1 0 (by omega) q0
        rw [if_neg q0]
        by_cases q1 : i ∈ S 1
        · rw [if_pos q1]; exact e1 1 (by omega) q1
        rw [if_neg q1]
        by_cases q2 : i ∈ S 2
        · rw [if_pos q2]; exact e1 2 (by omega) q2
        rw [if_neg q2]
        have q3 : i ∈ S 3 := by
          rcases this with h | h | h | h
          · exact absurd h q0
          · exact absurd h q1
          · exact absurd h q2
          · exact h
        rw [if_pos q3]; exact e1 3 (by omega) q3
      have g := get_of (ints_at ci)
      rw [hv] at g
      have il := ints_len C
      have c5 : i.toNat < n := by omega
      simp (maxSteps := 4000000) [↓P_skip, ↓P_exit, ↓P_ret, ↓P_seq, ↓P_cond, ↓P_blk, ↓P_reg, ↓P_draw, ↓P_nil, ↓P_cons, condP_t, condP_f, dum_ab, stepR, want_none, want_some, opRun, ev_t, ev_c, put_none, put_some, resAll, res_tmp, res_cell, oneOf, minI, maxI, min2A, max2A, mn2, mx2, mx3, rdBlk, wrBlk, newBlk, partA, abin, ibin, isShift, AV.cells, AV.one, lay, sub, fillA, lenA, toN, allApart, apartFrom, Nat.testBit, Mem.blk_set_same, Mem.blk_set_ne, Mem.set_set, bit_zero, bit_self, lowBits_or, lowBits_zero, len_setT, sl_same, sl_ne, len_frame, sl_frame,↓op_len, lenOp_slc, lenOp_nils, ↓Post.some, ↓Post_bind, ↓Post_ret, ↓Post_draw, ↓PostL_nil, ↓PostL_cons, Post_fail, ofOpt_some, ofOpt_none, eA_b, eA_i, eA_s, eA_nn, eA_np, eA_pn, eA_lnn, eA_lnp, eA_lpn, eA_i2, eA_i3, blt_dec, Nat.add_assoc, keeps_refl, keeps_at, keeps_up, new_one, and_pow, bit_hi, lowBits_pow, ble_dec, fr_refl, fr_at, fr_up, fr_p, dum_ab, F16, c1, c2, c3, c4, c5, g, ty, hp, cl, hbc, ci, il]
theorem count_rd {h : Mem} {nx p r bn bp bc : Nat} {X Y : List Int} {S : Nat → List Int} {n : Nat} (j : ML h nx p r bn bp bc X Y S n) (c : Int) : Rd 60 17 [.ptr p 0, .int .i64 c] h nx (.int .i64 (cntS S c)) := by
  intro lg hlg
  obtain ⟨t, ty⟩ := j.ty
  have hp := j.hp
  unfold mc at ty
  rw [xF_fr T17]
  unfold cntS
  by_cases c1 : c < 0
  · rw [if_neg (by omega), if_neg (by omega), if_neg (by omega), if_neg (by omega)]
    simp (maxSteps := 4000000) [↓P_skip, ↓P_exit, ↓P_ret, ↓P_seq, ↓P_cond, ↓P_blk, ↓P_reg, ↓P_draw, ↓P_nil, ↓P_cons, condP_t, condP_f, dum_ab, stepR, want_none, want_some, opRun, ev_t, ev_c, put_none, put_some, resAll, res_tmp, res_cell, oneOf, minI, maxI, min2A, max2A, mn2, mx2, mx3, rdBlk, wrBlk, newBlk, partA, abin, ibin, isShift, AV.cells, AV.one, lay, sub, fillA, lenA, toN, allApart, apartFrom, Nat.testBit, Mem.blk_set_same, Mem.blk_set_ne, Mem.set_set, bit_zero, bit_self, lowBits_or, lowBits_zero, len_setT, sl_same, sl_ne, len_frame, sl_frame,↓op_len, lenOp_slc, lenOp_nils, ↓Post.some, ↓Post_bind, ↓Post_ret, ↓Post_draw, ↓PostL_nil, ↓PostL_cons, Post_fail, ofOpt_some, ofOpt_none, eA_b, eA_i, eA_s, eA_nn, eA_np, eA_pn, eA_lnn, eA_lnp, eA_lpn, eA_i2, eA_i3, blt_dec, Nat.add_assoc, keeps_refl, keeps_at, keeps_up, new_one, and_pow, bit_hi, lowBits_pow, ble_dec, fr_refl, fr_at, fr_up, fr_p, dum_ab, F17, c1]
  by_cases c2 : 4 ≤ c
  · rw [if_neg (by omega), if_neg (by omega), if_neg (by omega), if_neg (by omega)]
    simp (maxSteps := 4000000) [↓P_skip, ↓P_exit, ↓P_ret, ↓P_seq, ↓P_cond, ↓P_blk, ↓P_reg, ↓P_draw, ↓P_nil, ↓P_cons, condP_t, condP_f, dum_ab, stepR, want_none, want_some, opRun, ev_t, ev_c, put_none, put_some, resAll, res_tmp, res_cell, oneOf, minI, maxI, min2A, max2A, mn2, mx2, mx3, rdBlk, wrBlk, newBlk, partA, abin, ibin, isShift, AV.cells, AV.one, lay, sub, fillA, lenA, toN, allApart, apartFrom, Nat.testBit, Mem.blk_set_same, Mem.blk_set_ne, Mem.set_set, bit_zero, bit_self, lowBits_or, lowBits_zero, len_setT, sl_same, sl_ne, len_frame, sl_frame,↓op_len, lenOp_slc, lenOp_nils, ↓Post.some, ↓Post_bind, ↓Post_ret, ↓Post_draw, ↓PostL_nil, ↓PostL_cons, Post_fail, ofOpt_some, ofOpt_none, eA_b, eA_i, eA_s, eA_nn, eA_np, eA_pn, eA_lnn, eA_lnp, eA_lpn, eA_i2, eA_i3, blt_dec, Nat.add_assoc, keeps_refl, keeps_at, keeps_up, new_one, and_pow, bit_hi, lowBits_pow, ble_dec, fr_refl, fr_at, fr_up, fr_p, dum_ab, F17, c1, c2]
  · obtain rfl | rfl | rfl | rfl : c = 0 ∨ c = 1 ∨ c = 2 ∨ c = 3 := by omega
    all_goals simp (maxSteps := 4000000) [↓P_skip, ↓P_exit, ↓P_ret, ↓P_seq, ↓P_cond, ↓P_blk, ↓P_reg, ↓P_draw, ↓P_nil, ↓P_cons, condP_t, condP_f, dum_ab, stepR, want_none, want_some, opRun, ev_t, ev_c, put_none, put_some, resAll, res_tmp, res_cell, oneOf, minI, maxI, min2A, max2A, mn2, mx2, mx3, rdBlk, wrBlk, newBlk, partA, abin, ibin, isShift, AV.cells, AV.one, lay, sub, fillA, lenA, toN, allApart, apartFrom, Nat.testBit, Mem.blk_set_same, Mem.blk_set_ne, Mem.set_set, bit_zero, bit_self, lowBits_or, lowBits_zero, len_setT, sl_same, sl_ne, len_frame, sl_frame,↓op_len, lenOp_slc, lenOp_nils, ↓Post.some, ↓Post_bind, ↓Post_ret, ↓Post_draw, ↓PostL_nil, ↓PostL_cons, Post_fail, ofOpt_some, ofOpt_none, eA_b, eA_i, eA_s, eA_nn, eA_np, eA_pn, eA_lnn, eA_lnp, eA_lpn, eA_i2, eA_i3, blt_dec, Nat.add_assoc, keeps_refl, keeps_at, keeps_up, new_one, and_pow, bit_hi, lowBits_pow, ble_dec, fr_refl, fr_at, fr_up, fr_p, dum_ab, F17, ty, hp]
theorem LS.at (S : Nat → List Int) (c : Nat) (hc : c < 4) : ∃ u v, LS S = u ++ (S c ++ v) := by
  unfold LS
  obtain rfl | rfl | rfl | rfl : c = 0 ∨ c = 1 ∨ c = 2 ∨ c = 3 := by omega
  · exact ⟨[], S 1 ++ (S 2 ++ S 3), rfl⟩
  · exact ⟨S 0, S 2 ++ S 3, rfl⟩
  · exact ⟨S 0 ++ S 1, S 3, by simp⟩
  · exact ⟨S 0 ++ (S 1 ++ S 2), [], by simp⟩
theorem list_no {h : Mem} {nx p r bn bp bc : Nat} {X Y : List Int} {S : Nat → List Int} {n : Nat} (j : ML h nx p r bn bp bc X Y S n) (c : Int) (hc : cntS S c = 0) : MkR 400 19 [.ptr p 0, .int .i64 c] h nx [] := by
  intro lg hlg
  obtain ⟨tc, x1⟩ := (count_rd j c).at lg hlg
  rw [hc] at x1
  rw [xF_fr T19]
  simp (maxSteps := 4000000) [↓P_skip, ↓P_exit, ↓P_ret, ↓P_seq, ↓P_cond, ↓P_blk, ↓P_reg, ↓P_draw, ↓P_nil, ↓P_cons, condP_t, condP_f, dum_ab, stepR, want_none, want_some, opRun, ev_t, ev_c, put_none, put_some, resAll, res_tmp, res_cell, oneOf, minI, maxI, min2A, max2A, mn2, mx2, mx3, rdBlk, wrBlk, newBlk, partA, abin, ibin, isShift, AV.cells, AV.one, lay, sub, fillA, lenA, toN, allApart, apartFrom, Nat.testBit, Mem.blk_set_same, Mem.blk_set_ne, Mem.set_set, bit_zero, bit_self, lowBits_or, lowBits_zero, len_setT, sl_same, sl_ne, len_frame, sl_frame,↓op_len, lenOp_slc, lenOp_nils, ↓Post.some, ↓Post_bind, ↓Post_ret, ↓Post_draw, ↓PostL_nil, ↓PostL_cons, Post_fail, ofOpt_some, ofOpt_none, eA_b, eA_i, eA_s, eA_nn, eA_np, eA_pn, eA_lnn, eA_lnp, eA_lpn, eA_i2, eA_i3, blt_dec, Nat.add_assoc, keeps_refl, keeps_at, keeps_up, new_one, and_pow, bit_hi, lowBits_pow, ble_dec, fr_refl, fr_at, fr_up, fr_p, dum_ab, F19, x1]
  exact Row.nil ..
set_option maxHeartbeats 4000000 in
theorem list_mk {h : Mem} {nx p r bn bp bc : Nat} {X Y : List Int} {S : Nat → List Int} {n : Nat} (j : ML h nx p r bn bp bc X Y S n) (hn : n ≤ 100) (c : Nat) (hc : c < 4) : MkR 400 19 [.ptr p 0, .int .i64 c] h nx (S c) := by
  have cS : cntS S c = ((S c).length : Int) := by
    unfold cntS
    obtain rfl | rfl | rfl | rfl : c = 0 ∨ c = 1 ∨ c = 2 ∨ c = 3 := by omega
    all_goals rfl
  cases hS : S c with
  | nil => exact hS ▸ list_no j c (by rw [cS, hS]; rfl)
  | cons i t =>
    intro lg hlg
    have k0 := j.k
    obtain ⟨u, v, eL⟩ := LS.at S c hc
    have le := k0.le
    rw [eL, hS] at k0 le
    have k1 : Link X Y (u ++ i :: (t ++ v)) := k0.k
    have lle : (u ++ i :: (t ++ v)).length ≤ 100 := by
      have : (u ++ (i :: t ++ v)).length ≤ n := le
      simp only [List.length_append, List.length_cons, List.cons_append] at this ⊢
      omega
    obtain ⟨tc1, x1⟩ := (count_rd j c).at lg hlg
    rw [cS, hS] at x1
    have hL0 : ((i :: t).length : Int) ≠ 0 := by rw [List.length_cons]; omega
    obtain ⟨v2, h2, nx2, tc2, x2, n2, g2, kp2⟩ := (k1.from k0.r lle).at nx (Nat.le_refl _)
    have j2 := j.keep n2 kp2
    have g2' := g2.row
    have hcl : (i :: t).length ≤ (i :: (t ++ v ++ u)).length := by simp only [List.length_append, List.length_cons]; omega
    obtain ⟨v3, m3, x3, g3, mk3, _⟩ := Row.cut (by omega) g2' (Nat.le_refl _) (a := 0) (e := (i :: t).length) (Nat.zero_le _) hcl none (some (.int .i64 ((i :: t).length : Nat))) rfl (fun m hm => toNle_nat (by omega)) nx2
    have e3 : ((ints (i :: (t ++ v ++ u))).drop (0 * 1)).take (((i :: t).length - 0) * 1) = ints (i :: t) := by
      rw [Nat.zero_mul, List.drop_zero, Nat.sub_zero, Nat.mul_one]
      exact sub_ints (by simp)
    rw [e3, Nat.sub_zero] at g3
    have lt : (i :: t).length ≤ 1000 := by simp only [List.length_append, List.length_cons] at lle ⊢; omega
    obtain ⟨v4, h4, nx4, tc4, x4, n4, g4, kp4, mk4⟩ := clone_mk g3 (by simp) lt nx2 (Nat.le_refl _) n2
    obtain ⟨v5, tc5, x5, g5, mk5⟩ := clip_rd g4 nx4
    obtain ⟨t1, ty⟩ := j.ty
    obtain ⟨t2, ty2⟩ := j2.ty
    have hp := j.hp
    have hp2 := j2.hp
    have ln' : ((((i :: t).length : Nat) : Int) == 0) = false := by simpa using hL0
    have hd : hd S c = i := by unfold Go.Proofs.YtmgilbjhgpcjgaaT.hd; rw [hS]; rfl
    have hr : RI v5 h4 nx nx4 (i :: t) := Row.low g5 n2
    have hk : Keeps nx h h4 := kp2.trans kp4 n2
    unfold mc at ty ty2
    generalize hL : ((i :: t).length : Int) = L at *
    rw [xF_fr T19]
    obtain rfl | rfl | rfl | rfl : c = 0 ∨ c = 1 ∨ c = 2 ∨ c = 3 := by omega
    all_goals
      rw [hd, hS, hL] at ty ty2
      simp only [show ((0 : Nat) : Int) = 0 from rfl, show ((1 : Nat) : Int) = 1 from rfl, show ((2 : Nat) : Int) = 2 from rfl, show ((3 : Nat) : Int) = 3 from rfl] at x1
      simp (maxSteps := 4000000) [↓step_none, ↓op_slice, ↓op_app, ↓P_skip, ↓P_exit, ↓P_ret, ↓P_seq, ↓P_cond, ↓P_blk, ↓P_reg, ↓P_draw, ↓P_nil, ↓P_cons, condP_t, condP_f, dum_ab, stepR, want_none, want_some, opRun, ev_t, ev_c, put_none, put_some, resAll, res_tmp, res_cell, oneOf, minI, maxI, min2A, max2A, mn2, mx2, mx3, rdBlk, wrBlk, newBlk, partA, abin, ibin, isShift, AV.cells, AV.one, lay, sub, fillA, lenA, toN, allApart, apartFrom, Nat.testBit, Mem.blk_set_same, Mem.blk_set_ne, Mem.set_set, bit_zero, bit_self, lowBits_or, lowBits_zero, len_setT, sl_same, sl_ne, len_frame, sl_frame,↓op_len, lenOp_slc, lenOp_nils, ↓Post.some, ↓Post_bind, ↓Post_ret, ↓Post_draw, ↓PostL_nil, ↓PostL_cons, Post_fail, ofOpt_some, ofOpt_none, eA_b, eA_i, eA_s, eA_nn, eA_np, eA_pn, eA_lnn, eA_lnp, eA_lpn, eA_i2, eA_i3, blt_dec, Nat.add_assoc, keeps_refl, keeps_at, keeps_up, new_one, and_pow, bit_hi, lowBits_pow, ble_dec, fr_refl, fr_at, fr_up, fr_p, dum_ab, F19, x1, x2, x3, x4, x5, ty, ty2, hp, hp2, ln']
      exact ⟨new_lo hp, by omega, hr, hk⟩
end Go.Proofs.YtmgilbjhgpcjgaaT
