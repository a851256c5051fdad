/- Ring: the document's ring: Out, In. -/
import Derived.Test.YtelciflkmkpibaaRef3
namespace Go.Proofs.YtelciflkmkpibaaT
open Go Go.Proofs.YtelciflkmkpibaaE Go.Proofs.YtelciflkmkpibaaB
set_option linter.unusedSimpArgs false
set_option linter.unusedVariables false
attribute [local congr] Post_cg PostL_cg condP_cg

/-- What a call that changes the document's ring comes to. -/
def Wch (c f : Nat) (args : List AV) (h : Mem) (nx q : Nat) (v : AV) (N : Int) (L : List Int) : Prop := ∀ lg, lg ≤ nx → Post (xF T c f args h nx lg) fun v' h' nx' tc wr => v' = v ∧ nx ≤ nx' ∧ Wr h' nx' q N L ∧ (∀ b, b < nx → b ≠ q → h'.blk b = h.blk b)
theorem Wch.at {c f : Nat} {args : List AV} {h : Mem} {nx q : Nat} {v : AV} {N : Int} {L : List Int} (s : Wch c f args h nx q v N L) (lg : Nat) (hl : lg ≤ nx) : ∃ h' nx' tc wr, (∀ j, xF T (j + c) f args h nx lg = some ⟨v, h', nx', tc, wr⟩) ∧ nx ≤ nx' ∧ Wr h' nx' q N L ∧ (∀ b, b < nx → b ≠ q → h'.blk b = h.blk b) := by
  obtain ⟨v, h', nx', tc, wr, e, rfl, e0, e1, e2⟩ := (s lg hl).inv
  exact ⟨h', nx', tc, wr, fun k => xF_mono T (Nat.le_add_left ..) e, e0, e1, e2⟩
theorem rd_wch {c f : Nat} {args : List AV} {h : Mem} {nx q : Nat} {v : AV} {N : Int} {L : List Int} (r : Wr h nx q N L) (s : Rd c f args h nx v) : Wch c f args h nx q v N L := fun lg hl => (s lg hl).mono fun v' h' nx' tc wr ⟨a, b, c, d⟩ => by subst b; subst c; exact ⟨a, Nat.le_refl _, r, fun _ _ _ => rfl⟩
theorem wout_no {h : Mem} {nx q : Nat} {N : Int} {L : List Int} (w : Wr h nx q N L) (hL : L.length ≤ 100) {i : Int} (e : i ∉ L) : Wch 300 20 [.ptr q 0, .int .i64 i] h nx q (.bool false) N L := by
  apply rd_wch w
  intro lg hlg
  obtain ⟨tc, x1⟩ := (at_rd w hL (at_no e)).at lg hlg
  rw [xF_fr T20]
  simp (maxSteps := 4000000) [↓P_skip, ↓P_exit, ↓P_ret, ↓P_seq, ↓P_cond, ↓P_blk, ↓P_reg, ↓P_draw, ↓P_nil, ↓P_cons, condP_t, condP_f, dum_ab, stepR, want_none, want_some, opRun, ev_t, ev_c, put_none, put_some, resAll, res_tmp, res_cell, oneOf, minI, maxI, min2A, max2A, mn2, mx2, mx3, rdBlk, wrBlk, newBlk, partA, abin, ibin, isShift, AV.cells, AV.one, lay, sub, fillA, lenA, toN, allApart, apartFrom, Nat.testBit, Mem.blk_set_same, Mem.blk_set_ne, Mem.set_set, bit_zero, bit_self, lowBits_or, lowBits_zero, len_setT, sl_same, sl_ne, len_frame, sl_frame,↓op_len, lenOp_slc, lenOp_nils, ↓Post.some, ↓Post_bind, ↓Post_ret, ↓Post_draw, ↓PostL_nil, ↓PostL_cons, Post_fail, ofOpt_some, ofOpt_none, eA_b, eA_i, eA_s, eA_nn, eA_np, eA_pn, eA_lnn, eA_lnp, eA_lpn, eA_i2, eA_i3, blt_dec, Nat.add_assoc, keeps_refl, keeps_at, keeps_up, new_one, and_pow, bit_hi, lowBits_pow, ble_dec, fr_refl, fr_at, fr_up, fr_p, dum_ab, F20, x1]
set_option maxHeartbeats 8000000 in
theorem wout_in {h : Mem} {nx q : Nat} {N : Int} {L : List Int} (w : Wr h nx q N L) (hL : L.length ≤ 100) {u v : List Int} {i : Int} (e : L = u ++ i :: v) (hu : i ∉ u) : Wch 300 20 [.ptr q 0, .int .i64 i] h nx q (.bool true) N (u ++ v) := by
  intro lg hlg
  obtain ⟨tc, x1⟩ := (at_rd w hL (at_in e hu)).at lg hlg
  obtain ⟨⟨t, s, e1, gl⟩, hq⟩ := w
  have len : L.length = u.length + 1 + v.length := by rw [e, List.length_append, List.length_cons]; omega
  have k0 : ¬ (u.length : Int) < 0 := by omega
  have sl1 := sub_l u (i :: v)
  have sl2 := sub_r (u ++ [i]) v
  rw [List.append_assoc, List.length_append] at sl2
  simp only [List.length_cons, List.length_nil, List.cons_append, List.nil_append, Nat.zero_add] at sl2
  rw [← e] at sl1 sl2
  have g0 : GL (.slc nx 0 0 (some 0)) (h.set nx (some ⟨3, 1, true, false, []⟩)) nx (nx + 1) [] := GL.lit (l := []) (Nat.le_refl _) (by omega) (Mem.blk_set_same ..)
  obtain ⟨s1, h1, nx1, tc1, wr1, a1, n1, gl1, f1, y1, z1, _⟩ := (app_gen (lg := nx + 1) (m := u) 3 g0 (by omega) (by simp only [List.length_nil]; omega)).inv
  rw [List.nil_append] at gl1
  have kp1 : Keeps nx h h1 := fun b hb => by rw [f1 b hb, Mem.blk_set_ne _ _ _ _ (by omega)]
  obtain ⟨s2, h2, nx2, tc2, wr2, a2, n2, gl2, f2, y2, z2, _⟩ := (app_gen (lg := nx1) (m := v) 3 gl1 (by omega) (by omega)).inv
  have kp2 : Keeps nx h h2 := fun b hb => by rw [f2 b hb, kp1 b hb]
  have hne : ¬ q = nx := by omega
  have h1q : h1.blk q = some ⟨t, 2, true, false, [.int .i64 N, s]⟩ := by rw [kp1 q hq, e1]
  have h2q : h2.blk q = some ⟨t, 2, true, false, [.int .i64 N, s]⟩ := by rw [kp2 q hq, e1]
  have hq1 : q < nx1 := by omega
  have hq2 : q < nx2 := by omega
  have o1 : (wr1 ||| 2 ^ nx1 - 2 ^ (nx + 1)) &&& 2 ^ q = 0 := z1.new hq (by omega)
  have o2 : wr1 &&& 2 ^ q = 0 := z1 q hq
  have hq3 : q < nx + 1 := by omega
  have o5 : 2 ^ nx &&& 2 ^ q = 0 := and_pow (by omega)
  have il := ints_len L
  have wk := ltn u (by omega)
  have tk : ((u.length : Int) + 1).toNat = u.length + 1 := by omega
  have tk2 : (0 : Int) ≤ (u.length : Int) + 1 := by omega
  have fm := gl2.form
  generalize hn : L.length = n at *
  have m1 : n - (u.length + 1) = v.length := by omega
  have m2 : u.length ≤ n := by omega
  have m3 : (u.length : Int) ≤ (n : Int) := by omega
  have m4 : (u.length : Int) + 1 ≤ (n : Int) := by omega
  have m5 : u.length + 1 ≤ n := by omega
  have fin : ∀ s2, GL s2 h2 nx nx2 (u ++ v) → Wr (h2.set q (some ⟨t, 2, true, false, [.int .i64 N, s2]⟩)) nx2 q N (u ++ v) ∧ ∀ b, b < nx → b ≠ q → (h2.set q (some ⟨t, 2, true, false, [.int .i64 N, s2]⟩)).blk b = h.blk b := fun s2 gl2 => ⟨⟨⟨t, s2, Mem.blk_set_same .., (gl2.low (lo' := q + 1) (by omega)).keep (Nat.le_refl _) fun b hb _ => Mem.blk_set_ne _ _ _ _ (by omega)⟩, hq2⟩, fun b hb hb2 => by rw [Mem.blk_set_ne _ _ _ _ hb2, kp2 b hb]⟩
  rw [xF_fr T20]
  rcases gl with ⟨_, rfl⟩ | ⟨b, K, rfl, b1, b2, b4, b5⟩ | ⟨b, ty, b1, b2, rfl, b4⟩
  · simp only [List.length_nil] at hn; omega
  · rw [hn] at e1 h1q h2q
    have bb : b < nx1 := by omega
    have h1b : h1.blk b = some K := by rw [kp1 b b2, b4]
    have hbn : ¬ b = nx := by omega
    have o3 : (wr1 ||| 2 ^ nx1 - 2 ^ (nx + 1)) &&& 2 ^ b = 0 := z1.new b2 (by omega)
    have o4 : wr1 &&& 2 ^ b = 0 := z1 b b2
    have bb2 : b < nx + 1 := by omega
    have o6 : 2 ^ nx &&& 2 ^ b = 0 := and_pow (by omega)
    rcases fm with rfl | ⟨b', o', n', c', rfl⟩
    all_goals
      simp (maxSteps := 4000000) [↓P_skip, ↓P_exit, ↓P_ret, ↓P_seq, ↓P_cond, ↓P_blk, ↓P_reg, ↓P_draw, ↓P_nil, ↓P_cons, condP_t, condP_f, dum_ab, stepR, want_none, want_some, opRun, ev_t, ev_c, put_none, put_some, resAll, res_tmp, res_cell, oneOf, minI, maxI, min2A, max2A, mn2, mx2, mx3, rdBlk, wrBlk, newBlk, partA, abin, ibin, isShift, AV.cells, AV.one,  fillA, lenA, toN, allApart, apartFrom, Nat.testBit, Mem.blk_set_same, Mem.blk_set_ne, Mem.set_set, bit_zero, bit_self, lowBits_or, lowBits_zero, len_setT, sl_same, sl_ne, len_frame, sl_frame,↓op_len, lenOp_slc, lenOp_nils, ↓Post.some, ↓Post_bind, ↓Post_ret, ↓Post_draw, ↓PostL_nil, ↓PostL_cons, Post_fail, ofOpt_some, ofOpt_none, eA_b, eA_i, eA_s, eA_nn, eA_np, eA_pn, eA_lnn, eA_lnp, eA_lpn, eA_i2, eA_i3, blt_dec, Nat.add_assoc, keeps_refl, keeps_at, keeps_up, lay21, new_one, and_pow, bit_hi, lowBits_pow, ble_dec, fr_refl, fr_at, fr_up, fr_p, dum_ab, F20, x1, k0, reps, e1, hq, hne, hq1, hq2, hq3, h1q, h2q, o1, o2, o5, bnd, toNle, toN, rdEls, lenA, m1, m2, m3, m4, m5, wk, tk, tk2, sl1, sl2, b2, b4, b5, bb, h1b, hbn, bb2, o3, o4, o6, a1, a2]
      exact ⟨by omega, fin _ gl2⟩
  · rw [hn] at e1 h1q h2q
    have bb : b < nx1 := by omega
    have h1b : h1.blk b = some ⟨ty, 1, true, true, ints L⟩ := by rw [kp1 b b2, b4]
    have hbn : ¬ b = nx := by omega
    have o3 : (wr1 ||| 2 ^ nx1 - 2 ^ (nx + 1)) &&& 2 ^ b = 0 := z1.new b2 (by omega)
    have o4 : wr1 &&& 2 ^ b = 0 := z1 b b2
    have bb2 : b < nx + 1 := by omega
    have o6 : 2 ^ nx &&& 2 ^ b = 0 := and_pow (by omega)
    rcases fm with rfl | ⟨b', o', n', c', rfl⟩
    all_goals
      simp (maxSteps := 4000000) [↓P_skip, ↓P_exit, ↓P_ret, ↓P_seq, ↓P_cond, ↓P_blk, ↓P_reg, ↓P_draw, ↓P_nil, ↓P_cons, condP_t, condP_f, dum_ab, stepR, want_none, want_some, opRun, ev_t, ev_c, put_none, put_some, resAll, res_tmp, res_cell, oneOf, minI, maxI, min2A, max2A, mn2, mx2, mx3, rdBlk, wrBlk, newBlk, partA, abin, ibin, isShift, AV.cells, AV.one,  fillA, lenA, toN, allApart, apartFrom, Nat.testBit, Mem.blk_set_same, Mem.blk_set_ne, Mem.set_set, bit_zero, bit_self, lowBits_or, lowBits_zero, len_setT, sl_same, sl_ne, len_frame, sl_frame,↓op_len, lenOp_slc, lenOp_nils, ↓Post.some, ↓Post_bind, ↓Post_ret, ↓Post_draw, ↓PostL_nil, ↓PostL_cons, Post_fail, ofOpt_some, ofOpt_none, eA_b, eA_i, eA_s, eA_nn, eA_np, eA_pn, eA_lnn, eA_lnp, eA_lpn, eA_i2, eA_i3, blt_dec, Nat.add_assoc, keeps_refl, keeps_at, keeps_up, lay21, new_one, and_pow, bit_hi, lowBits_pow, ble_dec, fr_refl, fr_at, fr_up, fr_p, dum_ab, F20, x1, k0, reps, e1, hq, hne, hq1, hq2, hq3, h1q, h2q, o1, o2, o5, bnd, toNle, toN, rdEls, lenA, m1, m2, m3, m4, m5, wk, tk, tk2, sl1, sl2, b2, b4, bb, h1b, hbn, bb2, o3, o4, o6, a1, a2, il]
      exact ⟨by omega, fin _ gl2⟩
end Go.Proofs.YtelciflkmkpibaaT
