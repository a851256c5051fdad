/- Ring: the document's ring: In. -/
import Derived.Test.YtelciflkmkpibaaRef4
namespace Go.Proofs.YtelciflkmkpibaaT
open Go Go.Proofs.YtelciflkmkpibaaE Go.Proofs.YtelciflkmkpibaaB
set_option linter.unusedSimpArgs false
set_option linter.unusedVariables false
attribute [local congr] Post_cg PostL_cg condP_cg

theorem app_hi {ty sz by' n : Nat} {s : AV} {xs : List AV} {h h' : Mem} {nx nx' lg tc wr : Nat} {v : AV} (e : appA ty sz by' n s xs h nx lg = some ⟨v, h', nx', tc, wr⟩) (hl : lg ≤ nx) {q : Nat} (hq : lg ≤ q) : tc &&& 2 ^ q = 0 ∧ wr &&& 2 ^ q = 0 := by
  have F := Foot.appA ty sz by' n s xs h nx lg _ hl e
  have key : ∀ m : Nat, (∀ b, m.testBit b = true → b < lg) → m &&& 2 ^ q = 0 := by
    intro m hm
    apply Nat.eq_of_testBit_eq
    intro i
    rw [Nat.testBit_and, Nat.testBit_two_pow, Nat.zero_testBit]
    by_cases c : q = i
    · subst c
      cases hb : m.testBit q with
      | false => simp
      | true => have := hm q hb; omega
    · simp [c]
  exact ⟨key tc F.low, key wr fun b hb => F.low b (F.sub b hb)⟩
theorem new_hi {m n q : Nat} (h : m ≤ q) : (2 ^ m - 2 ^ n) &&& 2 ^ q = 0 := by
  have h1 : 2 ^ m - 2 ^ n < 2 ^ q := by
    have := Nat.pow_le_pow_right (show 0 < 2 by omega) h
    have := Nat.two_pow_pos n
    have := Nat.two_pow_pos m
    omega
  apply Nat.eq_of_testBit_eq
  intro i
  rw [Nat.testBit_and, Nat.testBit_two_pow, Nat.zero_testBit]
  by_cases c : q = i
  · subst c; simp [Nat.testBit_lt_two_pow h1]
  · simp [c]
theorem or_hi {a b c : Nat} (h : a &&& c = 0) (g : b &&& c = 0) : (a ||| b) &&& c = 0 := by rw [Nat.and_or_distrib_right, h, g]; rfl
theorem lay11 (a x : AV) : lay [a] 0 [x] = [x] := rfl
theorem sub11 (x : AV) : sub [x] 0 1 = some [x] := rfl
theorem atv_ex (L : List Int) (i : Int) : (∃ r, AtV L i r ∧ ((i ∈ L ∧ 0 ≤ r) ∨ (i ∉ L ∧ r = -1))) := by
  by_cases h : i ∈ L
  · obtain ⟨u, v, rfl, hu⟩ := mem_split h
    exact ⟨_, at_in rfl hu, .inl ⟨h, by omega⟩⟩
  · exact ⟨-1, at_no h, .inr ⟨h, rfl⟩⟩
set_option maxHeartbeats 8000000 in
theorem win_no {h : Mem} {nx q : Nat} {N : Int} {L : List Int} (w : Wr h nx q N L) (hL : L.length ≤ 100) {i a : Int} (e : i < 0 ∨ N ≤ i ∨ i ∈ L ∨ (a ∉ L ∧ (a ≠ -1 ∨ 0 < L.length))) : Wch 300 19 [.ptr q 0, .int .i64 i, .int .i64 a] h nx q (.bool false) N L := by
  apply rd_wch w
  intro lg hlg
  obtain ⟨r1, v1, c1⟩ := atv_ex L i
  obtain ⟨r2, v2, c2⟩ := atv_ex L a
  obtain ⟨tc, x1⟩ := (at_rd w hL v1).at lg hlg
  obtain ⟨tc2, x2⟩ := (at_rd w hL v2).at lg hlg
  obtain ⟨⟨t, s, e1, gl⟩, hq⟩ := w
  rw [xF_fr T19]
  by_cases k1 : i < 0
  · simp (maxSteps := 4000000) [↓P_skip, ↓P_exit, ↓P_ret, ↓P_seq, ↓P_cond, ↓P_blk, ↓P_reg, ↓P_draw, ↓P_nil, ↓P_cons, condP_t, condP_f, dum_ab, stepR, want_none, want_some, opRun, ev_t, ev_c, put_none, put_some, resAll, res_tmp, res_cell, oneOf, minI, maxI, min2A, max2A, mn2, mx2, mx3, rdBlk, wrBlk, newBlk, partA, abin, ibin, isShift, AV.cells, AV.one, lay, sub, fillA, lenA, toN, allApart, apartFrom, Nat.testBit, Mem.blk_set_same, Mem.blk_set_ne, Mem.set_set, bit_zero, bit_self, lowBits_or, lowBits_zero, len_setT, sl_same, sl_ne, len_frame, sl_frame,↓op_len, lenOp_slc, lenOp_nils, ↓Post.some, ↓Post_bind, ↓Post_ret, ↓Post_draw, ↓PostL_nil, ↓PostL_cons, Post_fail, ofOpt_some, ofOpt_none, eA_b, eA_i, eA_s, eA_nn, eA_np, eA_pn, eA_lnn, eA_lnp, eA_lpn, eA_i2, eA_i3, blt_dec, Nat.add_assoc, keeps_refl, keeps_at, keeps_up, new_one, and_pow, bit_hi, lowBits_pow, ble_dec, fr_refl, fr_at, fr_up, fr_p, dum_ab, F19, k1]
  · by_cases k2 : N ≤ i
    · simp (maxSteps := 4000000) [↓P_skip, ↓P_exit, ↓P_ret, ↓P_seq, ↓P_cond, ↓P_blk, ↓P_reg, ↓P_draw, ↓P_nil, ↓P_cons, condP_t, condP_f, dum_ab, stepR, want_none, want_some, opRun, ev_t, ev_c, put_none, put_some, resAll, res_tmp, res_cell, oneOf, minI, maxI, min2A, max2A, mn2, mx2, mx3, rdBlk, wrBlk, newBlk, partA, abin, ibin, isShift, AV.cells, AV.one, lay, sub, fillA, lenA, toN, allApart, apartFrom, Nat.testBit, Mem.blk_set_same, Mem.blk_set_ne, Mem.set_set, bit_zero, bit_self, lowBits_or, lowBits_zero, len_setT, sl_same, sl_ne, len_frame, sl_frame,↓op_len, lenOp_slc, lenOp_nils, ↓Post.some, ↓Post_bind, ↓Post_ret, ↓Post_draw, ↓PostL_nil, ↓PostL_cons, Post_fail, ofOpt_some, ofOpt_none, eA_b, eA_i, eA_s, eA_nn, eA_np, eA_pn, eA_lnn, eA_lnp, eA_lpn, eA_i2, eA_i3, blt_dec, Nat.add_assoc, keeps_refl, keeps_at, keeps_up, new_one, and_pow, bit_hi, lowBits_pow, ble_dec, fr_refl, fr_at, fr_up, fr_p, dum_ab, F19, k1, k2, e1, hq]
    · rcases c1 with ⟨c, k3⟩ | ⟨c, rfl⟩
      · simp (maxSteps := 4000000) [↓P_skip, ↓P_exit, ↓P_ret, ↓P_seq, ↓P_cond, ↓P_blk, ↓P_reg, ↓P_draw, ↓P_nil, ↓P_cons, condP_t, condP_f, dum_ab, stepR, want_none, want_some, opRun, ev_t, ev_c, put_none, put_some, resAll, res_tmp, res_cell, oneOf, minI, maxI, min2A, max2A, mn2, mx2, mx3, rdBlk, wrBlk, newBlk, partA, abin, ibin, isShift, AV.cells, AV.one, lay, sub, fillA, lenA, toN, allApart, apartFrom, Nat.testBit, Mem.blk_set_same, Mem.blk_set_ne, Mem.set_set, bit_zero, bit_self, lowBits_or, lowBits_zero, len_setT, sl_same, sl_ne, len_frame, sl_frame,↓op_len, lenOp_slc, lenOp_nils, ↓Post.some, ↓Post_bind, ↓Post_ret, ↓Post_draw, ↓PostL_nil, ↓PostL_cons, Post_fail, ofOpt_some, ofOpt_none, eA_b, eA_i, eA_s, eA_nn, eA_np, eA_pn, eA_lnn, eA_lnp, eA_lpn, eA_i2, eA_i3, blt_dec, Nat.add_assoc, keeps_refl, keeps_at, keeps_up, new_one, and_pow, bit_hi, lowBits_pow, ble_dec, fr_refl, fr_at, fr_up, fr_p, dum_ab, F19, k1, k2, e1, hq, x1, k3]
      · have k3 : ¬ (0 : Int) ≤ -1 := by omega
        obtain ⟨ha, e'⟩ : a ∉ L ∧ (a ≠ -1 ∨ 0 < L.length) := by
          rcases e with e | e | e | e
          · exact absurd e k1
          · exact absurd e k2
          · exact absurd e c
          · exact e
        rcases c2 with ⟨c', _⟩ | ⟨_, rfl⟩
        · exact absurd c' ha
        · by_cases k4 : a = -1
          · have k5 : 0 < L.length := by
              rcases e' with e' | e'
              · exact absurd k4 e'
              · exact e'
            subst k4
            obtain ⟨b, cc, rfl⟩ : ∃ b c, s = .slc b 0 L.length c := by
              rcases gl.irow with ⟨rfl, rfl⟩ | ⟨b, c, rfl, _⟩
              · simp at k5
              · exact ⟨b, c, rfl⟩
            have k6 : (0 : Int) < (L.length : Int) := by omega
            generalize L.length = n at *
            simp (maxSteps := 4000000) [↓P_skip, ↓P_exit, ↓P_ret, ↓P_seq, ↓P_cond, ↓P_blk, ↓P_reg, ↓P_draw, ↓P_nil, ↓P_cons, condP_t, condP_f, dum_ab, stepR, want_none, want_some, opRun, ev_t, ev_c, put_none, put_some, resAll, res_tmp, res_cell, oneOf, minI, maxI, min2A, max2A, mn2, mx2, mx3, rdBlk, wrBlk, newBlk, partA, abin, ibin, isShift, AV.cells, AV.one, lay, sub, fillA, lenA, toN, allApart, apartFrom, Nat.testBit, Mem.blk_set_same, Mem.blk_set_ne, Mem.set_set, bit_zero, bit_self, lowBits_or, lowBits_zero, len_setT, sl_same, sl_ne, len_frame, sl_frame,↓op_len, lenOp_slc, lenOp_nils, ↓Post.some, ↓Post_bind, ↓Post_ret, ↓Post_draw, ↓PostL_nil, ↓PostL_cons, Post_fail, ofOpt_some, ofOpt_none, eA_b, eA_i, eA_s, eA_nn, eA_np, eA_pn, eA_lnn, eA_lnp, eA_lpn, eA_i2, eA_i3, blt_dec, Nat.add_assoc, keeps_refl, keeps_at, keeps_up, new_one, and_pow, bit_hi, lowBits_pow, ble_dec, fr_refl, fr_at, fr_up, fr_p, dum_ab, F19, k1, k2, e1, hq, x1, x2, k3, k5, k6]
          · have k4' : (a != -1) = true := by simpa using k4
            simp (maxSteps := 4000000) [↓P_skip, ↓P_exit, ↓P_ret, ↓P_seq, ↓P_cond, ↓P_blk, ↓P_reg, ↓P_draw, ↓P_nil, ↓P_cons, condP_t, condP_f, dum_ab, stepR, want_none, want_some, opRun, ev_t, ev_c, put_none, put_some, resAll, res_tmp, res_cell, oneOf, minI, maxI, min2A, max2A, mn2, mx2, mx3, rdBlk, wrBlk, newBlk, partA, abin, ibin, isShift, AV.cells, AV.one, lay, sub, fillA, lenA, toN, allApart, apartFrom, Nat.testBit, Mem.blk_set_same, Mem.blk_set_ne, Mem.set_set, bit_zero, bit_self, lowBits_or, lowBits_zero, len_setT, sl_same, sl_ne, len_frame, sl_frame,↓op_len, lenOp_slc, lenOp_nils, ↓Post.some, ↓Post_bind, ↓Post_ret, ↓Post_draw, ↓PostL_nil, ↓PostL_cons, Post_fail, ofOpt_some, ofOpt_none, eA_b, eA_i, eA_s, eA_nn, eA_np, eA_pn, eA_lnn, eA_lnp, eA_lpn, eA_i2, eA_i3, blt_dec, Nat.add_assoc, keeps_refl, keeps_at, keeps_up, new_one, and_pow, bit_hi, lowBits_pow, ble_dec, fr_refl, fr_at, fr_up, fr_p, dum_ab, F19, k1, k2, e1, hq, x1, x2, k3, k4']
set_option maxHeartbeats 16000000 in
theorem win_yes {h : Mem} {nx q : Nat} {N : Int} {L : List Int} (w : Wr h nx q N L) (hL : L.length ≤ 100) {u V : List Int} {i a : Int} (e : L = u ++ V) (hi0 : 0 ≤ i) (hi1 : i < N) (hi : i ∉ L) (ha : (∃ v, V = a :: v ∧ a ∉ u) ∨ (a = -1 ∧ u = [] ∧ V = [])) : Wch 300 19 [.ptr q 0, .int .i64 i, .int .i64 a] h nx q (.bool true) N (u ++ i :: V) := by
  intro lg hlg
  obtain ⟨tc, x1⟩ := (at_rd w hL (at_no hi)).at lg hlg
  obtain ⟨r, va, vr⟩ : ∃ r, AtV L a r ∧ ((r = u.length ∧ 1 ≤ V.length) ∨ (r = -1 ∧ a = -1 ∧ u = [] ∧ V = [])) := by
    rcases ha with ⟨v, rfl, hu⟩ | ⟨rfl, rfl, rfl⟩
    · exact ⟨_, at_in e hu, .inl ⟨rfl, by simp⟩⟩
    · exact ⟨-1, at_no (by rw [e]; simp), .inr ⟨rfl, rfl, rfl, rfl⟩⟩
  obtain ⟨tc2, x2⟩ := (at_rd w hL va).at lg hlg
  obtain ⟨⟨t, s, e1, gl⟩, hq⟩ := w
  have len : L.length = u.length + V.length := by rw [e, List.length_append]
  have sl1 := sub_l u V
  have sl2 := sub_r u V
  rw [← e] at sl1 sl2
  have g0 : GL (.slc nx 0 0 (some 0)) (h.set nx (some ⟨3, 1, true, false, []⟩)) nx (nx + 1) [] := GL.lit (l := []) (Nat.le_refl _) (by omega) (Mem.blk_set_same ..)
  obtain ⟨s1, h1, nx1, tc1, wr1, a1, n1, gl1, f1, y1, z1, _⟩ := (app_gen (lg := nx + 1) (m := u) 3 g0 (by omega) (by simp only [List.length_nil]; omega)).inv
  rw [List.nil_append] at gl1
  have kp1 : Keeps nx h h1 := fun b hb => by rw [f1 b hb, Mem.blk_set_ne _ _ _ _ (by omega)]
  have gl1' : GL s1 (h1.set nx1 (some ⟨3, 1, true, false, [.int .i64 i]⟩)) nx (nx1 + 1) u := gl1.keep (by omega) fun b _ hb => Mem.blk_set_ne _ _ _ _ (by omega)
  obtain ⟨s2, h2, nx2, tc3, wr2, a2, n2, gl2, f2, y2, z2, _⟩ := (app_gen (lg := nx1 + 1) (m := [i]) 3 gl1' (by omega) (by simp only [List.length_cons, List.length_nil]; omega)).inv
  have a2' : appA 3 1 8 1 s1 [.int .i64 i] (h1.set nx1 (some ⟨3, 1, true, false, [.int .i64 i]⟩)) (nx1 + 1) (nx1 + 1) = some ⟨s2, h2, nx2, tc3, wr2⟩ := a2
  have kp2 : Keeps nx h h2 := fun b hb => by rw [f2 b hb, Mem.blk_set_ne _ _ _ _ (by omega), kp1 b hb]
  obtain ⟨s3, h3, nx3, tc4, wr3, a3, n3, gl3, f3, y3, z3, _⟩ := (app_gen (lg := nx2) (m := V) 3 gl2 (by omega) (by simp only [List.length_append, List.length_cons, List.length_nil]; omega)).inv
  rw [List.append_assoc, List.cons_append, List.nil_append] at gl3
  have kp3 : Keeps nx h h3 := fun b hb => by rw [f3 b hb, kp2 b hb]
  have hne : ¬ q = nx := by omega
  have hne1 : ¬ q = nx1 := by omega
  have h1q : h1.blk q = some ⟨t, 2, true, false, [.int .i64 N, s]⟩ := by rw [kp1 q hq, e1]
  have h2q : h2.blk q = some ⟨t, 2, true, false, [.int .i64 N, s]⟩ := by rw [kp2 q hq, e1]
  have h3q : h3.blk q = some ⟨t, 2, true, false, [.int .i64 N, s]⟩ := by rw [kp3 q hq, e1]
  have hq1 : q < nx1 := by omega
  have hq1' : q < nx1 + 1 := by omega
  have hq2 : q < nx2 := by omega
  have hq3 : q < nx3 := by omega
  have hq4 : q < nx + 1 := by omega
  have o1 : (wr1 ||| 2 ^ nx1 - 2 ^ (nx + 1)) &&& 2 ^ q = 0 := z1.new hq (by omega)
  have o1' : (wr2 ||| 2 ^ nx2 - 2 ^ (nx1 + 1)) &&& 2 ^ q = 0 := z2.new hq (by omega)
  have o2 : wr1 &&& 2 ^ q = 0 := z1 q hq
  have o2' : wr2 &&& 2 ^ q = 0 := z2 q hq
  have o5 : 2 ^ nx &&& 2 ^ q = 0 := and_pow (by omega)
  have o5' : 2 ^ nx1 &&& 2 ^ q = 0 := and_pow (by omega)
  have v1 : 2 ^ nx &&& 2 ^ nx1 = 0 := and_pow (by omega)
  obtain ⟨v2, v3⟩ := app_hi a1 (Nat.le_refl _) (q := nx1) (by omega)
  have v4 : 2 ^ nx1 - 2 ^ (nx + 1) &&& 2 ^ nx1 = 0 := new_hi (Nat.le_refl _)
  have il := ints_len L
  have fm := gl3.form
  generalize hn : L.length = n at *
  have m1 : n - u.length = V.length := by omega
  have m2 : u.length ≤ n := by omega
  have m3 : (u.length : Int) ≤ (n : Int) := by omega
  have m4 : ¬ i < 0 := by omega
  have m5 : ¬ N ≤ i := by omega
  have m6 : ¬ (0 : Int) ≤ -1 := by omega
  have fin : ∀ s3, GL s3 h3 nx nx3 (u ++ i :: V) → Wr (h3.set q (some ⟨t, 2, true, false, [.int .i64 N, s3]⟩)) nx3 q N (u ++ i :: V) ∧ ∀ b, b < nx → b ≠ q → (h3.set q (some ⟨t, 2, true, false, [.int .i64 N, s3]⟩)).blk b = h.blk b := fun s3 gl3 => ⟨⟨⟨t, s3, Mem.blk_set_same .., (gl3.low (lo' := q + 1) (by omega)).keep (Nat.le_refl _) fun b hb _ => Mem.blk_set_ne _ _ _ _ (by omega)⟩, hq3⟩, fun b hb hb2 => by rw [Mem.blk_set_ne _ _ _ _ hb2, kp3 b hb]⟩
  rw [xF_fr T19]
  rcases vr with ⟨rfl, r0⟩ | ⟨rfl, rfl, rfl, rfl⟩
  · have r1 : ¬ (u.length : Int) < 0 := by omega
    have r2 : max (u.length : Int) 0 = u.length := by omega
    have r3 : (if (u.length : Int) < 0 then (0 : Int) else (u.length : Int)) = u.length := by rw [if_neg r1]
    have k0 : (0 : Int) ≤ (u.length : Int) := by omega
    rcases gl with ⟨_, rfl⟩ | ⟨b, K, rfl, b1, b2, b4, b5⟩ | ⟨b, ty, b1, b2, rfl, b4⟩
    · simp only [List.length_nil] at hn; omega
    · rw [hn] at e1 h1q h2q h3q
      have bb : b < nx2 := by omega
      have h2b : h2.blk b = some K := by rw [kp2 b b2, b4]
      have hbn : ¬ b = nx := by omega
      have o3 : (wr1 ||| 2 ^ nx1 - 2 ^ (nx + 1)) &&& 2 ^ b = 0 := z1.new b2 (by omega)
      have o4 : wr1 &&& 2 ^ b = 0 := z1 b b2
      have o3' : (wr2 ||| 2 ^ nx2 - 2 ^ (nx1 + 1)) &&& 2 ^ b = 0 := z2.new b2 (by omega)
      have o4' : wr2 &&& 2 ^ b = 0 := z2 b b2
      have bb2 : b < nx + 1 := by omega
      have o6 : 2 ^ nx &&& 2 ^ b = 0 := and_pow (by omega)
      have o6' : 2 ^ nx1 &&& 2 ^ b = 0 := and_pow (by omega)
      rcases fm with rfl | ⟨b', o', n', c', rfl⟩
      all_goals
        simp (maxSteps := 4000000) [↓P_skip, ↓P_exit, ↓P_ret, ↓P_seq, ↓P_cond, ↓P_blk, ↓P_reg, ↓P_draw, ↓P_nil, ↓P_cons, condP_t, condP_f, dum_ab, stepR, want_none, want_some, opRun, ev_t, ev_c, put_none, put_some, resAll, res_tmp, res_cell, oneOf, minI, maxI, min2A, max2A, mn2, mx2, mx3, rdBlk, wrBlk, newBlk, partA, abin, ibin, isShift, AV.cells, AV.one,  fillA, lenA, toN, allApart, apartFrom, Nat.testBit, Mem.blk_set_same, Mem.blk_set_ne, Mem.set_set, bit_zero, bit_self, lowBits_or, lowBits_zero, len_setT, sl_same, sl_ne, len_frame, sl_frame,↓op_len, lenOp_slc, lenOp_nils, ↓Post.some, ↓Post_bind, ↓Post_ret, ↓Post_draw, ↓PostL_nil, ↓PostL_cons, Post_fail, ofOpt_some, ofOpt_none, eA_b, eA_i, eA_s, eA_nn, eA_np, eA_pn, eA_lnn, eA_lnp, eA_lpn, eA_i2, eA_i3, blt_dec, Nat.add_assoc, keeps_refl, keeps_at, keeps_up, lay21, lay11, sub11, new_one, and_pow, bit_hi, lowBits_pow, ble_dec, fr_refl, fr_at, fr_up, fr_p, dum_ab, F19, x1, x2, k0, r1, r2, r3, reps, e1, hq, hne, hne1, hq1, hq1', hq2, hq3, hq4, h1q, h2q, h3q, o1, o1', o2, o2', o5, o5', bnd, toNle, toN, rdEls, lenA, m1, m2, m3, m4, m5, m6, hi1, sl1, sl2, b2, b4, b5, bb, h2b, hbn, bb2, o3, o4, o3', o4', o6, o6', a1, a2', a3]
        repeat' first | exact fin _ gl3 | omega | exact v1 | exact or_hi v3 v4 | exact or_hi v2 v4 | exact or_hi (or_hi (and_pow (by omega)) v2) v4 | exact and_pow (by omega) | refine ⟨?_, ?_⟩
    · rw [hn] at e1 h1q h2q h3q
      have bb : b < nx2 := by omega
      have h2b : h2.blk b = some ⟨ty, 1, true, true, ints L⟩ := by rw [kp2 b b2, b4]
      have hbn : ¬ b = nx := by omega
      have o3 : (wr1 ||| 2 ^ nx1 - 2 ^ (nx + 1)) &&& 2 ^ b = 0 := z1.new b2 (by omega)
      have o4 : wr1 &&& 2 ^ b = 0 := z1 b b2
      have o3' : (wr2 ||| 2 ^ nx2 - 2 ^ (nx1 + 1)) &&& 2 ^ b = 0 := z2.new b2 (by omega)
      have o4' : wr2 &&& 2 ^ b = 0 := z2 b b2
      have bb2 : b < nx + 1 := by omega
      have o6 : 2 ^ nx &&& 2 ^ b = 0 := and_pow (by omega)
      have o6' : 2 ^ nx1 &&& 2 ^ b = 0 := and_pow (by omega)
      rcases fm with rfl | ⟨b', o', n', c', rfl⟩
      all_goals
        simp (maxSteps := 4000000) [↓P_skip, ↓P_exit, ↓P_ret, ↓P_seq, ↓P_cond, ↓P_blk, ↓P_reg, ↓P_draw, ↓P_nil, ↓P_cons, condP_t, condP_f, dum_ab, stepR, want_none, want_some, opRun, ev_t, ev_c, put_none, put_some, resAll, res_tmp, res_cell, oneOf, minI, maxI, min2A, max2A, mn2, mx2, mx3, rdBlk, wrBlk, newBlk, partA, abin, ibin, isShift, AV.cells, AV.one,  fillA, lenA, toN, allApart, apartFrom, Nat.testBit, Mem.blk_set_same, Mem.blk_set_ne, Mem.set_set, bit_zero, bit_self, lowBits_or, lowBits_zero, len_setT, sl_same, sl_ne, len_frame, sl_frame,↓op_len, lenOp_slc, lenOp_nils, ↓Post.some, ↓Post_bind, ↓Post_ret, ↓Post_draw, ↓PostL_nil, ↓PostL_cons, Post_fail, ofOpt_some, ofOpt_none, eA_b, eA_i, eA_s, eA_nn, eA_np, eA_pn, eA_lnn, eA_lnp, eA_lpn, eA_i2, eA_i3, blt_dec, Nat.add_assoc, keeps_refl, keeps_at, keeps_up, lay21, lay11, sub11, new_one, and_pow, bit_hi, lowBits_pow, ble_dec, fr_refl, fr_at, fr_up, fr_p, dum_ab, F19, x1, x2, k0, r1, r2, r3, reps, e1, hq, hne, hne1, hq1, hq1', hq2, hq3, hq4, h1q, h2q, h3q, o1, o1', o2, o2', o5, o5', bnd, toNle, toN, rdEls, lenA, m1, m2, m3, m4, m5, m6, hi1, sl1, sl2, b2, b4, il, bb, h2b, hbn, bb2, o3, o4, o3', o4', o6, o6', a1, a2', a3]
        repeat' first | exact fin _ gl3 | omega | exact v1 | exact or_hi v3 v4 | exact or_hi v2 v4 | exact or_hi (or_hi (and_pow (by omega)) v2) v4 | exact and_pow (by omega) | refine ⟨?_, ?_⟩
  · have iz : ints [] = [] := rfl
    have e' : L = [] := e
    subst e'
    simp only [List.length_nil] at a1 a3 hn
    rw [iz] at a1 a3 sl1 sl2
    subst hn
    simp only [List.nil_append] at fin gl3 ⊢
    rcases gl with ⟨rfl, _⟩ | ⟨b, K, rfl, b1, b2, b4, b5⟩ | ⟨b, ty, b1, b2, rfl, b4⟩
    · rcases fm with rfl | ⟨b', o', n', c', rfl⟩
      all_goals
        simp (maxSteps := 4000000) [↓P_skip, ↓P_exit, ↓P_ret, ↓P_seq, ↓P_cond, ↓P_blk, ↓P_reg, ↓P_draw, ↓P_nil, ↓P_cons, condP_t, condP_f, dum_ab, stepR, want_none, want_some, opRun, ev_t, ev_c, put_none, put_some, resAll, res_tmp, res_cell, oneOf, minI, maxI, min2A, max2A, mn2, mx2, mx3, rdBlk, wrBlk, newBlk, partA, abin, ibin, isShift, AV.cells, AV.one,  fillA, lenA, toN, allApart, apartFrom, Nat.testBit, Mem.blk_set_same, Mem.blk_set_ne, Mem.set_set, bit_zero, bit_self, lowBits_or, lowBits_zero, len_setT, sl_same, sl_ne, len_frame, sl_frame,↓op_len, lenOp_slc, lenOp_nils, ↓Post.some, ↓Post_bind, ↓Post_ret, ↓Post_draw, ↓PostL_nil, ↓PostL_cons, Post_fail, ofOpt_some, ofOpt_none, eA_b, eA_i, eA_s, eA_nn, eA_np, eA_pn, eA_lnn, eA_lnp, eA_lpn, eA_i2, eA_i3, blt_dec, Nat.add_assoc, keeps_refl, keeps_at, keeps_up, lay21, lay11, sub11, new_one, and_pow, bit_hi, lowBits_pow, ble_dec, fr_refl, fr_at, fr_up, fr_p, dum_ab, F19, x1, x2, reps, e1, hq, hne, hne1, hq1, hq1', hq2, hq3, hq4, h1q, h2q, h3q, o1, o1', o2, o2', o5, o5', bnd, toNle, toN, rdEls, lenA, m4, m5, m6, hi1, a1, a2', a3]
        repeat' first | exact fin _ gl3 | omega | exact v1 | exact or_hi v3 v4 | exact or_hi v2 v4 | exact or_hi (or_hi (and_pow (by omega)) v2) v4 | exact and_pow (by omega) | refine ⟨?_, ?_⟩
    · rw [iz] at b5
      have bb : b < nx2 := by omega
      have h2b : h2.blk b = some K := by rw [kp2 b b2, b4]
      have hbn : ¬ b = nx := by omega
      have o3 : (wr1 ||| 2 ^ nx1 - 2 ^ (nx + 1)) &&& 2 ^ b = 0 := z1.new b2 (by omega)
      have o4 : wr1 &&& 2 ^ b = 0 := z1 b b2
      have o3' : (wr2 ||| 2 ^ nx2 - 2 ^ (nx1 + 1)) &&& 2 ^ b = 0 := z2.new b2 (by omega)
      have o4' : wr2 &&& 2 ^ b = 0 := z2 b b2
      have bb2 : b < nx + 1 := by omega
      have o6 : 2 ^ nx &&& 2 ^ b = 0 := and_pow (by omega)
      have o6' : 2 ^ nx1 &&& 2 ^ b = 0 := and_pow (by omega)
      rcases fm with rfl | ⟨b', o', n', c', rfl⟩
      all_goals
        simp (maxSteps := 4000000) [↓P_skip, ↓P_exit, ↓P_ret, ↓P_seq, ↓P_cond, ↓P_blk, ↓P_reg, ↓P_draw, ↓P_nil, ↓P_cons, condP_t, condP_f, dum_ab, stepR, want_none, want_some, opRun, ev_t, ev_c, put_none, put_some, resAll, res_tmp, res_cell, oneOf, minI, maxI, min2A, max2A, mn2, mx2, mx3, rdBlk, wrBlk, newBlk, partA, abin, ibin, isShift, AV.cells, AV.one,  fillA, lenA, toN, allApart, apartFrom, Nat.testBit, Mem.blk_set_same, Mem.blk_set_ne, Mem.set_set, bit_zero, bit_self, lowBits_or, lowBits_zero, len_setT, sl_same, sl_ne, len_frame, sl_frame,↓op_len, lenOp_slc, lenOp_nils, ↓Post.some, ↓Post_bind, ↓Post_ret, ↓Post_draw, ↓PostL_nil, ↓PostL_cons, Post_fail, ofOpt_some, ofOpt_none, eA_b, eA_i, eA_s, eA_nn, eA_np, eA_pn, eA_lnn, eA_lnp, eA_lpn, eA_i2, eA_i3, blt_dec, Nat.add_assoc, keeps_refl, keeps_at, keeps_up, lay21, lay11, sub11, new_one, and_pow, bit_hi, lowBits_pow, ble_dec, fr_refl, fr_at, fr_up, fr_p, dum_ab, F19, x1, x2, reps, e1, hq, hne, hne1, hq1, hq1', hq2, hq3, hq4, h1q, h2q, h3q, o1, o1', o2, o2', o5, o5', bnd, toNle, toN, rdEls, lenA, m4, m5, m6, hi1, sub, b2, b4, b5, bb, h2b, hbn, bb2, o3, o4, o3', o4', o6, o6', a1, a2', a3]
        repeat' first | exact fin _ gl3 | omega | exact v1 | exact or_hi v3 v4 | exact or_hi v2 v4 | exact or_hi (or_hi (and_pow (by omega)) v2) v4 | exact and_pow (by omega) | refine ⟨?_, ?_⟩
    · rw [iz] at b4
      have bb : b < nx2 := by omega
      have h2b : h2.blk b = some ⟨ty, 1, true, true, []⟩ := by rw [kp2 b b2, b4]
      have hbn : ¬ b = nx := by omega
      have o3 : (wr1 ||| 2 ^ nx1 - 2 ^ (nx + 1)) &&& 2 ^ b = 0 := z1.new b2 (by omega)
      have o4 : wr1 &&& 2 ^ b = 0 := z1 b b2
      have o3' : (wr2 ||| 2 ^ nx2 - 2 ^ (nx1 + 1)) &&& 2 ^ b = 0 := z2.new b2 (by omega)
      have o4' : wr2 &&& 2 ^ b = 0 := z2 b b2
      have bb2 : b < nx + 1 := by omega
      have o6 : 2 ^ nx &&& 2 ^ b = 0 := and_pow (by omega)
      have o6' : 2 ^ nx1 &&& 2 ^ b = 0 := and_pow (by omega)
      rcases fm with rfl | ⟨b', o', n', c', rfl⟩
      all_goals
        simp (maxSteps := 4000000) [↓P_skip, ↓P_exit, ↓P_ret, ↓P_seq, ↓P_cond, ↓P_blk, ↓P_reg, ↓P_draw, ↓P_nil, ↓P_cons, condP_t, condP_f, dum_ab, stepR, want_none, want_some, opRun, ev_t, ev_c, put_none, put_some, resAll, res_tmp, res_cell, oneOf, minI, maxI, min2A, max2A, mn2, mx2, mx3, rdBlk, wrBlk, newBlk, partA, abin, ibin, isShift, AV.cells, AV.one,  fillA, lenA, toN, allApart, apartFrom, Nat.testBit, Mem.blk_set_same, Mem.blk_set_ne, Mem.set_set, bit_zero, bit_self, lowBits_or, lowBits_zero, len_setT, sl_same, sl_ne, len_frame, sl_frame,↓op_len, lenOp_slc, lenOp_nils, ↓Post.some, ↓Post_bind, ↓Post_ret, ↓Post_draw, ↓PostL_nil, ↓PostL_cons, Post_fail, ofOpt_some, ofOpt_none, eA_b, eA_i, eA_s, eA_nn, eA_np, eA_pn, eA_lnn, eA_lnp, eA_lpn, eA_i2, eA_i3, blt_dec, Nat.add_assoc, keeps_refl, keeps_at, keeps_up, lay21, lay11, sub11, new_one, and_pow, bit_hi, lowBits_pow, ble_dec, fr_refl, fr_at, fr_up, fr_p, dum_ab, F19, x1, x2, reps, e1, hq, hne, hne1, hq1, hq1', hq2, hq3, hq4, h1q, h2q, h3q, o1, o1', o2, o2', o5, o5', bnd, toNle, toN, rdEls, lenA, m4, m5, m6, hi1, sub, b2, b4, iz, bb, h2b, hbn, bb2, o3, o4, o3', o4', o6, o6', a1, a2', a3]
        repeat' first | exact fin _ gl3 | omega | exact v1 | exact or_hi v3 v4 | exact or_hi v2 v4 | exact or_hi (or_hi (and_pow (by omega)) v2) v4 | exact and_pow (by omega) | refine ⟨?_, ?_⟩
end Go.Proofs.YtelciflkmkpibaaT
