/- Mill: known answers true. -/
import Derived.Test.YtmgilbjhgpcjgaaPlay
namespace Go.Proofs.YtmgilbjhgpcjgaaT
open Go Go.Proofs.YtmgilbjhgpcjgaaE Go.Proofs.YtmgilbjhgpcjgaaB
set_option linter.unusedSimpArgs false
set_option linter.unusedVariables false
attribute [local congr] Post_cg PostL_cg condP_cg

def mk4 (a b c d : List Int) : Nat → List Int := fun k => if k = 0 then a else if k = 1 then b else if k = 2 then c else if k = 3 then d else []
theorem mk4_S0 (l : List Int) : S0 l = mk4 l [] [] [] := by
  funext k; unfold S0 mk4; by_cases h : k = 0 <;> simp [h]
theorem mk4_t0 (i : Int) (a b c d : List Int) : takeS (mk4 (i :: a) b c d) 0 1 = mk4 a (b ++ [i]) c d := by
  funext k
  show mv (mk4 (i :: a) b c d) 0 1 a i k = _
  unfold mv mk4
  by_cases h0 : k = 0
  · simp [h0]
  · by_cases h1 : k = 1
    · simp [h1]
    · simp [h0, h1]
theorem mk4_t0n (b c d : List Int) : takeS (mk4 [] b c d) 0 1 = mk4 [] b c d := rfl
theorem mk4_t2 (i : Int) (a b c d : List Int) : takeS (mk4 a b (i :: c) d) 2 1 = mk4 a (b ++ [i]) c d := by
  funext k
  show mv (mk4 a b (i :: c) d) 2 1 c i k = _
  unfold mv mk4
  by_cases h0 : k = 2
  · simp [h0]
  · by_cases h1 : k = 1
    · simp [h1]
    · simp [h0, h1]
theorem mk4_t2n (a b d : List Int) : takeS (mk4 a b [] d) 2 1 = mk4 a b [] d := rfl
theorem mk4_i0 (i : Int) (a b c d : List Int) : takeI (mk4 (i :: a) b c d) 0 = i := rfl
theorem mk4_i0n (b c d : List Int) : takeI (mk4 [] b c d) 0 = -1 := rfl
theorem mk4_i2 (i : Int) (a b c d : List Int) : takeI (mk4 a b (i :: c) d) 2 = i := rfl
theorem mk4_i2n (a b d : List Int) : takeI (mk4 a b [] d) 2 = -1 := rfl
theorem mk4_f (a b d : List Int) : flipS (mk4 a b [] d) = mk4 (a ++ d) [] [] b := by
  obtain ⟨q0, q1, q2, q3⟩ := flip_at (mk4 a b [] d)
  have e : flipS (mk4 a b [] d) = mvs (mvs (mk4 a b [] d) 3 0 (mk4 a b [] d 3).length) 1 3 (mk4 a b [] d 1).length := if_pos rfl
  rw [e]
  funext k
  by_cases h0 : k = 0
  · subst h0; rw [q0]; rfl
  by_cases h1 : k = 1
  · subst h1; rw [q1]; rfl
  by_cases h2 : k = 2
  · subst h2; rw [q2]; rfl
  by_cases h3 : k = 3
  · subst h3; rw [q3]; rfl
  unfold mvs mk4
  simp [h0, h1, h2, h3]
theorem mk4_fl (a b d : List Int) : flipL (mk4 a b [] d) = d := if_pos rfl
theorem mk4_fn (a b d : List Int) (i : Int) (c : List Int) : flipS (mk4 a b (i :: c) d) = mk4 a b (i :: c) d := if_neg (fun h => by cases h)
theorem mk4_fln (a b d : List Int) (i : Int) (c : List Int) : flipL (mk4 a b (i :: c) d) = [] := if_neg (fun h => by cases h)
theorem mk4_s (a b c d : List Int) (i : Int) : shadeS (mk4 a b c d) i = mk4 a b (c ++ [i]) (d.filter (· != i)) := by
  funext k
  unfold shadeS mv mk4
  by_cases h2 : k = 2
  · simp [h2]
  · by_cases h3 : k = 3
    · simp [h3]
    · simp [h2, h3]
theorem mk4_col (a b c d : List Int) (i : Int) : colS (mk4 a b c d) i = if i ∈ a then 0 else if i ∈ b then 1 else if i ∈ c then 2 else if i ∈ d then 3 else -1 := rfl
theorem flip_at0 {h : Mem} {nx p r bn bp bc : Nat} {X Y : List Int} {S : Nat → List Int} {n : Nat} (j : ML h nx p r bn bp bc X Y S n) (hn : n ≤ 100) : ∃ v h' nx' tc wr X' Y', (∀ k, xF T (k + 900) 14 [.ptr p 0] h nx 0 = some ⟨v, h', nx', tc, wr⟩) ∧ nx ≤ nx' ∧ RI v h' nx nx' (flipL S) ∧ ML h' nx' p r bn bp bc X' Y' (flipS S) n ∧ ∀ x, x < nx → x ≠ p → x ≠ r → x ≠ bn → x ≠ bp → x ≠ bc → h'.blk x = h.blk x := by
  obtain ⟨v, h', nx', tc, wr, e, e1, e2, ⟨X', Y', e3⟩, e4⟩ := (flip_run j hn 0 (by omega)).inv
  exact ⟨v, h', nx', tc, wr, X', Y', fun k => xF_mono T (Nat.le_add_left ..) e, e1, e2, e3, e4⟩
set_option maxRecDepth 20000 in
set_option maxHeartbeats 16000000 in
theorem known_ans (h : Mem) (nx : Nat) : Ans T 6000 9 [] h nx (.bool true) := by
  obtain ⟨h1, tc1, wr1, x1, j1, kp1⟩ := mnew_at 2 (by omega) h nx 0 (by omega)
  obtain ⟨_, x2⟩ := (mnew_no 0 (by omega) h1 (nx + 5)).at 0 (by omega)
  obtain ⟨_, x3⟩ := (mnew_no 513 (by omega) h1 (nx + 5)).at 0 (by omega)
  rw [mk4_S0, show lits 2 = [0, 1] from rfl] at j1
  obtain ⟨h4, tc4, wr4, X4, Y4, x4, j4, f4⟩ := (alloc_ch j1 (by omega)).at 0 (by omega)
  rw [mk4_i0] at x4; rw [mk4_t0] at j4; simp only [List.nil_append, List.cons_append] at j4
  obtain ⟨h5, tc5, wr5, X5, Y5, x5, j5, f5⟩ := (alloc_ch j4 (by omega)).at 0 (by omega)
  rw [mk4_i0] at x5; rw [mk4_t0] at j5; simp only [List.nil_append, List.cons_append] at j5
  obtain ⟨h6, tc6, wr6, X6, Y6, x6, j6, f6⟩ := (alloc_ch j5 (by omega)).at 0 (by omega)
  rw [mk4_i0n] at x6; rw [mk4_t0n] at j6
  obtain ⟨v7, h7, nx7, tc7, wr7, X7, Y7, x7, n7, r7, j7, f7⟩ := flip_at0 j6 (by omega)
  rw [mk4_f] at j7; rw [mk4_fl] at r7; simp only [List.nil_append, List.cons_append] at j7
  obtain ⟨_, x8⟩ := (color_rd j7 0).at 0 (by omega)
  have c8 : colS (mk4 [] [] [] [0, 1]) 0 = 3 := by rw [mk4_col]; simp
  have c9 : colS (mk4 [] [] [] [0, 1]) 1 = 3 := by rw [mk4_col]; simp
  rw [c8] at x8
  obtain ⟨h9, tc9, wr9, X9, Y9, x9, j9, f9⟩ := (shade_yes j7 (by omega) 1 c9).at 0 (by omega)
  rw [mk4_s] at j9; simp only [List.nil_append, List.cons_append] at j9
  obtain ⟨v10, h10, nx10, tc10, wr10, X10, Y10, x10, n10, r10, j10, f10⟩ := flip_at0 j9 (by omega)
  rw [mk4_fn] at j10; rw [mk4_fln] at r10
  obtain ⟨h11, tc11, wr11, X11, Y11, x11, j11, f11⟩ := (scan_ch j10 (by omega)).at 0 (by omega)
  rw [mk4_i2] at x11; rw [mk4_t2] at j11; simp only [List.nil_append, List.cons_append] at j11
  obtain ⟨v12, h12, nx12, tc12, wr12, X12, Y12, x12, n12, r12, j12, f12⟩ := flip_at0 j11 (by omega)
  rw [mk4_f] at j12; rw [mk4_fl] at r12
  have e12 : List.filter (fun x => x != (1 : Int)) [0, 1] = [0] := by decide
  rw [e12] at j12 r12; simp only [List.nil_append, List.cons_append] at j12
  have j13 : ML (h12.set nx12 (some ⟨3, 1, true, false, ints [0]⟩)) (nx12 + 1) _ _ _ _ _ _ _ _ _ := j12.keep (by omega) fun b hb => Mem.blk_set_ne _ _ _ _ (by omega)
  have r13 : RI v12 (h12.set nx12 (some ⟨3, 1, true, false, ints [0]⟩)) nx10 (nx12 + 1) [0] := r12.keep (by omega) fun b _ hb => Mem.blk_set_ne _ _ _ _ (by omega)
  have gl : IRow .i64 (.slc nx12 0 1 (some 1)) (h12.set nx12 (some ⟨3, 1, true, false, ints [0]⟩)) (nx12 + 1) [0] := .inr ⟨nx12, some 1, rfl, fun _ => ⟨by omega, _, Mem.blk_set_same .., fun i hi => ints_at hi⟩⟩
  obtain ⟨tc13, wr13, x13⟩ := same_eq (by decide) (RI.irow r13) gl 0 (by omega)
  obtain ⟨_, x14⟩ := (color_rd j13 0).at 0 (by omega)
  obtain ⟨_, x15⟩ := (color_rd j13 1).at 0 (by omega)
  obtain ⟨_, x16⟩ := (color_rd j13 9).at 0 (by omega)
  obtain ⟨_, x17⟩ := (count_rd j13 0).at 0 (by omega)
  have c14 : colS (mk4 [0] [] [] [1]) 0 = 0 := by rw [mk4_col]; simp
  have c15 : colS (mk4 [0] [] [] [1]) 1 = 3 := by rw [mk4_col]; simp
  have c16 : colS (mk4 [0] [] [] [1]) 9 = -1 := by rw [mk4_col]; simp
  have c17 : cntS (mk4 [0] [] [] [1]) 0 = 1 := rfl
  rw [c14] at x14; rw [c15] at x15; rw [c16] at x16; rw [c17] at x17
  obtain ⟨h18, tc18, wr18, X18, Y18, x18, j18, f18⟩ := (shade_no j13 0 (by rw [c14]; omega)).at 0 (by omega)
  have kF : Keeps nx h h18 := fun b hb => by
    rw [(f18 b (by omega) (by omega) (by omega) (by omega) (by omega)).1, Mem.blk_set_ne _ _ _ _ (by omega), f12 b (by omega) (by omega) (by omega) (by omega) (by omega) (by omega),
      (f11 b (by omega) (by omega) (by omega) (by omega) (by omega)).1, f10 b (by omega) (by omega) (by omega) (by omega) (by omega) (by omega), (f9 b (by omega) (by omega) (by omega) (by omega) (by omega)).1,
      f7 b (by omega) (by omega) (by omega) (by omega) (by omega) (by omega), (f6 b (by omega) (by omega) (by omega) (by omega) (by omega)).1, (f5 b (by omega) (by omega) (by omega) (by omega) (by omega)).1, (f4 b (by omega) (by omega) (by omega) (by omega) (by omega)).1, kp1 b hb]
  have e3 : ((2 : Nat) : Int) = 2 := rfl
  unfold Ans
  rw [e3] at x1
  simp only [ints, List.map_cons, List.map_nil] at x13 x14 x15 x16 x17 x18
  have t7 := Row.form r7
  have t10 := Row.form r10
  rw [xF_fr T9]
  rcases t7 with ⟨rfl, _⟩ | ⟨b7, c7, rfl⟩
  all_goals rcases t10 with ⟨rfl, _⟩ | ⟨b10, c10, rfl⟩
  all_goals
    simp (maxSteps := 4000000) [↓P_skip, ↓P_exit, ↓P_ret, ↓P_seq, ↓P_cond, ↓P_blk, ↓P_reg, ↓P_draw, ↓P_nil, ↓P_cons, condP_t, condP_f, dum_ab, stepR, want_none, want_some, opRun, ev_t, ev_c, put_none, put_some, resAll, res_tmp, res_cell, oneOf, minI, maxI, min2A, max2A, mn2, mx2, mx3, rdBlk, wrBlk, newBlk, partA, abin, ibin, isShift, AV.cells, AV.one, lay, sub, fillA, lenA, toN, allApart, apartFrom, Nat.testBit, Mem.blk_set_same, Mem.blk_set_ne, Mem.set_set, bit_zero, bit_self, lowBits_or, lowBits_zero, len_setT, sl_same, sl_ne, len_frame, sl_frame,↓op_len, lenOp_slc, lenOp_nils, ↓Post.some, ↓Post_bind, ↓Post_ret, ↓Post_draw, ↓PostL_nil, ↓PostL_cons, Post_fail, ofOpt_some, ofOpt_none, eA_b, eA_i, eA_s, eA_nn, eA_np, eA_pn, eA_lnn, eA_lnp, eA_lpn, eA_i2, eA_i3, blt_dec, Nat.add_assoc, keeps_refl, keeps_at, keeps_up, new_one, and_pow, bit_hi, lowBits_pow, ble_dec, fr_refl, fr_at, fr_up, fr_p, dum_ab, F9, x1, x2, x3, x4, x5, x6, x7, x8, x9, x10, x11, x12, reps, x13, x14, x15, x16, x17, x18]
    exact ⟨by omega, kF⟩
end Go.Proofs.YtmgilbjhgpcjgaaT
