/- Mill: the document's mill. -/
import Derived.Test.YtmgilbjhgpcjgaaOps
namespace Go.Proofs.YtmgilbjhgpcjgaaT
open Go Go.Proofs.YtmgilbjhgpcjgaaE Go.Proofs.YtmgilbjhgpcjgaaB
set_option linter.unusedSimpArgs false
set_option linter.unusedVariables false
attribute [local congr] Post_cg PostL_cg condP_cg

def WM (h : Mem) (nx q : Nat) (S : Nat → List Int) : Prop := ∃ (t : TypeId) (s : Nat → AV), h.blk q = some ⟨t, 4, true, false, [s 0, s 1, s 2, s 3]⟩ ∧ (∀ k : Nat, k < 4 → RI (s k) h (q + 1) nx (S k)) ∧ q < nx
theorem WM.keep {h h' : Mem} {nx nx' q : Nat} {S : Nat → List Int} (w : WM h nx q S) (hn : nx ≤ nx') (e : ∀ b, q ≤ b → b < nx → h'.blk b = h.blk b) : WM h' nx' q S := by
  obtain ⟨t, s, e1, e2, e3⟩ := w
  exact ⟨t, s, by rw [e q (Nat.le_refl _) e3, e1], fun k hk => (e2 k hk).keep hn fun b h1 h2 => e b (by omega) h2, by omega⟩
/-- append of all to none. -/
theorem app_new {x : AV} {h : Mem} {lo nx : Nat} {m : List Int} (gx : RV 1 m.length x (h.set nx (some ⟨3, 1, true, false, []⟩)) lo (nx + 1) (ints m)) (hlo : lo ≤ nx) (hm : m.length ≤ 1000) (lg : Nat) : ∃ v h' nx' tc wr, appOp 3 1 8 (.slc nx 0 0 (some 0)) x (h.set nx (some ⟨3, 1, true, false, []⟩)) (nx + 1) lg = some ⟨v, h', nx', tc, wr⟩ ∧ nx + 1 ≤ nx' ∧ RI v h' nx nx' m ∧ Keeps nx h h' ∧ Mk2 lo lg tc ∧ Mk2 nx lg wr := by
  have g0 : Row 1 0 (.slc nx 0 0 (some 0)) (h.set nx (some ⟨3, 1, true, false, []⟩)) nx (nx + 1) [] := Row.lit (Nat.le_refl _) (by omega) rfl (Mem.blk_set_same ..)
  obtain ⟨v, h', nx', tc, wr, e, e1, e2, e3, e4, e5⟩ := Row.app (by omega) 3 8 g0 gx (by omega) (fun i hi => fits_few (by omega) (by omega)) (ints_one m) lg
  rw [Nat.zero_add, List.nil_append] at e2
  exact ⟨v, h', nx', tc, wr, e, e1, e2, fun b hb => by rw [e3 b hb, Mem.blk_set_ne _ _ _ _ (by omega)], e4.mono (by omega), e5⟩
/-- append of one. -/
theorem app_one1 {s : AV} {h : Mem} {lo nx : Nat} {l : List Int} (g : RI s h lo nx l) (hlo : lo ≤ nx) (hl : l.length ≤ 1000) (i : Int) (lg : Nat) : ∃ v h' nx' tc wr, appOp 3 1 8 s (.slc nx 0 1 (some 1)) (h.set nx (some ⟨3, 1, true, false, [.int .i64 i]⟩)) (nx + 1) lg = some ⟨v, h', nx', tc, wr⟩ ∧ nx + 1 ≤ nx' ∧ RI v h' lo nx' (l ++ [i]) ∧ (∀ b, b < lo → h'.blk b = h.blk b) ∧ Mk2 lo lg tc ∧ Mk2 lo lg wr := by
  have g0 := g.keep (h' := h.set nx (some ⟨3, 1, true, false, [.int .i64 i]⟩)) (show nx ≤ nx + 1 by omega) fun b _ hb => Mem.blk_set_ne _ _ _ _ (by omega)
  have gx : Row 1 1 (.slc nx 0 1 (some 1)) (h.set nx (some ⟨3, 1, true, false, [.int .i64 i]⟩)) nx (nx + 1) (ints [i]) := Row.lit (Nat.le_refl _) (by omega) rfl (Mem.blk_set_same ..)
  obtain ⟨v, h', nx', tc, wr, e, e1, e2, e3, e4, e5⟩ := Row.app (by omega) 3 8 g0 gx.rv (by omega) (fun i hi => fits_few (by omega) (by omega)) (ints_one [i]) lg
  refine ⟨v, h', nx', tc, wr, e, e1, ?_, fun b hb => by rw [e3 b hb, Mem.blk_set_ne _ _ _ _ (by omega)], e4.mono (by omega), e5⟩
  unfold RI
  rw [List.length_append, ints_app]
  exact e2
/-- What a call of the document's comes to. -/
def Wch (d f : Nat) (args : List AV) (h : Mem) (nx q : Nat) (v : AV) (S : Nat → List Int) : Prop := ∀ lg, lg ≤ nx → Post (xF T d f args h nx lg) fun v' h' nx' tc wr => v' = v ∧ nx ≤ nx' ∧ WM h' nx' q S ∧ ∀ x, x < nx → x ≠ q → h'.blk x = h.blk x
theorem Wch.at {d f : Nat} {args : List AV} {h : Mem} {nx q : Nat} {v : AV} {S : Nat → List Int} (s : Wch d f args h nx q v S) (lg : Nat) (hl : lg ≤ nx) : ∃ h' nx' tc wr, (∀ k, xF T (k + d) f args h nx lg = some ⟨v, h', nx', tc, wr⟩) ∧ nx ≤ nx' ∧ WM h' nx' q S ∧ ∀ x, x < nx → x ≠ q → h'.blk x = h.blk x := by
  obtain ⟨v, h', nx', tc, wr, e, rfl, e1, e2, e3⟩ := (s lg hl).inv
  exact ⟨h', nx', tc, wr, fun k => xF_mono T (Nat.le_add_left ..) e, e1, e2, e3⟩
set_option maxHeartbeats 8000000 in
theorem wfirst {h : Mem} {nx q : Nat} {S : Nat → List Int} (w : WM h nx q S) (hS : ∀ k, k < 4 → (S k).length ≤ 100) (f : Nat) (hf : f = 0 ∨ f = 2) : Wch 60 32 [.ptr q 0, .int .i64 (f : Int), .int .i64 1] h nx q (.int .i64 (takeI S f)) (takeS S f 1) := by
  intro lg hlg
  obtain ⟨t, s, e1, e2, hq⟩ := w
  have f4 : f < 4 := by omega
  have w0 := e2 f f4
  rw [xF_fr T32]
  cases hSf : S f with
  | nil =>
    have a1 : takeI S f = -1 := by unfold takeI; rw [hSf]; rfl
    have a2 : takeS S f 1 = S := by unfold takeS; rw [hSf]
    have ln := w0.len
    rw [hSf] at ln
    rcases hf with rfl | rfl
    all_goals
      simp (maxSteps := 4000000) [↓step_none, ↓op_slice, ↓op_app, ↓P_skip, ↓P_exit, ↓P_ret, ↓P_seq, ↓P_cond, ↓P_blk, ↓P_reg, ↓P_draw, ↓P_nil, ↓P_cons, condP_t, condP_f, dum_ab, stepR, want_none, want_some, opRun, ev_t, ev_c, put_none, put_some, resAll, res_tmp, res_cell, oneOf, minI, maxI, min2A, max2A, mn2, mx2, mx3, rdBlk, wrBlk, newBlk, partA, abin, ibin, isShift, AV.cells, AV.one, lay, sub, fillA, lenA, toN, allApart, apartFrom, Nat.testBit, Mem.blk_set_same, Mem.blk_set_ne, Mem.set_set, bit_zero, bit_self, lowBits_or, lowBits_zero, len_setT, sl_same, sl_ne, len_frame, sl_frame,↓op_len, lenOp_slc, lenOp_nils, ↓Post.some, ↓Post_bind, ↓Post_ret, ↓Post_draw, ↓PostL_nil, ↓PostL_cons, Post_fail, ofOpt_some, ofOpt_none, eA_b, eA_i, eA_s, eA_nn, eA_np, eA_pn, eA_lnn, eA_lnp, eA_lpn, eA_i2, eA_i3, blt_dec, Nat.add_assoc, keeps_refl, keeps_at, keeps_up, new_one, and_pow, bit_hi, lowBits_pow, ble_dec, fr_refl, fr_at, fr_up, fr_p, dum_ab, F32, e1, hq, a1, a2, ln]
      exact ⟨t, s, e1, e2, hq⟩
  | cons i l =>
    have a1 : takeI S f = i := by unfold takeI; rw [hSf]; rfl
    have a2 : takeS S f 1 = mv S f 1 l i := by unfold takeS; rw [hSf]
    have lS := hS f f4
    have l1 := hS 1 (by omega)
    rw [hSf] at w0 lS
    have ln : (l.length + 1 : Nat) ≤ 100 := by simpa using lS
    obtain ⟨b, o, c, K, x, hsf, hb1, hb2, hK, hx, hc⟩ := RV.at1 (Row.rv w0) (i := 0) (by simp)
    cases hx
    rw [Nat.add_zero] at hc
    have w0' := Row.keep w0 (h' := h.set nx (some ⟨3, 1, true, false, []⟩)) (Nat.le_refl nx) fun b _ hb => Mem.blk_set_ne _ _ _ _ (by omega)
    rw [hsf] at w0'
    obtain ⟨v3, m3, x3, g3, k3, k3'⟩ := Row.cut (by omega) w0' (show nx ≤ nx + 1 by omega) (a := 1) (e := (i :: l).length) (by simp) (Nat.le_refl _) (some (.int .i64 1)) none (toNle_nat (by simp)) (fun _ _ => rfl) (nx + 1)
    have q3 : ((ints (i :: l)).drop (1 * 1)).take (((i :: l).length - 1) * 1) = ints l := by
      have : (ints l).take (ints l).length = ints l := List.take_length
      rw [ints_len] at this
      simpa [ints] using this
    have q3' : (i :: l).length - 1 = l.length := by simp
    rw [q3, q3'] at g3
    obtain ⟨v4, h4, nx4, tc4, wr4, x4, n4, g4, kp4, m4, m4'⟩ := app_new (g3.keep (show nx ≤ nx + 1 by omega) fun _ _ _ => rfl) (by omega) (by omega) (nx + 1)
    have w1 : RI (s 1) h4 (q + 1) nx4 (S 1) := (e2 1 (by omega)).keep (by omega) fun b _ hb => kp4 b hb
    have w1' : RI (s 1) (h4.set q (some ⟨t, 4, true, false, if f = 0 then [v4, s 1, s 2, s 3] else [s 0, s 1, v4, s 3]⟩)) (q + 1) nx4 (S 1) := w1.keep (Nat.le_refl _) fun b hb _ => Mem.blk_set_ne _ _ _ _ (by omega)
    obtain ⟨H4, hH4⟩ : ∃ H4, H4 = h4.set q (some ⟨t, 4, true, false, if f = 0 then [v4, s 1, s 2, s 3] else [s 0, s 1, v4, s 3]⟩) := ⟨_, rfl⟩
    rw [← hH4] at w1'
    have w1s := Row.keep w1' (h' := H4.set nx4 (some ⟨3, 1, true, false, []⟩)) (show nx4 ≤ nx4 + 1 by omega) fun b _ hb => Mem.blk_set_ne _ _ _ _ (by omega)
    obtain ⟨v5, h5, nx5, tc5, wr5, x5, n5, g5, kp5, m5, m5'⟩ := app_new (Row.rv w1s) (by omega) (by omega) (nx4 + 1)
    obtain ⟨v6, h6, nx6, tc6, wr6, x6, n6, g6, kp6, m6, m6'⟩ := app_one1 g5 (by omega) (by omega) i (nx5 + 1)
    have hq4 : H4.blk q = some ⟨t, 4, true, false, if f = 0 then [v4, s 1, s 2, s 3] else [s 0, s 1, v4, s 3]⟩ := by rw [hH4, Mem.blk_set_same]
    have hh4 : h4.blk q = some ⟨t, 4, true, false, [s 0, s 1, s 2, s 3]⟩ := (kp4 q hq).trans e1
    have hh5 : h5.blk q = some ⟨t, 4, true, false, if f = 0 then [v4, s 1, s 2, s 3] else [s 0, s 1, v4, s 3]⟩ := (kp5 q (by omega)).trans hq4
    have hh6 : h6.blk q = some ⟨t, 4, true, false, if f = 0 then [v4, s 1, s 2, s 3] else [s 0, s 1, v4, s 3]⟩ := (kp6 q (by omega)).trans hh5
    have hH4' := hH4.symm
    generalize hN : (i :: l).length = N at *
    have c1 : 0 < N := by rw [← hN]; simp
    have c2 : ((N : Int) == 0) = false := by
      have : ¬ (N : Int) = 0 := by omega
      simpa using this
    have c3 : (0 : Int) < (N : Int) := by omega
    have p1 : q < nx + 1 := by omega
    have p2 : ¬ q = nx := by omega
    have p3 : q < nx4 := by omega
    have p4 : q < nx4 + 1 := by omega
    have p5 : ¬ q = nx4 := by omega
    have p6 : q < nx5 := by omega
    have p7 : q < nx5 + 1 := by omega
    have p8 : ¬ q = nx5 := by omega
    have p9 : q < nx6 := by omega
    obtain ⟨b6, c6, rfl⟩ : ∃ b c, v6 = .slc b 0 (S 1 ++ [i]).length c := by
      rcases Row.form g6 with ⟨rfl, hz⟩ | h
      · simp at hz
      · exact h
    generalize hN6 : (S 1 ++ [i]).length = N6 at *
    have fm4 : v4 = .nils ∨ ∃ b4 c4, v4 = .slc b4 0 l.length c4 := by
      rcases Row.form g4 with ⟨rfl, hz⟩ | h
      · exact .inl rfl
      · exact .inr h
    have kF : ∀ (cs : List AV) (b : Nat), b < nx4 → b ≠ q → (h6.set q (some ⟨t, 4, true, false, cs⟩)).blk b = h4.blk b := fun cs b hb hq' => by
      rw [Mem.blk_set_ne _ _ _ _ hq', kp6 b hb, kp5 b hb, hH4, Mem.blk_set_ne _ _ _ _ hq']
    have kO : ∀ (cs : List AV) (b : Nat), b < nx → b ≠ q → (h6.set q (some ⟨t, 4, true, false, cs⟩)).blk b = h.blk b := fun cs b hb hq' => by
      rw [kF cs b (by omega) hq', kp4 b hb]
    have r4 : ∀ cs, RI v4 (h6.set q (some ⟨t, 4, true, false, cs⟩)) (q + 1) nx6 l := fun cs => (Row.low g4 (by omega)).keep (by omega) fun b hb hb2 => kF cs b hb2 (by omega)
    have r6 : ∀ cs, RI (.slc b6 0 N6 c6) (h6.set q (some ⟨t, 4, true, false, cs⟩)) (q + 1) nx6 (S 1 ++ [i]) := fun cs => by
      have := (Row.low g6 (show q + 1 ≤ nx4 by omega)).keep (h' := h6.set q (some ⟨t, 4, true, false, cs⟩)) (Nat.le_refl _) fun b hb hb2 => Mem.blk_set_ne _ _ _ _ (by omega)
      exact this
    have rk : ∀ cs k, k < 4 → RI (s k) (h6.set q (some ⟨t, 4, true, false, cs⟩)) (q + 1) nx6 (S k) := fun cs k hk => (e2 k hk).keep (by omega) fun b hb hb2 => kO cs b hb2 (by omega)
    rcases hf with rfl | rfl
    · simp only [if_true] at hH4' hq4 hh5 hh6
      rcases fm4 with rfl | ⟨b4, c4, rfl⟩
      all_goals simp (maxSteps := 4000000) [↓step_none, ↓op_slice, ↓op_app, ↓P_skip, ↓P_exit, ↓P_ret, ↓P_seq, ↓P_cond, ↓P_blk, ↓P_reg, ↓P_draw, ↓P_nil, ↓P_cons, condP_t, condP_f, dum_ab, stepR, want_none, want_some, opRun, ev_t, ev_c, put_none, put_some, resAll, res_tmp, res_cell, oneOf, minI, maxI, min2A, max2A, mn2, mx2, mx3, rdBlk, wrBlk, newBlk, partA, abin, ibin, isShift, AV.cells, AV.one, lay, sub, fillA, lenA, toN, allApart, apartFrom, Nat.testBit, Mem.blk_set_same, Mem.blk_set_ne, Mem.set_set, bit_zero, bit_self, lowBits_or, lowBits_zero, len_setT, sl_same, sl_ne, len_frame, sl_frame,↓op_len, lenOp_slc, lenOp_nils, ↓Post.some, ↓Post_bind, ↓Post_ret, ↓Post_draw, ↓PostL_nil, ↓PostL_cons, Post_fail, ofOpt_some, ofOpt_none, eA_b, eA_i, eA_s, eA_nn, eA_np, eA_pn, eA_lnn, eA_lnp, eA_lpn, eA_i2, eA_i3, blt_dec, Nat.add_assoc, keeps_refl, keeps_at, keeps_up, new_one, and_pow, bit_hi, lowBits_pow, ble_dec, fr_refl, fr_at, fr_up, fr_p, dum_ab, F32, reps, e1, hq, a1, a2, hsf, hb2, hK, hc, c1, c2, c3, x3, x4, x5, x6, hh4, hh5, hh6, hH4', hq4, p1, p2, p3, p4, p5, p6, p7, p8, p9]
      all_goals
        refine ⟨⟨and_pow (by omega), k3'.r (.inr (Nat.le_refl _))⟩, ⟨and_pow (by omega), and_pow (by omega), or_z (m5'.l (.inr (by omega))) (new_up (Nat.le_refl _)), or_z (m5.l (.inr (by omega))) (new_up (Nat.le_refl _))⟩, by omega, ⟨t, fun k => if k = 0 then _ else if k = 1 then .slc b6 0 N6 c6 else s k, Mem.blk_set_same .., ?_, by omega⟩, fun x hx hxq => kO _ x hx hxq⟩
        intro k hk
        obtain rfl | rfl | rfl | rfl : k = 0 ∨ k = 1 ∨ k = 2 ∨ k = 3 := by omega
        · exact r4 _
        · exact r6 _
        · exact rk _ 2 hk
        · exact rk _ 3 hk
    · simp only [show ¬ (2 = 0) by omega, if_false] at hH4' hq4 hh5 hh6
      rcases fm4 with rfl | ⟨b4, c4, rfl⟩
      all_goals simp (maxSteps := 4000000) [↓step_none, ↓op_slice, ↓op_app, ↓P_skip, ↓P_exit, ↓P_ret, ↓P_seq, ↓P_cond, ↓P_blk, ↓P_reg, ↓P_draw, ↓P_nil, ↓P_cons, condP_t, condP_f, dum_ab, stepR, want_none, want_some, opRun, ev_t, ev_c, put_none, put_some, resAll, res_tmp, res_cell, oneOf, minI, maxI, min2A, max2A, mn2, mx2, mx3, rdBlk, wrBlk, newBlk, partA, abin, ibin, isShift, AV.cells, AV.one, lay, sub, fillA, lenA, toN, allApart, apartFrom, Nat.testBit, Mem.blk_set_same, Mem.blk_set_ne, Mem.set_set, bit_zero, bit_self, lowBits_or, lowBits_zero, len_setT, sl_same, sl_ne, len_frame, sl_frame,↓op_len, lenOp_slc, lenOp_nils, ↓Post.some, ↓Post_bind, ↓Post_ret, ↓Post_draw, ↓PostL_nil, ↓PostL_cons, Post_fail, ofOpt_some, ofOpt_none, eA_b, eA_i, eA_s, eA_nn, eA_np, eA_pn, eA_lnn, eA_lnp, eA_lpn, eA_i2, eA_i3, blt_dec, Nat.add_assoc, keeps_refl, keeps_at, keeps_up, new_one, and_pow, bit_hi, lowBits_pow, ble_dec, fr_refl, fr_at, fr_up, fr_p, dum_ab, F32, reps, e1, hq, a1, a2, hsf, hb2, hK, hc, c1, c2, c3, x3, x4, x5, x6, hh4, hh5, hh6, hH4', hq4, p1, p2, p3, p4, p5, p6, p7, p8, p9]
      all_goals
        refine ⟨⟨and_pow (by omega), k3'.r (.inr (Nat.le_refl _))⟩, ⟨and_pow (by omega), and_pow (by omega), or_z (m5'.l (.inr (by omega))) (new_up (Nat.le_refl _)), or_z (m5.l (.inr (by omega))) (new_up (Nat.le_refl _))⟩, by omega, ⟨t, fun k => if k = 2 then _ else if k = 1 then .slc b6 0 N6 c6 else s k, Mem.blk_set_same .., ?_, by omega⟩, fun x hx hxq => kO _ x hx hxq⟩
        intro k hk
        obtain rfl | rfl | rfl | rfl : k = 0 ∨ k = 1 ∨ k = 2 ∨ k = 3 := by omega
        · exact rk _ 0 hk
        · exact r6 _
        · exact r4 _
        · exact rk _ 3 hk
end Go.Proofs.YtmgilbjhgpcjgaaT
