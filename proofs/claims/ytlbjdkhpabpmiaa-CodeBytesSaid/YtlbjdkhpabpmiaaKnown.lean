/- Code: known. -/
import Derived.Test.YtlbjdkhpabpmiaaRight
namespace Go.Proofs.YtlbjdkhpabpmiaaT
open Go Go.Proofs.YtlbjdkhpabpmiaaE Go.Proofs.YtlbjdkhpabpmiaaB
set_option linter.unusedSimpArgs false
set_option linter.unusedVariables false
attribute [local congr] Post_cg PostL_cg condP_cg

def b2A (v : AV) : A AV := match v with
  | .nils => A.ret (.str .empty)
  | .slc b o n _ => A.bind (rdBlk b) fun k => match sub k.cells o n with
      | some cs => A.ofOpt ((bytesA cs .empty).map .str)
      | none => A.fail
  | _ => A.fail
theorem op_b2s (c : FuncId → List AV → A AV) (ts : List AV) (x : X) : opRun c ts (.b2s x) = b2A (x.ev ts) := Eq.trans rfl rfl
theorem b2_rv {v : AV} {h : Mem} {nx : Nat} {l : List Int} (g : RV 1 l.length v h 0 nx (u8s l)) (s : ByteArray) (hs : bytesA (u8s l) .empty = some s) (lg : Nat) : ∃ tc, b2A v h nx lg = some ⟨.str s, h, nx, tc, 0⟩ := by
  rcases g with ⟨rfl, h1, h2⟩ | ⟨b, o, c, K, _, h1, rfl, h2, h3⟩
  · rw [h2] at hs
    cases hs
    exact ⟨0, rfl⟩
  · rw [Nat.mul_one] at h3
    refine ⟨bit lg b, ?_⟩
    simp only [b2A, A.bind, rdBlk, blt_of h1, h2, h3, hs, A.ofOpt, A.ret, Option.map_some, Nat.or_zero]
set_option maxRecDepth 20000 in
set_option maxHeartbeats 16000000 in
theorem known_ans (h : Mem) (nx : Nat) : Ans T 600 12 [] h nx (.bool true) := by
  have ok : ∀ x ∈ ([3, 0, 14, 0] : List Int), 0 ≤ x ∧ x < 256 := by decide
  obtain ⟨K1, hK1⟩ : ∃ K : Blk, K = ⟨37, 4, true, false, [.int .i64 0, .int .i64 0, .nils, .slc nx 0 4 (some 4)]⟩ := ⟨_, rfl⟩
  obtain ⟨H2, hH2⟩ : ∃ H2, H2 = (h.set nx (some ⟨5, 1, true, false, u8s [3, 0, 14, 0]⟩)).set (nx + 1) (some K1) := ⟨_, rfl⟩
  have t2 : ∀ b, b < nx → H2.blk b = h.blk b := fun b hb => by rw [hH2]; exact set2 _ _ _ _ b hb
  have f2 : H2.blk (nx + 1) = some K1 := by rw [hH2, Mem.blk_set_same]
  have B2 : H2.blk nx = some ⟨5, 1, true, false, u8s [3, 0, 14, 0]⟩ := by rw [hH2, Mem.blk_set_ne _ _ _ _ (by omega), Mem.blk_set_same]
  -- fetch 2
  obtain ⟨h3, tc3, x3, k3⟩ := fetch_yes (rv_lit (b := nx) (nx := nx + 2) (m := [3, 0, 14, 0]) (by omega) B2 (some 4)) (by decide) ok 1 2 rfl (by decide) 0 0 0 (by omega)
  obtain ⟨H3, hH3⟩ : ∃ H3, H3 = h3.set (nx + 2 + 2) (some ⟨47, 2, true, false, [.int .i64 14, .int .i64 0]⟩) := ⟨_, rfl⟩
  have t3 : ∀ b, b < nx + 2 → H3.blk b = H2.blk b := fun b hb => by rw [hH3, Mem.blk_set_ne _ _ _ _ (by omega), k3 b hb]
  have f3 := (t3 (nx + 1) (by omega)).trans f2
  have B3 := (t3 nx (by omega)).trans B2
  have g3 : H3.blk (nx + 4) = some ⟨47, 2, true, false, [.int .i64 14, .int .i64 0]⟩ := by rw [hH3]; exact Mem.blk_set_same ..
  -- fetch 1
  obtain ⟨h4, tc4, x4, k4⟩ := fetch_no (rv_lit (b := nx) (nx := nx + 5) (m := [3, 0, 14, 0]) (by omega) B3 (some 4)) (by decide) 1 (by decide) 0 0 0 (by omega)
  obtain ⟨H4, hH4⟩ : ∃ H4, H4 = h4.set (nx + 5 + 2) (some ⟨47, 2, true, false, [.int .i64 0, .int .i64 0]⟩) := ⟨_, rfl⟩
  have t4 : ∀ b, b < nx + 5 → H4.blk b = H3.blk b := fun b hb => by rw [hH4, Mem.blk_set_ne _ _ _ _ (by omega), k4 b hb]
  have f4 := (t4 (nx + 1) (by omega)).trans f3
  have B4 := (t4 nx (by omega)).trans B3
  have g4 := (t4 (nx + 4) (by omega)).trans g3
  -- fetch 4
  obtain ⟨h5, tc5, x5, k5⟩ := fetch_no (rv_lit (b := nx) (nx := nx + 8) (m := [3, 0, 14, 0]) (by omega) B4 (some 4)) (by decide) 4 (by decide) 0 0 0 (by omega)
  obtain ⟨H5, hH5⟩ : ∃ H5, H5 = h5.set (nx + 8 + 2) (some ⟨47, 2, true, false, [.int .i64 0, .int .i64 0]⟩) := ⟨_, rfl⟩
  have t5 : ∀ b, b < nx + 8 → H5.blk b = H4.blk b := fun b hb => by rw [hH5, Mem.blk_set_ne _ _ _ _ (by omega), k5 b hb]
  have f5 := (t5 (nx + 1) (by omega)).trans f4
  have B5 := (t5 nx (by omega)).trans B4
  have g5 := (t5 (nx + 4) (by omega)).trans g4
  -- takes, names
  have y0 := takes_of 0 (by omega) (by omega)
  have y1 := takes_of 23 (by omega) (by omega)
  have y2 := takes_of 24 (by omega) (by omega)
  have v0 : tkv 0 = 2 := rfl
  have v1 : tkv 23 = 0 := rfl
  have v2 : tkv 24 = -1 := rfl
  rw [v0] at y0
  rw [v1] at y1
  rw [v2] at y2
  obtain ⟨h6, tc6, x6, k6⟩ := name_yes 19 (by omega) _ rfl H5 (nx + 11) 0 (by omega)
  obtain ⟨h7, tc7, x7, k7⟩ := name_22 h6 (nx + 12) 0 (by omega)
  have f7 : h7.blk (nx + 1) = some K1 := by rw [k7 _ (by omega), k6 _ (by omega), f5]
  have B7 := (k7 nx (by omega)).trans ((k6 nx (by omega)).trans B5)
  have g7 := (k7 (nx + 4) (by omega)).trans ((k6 (nx + 4) (by omega)).trans g5)
  -- right
  obtain ⟨h8, tc8, x8, k8⟩ := right_m h7 (nx + 13) nx (by omega) B7 0 (by omega)
  obtain ⟨h9, tc9, x9, k9⟩ := right_nil h8 (nx + 27) 0 (by omega)
  obtain ⟨h10, tc10, x10, k10⟩ := right_9 h9 (nx + 31) 0 (by omega)
  have g10 := (k10 (nx + 4) (by omega)).trans ((k9 (nx + 4) (by omega)).trans ((k8 (nx + 4) (by omega)).trans g7))
  -- bytes
  obtain ⟨H11, hH11⟩ : ∃ H11, H11 = h10.set (nx + 34) (some ⟨47, 2, true, false, [.int .i64 14, .int .i64 0]⟩) := ⟨_, rfl⟩
  have t11 : ∀ b, b < nx + 34 → H11.blk b = h10.blk b := fun b hb => by rw [hH11, Mem.blk_set_ne _ _ _ _ (by omega)]
  have r11 : SRow 2 (.slc (nx + 34) 0 1 (some 1)) H11 (nx + 35) (ivs [(14, 0)]) := .inr ⟨nx + 34, some 1, rfl, (fun x hx => by simp [ivs, iv] at hx; subst hx; rfl), fun _ => ⟨by omega, _, by rw [hH11]; exact Mem.blk_set_same .., [], rfl⟩⟩
  obtain ⟨v12, h12, nx12, tc12, wr12, x12, n12, r12, k12⟩ := bytes_of (by decide) (by intro o ho; simp at ho; subst ho; decide) r11 0 (by omega)
  obtain ⟨tc13, x13⟩ := b2_rv r12 ⟨⟨[14, 0]⟩⟩ rfl 0
  have kk : Keeps nx h h12 := fun b hb => by rw [k12 b (by omega), t11 b (by omega), k10 b (by omega), k9 b (by omega), k8 b (by omega), k7 b (by omega), k6 b (by omega), t5 b (by omega), t4 b (by omega), t3 b (by omega), t2 b hb]
  rw [hK1] at f2 f3 f4 f5 f7 hH2
  have s2 := hH2.symm
  have s3 := hH3.symm
  have s4 := hH4.symm
  have s5 := hH5.symm
  have s11 := hH11.symm
  simp only [u8s, List.map_cons, List.map_nil, List.length_cons, List.length_nil, List.getElem_cons_zero, List.getElem_cons_succ, Nat.reduceAdd, Nat.add_assoc] at s2 s3 s4 s5 s11 x3 x4 x5
  simp only [show ((0 : Nat) : Int) = 0 from rfl, show ((1 : Nat) : Int) = 1 from rfl, show ((2 : Nat) : Int) = 2 from rfl, show ((4 : Nat) : Int) = 4 from rfl, show ((19 : Nat) : Int) = 19 from rfl] at x3 x4 x5 x6
  have e4 : H4.set (nx + 7) (some ⟨47, 2, true, false, [.int .i64 0, .int .i64 0]⟩) = H4 := by rw [hH4]; exact Mem.set_set ..
  have e5 : H5.set (nx + 10) (some ⟨47, 2, true, false, [.int .i64 0, .int .i64 0]⟩) = H5 := by rw [hH5]; exact Mem.set_set ..
  have b4 : H4.blk (nx + 7) = some ⟨47, 2, true, false, [.int .i64 0, .int .i64 0]⟩ := by rw [hH4]; exact Mem.blk_set_same ..
  have b5 : H5.blk (nx + 10) = some ⟨47, 2, true, false, [.int .i64 0, .int .i64 0]⟩ := by rw [hH5]; exact Mem.blk_set_same ..
  unfold Ans
  rw [xF_fr T12]
  simp (maxSteps := 8000000) [↓P_skip, ↓P_exit, ↓P_ret, ↓P_seq, ↓P_cond, ↓P_blk, ↓P_reg, ↓P_draw, ↓P_nil, ↓P_cons, condP_t, condP_f, dum_ab, stepR, want_none, want_some, opRun, ev_t, ev_c, put_none, put_some, resAll, res_tmp, res_cell, oneOf, minI, maxI, min2A, max2A, mn2, mx2, mx3, rdBlk, wrBlk, newBlk, partA, abin, ibin, isShift, AV.cells, AV.one, lay, sub, fillA, lenA, toN, allApart, apartFrom, Nat.testBit, Mem.blk_set_same, Mem.blk_set_ne, Mem.set_set, bit_zero, bit_self, lowBits_or, lowBits_zero, len_setT, sl_same, sl_ne, len_frame, sl_frame,↓op_len, lenOp_slc, lenOp_nils, ↓Post.some, ↓Post_bind, ↓Post_ret, ↓Post_draw, ↓PostL_nil, ↓PostL_cons, Post_fail, ofOpt_some, ofOpt_none, eA_b, eA_i, eA_s, eA_nn, eA_np, eA_pn, eA_lnn, eA_lnp, eA_lpn, eA_i2, eA_i3, blt_dec, Nat.add_assoc, keeps_refl, keeps_at, keeps_up, new_one, and_pow, bit_hi, lowBits_pow, ble_dec, fr_refl, fr_at, fr_up, fr_p, dum_ab, ↓op_b2s, ↓step_none, ↓step_t, F12, reps, s2, x3, s3, f2, x4, s4, f3, x5, s5, f4, f5, g5, y0, y1, y2, x6, x7, x8, x9, x10, f7, g7, g10, s11, x12, x13, e4, e5, b4, b5]
  exact ⟨by omega, kk⟩
end Go.Proofs.YtlbjdkhpabpmiaaT
