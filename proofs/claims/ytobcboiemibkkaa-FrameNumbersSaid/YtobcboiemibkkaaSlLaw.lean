/- Frame: FrameSlots, joined. -/
import Derived.Test.YtobcboiemibkkaaSlots
namespace Go.Proofs.YtobcboiemibkkaaT
open Go Go.Proofs.YtobcboiemibkkaaE Go.Proofs.YtobcboiemibkkaaB
set_option linter.unusedSimpArgs false
set_option linter.unusedVariables false
attribute [local congr] Post_cg PostL_cg condP_cg

theorem words_of {h : Mem} {nx : Nat} : ∀ {l : List (List AV)}, (∀ y ∈ l, KdsV h nx [.l (.i .u32)] y) → ∃ ws : List Int, l.flatten = u32s ws ∧ ws.length = l.length
  | [], _ => ⟨[], rfl, rfl⟩
  | y :: l, g => by
    obtain ⟨ws, h1, h2⟩ := words_of (l := l) fun z hz => g z (by simp [hz])
    have := g y (by simp)
    simp only [KdsV, KdV, LeafV] at this
    obtain ⟨_, _, rfl, ⟨w, rfl, _⟩, rfl⟩ := this
    exact ⟨w :: ws, by rw [List.flatten_cons, h1]; rfl, by simp [h2]⟩
theorem words_cut {h : Mem} {nx : Nat} {v : AV} (g : KdV h nx (.sl [.l (.i .u32)]) v) : ∃ n : Nat, lenOp v = A.ret (.int .i64 n) ∧ n ≤ maxLen ∧ ∀ k, k ≤ n → ∃ x l, l.length = k ∧ SV x h nx l ∧ (∀ b, bid x = some b → b < nx) ∧ ∀ h' nx' lg, sliceA 1 v none (some (.int .i64 (k : Nat))) none h' nx' lg = some ⟨x, h', nx', 0, 0⟩ := by
  simp only [KdV] at g
  rcases g with rfl | ⟨b, cap, l, rfl, g2, g3, q1, g4, g5⟩
  · refine ⟨0, rfl, Nat.zero_le _, fun k hk => ?_⟩
    obtain rfl : k = 0 := by omega
    exact ⟨.nils, [], rfl, .inl (.inl ⟨rfl, rfl, rfl⟩), (fun b hb => by cases hb), fun _ _ _ => rfl⟩
  · refine ⟨l.length, rfl, g2, fun k hk => ?_⟩
    obtain ⟨ws, w1, w2⟩ := words_of g5
    have c1 : (k : Int) ≤ (cap : Int) := by omega
    refine ⟨.slc b 0 k (some cap), ws.take k, by rw [List.length_take]; omega, ?_, (fun b' hb => by cases hb; exact q1), fun h' nx' lg => ?_⟩
    · by_cases hl : l = []
      · subst hl
        have hk0 : k = 0 := by simpa using hk
        subst hk0
        exact .inr ⟨by simp, b, some cap, rfl⟩
      · obtain ⟨K, r, q2, q3⟩ := g4 hl
        left
        have e : (ws.take k).length = k := by rw [List.length_take]; omega
        rw [e]
        refine .inr ⟨b, 0, some cap, K, Nat.zero_le _, q1, rfl, q2, ?_⟩
        unfold sub
        rw [q3, w1, Nat.ble_eq_true_of_le (by rw [List.length_append, u32s_len]; omega)]
        simp only [Nat.mul_one, List.drop_zero, ite_true, Option.some.injEq]
        rw [List.take_append_of_le_length (by rw [u32s_len]; omega)]
        unfold u32s
        rw [List.map_take]
    · have c0 : (0 : Int) ≤ (k : Int) := by omega
      have c2 : k ≤ cap := by omega
      simp [sliceA, bnd, toNle, c1, c2, c0, A.ret]
/-- What stands after the loop. -/
theorem so_end {h : Mem} {nx base p : Nat} {F : List Fr} {L : List Int} {u : AV} (s : SO h nx base p F L u) (hl : L.length ≤ 8) (hs : ∀ f, F[0]? = some f → f.self = 3) : ∃ (f0 : Fr) (a7 b7 : AV) (h7 H7 h8 : Mem) (nx7 nx8 tc7 wr7 tc1 tc8 wr8 : Nat),
    (∀ k, xF T (k + 80) 14 [.ptr p 0, .int .i64 0] h nx 0 = some ⟨.tup [fr8 f0 a7 b7, .bool true], h7, nx7, tc7, wr7⟩) ∧ f0.self = 3 ∧
    (stA 8 (.ptr nx7 0) (fr8 f0 a7 b7) (h7.set nx7 (some ⟨36, 8, true, false, fzero⟩)) (nx7 + 1) 0 = some ⟨.tup [], H7, nx7 + 1, bit 0 nx7, bit 0 nx7⟩) ∧
    (∀ lg, ldA none (.ptr nx7 6) H7 (nx7 + 1) lg = some ⟨a7, H7, nx7 + 1, bit lg nx7, 0⟩) ∧ (∀ lg, ldA none (.ptr nx7 7) H7 (nx7 + 1) lg = some ⟨b7, H7, nx7 + 1, bit lg nx7, 0⟩) ∧ (∀ lg, ldA none (.ptr nx7 5) H7 (nx7 + 1) lg = some ⟨.int .u32 f0.self, H7, nx7 + 1, bit lg nx7, 0⟩) ∧
    (∀ k, xF T (k + 1100) 18 [a7, u] H7 (nx7 + 1) 0 = some ⟨.bool true, H7, nx7 + 1, tc1, 0⟩) ∧ lenOp b7 = A.ret (.int .i64 0) ∧
    (∀ k, xF T (k + 1300) 9 [] H7 (nx7 + 1) 0 = some ⟨.bool true, h8, nx8, tc8, wr8⟩) := by
  have hF := s.ps.hF
  obtain ⟨f0, hf0⟩ : ∃ f, f = F[0]'(by omega) := ⟨_, rfl⟩
  have hA : (0 : Nat) < (A0.set 0 L).length := by simp [A0]
  have eA : (A0.set 0 L)[0]'hA = L := by rw [List.getElem_set_self]
  obtain ⟨a7, b7, h7, nx7, tc7, wr7, x7, n7, ra7, rb7, k7, lo7, lp7, fa7, fb7⟩ := at_yes s.ps 0 (by decide) (by omega) hA (by decide) (by decide) (by rw [eA]; omega) (by decide) 0 (by omega)
  rw [← hf0] at x7
  rw [eA] at ra7
  have rb7' : RV 1 ([] : List Int).length b7 h7 0 nx7 (u32s []) := rb7
  have q7 := s.ps.keeps n7 k7
  have e7 : FR h7 nx7 p F a7 L := s.ps.fr ra7 lo7
  obtain ⟨H7, hH7⟩ : ∃ H7, H7 = h7.set nx7 (some ⟨36, 8, true, false, (fr8 f0 a7 b7).cells⟩) := ⟨_, rfl⟩
  have s7 : stA 8 (.ptr nx7 0) (fr8 f0 a7 b7) (h7.set nx7 (some ⟨36, 8, true, false, fzero⟩)) (nx7 + 1) 0 = some ⟨.tup [], H7, nx7 + 1, bit 0 nx7, bit 0 nx7⟩ := by rw [hH7]; exact st_new h7 nx7 f0 fa7 fb7 0
  have kH7 : ∀ b, b < nx7 → H7.blk b = h7.blk b := fun b hb => by rw [hH7, Mem.blk_set_ne _ _ _ _ (by omega)]
  have e7a := e7.keeps (show nx7 ≤ nx7 + 1 by omega) kH7
  have bl7 : H7.blk nx7 = some ⟨36, 8, true, false, (fr8 f0 a7 b7).cells⟩ := by rw [hH7, Mem.blk_set_same]
  have c5 : ((fr8 f0 a7 b7).cells)[5]? = some (.int .u32 f0.self) := by
    rcases fa7 with rfl | ⟨q, n, rfl⟩ <;> rcases fb7 with rfl | ⟨q2, n2, rfl⟩ <;> rfl
  have c6 : ((fr8 f0 a7 b7).cells)[6]? = some a7 := by
    rcases fa7 with rfl | ⟨q, n, rfl⟩ <;> rcases fb7 with rfl | ⟨q2, n2, rfl⟩ <;> rfl
  have c7 : ((fr8 f0 a7 b7).cells)[7]? = some b7 := by
    rcases fa7 with rfl | ⟨q, n, rfl⟩ <;> rcases fb7 with rfl | ⟨q2, n2, rfl⟩ <;> rfl
  have ru := s.ru.keep (show nx ≤ nx7 + 1 by omega) fun b hb => (kH7 b (by have := s.ru.lt hb; omega)).trans (k7 b (s.ru.lt hb))
  obtain ⟨tc1, y1⟩ := same_eq (show L.length ≤ 1000 by omega) e7a.rv ru.rv 0 (Nat.zero_le _)
  obtain ⟨h8, nx8, tc8, wr8, x8, n8, k8⟩ := known_at H7 (nx7 + 1) 0 (Nat.zero_le _)
  have lb := rb7'.lenOp
  exact ⟨f0, a7, b7, h7, H7, h8, nx7, nx8, tc7, wr7, tc1, tc8, wr8, fun k => by simpa using x7 k, hs f0 (by rw [hf0, List.getElem?_eq_getElem]), s7, fun lg => ld_at bl7 (by omega) c6 lg, fun lg => ld_at bl7 (by omega) c7 lg, fun lg => ld_at bl7 (by omega) c5 lg, y1, by simpa using lb, x8⟩
set_option maxHeartbeats 8000000 in
theorem slots_law (h0 : Mem) (p : Nat) (avs : List AV) (g : KdsV h0 p [.sl [.l (.i .u32)], .sl ka] avs) : Yes T 7 avs h0 p := by
  simp only [KdsV] at g
  obtain ⟨v, _, rfl, gv, va, _, rfl, ga, rfl⟩ := g
  obtain ⟨la, ra, la1, la2⟩ := ga.srow
  have hla : ∀ y ∈ la, ∃ k i j w s, y = ask k i j w s := fun y hy => ask_of (la2 y hy)
  obtain ⟨n, lv, ln, cut⟩ := words_cut gv
  obtain ⟨k, hk⟩ : ∃ k, k = min n 8 := ⟨_, rfl⟩
  obtain ⟨x, l, hlk, gx, bx, sx⟩ := cut k (by omega)
  obtain ⟨h1, x1, ps1, k1⟩ := new_at h0 p 0
  have gx1 : SV x h1 (p + 1) l := sv_keep gx (Nat.le_succ _) fun b hb _ => k1 b hb
  have f0 : ff U0 = 0 := by decide
  obtain ⟨sl1, c2⟩ := take_sv ps1 1 (-1) (-1) 3 x l gx1 (fun h => by have := bx p h; omega) (by decide) (by omega)
  rw [f0, if_pos rfl] at c2
  obtain ⟨h2, nx2, tc2, wr2, x2, n2, ps2, ow2, fr2⟩ := c2.at 0 (by omega)
  have w1 : IntKind.i64.wrap (0 + 1) = 1 := by decide
  rw [w1] at ps2 ow2
  obtain ⟨F, hF⟩ : ∃ F, F = F0.set 0 ⟨1, 0, -1, ((0 : Nat) : Int), 1, 3, sl1, .nils⟩ := ⟨_, rfl⟩
  rw [← hF] at ps2 ow2
  have ps2' : PS h2 nx2 p F U1 1 (A0.set 0 l) A0 := ps2
  have lw0 : ∀ b, Own F0 b → p ≤ b := fun b ⟨i, hi, hb⟩ => by
    have e : F0[i] = ⟨0, 0, 0, 0, 0, 0, .nils, .nils⟩ := List.getElem_replicate ..
    rw [e] at hb
    rcases hb with hb | hb <;> cases hb
  have lw2 := fun b (hb : Own F b) => (ow2 b hb).elim (lw0 b) (fun h => (by omega : p ≤ b))
  have k2 : ∀ b, b < p → h2.blk b = h0.blk b := fun b hb => by
    rw [(fr2 b (by omega) (fun h => by have := lw0 b h; omega)).2 (by omega), k1 b hb]
  obtain ⟨H3, hH3⟩ : ∃ H3, H3 = h2.set nx2 (some ⟨23, 1, true, false, []⟩) := ⟨_, rfl⟩
  have k3 : ∀ b, b < nx2 → H3.blk b = h2.blk b := fun b hb => by rw [hH3, Mem.blk_set_ne _ _ _ _ (by omega)]
  have gx3 : SV x H3 (nx2 + 1) l := sv_keep gx (by omega) fun b hb _ => by rw [k3 b (by omega), k2 b hb]
  have o3 : OR (.slc nx2 0 0 (some 0)) H3 (nx2 + 1) [] := by rw [hH3]; exact or_new h2 nx2
  obtain ⟨u, h4, nx4, tc4, wr4, x4, n4, ru4, k4, lo4, _, _⟩ := cat_sv o3 gx3 (by simp; omega) 0
  rw [List.nil_append] at ru4
  have k4' : ∀ b, b < nx2 → h4.blk b = h2.blk b := fun b hb => by rw [k4 b (by omega) (fun h => by cases h; omega), k3 b hb]
  have lu : ∀ b, bid u = some b → nx2 ≤ b := fun b hb => by
    rcases lo4 b hb with h | h
    · cases h; omega
    · omega
  have S : SO h4 nx4 p p F l u := ⟨ps2'.keeps (by omega) k4', ru4, fun b hb => ⟨by have := lu b hb; have := ps2'.hp; omega, fun h => by have := ps2'.lt (.inr h); have := lu b hb; omega, by have := lu b hb; omega⟩, Nat.le_refl _, lw2⟩
  have kA : ∀ b, b < p → h4.blk b = h0.blk b := fun b hb => by rw [k4' b (by omega), k2 b hb]
  have hs : ∀ f, F[0]? = some f → f.self = 3 := by subst hF; intro f hf; cases hf; rfl
  have s3 := hH3.symm
  have kmin : (if (8 : Int) < (n : Int) then (8 : Int) else (n : Int)) = (k : Int) := by split <;> omega
  have kmin2 : (if (n : Int) < (8 : Int) then (n : Int) else (8 : Int)) = (k : Int) := by split <;> omega
  have kmin3 : min (n : Int) 8 = (k : Int) := by omega
  have x2' : ∀ q, xF T (q + 100) 13 [.ptr p 0, .int .i64 1, .int .u32 3, x, .int .i64 (-1), .int .i64 (-1)] h1 (p + 1) 0 = some ⟨.int .i64 0, h2, nx2, tc2, wr2⟩ := fun q => by simpa using x2 q
  refine Yes.of 2000 ?_
  rw [xF_fr T7]
  simp (maxSteps := 8000000) [↓step_none, ↓step_t, ↓step_f, ↓step_nt, ↓step_nf, ↓op_load, ↓op_store, ↓op_slice, ↓op_app, ↓P_skip, ↓P_exit, ↓P_ret, ↓P_seq, ↓P_cond, ↓P_blk, ↓P_reg, ↓P_draw, ↓P_nil, ↓P_cons, condP_t, condP_f, dum_ab, stepR, want_none, want_some, opRun, ev_t, ev_c, put_none, put_some, resAll, res_tmp, res_cell, oneOf, minI, maxI, min2A, max2A, mn2, mx2, mx3, rdBlk, wrBlk, newBlk, partA, abin, ibin, isShift, AV.cells, AV.one, lay, sub, fillA, lenA, toN, allApart, apartFrom, Nat.testBit, Mem.blk_set_same, Mem.blk_set_ne, Mem.set_set, bit_zero, bit_self, lowBits_or, lowBits_zero, len_setT, sl_same, sl_ne, len_frame, sl_frame,↓op_len, lenOp_slc, lenOp_nils, ↓Post.some, ↓Post_bind, ↓Post_ret, ↓Post_draw, ↓PostL_nil, ↓PostL_cons, Post_fail, ofOpt_some, ofOpt_none, eA_b, eA_i, eA_s, eA_nn, eA_np, eA_pn, eA_lnn, eA_lnp, eA_lpn, eA_i2, eA_i3, blt_dec, Nat.add_assoc, keeps_refl, keeps_at, keeps_up, new_one, and_pow, bit_hi, lowBits_pow, ble_dec, fr_refl, fr_at, fr_up, fr_p, dum_ab, F7, reps, x1, lv, kmin, kmin2, kmin3, sx, x2', s3, x4]
  refine Post.loop (lo_round va la h0 p p k (by omega) F u ra hla) 30 ⟨0, l, rfl, by omega, hlk, by simp [len_setT, sl_same, sl_ne, len_frame], by simp [len_setT, sl_same, sl_ne, len_frame, sl_frame], by simp [len_setT, sl_same, sl_ne, len_frame, sl_frame], by simp [len_setT, sl_same, sl_ne, len_frame, sl_frame], by simp [len_setT, sl_same, sl_ne, len_frame, sl_frame], by simp [len_setT, sl_same, sl_ne, len_frame, sl_frame], by omega, S, kA⟩ (by omega) ?_
  rintro e ts2 h5 nx5 tc5 wr5 ⟨rfl, L, hLk, hlen, g5, g7, hbn, s, kp⟩
  obtain ⟨f0, a7, b7, h7, H7, h8, nx7, nx8, tc7, wr7, tc1, tc8, wr8, z1, z2, z3, z4, z5, z6, z7, z8, z9⟩ := so_end s (by omega) hs
  rw [z2] at z6
  simp only [fr8, fzero] at z1 z3
  simp (maxSteps := 8000000) [↓step_none, ↓step_t, ↓step_f, ↓step_nt, ↓step_nf, ↓op_load, ↓op_store, ↓op_slice, ↓op_app, ↓P_skip, ↓P_exit, ↓P_ret, ↓P_seq, ↓P_cond, ↓P_blk, ↓P_reg, ↓P_draw, ↓P_nil, ↓P_cons, condP_t, condP_f, dum_ab, stepR, want_none, want_some, opRun, ev_t, ev_c, put_none, put_some, resAll, res_tmp, res_cell, oneOf, minI, maxI, min2A, max2A, mn2, mx2, mx3, rdBlk, wrBlk, newBlk, partA, abin, ibin, isShift, AV.cells, AV.one, lay, sub, fillA, lenA, toN, allApart, apartFrom, Nat.testBit, Mem.blk_set_same, Mem.blk_set_ne, Mem.set_set, bit_zero, bit_self, lowBits_or, lowBits_zero, len_setT, sl_same, sl_ne, len_frame, sl_frame,↓op_len, lenOp_slc, lenOp_nils, ↓Post.some, ↓Post_bind, ↓Post_ret, ↓Post_draw, ↓PostL_nil, ↓PostL_cons, Post_fail, ofOpt_some, ofOpt_none, eA_b, eA_i, eA_s, eA_nn, eA_np, eA_pn, eA_lnn, eA_lnp, eA_lpn, eA_i2, eA_i3, blt_dec, Nat.add_assoc, keeps_refl, keeps_at, keeps_up, new_one, and_pow, bit_hi, lowBits_pow, ble_dec, fr_refl, fr_at, fr_up, fr_p, dum_ab, reps, hlen, g5, g7, z1, z3, z4, z5, z6, z7, z8, z9]
end Go.Proofs.YtobcboiemibkkaaT
