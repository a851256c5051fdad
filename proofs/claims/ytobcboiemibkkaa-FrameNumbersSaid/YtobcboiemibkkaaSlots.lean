/- Frame: FrameSlots. -/
import Derived.Test.YtobcboiemibkkaaKnown
import Derived.Test.YtobcboiemibkkaaE30
namespace Go.Proofs.YtobcboiemibkkaaT
open Go Go.Proofs.YtobcboiemibkkaaE Go.Proofs.YtobcboiemibkkaaB
set_option linter.unusedSimpArgs false
set_option linter.unusedVariables false
attribute [local congr] Post_cg PostL_cg condP_cg

theorem within_ex (x lo hi : Int) (h1 : -100000 ≤ lo) (h2 : lo ≤ hi) (h3 : hi ≤ 100000) : ∃ r, lo ≤ r ∧ r ≤ hi ∧ ∀ (n : Nat) (h : Mem) (nx lg : Nat), xF T (n + 20) 10 [.int .i64 x, .int .i64 lo, .int .i64 hi] h nx lg = some ⟨.int .i64 r, h, nx, 0, 0⟩ := by
  have w1 : IntKind.i64.wrap (hi - lo) = hi - lo := by rw [IntKind.wrap_i64]; omega
  have w2 : IntKind.i64.wrap (hi - lo + 1) = hi - lo + 1 := by rw [IntKind.wrap_i64]; omega
  have w0 : ¬ hi - lo + 1 = 0 := by omega
  have t1 := Int.tmod_lt_of_pos x (show (0 : Int) < hi - lo + 1 by omega)
  have t2 : -(hi - lo + 1) < x.tmod (hi - lo + 1) := by
    have := Int.lt_tmod_of_pos x (show (0 : Int) < hi - lo + 1 by omega)
    omega
  have w3 : IntKind.i64.wrap (x.tmod (hi - lo + 1)) = x.tmod (hi - lo + 1) := by rw [IntKind.wrap_i64]; omega
  by_cases c : lo ≤ x ∧ x ≤ hi
  · obtain ⟨c1, c2⟩ := c
    refine ⟨x, c1, c2, fun n h nx lg => ?_⟩
    rw [xF_fr T10]; apply eq_of_Post
    simp [↓P_skip, ↓P_exit, ↓P_ret, ↓P_seq, ↓P_cond, ↓P_blk, ↓P_reg, ↓P_draw, ↓P_nil, ↓P_cons, condP_t, condP_f, dum_ab, stepR, want_none, want_some, opRun, ev_t, ev_c, put_none, put_some, resAll, res_tmp, res_cell, oneOf, minI, maxI, min2A, max2A, mn2, mx2, mx3, rdBlk, wrBlk, newBlk, partA, abin, ibin, isShift, AV.cells, AV.one, lay, sub, fillA, lenA, toN, allApart, apartFrom, Nat.testBit, Mem.blk_set_same, Mem.blk_set_ne, Mem.set_set, bit_zero, bit_self, lowBits_or, lowBits_zero, len_setT, sl_same, sl_ne, len_frame, sl_frame,↓op_len, lenOp_slc, lenOp_nils, ↓Post.some, ↓Post_bind, ↓Post_ret, ↓Post_draw, ↓PostL_nil, ↓PostL_cons, Post_fail, ofOpt_some, ofOpt_none, eA_b, eA_i, eA_s, eA_nn, eA_np, eA_pn, eA_lnn, eA_lnp, eA_lpn, eA_i2, eA_i3, blt_dec, Nat.add_assoc, keeps_refl, keeps_at, keeps_up, new_one, and_pow, bit_hi, lowBits_pow, ble_dec, fr_refl, fr_at, fr_up, fr_p, dum_ab, F10, c1, c2]
  · generalize hm : x.tmod (hi - lo + 1) = m at *
    by_cases c3 : m < 0
    · have w4 : IntKind.i64.wrap (m + hi) = m + hi := by rw [IntKind.wrap_i64]; omega
      have w5 : IntKind.i64.wrap (m + hi - lo) = m + hi - lo := by rw [IntKind.wrap_i64]; omega
      have w6 : IntKind.i64.wrap (m + hi - lo + 1) = m + hi - lo + 1 := by rw [IntKind.wrap_i64]; omega
      have w7 : IntKind.i64.wrap (lo + (m + hi - lo + 1)) = lo + (m + hi - lo + 1) := by rw [IntKind.wrap_i64]; omega
      refine ⟨lo + (m + hi - lo + 1), by omega, by omega, fun n h nx lg => ?_⟩
      rw [xF_fr T10]; apply eq_of_Post
      by_cases c1 : lo ≤ x
      · have c2 : ¬ x ≤ hi := fun e => c ⟨c1, e⟩
        simp [↓P_skip, ↓P_exit, ↓P_ret, ↓P_seq, ↓P_cond, ↓P_blk, ↓P_reg, ↓P_draw, ↓P_nil, ↓P_cons, condP_t, condP_f, dum_ab, stepR, want_none, want_some, opRun, ev_t, ev_c, put_none, put_some, resAll, res_tmp, res_cell, oneOf, minI, maxI, min2A, max2A, mn2, mx2, mx3, rdBlk, wrBlk, newBlk, partA, abin, ibin, isShift, AV.cells, AV.one, lay, sub, fillA, lenA, toN, allApart, apartFrom, Nat.testBit, Mem.blk_set_same, Mem.blk_set_ne, Mem.set_set, bit_zero, bit_self, lowBits_or, lowBits_zero, len_setT, sl_same, sl_ne, len_frame, sl_frame,↓op_len, lenOp_slc, lenOp_nils, ↓Post.some, ↓Post_bind, ↓Post_ret, ↓Post_draw, ↓PostL_nil, ↓PostL_cons, Post_fail, ofOpt_some, ofOpt_none, eA_b, eA_i, eA_s, eA_nn, eA_np, eA_pn, eA_lnn, eA_lnp, eA_lpn, eA_i2, eA_i3, blt_dec, Nat.add_assoc, keeps_refl, keeps_at, keeps_up, new_one, and_pow, bit_hi, lowBits_pow, ble_dec, fr_refl, fr_at, fr_up, fr_p, dum_ab, F10, c1, c2, w0, w1, w2, w3, w4, w5, w6, w7, hm, c3]
      · simp [↓P_skip, ↓P_exit, ↓P_ret, ↓P_seq, ↓P_cond, ↓P_blk, ↓P_reg, ↓P_draw, ↓P_nil, ↓P_cons, condP_t, condP_f, dum_ab, stepR, want_none, want_some, opRun, ev_t, ev_c, put_none, put_some, resAll, res_tmp, res_cell, oneOf, minI, maxI, min2A, max2A, mn2, mx2, mx3, rdBlk, wrBlk, newBlk, partA, abin, ibin, isShift, AV.cells, AV.one, lay, sub, fillA, lenA, toN, allApart, apartFrom, Nat.testBit, Mem.blk_set_same, Mem.blk_set_ne, Mem.set_set, bit_zero, bit_self, lowBits_or, lowBits_zero, len_setT, sl_same, sl_ne, len_frame, sl_frame,↓op_len, lenOp_slc, lenOp_nils, ↓Post.some, ↓Post_bind, ↓Post_ret, ↓Post_draw, ↓PostL_nil, ↓PostL_cons, Post_fail, ofOpt_some, ofOpt_none, eA_b, eA_i, eA_s, eA_nn, eA_np, eA_pn, eA_lnn, eA_lnp, eA_lpn, eA_i2, eA_i3, blt_dec, Nat.add_assoc, keeps_refl, keeps_at, keeps_up, new_one, and_pow, bit_hi, lowBits_pow, ble_dec, fr_refl, fr_at, fr_up, fr_p, dum_ab, F10, c1, w0, w1, w2, w3, w4, w5, w6, w7, hm, c3]
    · have w7 : IntKind.i64.wrap (lo + m) = lo + m := by rw [IntKind.wrap_i64]; omega
      refine ⟨lo + m, by omega, by omega, fun n h nx lg => ?_⟩
      rw [xF_fr T10]; apply eq_of_Post
      by_cases c1 : lo ≤ x
      · have c2 : ¬ x ≤ hi := fun e => c ⟨c1, e⟩
        simp [↓P_skip, ↓P_exit, ↓P_ret, ↓P_seq, ↓P_cond, ↓P_blk, ↓P_reg, ↓P_draw, ↓P_nil, ↓P_cons, condP_t, condP_f, dum_ab, stepR, want_none, want_some, opRun, ev_t, ev_c, put_none, put_some, resAll, res_tmp, res_cell, oneOf, minI, maxI, min2A, max2A, mn2, mx2, mx3, rdBlk, wrBlk, newBlk, partA, abin, ibin, isShift, AV.cells, AV.one, lay, sub, fillA, lenA, toN, allApart, apartFrom, Nat.testBit, Mem.blk_set_same, Mem.blk_set_ne, Mem.set_set, bit_zero, bit_self, lowBits_or, lowBits_zero, len_setT, sl_same, sl_ne, len_frame, sl_frame,↓op_len, lenOp_slc, lenOp_nils, ↓Post.some, ↓Post_bind, ↓Post_ret, ↓Post_draw, ↓PostL_nil, ↓PostL_cons, Post_fail, ofOpt_some, ofOpt_none, eA_b, eA_i, eA_s, eA_nn, eA_np, eA_pn, eA_lnn, eA_lnp, eA_lpn, eA_i2, eA_i3, blt_dec, Nat.add_assoc, keeps_refl, keeps_at, keeps_up, new_one, and_pow, bit_hi, lowBits_pow, ble_dec, fr_refl, fr_at, fr_up, fr_p, dum_ab, F10, c1, c2, w0, w1, w2, w3, w7, hm, c3]
      · simp [↓P_skip, ↓P_exit, ↓P_ret, ↓P_seq, ↓P_cond, ↓P_blk, ↓P_reg, ↓P_draw, ↓P_nil, ↓P_cons, condP_t, condP_f, dum_ab, stepR, want_none, want_some, opRun, ev_t, ev_c, put_none, put_some, resAll, res_tmp, res_cell, oneOf, minI, maxI, min2A, max2A, mn2, mx2, mx3, rdBlk, wrBlk, newBlk, partA, abin, ibin, isShift, AV.cells, AV.one, lay, sub, fillA, lenA, toN, allApart, apartFrom, Nat.testBit, Mem.blk_set_same, Mem.blk_set_ne, Mem.set_set, bit_zero, bit_self, lowBits_or, lowBits_zero, len_setT, sl_same, sl_ne, len_frame, sl_frame,↓op_len, lenOp_slc, lenOp_nils, ↓Post.some, ↓Post_bind, ↓Post_ret, ↓Post_draw, ↓PostL_nil, ↓PostL_cons, Post_fail, ofOpt_some, ofOpt_none, eA_b, eA_i, eA_s, eA_nn, eA_np, eA_pn, eA_lnn, eA_lnp, eA_lpn, eA_i2, eA_i3, blt_dec, Nat.add_assoc, keeps_refl, keeps_at, keeps_up, new_one, and_pow, bit_hi, lowBits_pow, ble_dec, fr_refl, fr_at, fr_up, fr_p, dum_ab, F10, c1, w0, w1, w2, w3, w7, hm, c3]

theorem OR.put {u : AV} {h : Mem} {nx : Nat} {L : List Int} (g : OR u h nx L) {n : Nat} (hn : n < L.length) (w : Int) : ∃ b c h', u = .slc b 0 L.length c ∧ b < nx ∧ (∀ lg, stA 1 (.ptr b n) (.int .u32 w) h nx lg = some ⟨.tup [], h', nx, bit lg b, bit lg b⟩) ∧ OR u h' nx (L.set n w) ∧ ∀ b', b' ≠ b → h'.blk b' = h.blk b' := by
  rcases g with ⟨rfl, rfl⟩ | ⟨b, rfl, rfl, hb, K, hK⟩ | ⟨b, t, r, rfl, hb, hK⟩
  · simp at hn
  · simp at hn
  · have hl : n < (u32s L ++ r).length := by rw [List.length_append, u32s_len]; omega
    refine ⟨b, none, _, rfl, hb, fun lg => st_at (n := 1) hK hb (.int .u32 w) rfl rfl (by omega) lg, .inr (.inr ⟨b, t, r, by rw [List.length_set], hb, ?_⟩), fun b' hne => Mem.blk_set_ne _ _ _ _ hne⟩
    rw [Mem.blk_set_same]
    show some (Blk.mk t 1 true true (lay (u32s L ++ r) n [.int .u32 w])) = _
    rw [lay_one _ _ _ hl, List.set_append_left _ _ (by rw [u32s_len]; exact hn)]
    unfold u32s
    rw [List.map_set]
def U1 : List Bool := U0.set 0 true
structure SO (h : Mem) (nx base p : Nat) (F : List Fr) (L : List Int) (u : AV) : Prop where
  ps : PS h nx p F U1 1 (A0.set 0 L) A0
  ru : OR u h nx L
  nu : ∀ b, bid u = some b → b ≠ p ∧ ¬ Own F b ∧ base ≤ b
  lo : base ≤ p ∧ ∀ b, Own F b → base ≤ b
def ask (k i j w : Int) (s : AV) : List AV := [.int .i64 k, .int .i64 i, .int .i64 j, .int .u32 w, s]
def ka : List Kd := [.l (.i .i64), .l (.i .i64), .l (.i .i64), .l (.i .u32), .sl [.l (.i .u32)]]
theorem ask_of {h : Mem} {nx : Nat} {y : List AV} (g : KdsV h nx ka y) : ∃ k i j w s, y = ask k i j w s := by
  unfold ka at g
  simp only [KdsV, LeafV] at g
  obtain ⟨_, _, rfl, g1, _, _, rfl, g2, _, _, rfl, g3, _, _, rfl, g4, s, _, rfl, g5, rfl⟩ := g
  simp only [KdV, LeafV] at g1 g2 g3 g4
  obtain ⟨k, rfl, _⟩ := g1
  obtain ⟨i, rfl, _⟩ := g2
  obtain ⟨j, rfl, _⟩ := g3
  obtain ⟨w, rfl, _⟩ := g4
  exact ⟨k, i, j, w, s, rfl⟩
def LoI (va : AV) (l : List (List AV)) (h0 : Mem) (base p k : Nat) (F : List Fr) (u : AV) (m : Nat) (ts : List AV) (h : Mem) (nx tc wr : Nat) : Prop := ∃ (i : Nat) (L : List Int), m = 30 - i ∧ i ≤ 30 ∧ L.length = k ∧ ts.length = 100 ∧ sl ts 1 = va ∧ sl ts 5 = .ptr p 0 ∧ sl ts 6 = .int .i64 k ∧ sl ts 7 = u ∧ sl ts 8 = .int .i64 i ∧ base ≤ nx ∧ SO h nx base p F L u ∧ ∀ b, b < base → h.blk b = h0.blk b
def LoR (h0 : Mem) (base p k : Nat) (F : List Fr) (u : AV) (e : Ex) (ts : List AV) (h : Mem) (nx tc wr : Nat) : Prop := e = .exit 0 ∧ ∃ L : List Int, L.length = k ∧ ts.length = 100 ∧ sl ts 5 = .ptr p 0 ∧ sl ts 7 = u ∧ base ≤ nx ∧ SO h nx base p F L u ∧ ∀ b, b < base → h.blk b = h0.blk b
set_option maxHeartbeats 8000000 in
theorem lo_round (va : AV) (l : List (List AV)) (h0 : Mem) (base p k : Nat) (hk : k ≤ 8) (F : List Fr) (u : AV) (hr : SRow 5 va h0 base l) (hl : ∀ y ∈ l, ∃ k i j w s, y = ask k i j w s) (m : Nat) (ts : List AV) (h : Mem) (nx tc wr : Nat) (hi : LoI va l h0 base p k F u m ts h nx tc wr) :
    Post (xC T 200 L7_0b ts h nx 0) fun v' h' nx' tc' wr' => Round (LoI va l h0 base p k F u) (LoR h0 base p k F u) m v' h' nx' (tc ||| tc') (wr ||| wr') := by
  obtain ⟨i, L, rfl, hi, hLk, hlen, g1, g5, g6, g7, g8, hbn, s, kp⟩ := hi
  have lv := hr.lenOp
  by_cases c1 : i < l.length
  · by_cases c2 : i < 30
    · have c1' : (i : Int) < (l.length : Int) := by omega
      have c2' : (i : Int) < 30 := by omega
      have ci : IntKind.i64.wrap ((i : Int) + 1) = ((i + 1 : Nat) : Int) := by rw [IntKind.wrap_i64]; omega
      obtain ⟨bb, c, K, rfl, hb, hK, hs, hs'⟩ := hr.at c1
      obtain ⟨y0, y1, y2, y3, y4, hx⟩ := hl _ (List.getElem_mem c1)
      rw [hx] at hs hs'
      have k2 := hs' 2 _ rfl
      have k3 := hs' 3 _ rfl
      have l2 : ∀ {h' : Mem} {n' : Nat}, h'.blk bb = some K → bb < n' → ∀ lg, ldA none (.ptr bb (i * 5 + 2)) h' n' lg = some ⟨.int .i64 y2, h', n', bit lg bb, 0⟩ := fun h1 h2 lg => ld_at h1 h2 k2 lg
      have l3 : ∀ {h' : Mem} {n' : Nat}, h'.blk bb = some K → bb < n' → ∀ lg, ldA none (.ptr bb (i * 5 + 3)) h' n' lg = some ⟨.int .u32 y3, h', n', bit lg bb, 0⟩ := fun h1 h2 lg => ld_at h1 h2 k3 lg
      have kb : h.blk bb = some K := (kp bb hb).trans hK
      have m2 := fun lg => l2 kb (show bb < nx by omega) lg
      have m3 := fun lg => l3 kb (show bb < nx by omega) lg
      obtain ⟨j, j1, j2, wi⟩ := within_ex y2 (-1) 8 (by omega) (by omega) (by omega)
      have hU : (0 : Nat) < U1.length := by decide
      have hF := s.ps.hF
      have hA : (0 : Nat) < (A0.set 0 L).length := by simp [A0]
      have hB : (0 : Nat) < A0.length := by decide
      have eA : (A0.set 0 L)[0]'hA = L := by rw [List.getElem_set_self]
      have hp := s.ps.hp
      by_cases cj : 0 ≤ j ∧ j < k
      · obtain ⟨n, rfl⟩ : ∃ n : Nat, j = (n : Int) := ⟨j.toNat, by omega⟩
        obtain ⟨cj1, cj2⟩ := cj
        have cn : n < k := by omega
        have cnL : n < L.length := by omega
        have cjL : (n : Int) < (L.length : Int) := by omega
        obtain ⟨h1, nx1, tc1, wr1, x1, n1, ps1, ow1, fr1⟩ := (slot_yes s.ps 0 hU (by omega) hA hB rfl n (by rw [eA]; omega) (by rw [eA]; omega) y3).at 0 (by omega)
        have ps1' : PS h1 nx1 p F U1 1 (A0.set 0 (L.set n y3)) A0 := by
          have := ps1
          rwa [eA, List.set_set] at this
        have x1' : ∀ q, xF T (q + 80) 20 [.ptr p 0, .int .i64 0, .int .i64 n, .int .u32 y3] h nx 0 = some ⟨.bool true, h1, nx1, tc1, wr1⟩ := fun q => by simpa using x1 q
        have kb1 : h1.blk bb = some K := ((fr1 bb (by have := s.lo.1; omega) (fun h => by have := s.lo.2 bb h; omega)).2 (by omega)).trans kb
        have ru1 := s.ru.keep (h' := h1) n1 fun b hb => (fr1 b (s.nu b hb).1 (s.nu b hb).2.1).2 (s.ru.lt hb)
        obtain ⟨ub, uc, h2, rfl, hub, hst, ru2, sm⟩ := ru1.put cnL y3
        have nub := s.nu ub rfl
        have m3' := fun lg => l3 kb1 (show bb < nx1 by omega) lg
        have S : SO h2 nx1 base p F (L.set n y3) (.slc ub 0 L.length uc) := ⟨ps1'.keep (Nat.le_refl _) fun b hb => sm b (fun e => by subst e; rcases hb with hb | hb; exact nub.1 hb; exact nub.2.1 hb), ru2, s.nu, s.lo⟩
        have kk : ∀ b, b < base → h2.blk b = h0.blk b := fun b hb => by
          rw [sm b (by omega), (fr1 b (by have := s.lo.1; omega) (fun h => by have := s.lo.2 b h; omega)).2 (by omega), kp b hb]
        simp (maxSteps := 4000000) [↓step_none, ↓step_t, ↓step_f, ↓step_nt, ↓step_nf, ↓op_load, ↓op_store, ↓op_slice, ↓op_app, ↓P_skip, ↓P_exit, ↓P_ret, ↓P_seq, ↓P_cond, ↓P_blk, ↓P_reg, ↓P_draw, ↓P_nil, ↓P_cons, condP_t, condP_f, dum_ab, stepR, want_none, want_some, opRun, ev_t, ev_c, put_none, put_some, resAll, res_tmp, res_cell, oneOf, minI, maxI, min2A, max2A, mn2, mx2, mx3, rdBlk, wrBlk, newBlk, partA, abin, ibin, isShift, AV.cells, AV.one, lay, sub, fillA, lenA, toN, allApart, apartFrom, Nat.testBit, Mem.blk_set_same, Mem.blk_set_ne, Mem.set_set, bit_zero, bit_self, lowBits_or, lowBits_zero, len_setT, sl_same, sl_ne, len_frame, sl_frame,↓op_len, lenOp_slc, lenOp_nils, ↓Post.some, ↓Post_bind, ↓Post_ret, ↓Post_draw, ↓PostL_nil, ↓PostL_cons, Post_fail, ofOpt_some, ofOpt_none, eA_b, eA_i, eA_s, eA_nn, eA_np, eA_pn, eA_lnn, eA_lnp, eA_lpn, eA_i2, eA_i3, blt_dec, Nat.add_assoc, keeps_refl, keeps_at, keeps_up, new_one, and_pow, bit_hi, lowBits_pow, ble_dec, fr_refl, fr_at, fr_up, fr_p, dum_ab, L7_0b, reps, hlen, g1, g5, g6, g7, g8, c1, c1', c2', m2, m3, wi, cj1, cj2, cn, cnL, cjL, x1', m3', hst, ci]
        exact Round.nor (m' := 30 - (i + 1)) (by omega) ⟨i + 1, L.set n y3, rfl, by omega, by rw [List.length_set]; exact hLk, by simp [len_setT, sl_same, sl_ne, hlen], by simp [len_setT, sl_same, sl_ne, hlen, g1], by simp [len_setT, sl_same, sl_ne, hlen, g5], by simp [len_setT, sl_same, sl_ne, hlen, g6], by simp [len_setT, sl_same, sl_ne, hlen, g7], by simp [len_setT, sl_same, sl_ne, hlen], by omega, S, kk⟩
      · obtain ⟨tc1, x1⟩ := (slot_out s.ps 0 hU (by omega) hA rfl j y3 (by rw [eA]; omega)).at 0 (by omega)
        have x1' : ∀ q, xF T (q + 80) 20 [.ptr p 0, .int .i64 0, .int .i64 j, .int .u32 y3] h nx 0 = some ⟨.bool false, h, nx, tc1, 0⟩ := fun q => by simpa using x1 q
        by_cases cj1 : 0 ≤ j
        · have cj2 : ¬ j < k := fun h => cj ⟨cj1, h⟩
          simp (maxSteps := 4000000) [↓step_none, ↓step_t, ↓step_f, ↓step_nt, ↓step_nf, ↓op_load, ↓op_store, ↓op_slice, ↓op_app, ↓P_skip, ↓P_exit, ↓P_ret, ↓P_seq, ↓P_cond, ↓P_blk, ↓P_reg, ↓P_draw, ↓P_nil, ↓P_cons, condP_t, condP_f, dum_ab, stepR, want_none, want_some, opRun, ev_t, ev_c, put_none, put_some, resAll, res_tmp, res_cell, oneOf, minI, maxI, min2A, max2A, mn2, mx2, mx3, rdBlk, wrBlk, newBlk, partA, abin, ibin, isShift, AV.cells, AV.one, lay, sub, fillA, lenA, toN, allApart, apartFrom, Nat.testBit, Mem.blk_set_same, Mem.blk_set_ne, Mem.set_set, bit_zero, bit_self, lowBits_or, lowBits_zero, len_setT, sl_same, sl_ne, len_frame, sl_frame,↓op_len, lenOp_slc, lenOp_nils, ↓Post.some, ↓Post_bind, ↓Post_ret, ↓Post_draw, ↓PostL_nil, ↓PostL_cons, Post_fail, ofOpt_some, ofOpt_none, eA_b, eA_i, eA_s, eA_nn, eA_np, eA_pn, eA_lnn, eA_lnp, eA_lpn, eA_i2, eA_i3, blt_dec, Nat.add_assoc, keeps_refl, keeps_at, keeps_up, new_one, and_pow, bit_hi, lowBits_pow, ble_dec, fr_refl, fr_at, fr_up, fr_p, dum_ab, L7_0b, reps, hlen, g1, g5, g6, g7, g8, c1, c1', c2', m2, m3, wi, cj1, cj2, x1', ci]
          exact Round.nor (m' := 30 - (i + 1)) (by omega) ⟨i + 1, L, rfl, by omega, hLk, by simp [len_setT, sl_same, sl_ne, hlen], by simp [len_setT, sl_same, sl_ne, hlen, g1], by simp [len_setT, sl_same, sl_ne, hlen, g5], by simp [len_setT, sl_same, sl_ne, hlen, g6], by simp [len_setT, sl_same, sl_ne, hlen, g7], by simp [len_setT, sl_same, sl_ne, hlen], hbn, s, kp⟩
        · simp (maxSteps := 4000000) [↓step_none, ↓step_t, ↓step_f, ↓step_nt, ↓step_nf, ↓op_load, ↓op_store, ↓op_slice, ↓op_app, ↓P_skip, ↓P_exit, ↓P_ret, ↓P_seq, ↓P_cond, ↓P_blk, ↓P_reg, ↓P_draw, ↓P_nil, ↓P_cons, condP_t, condP_f, dum_ab, stepR, want_none, want_some, opRun, ev_t, ev_c, put_none, put_some, resAll, res_tmp, res_cell, oneOf, minI, maxI, min2A, max2A, mn2, mx2, mx3, rdBlk, wrBlk, newBlk, partA, abin, ibin, isShift, AV.cells, AV.one, lay, sub, fillA, lenA, toN, allApart, apartFrom, Nat.testBit, Mem.blk_set_same, Mem.blk_set_ne, Mem.set_set, bit_zero, bit_self, lowBits_or, lowBits_zero, len_setT, sl_same, sl_ne, len_frame, sl_frame,↓op_len, lenOp_slc, lenOp_nils, ↓Post.some, ↓Post_bind, ↓Post_ret, ↓Post_draw, ↓PostL_nil, ↓PostL_cons, Post_fail, ofOpt_some, ofOpt_none, eA_b, eA_i, eA_s, eA_nn, eA_np, eA_pn, eA_lnn, eA_lnp, eA_lpn, eA_i2, eA_i3, blt_dec, Nat.add_assoc, keeps_refl, keeps_at, keeps_up, new_one, and_pow, bit_hi, lowBits_pow, ble_dec, fr_refl, fr_at, fr_up, fr_p, dum_ab, L7_0b, reps, hlen, g1, g5, g6, g7, g8, c1, c1', c2', m2, m3, wi, cj1, x1', ci]
          exact Round.nor (m' := 30 - (i + 1)) (by omega) ⟨i + 1, L, rfl, by omega, hLk, by simp [len_setT, sl_same, sl_ne, hlen], by simp [len_setT, sl_same, sl_ne, hlen, g1], by simp [len_setT, sl_same, sl_ne, hlen, g5], by simp [len_setT, sl_same, sl_ne, hlen, g6], by simp [len_setT, sl_same, sl_ne, hlen, g7], by simp [len_setT, sl_same, sl_ne, hlen], hbn, s, kp⟩
    · have c1' : (i : Int) < (l.length : Int) := by omega
      have c2' : ¬ (i : Int) < 30 := by omega
      simp (maxSteps := 4000000) [↓step_none, ↓step_t, ↓step_f, ↓step_nt, ↓step_nf, ↓op_load, ↓op_store, ↓op_slice, ↓op_app, ↓P_skip, ↓P_exit, ↓P_ret, ↓P_seq, ↓P_cond, ↓P_blk, ↓P_reg, ↓P_draw, ↓P_nil, ↓P_cons, condP_t, condP_f, dum_ab, stepR, want_none, want_some, opRun, ev_t, ev_c, put_none, put_some, resAll, res_tmp, res_cell, oneOf, minI, maxI, min2A, max2A, mn2, mx2, mx3, rdBlk, wrBlk, newBlk, partA, abin, ibin, isShift, AV.cells, AV.one, lay, sub, fillA, lenA, toN, allApart, apartFrom, Nat.testBit, Mem.blk_set_same, Mem.blk_set_ne, Mem.set_set, bit_zero, bit_self, lowBits_or, lowBits_zero, len_setT, sl_same, sl_ne, len_frame, sl_frame,↓op_len, lenOp_slc, lenOp_nils, ↓Post.some, ↓Post_bind, ↓Post_ret, ↓Post_draw, ↓PostL_nil, ↓PostL_cons, Post_fail, ofOpt_some, ofOpt_none, eA_b, eA_i, eA_s, eA_nn, eA_np, eA_pn, eA_lnn, eA_lnp, eA_lpn, eA_i2, eA_i3, blt_dec, Nat.add_assoc, keeps_refl, keeps_at, keeps_up, new_one, and_pow, bit_hi, lowBits_pow, ble_dec, fr_refl, fr_at, fr_up, fr_p, dum_ab, L7_0b, hlen, g1, g8, lv, c1', c2']
      exact Round.exit (R := LoR h0 base p k F u) ⟨rfl, L, hLk, by simp [len_setT, sl_same, sl_ne, hlen], by simp [len_setT, sl_same, sl_ne, hlen, g5], by simp [len_setT, sl_same, sl_ne, hlen, g7], hbn, s, kp⟩
  · have c1' : ¬ (i : Int) < (l.length : Int) := by omega
    simp (maxSteps := 4000000) [↓step_none, ↓step_t, ↓step_f, ↓step_nt, ↓step_nf, ↓op_load, ↓op_store, ↓op_slice, ↓op_app, ↓P_skip, ↓P_exit, ↓P_ret, ↓P_seq, ↓P_cond, ↓P_blk, ↓P_reg, ↓P_draw, ↓P_nil, ↓P_cons, condP_t, condP_f, dum_ab, stepR, want_none, want_some, opRun, ev_t, ev_c, put_none, put_some, resAll, res_tmp, res_cell, oneOf, minI, maxI, min2A, max2A, mn2, mx2, mx3, rdBlk, wrBlk, newBlk, partA, abin, ibin, isShift, AV.cells, AV.one, lay, sub, fillA, lenA, toN, allApart, apartFrom, Nat.testBit, Mem.blk_set_same, Mem.blk_set_ne, Mem.set_set, bit_zero, bit_self, lowBits_or, lowBits_zero, len_setT, sl_same, sl_ne, len_frame, sl_frame,↓op_len, lenOp_slc, lenOp_nils, ↓Post.some, ↓Post_bind, ↓Post_ret, ↓Post_draw, ↓PostL_nil, ↓PostL_cons, Post_fail, ofOpt_some, ofOpt_none, eA_b, eA_i, eA_s, eA_nn, eA_np, eA_pn, eA_lnn, eA_lnp, eA_lpn, eA_i2, eA_i3, blt_dec, Nat.add_assoc, keeps_refl, keeps_at, keeps_up, new_one, and_pow, bit_hi, lowBits_pow, ble_dec, fr_refl, fr_at, fr_up, fr_p, dum_ab, L7_0b, hlen, g1, g8, lv, c1']
    exact Round.exit (R := LoR h0 base p k F u) ⟨rfl, L, hLk, by simp [len_setT, sl_same, sl_ne, hlen], by simp [len_setT, sl_same, sl_ne, hlen, g5], by simp [len_setT, sl_same, sl_ne, hlen, g7], hbn, s, kp⟩
end Go.Proofs.YtobcboiemibkkaaT
