/- Frame: FrameStacks (printed by genst.py). -/
import Derived.Test.YtobcboiemibkkaaStacks
namespace Go.Proofs.YtobcboiemibkkaaT
open Go Go.Proofs.YtobcboiemibkkaaE Go.Proofs.YtobcboiemibkkaaB
set_option linter.unusedSimpArgs false
set_option linter.unusedVariables false
attribute [local congr] Post_cg PostL_cg condP_cg

set_option maxHeartbeats 16000000 in
theorem sk_round1 (v vb : AV) (l : List Int) (K : List Bool) (h0 : Mem) (base : Nat) (hr : IRow .u32 v h0 base l) (hk : SRow 1 vb h0 base (bl K)) (j p w : Nat) (F : List Fr) (b0 b1 : List Int) (x0 x1 : AV) (ts : List AV) (h : Mem) (nx tc wr : Nat)
    (hj : j < 40) (hjl : j < l.length) (hjK : j < K.length) (hlen : ts.length = 169) (g0 : sl ts 0 = v) (g1 : sl ts 1 = vb) (g5 : sl ts 5 = .ptr p 0) (g6 : sl ts 6 = .ptr w 0) (g7 : sl ts 7 = .int .i64 j) (hbn : base ≤ nx) (s : ST h nx base p w F b0 b1 x0 x1) (kp : ∀ b, b < base → h.blk b = h0.blk b) (hK : K[j] = true) :
    Post (xC T 200 L6_0b ts h nx 0) fun v' h' nx' tc' wr' => Round (SkI v vb h0 base) (SkR h0 base) (40 - j) v' h' nx' (tc ||| tc') (wr ||| wr') := by
  have c1' : (j : Int) < (l.length : Int) := by omega
  have c2' : (j : Int) < (K.length : Int) := by omega
  have c3' : (j : Int) < 40 := by omega
  have ci : IntKind.i64.wrap ((j : Int) + 1) = ((j + 1 : Nat) : Int) := by rw [IntKind.wrap_i64]; omega
  have lv := rv_op hr
  have lb := br_op hk
  obtain ⟨y, hy⟩ : ∃ y, y = l[j] := ⟨_, rfl⟩
  have keepR : ∀ {h' : Mem} {n' : Nat}, base ≤ n' → (∀ b, b < base → h'.blk b = h0.blk b) → (∃ bb c, v = .slc bb 0 l.length c ∧ bb < base ∧ ∀ lg, ldA none (.ptr bb j) h' n' lg = some ⟨.int .u32 y, h', n', bit lg bb, 0⟩) := fun hn' e => by
    rw [hy]
    obtain ⟨bb, c, Kb, e1, hb, hKb, hc⟩ := hr.at hjl
    exact ⟨bb, c, e1, hb, fun lg => ld_at ((e bb hb).trans hKb) (by omega) hc lg⟩
  obtain ⟨bb, c, rfl, hbb, lw⟩ := keepR hbn kp
  obtain ⟨bc, cc, rfl, hbc, lk⟩ := brow (hk.keep hbn kp) hjK
  rw [hK] at lk
  have cj : j < 40 := hj
  obtain ⟨l1, l2, l3, l4, l5⟩ := s.lo
  obtain ⟨len0, len1⟩ := s.len
  have wlt := s.wn.1
  have hp := s.ps.hp
  have pw : p ≠ w := Ne.symm s.wn.2.1
  have bbw : bb ≠ w := by omega
  have lw1 := fun lg => w_ld1 s.wb wlt lg
  have lx := s.r1.lenOp
  have fin : ∀ {ts' : List AV} {h' : Mem} {nx' tc' wr' : Nat} {F' : List Fr} {c0 c1 : List Int} {y0 y1 : AV}, ts'.length = 169 → sl ts' 0 = .slc bb 0 l.length c → sl ts' 1 = .slc bc 0 K.length cc → sl ts' 5 = .ptr p 0 → sl ts' 6 = .ptr w 0 → sl ts' 7 = .int .i64 ((j + 1 : Nat) : Int) → base ≤ nx' → ST h' nx' base p w F' c0 c1 y0 y1 → (∀ b, b < base → h'.blk b = h0.blk b) → Round (SkI (.slc bb 0 l.length c) (.slc bc 0 K.length cc) h0 base) (SkR h0 base) (40 - j) (.nor, ts') h' nx' tc' wr' := fun a b c d e f g hs k => Round.nor (m' := 40 - (j + 1)) (by omega) ⟨j + 1, p, w, _, _, _, _, _, rfl, by omega, a, b, c, d, e, f, g, hs, k⟩
  have push : b1.length < 8 → ∀ {P : Prop}, (∀ (st xx : AV) (h1 h2 : Mem) (nx1 nx2 tc1 wr1 tc2 wr2 : Nat), (∀ q, xF T (q + 80) 17 [.ptr p 0, .int .i64 1, .int .u32 y] h nx nx = some ⟨.bool true, h1, nx1, tc1, wr1⟩) → nx ≤ nx1 → nx1 + 1 ≤ nx2 → h1.blk w = some ⟨41, 2, true, false, [x0, x1]⟩ → wr1 &&& 2 ^ w = 0 → wr1 &&& 2 ^ bb = 0 → (∀ lg, ldA none (.ptr bb j) h1 nx1 lg = some ⟨.int .u32 y, h1, nx1, bit lg bb, 0⟩) → appOp 23 1 4 x1 (.slc nx1 0 1 (some 1)) (h1.set nx1 (some ⟨23, 1, true, false, [.int .u32 y]⟩)) (nx1 + 1) (nx1 + 1) = some ⟨xx, h2, nx2, tc2, wr2⟩ → h2.blk w = some ⟨41, 2, true, false, [x0, x1]⟩ → xx.cells = [xx] → xx.one = true → (∃ q n, xx = .slc q 0 n none) → wr2 &&& 2 ^ w = 0 → ST (h2.set w (some ⟨41, 2, true, false, [x0, xx]⟩)) nx2 base p w (F.set 1 { (F[1]'(by have := s.ps.hF; omega)) with st := st }) b0 (b1 ++ [y]) x0 xx → (∀ b, b < base → (h2.set w (some ⟨41, 2, true, false, [x0, xx]⟩)).blk b = h0.blk b) → P) → P := by
    intro hlt P hP
    have hF := s.ps.hF
    obtain ⟨st, cP⟩ := push_yes s.ps 1 (by decide) (by omega) (show 1 < 24 by omega) (show 1 < 24 by omega) (by decide) y (show b1.length < 8 from hlt)
    obtain ⟨h1, nx1, tc1, wr1, y1, n1, ps1, ow1, fr1⟩ := cP.at nx (Nat.le_refl _)
    have ps1' : PS h1 nx1 p (F.set 1 { (F[1]'(by omega)) with st := st }) U2 2 A2 (B2 b0 (b1 ++ [y])) := ps1
    obtain ⟨_, wb1, ra, rb, wn1, m0, m1, lo1, kp1, ww1⟩ := s.call hbn ps1' n1 ow1 fr1
    have bw1 : wr1 &&& 2 ^ bb = 0 := (fr1 bb (by omega) (fun h => by have := l3 bb h; omega)).1
    obtain ⟨_, _, e9, _, ly1⟩ := keepR (h' := h1) (n' := nx1) (by omega) (fun b hb => (kp1 b hb).trans (kp b hb))
    cases e9
    have hH : (h1.set nx1 (some ⟨23, 1, true, false, u32s [y]⟩)).blk nx1 = some ⟨23, 1, true, false, u32s [y]⟩ := Mem.blk_set_same ..
    have rk := rb
    have rk' : OR x1 (h1.set nx1 (some ⟨23, 1, true, false, u32s [y]⟩)) (nx1 + 1) b1 := rk.keep (by omega) fun b e => Mem.blk_set_ne _ _ _ _ (by have := rk.lt e; omega)
    have gx : RV 1 [y].length (.slc nx1 0 [y].length (some 1)) (h1.set nx1 (some ⟨23, 1, true, false, u32s [y]⟩)) 0 (nx1 + 1) (u32s [y]) := rv_lit (by omega) hH _
    obtain ⟨xx, h2, nx2, tc2, wr2, e, e1, e2, e3, e4, e5, e6⟩ := cat_or rk' gx (by simp; omega) (nx1 + 1)
    have fr2 : ∀ b, b < nx1 → bid x1 ≠ some b → h2.blk b = h1.blk b := fun b hb hne => by rw [e3 b (by omega) hne, Mem.blk_set_ne _ _ _ _ (by omega)]
    have nxw : bid x1 ≠ some w := fun h => (s.n1 w h).2.1 rfl
    have wb2 : h2.blk w = some ⟨41, 2, true, false, [x0, x1]⟩ := by rw [fr2 w (by omega) nxw, wb1]
    obtain ⟨q7, n7, rfl⟩ : ∃ q n, xx = .slc q 0 n none := by
      rcases e2 with ⟨_, h0⟩ | ⟨_, _, h0, _⟩ | ⟨b, t, r, rfl, _⟩
      · simp at h0
      · simp at h0
      · exact ⟨_, _, rfl⟩
    have wx : ∀ b, bid (AV.slc q7 0 n7 none) = some b → b ≠ w := fun b h => by
      rcases e4 b h with h | h
      · exact (s.n1 b h).2.1
      · omega
    have hxx : bid (AV.slc q7 0 n7 none) = bid x1 ∨ ∀ b, bid (AV.slc q7 0 n7 none) = some b → nx1 ≤ b := by
      rcases e4 q7 rfl with h | h
      · exact .inl h.symm
      · exact .inr fun b hb => by cases hb; omega
    have S := ST.want1 (h' := h2) (c := b1 ++ [y]) (xx := .slc q7 0 n7 none) ps1' ra wn1 m0 m1 s.nn ⟨l1, l2, lo1, l4, l5⟩ (by omega) (show nx1 ≤ nx2 by omega) hxx (e2.keep (Nat.le_refl _) fun b hb => Mem.blk_set_ne _ _ _ _ (wx b hb)) fr2 ⟨by simp; omega, len0⟩
    simp only [u32s, List.map_cons, List.map_nil, List.length_singleton] at e
    refine hP st _ h1 h2 nx1 nx2 tc1 wr1 tc2 wr2 (fun q => by simpa using y1 q) n1 e1 wb1 ww1 bw1 ly1 e wb2 rfl rfl ⟨_, _, rfl⟩ (e6 w nxw) S fun b hb => ?_
    rw [Mem.blk_set_ne _ _ _ _ (by omega), fr2 b (by omega) (fun h => by have := l5 b h; omega), kp1 b hb, kp b hb]
  have full : ¬ b1.length < 8 → ∃ tc1, ∀ q, xF T (q + 80) 17 [.ptr p 0, .int .i64 1, .int .u32 y] h nx nx = some ⟨.bool false, h, nx, tc1, 0⟩ := by
    intro hlt
    have hF := s.ps.hF
    obtain ⟨tc1, y1⟩ := (push_full s.ps 1 (by decide) (by omega) (show 1 < 24 by omega) (by decide) y (show 8 ≤ b1.length by omega)).at nx (Nat.le_refl _)
    exact ⟨tc1, fun q => by simpa using y1 q⟩
  have other : ∀ (z3 : (y.tmod 3 == 0) = false ∨ b1 = []), Post (xC T 200 L6_0b ts h nx 0) fun v' h' nx' tc' wr' => Round (SkI (.slc bb 0 l.length c) (.slc bc 0 K.length cc) h0 base) (SkR h0 base) (40 - j) v' h' nx' (tc ||| tc') (wr ||| wr') := by
    intro z3
    have lwT : ∀ {h1 : Mem} {n1 : Nat}, h1.blk w = some ⟨41, 2, true, false, [x0, x1]⟩ → w < n1 → ∀ lg, ldA none (.ptr w 1) h1 n1 lg = some ⟨x1, h1, n1, bit lg w, 0⟩ := fun hb hn lg => w_ld1 hb hn lg
    by_cases hlt : b1.length < 8
    · have c8 : (b1.length : Int) < 8 := by omega
      refine push hlt fun st xx h1 h2 nx1 nx2 tc1 wr1 tc2 wr2 y1 n1 n2 wb1 ww1 bw1 ly1 e wb2 hx1 hx2 hx3 ww2 S kk => ?_
      have a1 := fun lg => lwT wb1 (show w < nx1 by omega) lg
      obtain ⟨q7, n7, rfl⟩ := hx3
      have s1 := fun lg => w_st1 wb2 (show w < nx2 by omega) (xx := .slc q7 0 n7 none) rfl rfl lg
      rcases z3 with z3 | z3
      · by_cases c0 : b1.length = 0
        all_goals
          simp (maxSteps := 4000000) [↓step_none, ↓step_t, ↓step_f, ↓step_nt, ↓step_nf, ↓op_load, ↓op_store, ↓op_slice, ↓op_app, ↓P_skip, ↓P_exit, ↓P_ret, ↓P_seq, ↓P_cond, ↓P_blk, ↓P_reg, ↓P_draw, ↓P_nil, ↓P_cons, condP_t, condP_f, dum_ab, stepR, want_none, want_some, opRun, ev_t, ev_c, put_none, put_some, resAll, res_tmp, res_cell, oneOf, minI, maxI, min2A, max2A, mn2, mx2, mx3, rdBlk, wrBlk, newBlk, partA, abin, ibin, isShift, AV.cells, AV.one, lay, sub, fillA, lenA, toN, allApart, apartFrom, Nat.testBit, Mem.blk_set_same, Mem.blk_set_ne, Mem.set_set, bit_zero, bit_self, lowBits_or, lowBits_zero, len_setT, sl_same, sl_ne, len_frame, sl_frame,↓op_len, lenOp_slc, lenOp_nils, ↓Post.some, ↓Post_bind, ↓Post_ret, ↓Post_draw, ↓PostL_nil, ↓PostL_cons, Post_fail, ofOpt_some, ofOpt_none, eA_b, eA_i, eA_s, eA_nn, eA_np, eA_pn, eA_lnn, eA_lnp, eA_lpn, eA_i2, eA_i3, blt_dec, Nat.add_assoc, keeps_refl, keeps_at, keeps_up, new_one, and_pow, bit_hi, lowBits_pow, ble_dec, fr_refl, fr_at, fr_up, fr_p, dum_ab, L6_0b, reps, hlen, g0, g1, g5, g6, g7, lv, lb, c1', c2', c3', hjl, hjK, cj, lk, lw, z3, lw1, lx, y1, a1, c8, hlt, ly1, e, s1, ci]
          rw [bit_hi (show w < nx1 by omega)]
          exact ⟨or_z ww1 (new_lo wlt), and_pow (by omega), fin (by simp [len_setT, sl_same, sl_ne, hlen]) (by simp [len_setT, sl_same, sl_ne, hlen, g0]) (by simp [len_setT, sl_same, sl_ne, hlen, g1]) (by simp [len_setT, sl_same, sl_ne, hlen, g5]) (by simp [len_setT, sl_same, sl_ne, hlen, g6]) (by simp [len_setT, sl_same, sl_ne, hlen]) (by omega) S kk⟩
      · rw [z3] at lx c8 hlt
        simp only [List.length_nil] at lx c8 hlt
        cases z4 : (y.tmod 3 == 0)
        all_goals
          simp (maxSteps := 4000000) [↓step_none, ↓step_t, ↓step_f, ↓step_nt, ↓step_nf, ↓op_load, ↓op_store, ↓op_slice, ↓op_app, ↓P_skip, ↓P_exit, ↓P_ret, ↓P_seq, ↓P_cond, ↓P_blk, ↓P_reg, ↓P_draw, ↓P_nil, ↓P_cons, condP_t, condP_f, dum_ab, stepR, want_none, want_some, opRun, ev_t, ev_c, put_none, put_some, resAll, res_tmp, res_cell, oneOf, minI, maxI, min2A, max2A, mn2, mx2, mx3, rdBlk, wrBlk, newBlk, partA, abin, ibin, isShift, AV.cells, AV.one, lay, sub, fillA, lenA, toN, allApart, apartFrom, Nat.testBit, Mem.blk_set_same, Mem.blk_set_ne, Mem.set_set, bit_zero, bit_self, lowBits_or, lowBits_zero, len_setT, sl_same, sl_ne, len_frame, sl_frame,↓op_len, lenOp_slc, lenOp_nils, ↓Post.some, ↓Post_bind, ↓Post_ret, ↓Post_draw, ↓PostL_nil, ↓PostL_cons, Post_fail, ofOpt_some, ofOpt_none, eA_b, eA_i, eA_s, eA_nn, eA_np, eA_pn, eA_lnn, eA_lnp, eA_lpn, eA_i2, eA_i3, blt_dec, Nat.add_assoc, keeps_refl, keeps_at, keeps_up, new_one, and_pow, bit_hi, lowBits_pow, ble_dec, fr_refl, fr_at, fr_up, fr_p, dum_ab, L6_0b, reps, hlen, g0, g1, g5, g6, g7, lv, lb, c1', c2', c3', hjl, hjK, cj, lk, lw, z4, lw1, lx, y1, a1, c8, hlt, ly1, e, s1, ci]
          rw [bit_hi (show w < nx1 by omega)]
          exact ⟨or_z ww1 (new_lo wlt), and_pow (by omega), fin (by simp [len_setT, sl_same, sl_ne, hlen]) (by simp [len_setT, sl_same, sl_ne, hlen, g0]) (by simp [len_setT, sl_same, sl_ne, hlen, g1]) (by simp [len_setT, sl_same, sl_ne, hlen, g5]) (by simp [len_setT, sl_same, sl_ne, hlen, g6]) (by simp [len_setT, sl_same, sl_ne, hlen]) (by omega) S kk⟩
    · have c8 : ¬ (b1.length : Int) < 8 := by omega
      obtain ⟨tc1, y1⟩ := full hlt
      rcases z3 with z3 | z3
      · by_cases c0 : b1.length = 0
        all_goals
          simp (maxSteps := 4000000) [↓step_none, ↓step_t, ↓step_f, ↓step_nt, ↓step_nf, ↓op_load, ↓op_store, ↓op_slice, ↓op_app, ↓P_skip, ↓P_exit, ↓P_ret, ↓P_seq, ↓P_cond, ↓P_blk, ↓P_reg, ↓P_draw, ↓P_nil, ↓P_cons, condP_t, condP_f, dum_ab, stepR, want_none, want_some, opRun, ev_t, ev_c, put_none, put_some, resAll, res_tmp, res_cell, oneOf, minI, maxI, min2A, max2A, mn2, mx2, mx3, rdBlk, wrBlk, newBlk, partA, abin, ibin, isShift, AV.cells, AV.one, lay, sub, fillA, lenA, toN, allApart, apartFrom, Nat.testBit, Mem.blk_set_same, Mem.blk_set_ne, Mem.set_set, bit_zero, bit_self, lowBits_or, lowBits_zero, len_setT, sl_same, sl_ne, len_frame, sl_frame,↓op_len, lenOp_slc, lenOp_nils, ↓Post.some, ↓Post_bind, ↓Post_ret, ↓Post_draw, ↓PostL_nil, ↓PostL_cons, Post_fail, ofOpt_some, ofOpt_none, eA_b, eA_i, eA_s, eA_nn, eA_np, eA_pn, eA_lnn, eA_lnp, eA_lpn, eA_i2, eA_i3, blt_dec, Nat.add_assoc, keeps_refl, keeps_at, keeps_up, new_one, and_pow, bit_hi, lowBits_pow, ble_dec, fr_refl, fr_at, fr_up, fr_p, dum_ab, L6_0b, reps, hlen, g0, g1, g5, g6, g7, lv, lb, c1', c2', c3', hjl, hjK, cj, lk, lw, z3, lw1, lx, y1, c8, hlt, ci]
          exact fin (by simp [len_setT, sl_same, sl_ne, hlen]) (by simp [len_setT, sl_same, sl_ne, hlen, g0]) (by simp [len_setT, sl_same, sl_ne, hlen, g1]) (by simp [len_setT, sl_same, sl_ne, hlen, g5]) (by simp [len_setT, sl_same, sl_ne, hlen, g6]) (by simp [len_setT, sl_same, sl_ne, hlen]) hbn s kp
      · rw [z3] at hlt; simp at hlt
  cases z4 : (y.tmod 3 == 0) with
  | false => exact other (.inl z4)
  | true =>
    rcases List.eq_nil_or_concat b1 with z5 | ⟨l', x, z5⟩
    · exact other (.inr z5)
    · clear other push full
      rw [List.concat_eq_append] at z5
      subst z5
      have hF := s.ps.hF
      obtain ⟨st, cP⟩ := pop_yes s.ps 1 (by decide) (by omega) (show 1 < 24 by omega) (show 1 < 24 by omega) (by decide) (l := l') (x := x) rfl (by simp at len1; omega)
      obtain ⟨h1, nx1, tc1, wr1, y1, n1, ps1, ow1, fr1⟩ := cP.at 0 (by omega)
      have y1' : ∀ q, xF T (q + 80) 16 [.ptr p 0, .int .i64 1] h nx 0 = some ⟨.tup [.int .u32 x, .bool true], h1, nx1, tc1, wr1⟩ := fun q => by simpa using y1 q
      have ps1' : PS h1 nx1 p (F.set 1 { (F[1]'(by omega)) with st := st }) U2 2 A2 (B2 b0 l') := ps1
      obtain ⟨_, wb1, ra, rb, wn1, m0, m1, lo1, kp1, ww1⟩ := s.call hbn ps1' n1 ow1 fr1
      have rk := rb
      obtain ⟨qb, qt, qr, hst, hqn, hqK, cut⟩ := cut_or rk
      have dn := s.n1
      have ro' := ra
      have nn := s.nn
      subst hst
      have nqw : qb ≠ w := (dn qb rfl).2.1
      have a1 := fun lg => w_ld1 wb1 (show w < nx1 by omega) lg
      have a2 := fun lg => ld_at hqK hqn (o := l'.length) (v := .int .u32 x) (by rw [List.getElem?_append_right (by rw [u32s_len]; exact Nat.le_refl _), u32s_len, Nat.sub_self]; rfl) lg
      have s1 := fun lg => w_st1 wb1 (show w < nx1 by omega) (xx := .slc qb 0 l'.length none) rfl rfl lg
      have w3 : IntKind.i64.wrap (l'.length : Int) = (l'.length : Int) := by rw [IntKind.wrap_i64]; simp at len1; omega
      have c6 : (l'.length : Int) < (l'.length : Int) + 1 := by omega
      have c7 : (0 : Int) < (l'.length : Int) + 1 := by omega
      have S := ST.want1 (h' := h1) (c := l') (xx := .slc qb 0 l'.length none) ps1' ro' wn1 m0 m1 nn ⟨l1, l2, lo1, l4, l5⟩ (by omega) (Nat.le_refl nx1) (.inl rfl) (.inr (.inr ⟨qb, qt, .int .u32 x :: qr, rfl, hqn, by rw [Mem.blk_set_ne _ _ _ _ nqw]; exact hqK⟩)) (fun b _ _ => rfl) ⟨by simp at len1; omega, len0⟩
      simp (maxSteps := 4000000) [↓step_none, ↓step_t, ↓step_f, ↓step_nt, ↓step_nf, ↓op_load, ↓op_store, ↓op_slice, ↓op_app, ↓P_skip, ↓P_exit, ↓P_ret, ↓P_seq, ↓P_cond, ↓P_blk, ↓P_reg, ↓P_draw, ↓P_nil, ↓P_cons, condP_t, condP_f, dum_ab, stepR, want_none, want_some, opRun, ev_t, ev_c, put_none, put_some, resAll, res_tmp, res_cell, oneOf, minI, maxI, min2A, max2A, mn2, mx2, mx3, rdBlk, wrBlk, newBlk, partA, abin, ibin, isShift, AV.cells, AV.one, lay, sub, fillA, lenA, toN, allApart, apartFrom, Nat.testBit, Mem.blk_set_same, Mem.blk_set_ne, Mem.set_set, bit_zero, bit_self, lowBits_or, lowBits_zero, len_setT, sl_same, sl_ne, len_frame, sl_frame,↓op_len, lenOp_slc, lenOp_nils, ↓Post.some, ↓Post_bind, ↓Post_ret, ↓Post_draw, ↓PostL_nil, ↓PostL_cons, Post_fail, ofOpt_some, ofOpt_none, eA_b, eA_i, eA_s, eA_nn, eA_np, eA_pn, eA_lnn, eA_lnp, eA_lpn, eA_i2, eA_i3, blt_dec, Nat.add_assoc, keeps_refl, keeps_at, keeps_up, new_one, and_pow, bit_hi, lowBits_pow, ble_dec, fr_refl, fr_at, fr_up, fr_p, dum_ab, L6_0b, reps, hlen, g0, g1, g5, g6, g7, lv, lb, c1', c2', c3', hjl, hjK, cj, lk, lw, z4, lw1, y1', a1, a2, c6, c7, w3, cut, s1, ci]
      exact fin (by simp [len_setT, sl_same, sl_ne, hlen]) (by simp [len_setT, sl_same, sl_ne, hlen, g0]) (by simp [len_setT, sl_same, sl_ne, hlen, g1]) (by simp [len_setT, sl_same, sl_ne, hlen, g5]) (by simp [len_setT, sl_same, sl_ne, hlen, g6]) (by simp [len_setT, sl_same, sl_ne, hlen]) (by omega) S fun b hb => by rw [Mem.blk_set_ne _ _ _ _ (by omega), kp1 b hb, kp b hb]
end Go.Proofs.YtobcboiemibkkaaT
