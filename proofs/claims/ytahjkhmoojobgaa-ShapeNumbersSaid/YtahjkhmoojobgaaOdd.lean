/- Shape: odd. -/
import Derived.Test.YtahjkhmoojobgaaFields
namespace Go.Proofs.YtahjkhmoojobgaaT
open Go Go.Proofs.YtahjkhmoojobgaaE Go.Proofs.YtahjkhmoojobgaaB
set_option linter.unusedSimpArgs false
set_option linter.unusedVariables false
attribute [local congr] Post_cg PostL_cg condP_cg

/-- Classes with binds that are few, names that are short. -/
structure Few (bb : Nat) (L : List C) : Prop where
  b : ∀ c ∈ L, c.B.length ≤ bb
theorem Few.mono {bb bb' : Nat} {L : List C} (f : Few bb L) (h : bb ≤ bb') : Few bb' L := ⟨fun c hc => by have := f.b c hc; omega⟩
theorem Few.set {bb : Nat} {L : List C} (f : Few bb L) (i : Nat) (c : C) (h : c.B.length ≤ bb) : Few bb (L.set i c) := ⟨fun x hx => by
  rcases List.mem_or_eq_of_mem_set hx with hx | rfl
  · exact f.b x hx
  · exact h⟩
theorem bnds_one : ∀ B : List (Int × Int), (bnds B).flatten.all AV.one = true
  | [] => rfl
  | x :: B => by
    have := bnds_one B
    unfold bnds at this ⊢
    rw [List.map_cons, List.flatten_cons, List.all_append, this]
    rfl
def nm4 : List AV := [.str ⟨⟨[]⟩⟩, .str ⟨⟨[65]⟩⟩, .str ⟨⟨[115, 105, 120, 116, 101, 101, 110, 95, 108, 101, 116, 116, 101, 114, 115, 95]⟩⟩, .str ⟨⟨[115, 101, 118, 101, 110, 116, 101, 101, 110, 95, 108, 101, 116, 116, 101, 114, 115]⟩⟩]
theorem bnds_rep : ∀ m, (bnds (List.replicate m ((0 : Int), (0 : Int)))).flatten = reps m [.int .i64 0, .int .i64 0]
  | 0 => rfl
  | m + 1 => by
    have := bnds_rep m
    unfold bnds at this ⊢
    rw [List.replicate_succ, List.map_cons, List.flatten_cons, this]
    rfl
theorem css_wb (L : List C) (k : Nat) (c : C) (u : AV) (B B' : List (Int × Int)) : css (L.set k (c.wb u B)) = css (L.set k (c.wb u B')) := by rw [css_set, css_set]; rfl
def O5I (L : List C) (u1 : AV) (k m cb x : Nat) (h1 : Mem) (nx1 lo : Nat) (X : C) (mm : Nat) (ts : List AV) (h : Mem) (nx tc wr : Nat) : Prop := ∃ (j : Nat) (B : List (Int × Int)), mm = m - j ∧ j ≤ m ∧ ts.length = 129 ∧ sl ts 9 = u1 ∧ sl ts 10 = .int .i64 k ∧ sl ts 102 = .int .i64 m ∧ sl ts 103 = .int .i64 j ∧ OW 4 u1 h nx (css (L.set k (X.wb (.slc x 0 m (some m)) []))) ∧ OW 2 (.slc x 0 m (some m)) h nx (bnds B) ∧ B.length = m ∧ nx1 ≤ nx ∧ (∀ q, q < nx1 → ¬ q = cb → h.blk q = h1.blk q) ∧ ∀ q, q < lo → wr &&& 2 ^ q = 0
def O5R (L : List C) (u1 : AV) (k m cb x : Nat) (h1 : Mem) (nx1 lo : Nat) (X : C) (e : Ex) (ts : List AV) (h : Mem) (nx tc wr : Nat) : Prop := e = .exit 1 ∧ ∃ (B : List (Int × Int)), ts.length = 129 ∧ sl ts 9 = u1 ∧ OW 4 u1 h nx (css (L.set k (X.wb (.slc x 0 m (some m)) []))) ∧ OW 2 (.slc x 0 m (some m)) h nx (bnds B) ∧ B.length = m ∧ nx1 ≤ nx ∧ (∀ q, q < nx1 → ¬ q = cb → h.blk q = h1.blk q) ∧ ∀ q, q < lo → wr &&& 2 ^ q = 0
set_option maxHeartbeats 8000000 in
theorem o5_round {L : List C} {u1 : AV} {k m cb x : Nat} (hk : k < L.length) (hcb : bid u1 = some cb) (hm : m < 32) (hcx : cb ≠ x) {h1 : Mem} {nx1 : Nat} (hx1 : nx1 ≤ x) {lo : Nat} (hlo : lo ≤ nx1) (X : C) (lg : Nat) (mm : Nat) (ts : List AV) (h : Mem) (nx tc wr : Nat) (hi : O5I L u1 k m cb x h1 nx1 lo X mm ts h nx tc wr) :
    Post (xC T 60 L11_0b ts h nx lg) fun v' h' nx' tc' wr' => Round (O5I L u1 k m cb x h1 nx1 lo X) (O5R L u1 k m cb x h1 nx1 lo X) mm v' h' nx' (tc ||| tc') (wr ||| wr') := by
  obtain ⟨j, B, rfl, hj, hlen, g9, g10, g102, g103, ow, oB, hB, hn, hkq, hw⟩ := hi
  by_cases c : j < m
  · have c' : (j : Int) < (m : Int) := by omega
    have ci : IntKind.i64.wrap ((j : Int) + 1) = ((j + 1 : Nat) : Int) := by rw [IntKind.wrap_i64]; omega
    obtain ⟨cb2, hcb2, hcbn, pl, ld, _⟩ := ow.at (i := k) (by rw [css_len, List.length_set]; exact hk)
    rw [hcb] at hcb2; cases hcb2
    have lu := fun lg => ld 3 (.slc x 0 m (some m)) (by rw [css_at, List.getElem_set_self]; rfl) lg
    obtain ⟨xb, hxb, hxn, plx, _, stx⟩ := oB.at (i := j) (by rw [bnds_len, hB]; exact c)
    cases hxb
    obtain ⟨H, sH, oH, kH⟩ := stx 0 (by decide) (.int .i64 (j : Int)) rfl rfl
    simp only [Nat.add_zero] at sH
    have eB : (bnds B).set j ((bnds B)[j]'(by rw [bnds_len, hB]; exact c) |>.set 0 (.int .i64 (j : Int))) = bnds (B.set j ((j : Int), (B[j]'(by omega)).2)) := by
      unfold bnds
      rw [List.map_set, List.getElem_map]
      rfl
    rw [eB] at oH
    have owH := ow.keep (h' := H) (Nat.le_refl _) fun q hq => by rw [hcb] at hq; cases hq; exact kH cb hcx
    simp (maxSteps := 4000000) (maxDischargeDepth := 6) [↓step_none, ↓step_t, ↓step_f, ↓step_nt, ↓step_nf, ↓op_load, ↓op_store, ↓op_slice, ↓op_app, ↓op_islc, ↓P_skip, ↓P_exit, ↓P_ret, ↓P_seq, ↓P_cond, ↓P_blk, ↓P_reg, ↓P_draw, ↓P_nil, ↓P_cons, condP_t, condP_f, dum_ab, stepR, want_none, want_some, opRun, ev_t, ev_c, put_none, put_some, resAll, res_tmp, res_cell, oneOf, minI, maxI, min2A, max2A, mn2, mx2, mx3, rdBlk, wrBlk, newBlk, partA, abin, ibin, isShift, AV.cells, AV.one, lay, sub, fillA, lenA, toN, allApart, apartFrom, Nat.testBit, Mem.blk_set_same, Mem.blk_set_ne, Mem.set_set, bit_zero, bit_self, lowBits_or, lowBits_zero, len_setT, sl_same, sl_ne, len_frame, sl_frame,↓op_len, lenOp_slc, lenOp_nils, ↓Post.some, ↓Post_bind, ↓Post_ret, ↓Post_draw, ↓PostL_nil, ↓PostL_cons, Post_fail, ofOpt_some, ofOpt_none, eA_b, eA_i, eA_s, eA_nn, eA_np, eA_pn, eA_lnn, eA_lnp, eA_lpn, eA_i2, eA_i3, blt_dec, Nat.add_assoc, keeps_refl, keeps_at, keeps_up, new_one, and_pow, bit_hi, lowBits_pow, ble_dec, fr_refl, fr_at, fr_up, fr_p, dum_ab, reps, L11_0b, hlen, g9, g10, g102, g103, c, c', pl, lu, plx, sH, ci]
    refine Round.nor (m' := m - (j + 1)) (by omega) ⟨j + 1, _, rfl, by omega, ?_, ?_, ?_, ?_, ?_, owH, oH, by rw [List.length_set]; exact hB, hn, fun q hq hqc => (kH q (by omega)).trans (hkq q hq hqc), fun q hq => wr_or (hw q hq) (bit_and (by omega))⟩ <;> simp [len_setT, sl_same, sl_ne, hlen, g9, g10, g102]
  · simp (maxSteps := 4000000) (maxDischargeDepth := 6) [↓step_none, ↓step_t, ↓step_f, ↓step_nt, ↓step_nf, ↓op_load, ↓op_store, ↓op_slice, ↓op_app, ↓op_islc, ↓P_skip, ↓P_exit, ↓P_ret, ↓P_seq, ↓P_cond, ↓P_blk, ↓P_reg, ↓P_draw, ↓P_nil, ↓P_cons, condP_t, condP_f, dum_ab, stepR, want_none, want_some, opRun, ev_t, ev_c, put_none, put_some, resAll, res_tmp, res_cell, oneOf, minI, maxI, min2A, max2A, mn2, mx2, mx3, rdBlk, wrBlk, newBlk, partA, abin, ibin, isShift, AV.cells, AV.one, lay, sub, fillA, lenA, toN, allApart, apartFrom, Nat.testBit, Mem.blk_set_same, Mem.blk_set_ne, Mem.set_set, bit_zero, bit_self, lowBits_or, lowBits_zero, len_setT, sl_same, sl_ne, len_frame, sl_frame,↓op_len, lenOp_slc, lenOp_nils, ↓Post.some, ↓Post_bind, ↓Post_ret, ↓Post_draw, ↓PostL_nil, ↓PostL_cons, Post_fail, ofOpt_some, ofOpt_none, eA_b, eA_i, eA_s, eA_nn, eA_np, eA_pn, eA_lnn, eA_lnp, eA_lpn, eA_i2, eA_i3, blt_dec, Nat.add_assoc, keeps_refl, keeps_at, keeps_up, new_one, and_pow, bit_hi, lowBits_pow, ble_dec, fr_refl, fr_at, fr_up, fr_p, dum_ab, reps, L11_0b, hlen, g9, g10, g102, g103, c]
    refine Round.exit (R := O5R L u1 k m cb x h1 nx1 lo X) ⟨rfl, B, ?_, ?_, ow, oB, hB, hn, hkq, hw⟩ <;> simp [len_setT, sl_same, sl_ne, hlen, g9]
set_option maxHeartbeats 32000000 in
theorem odd_nw {v : AV} {L : List C} {h : Mem} {nx : Nat} (g : CR v h nx L) (hl : L.length ≤ 20) {bb : Nat} (hb : bb ≤ 60) (fw : Few bb L) (what at0 n : Int) : NwC T 600 11 [v, .int .i64 what, .int .i64 at0, .int .i64 n] h nx fun r h' nx' => ∃ L', CR r h' nx' L' ∧ L'.length ≤ L.length + 1 ∧ Few (bb + 32) L' := by
  intro lg hlg
  rw [xF_fr T11]
  have gn := g.keeps (h' := h.set nx (some ⟨38, 4, true, false, []⟩)) (nx' := nx + 1) (by omega) fun q hq => Mem.blk_set_ne _ _ _ _ (by omega)
  have lt : ∀ c ∈ L, ∀ x, bid c.bv = some x → x < nx := fun c hc x hx => (g.b c hc).1.lt hx
  obtain ⟨u1, h1, nx1, tc1, wr1, e1, n1, co1, k1, d1, _, w1⟩ := CO.copy gn (by omega) (CO.nil h nx 38 4) (by simp) (fun c hc x hx e => by cases e; have := lt c hc nx hx; omega) lg
  rw [List.nil_append] at co1
  have kk1 : ∀ q, q < nx → h1.blk q = h.blk q := fun q hq => (k1 q (by omega) (fun e => by cases e; omega)).trans (Mem.blk_set_ne _ _ _ _ (by omega))
  have ww1 : ∀ q, q < nx → wr1 &&& 2 ^ q = 0 := fun q hq => w1 q (fun e => by cases e; omega)
  have l0 := g.lenOp
  by_cases z : L.length = 0
  · have z' : ((L.length : Int) == 0) = true := by rw [z]; rfl
    simp (maxSteps := 4000000) (maxDischargeDepth := 6) [↓step_none, ↓step_t, ↓step_f, ↓step_nt, ↓step_nf, ↓op_load, ↓op_store, ↓op_slice, ↓op_app, ↓op_islc, ↓P_skip, ↓P_exit, ↓P_ret, ↓P_seq, ↓P_cond, ↓P_blk, ↓P_reg, ↓P_draw, ↓P_nil, ↓P_cons, condP_t, condP_f, dum_ab, stepR, want_none, want_some, opRun, ev_t, ev_c, put_none, put_some, resAll, res_tmp, res_cell, oneOf, minI, maxI, min2A, max2A, mn2, mx2, mx3, rdBlk, wrBlk, newBlk, partA, abin, ibin, isShift, AV.cells, AV.one, lay, sub, fillA, lenA, toN, allApart, apartFrom, Nat.testBit, Mem.blk_set_same, Mem.blk_set_ne, Mem.set_set, bit_zero, bit_self, lowBits_or, lowBits_zero, len_setT, sl_same, sl_ne, len_frame, sl_frame,↓op_len, lenOp_slc, lenOp_nils, ↓Post.some, ↓Post_bind, ↓Post_ret, ↓Post_draw, ↓PostL_nil, ↓PostL_cons, Post_fail, ofOpt_some, ofOpt_none, eA_b, eA_i, eA_s, eA_nn, eA_np, eA_pn, eA_lnn, eA_lnp, eA_lpn, eA_i2, eA_i3, blt_dec, Nat.add_assoc, keeps_refl, keeps_at, keeps_up, new_one, and_pow, bit_hi, lowBits_pow, ble_dec, fr_refl, fr_at, fr_up, fr_p, dum_ab, reps, F11, e1, l0, z']
    exact ⟨⟨L, co1.cr, by omega, fw.mono (by omega)⟩, by omega, kk1, ww1⟩
  · have z' : ((L.length : Int) == 0) = false := beq_eq_false_iff_ne.2 (by omega)
    have wl : IntKind.i64.wrap ((L.length : Int) - 1) = (L.length : Int) - 1 := by rw [IntKind.wrap_i64]; omega
    obtain ⟨wi, wi1, wi2, _, wx⟩ := within_ex at0 0 ((L.length : Int) - 1) (by omega) (by omega) (by omega)
    obtain ⟨k, rfl⟩ : ∃ i : Nat, wi = i := ⟨wi.toNat, by omega⟩
    have hk : k < L.length := by omega
    obtain ⟨wj, wj1, wj2, _, wy⟩ := within_ex what 0 7 (by omega) (by omega) (by omega)
    have n3 : Go.bits .and .i64 n 3 = n % 4 := and_mask .i64 2 (by decide) n
    have n31 : Go.bits .and .i64 n 31 = n % 32 := and_mask .i64 5 (by decide) n
    have lt1 : ∀ x, bid u1 = some x → nx ≤ x := fun x hx => by
      rcases d1 x hx with e | e
      · cases e; exact Nat.le_refl _
      · omega
    have hw : wj = 0 ∨ wj = 1 ∨ wj = 2 ∨ wj = 3 ∨ wj = 4 ∨ wj = 5 ∨ wj = 6 ∨ wj = 7 := by omega
    obtain ⟨cb, hcb, hcbn, pl, ld, st⟩ := co1.at hk
    have hLk := List.getElem_mem hk
    obtain ⟨rk, rk2, rk3⟩ := co1.b _ hLk
    rcases hw with rfl | rfl | rfl | rfl | rfl | rfl | rfl | rfl
    · obtain ⟨r, hr⟩ : ∃ r : Nat, n % 4 = r := ⟨(n % 4).toNat, by omega⟩
      rw [hr] at n3
      have hr4 : r < 4 := by omega
      have gY : RD 1 (.slc nx1 0 4 (some 4)) (h1.set nx1 (some ⟨9, 1, true, false, nm4⟩)) (nx1 + 1) (nm4.map fun x => [x]) := RD.lit (t := 9) (z := 1) (o := true) (g := false) rfl (by simp [nm4]) (by omega) (by rw [Mem.blk_set_same]; rfl)
      obtain ⟨oy, sy, el, szy⟩ : ∃ oy sy, (El (.slc nx1 0 4 (some 4)) (r : Int) 1 (h1.set nx1 (some ⟨9, 1, true, false, nm4⟩)) (nx1 + 1) [.str sy] nx1 oy) ∧ sy.size ≤ big := by
        obtain ⟨by0, oy, el⟩ := gY.el (i := r) (by simp [nm4]; omega)
        have e := el.bd
        cases e
        have : r = 0 ∨ r = 1 ∨ r = 2 ∨ r = 3 := by omega
        rcases this with rfl | rfl | rfl | rfl <;> exact ⟨oy, _, el, by decide +kernel⟩
      have ey := fun lg => el.fst (v := .str sy) rfl lg
      have py := el.pl
      have co2 := co1.keeps (h' := h1.set nx1 (some ⟨9, 1, true, false, nm4⟩)) (nx' := nx1 + 1) (by omega) fun q hq => Mem.blk_set_ne _ _ _ _ (by omega)
      obtain ⟨cb2, hcb2, _, pl2, _, st2⟩ := co2.at hk
      rw [hcb] at hcb2; cases hcb2
      obtain ⟨H, sH, cH, kH⟩ := st2 0 (by decide) (.str sy) rfl rfl { L[k] with name := sy } rfl (co2.b _ hLk).1 rk2 szy (co1.sep L[k] hLk)
      simp only [Nat.add_zero] at sH
      have hn4 : nm4 = [.str ⟨⟨[]⟩⟩, .str ⟨⟨[65]⟩⟩, .str ⟨⟨[115, 105, 120, 116, 101, 101, 110, 95, 108, 101, 116, 116, 101, 114, 115, 95]⟩⟩, .str ⟨⟨[115, 101, 118, 101, 110, 116, 101, 101, 110, 95, 108, 101, 116, 116, 101, 114, 115]⟩⟩] := rfl
      rw [hn4] at ey sH
      simp (maxSteps := 4000000) (maxDischargeDepth := 6) [↓step_none, ↓step_t, ↓step_f, ↓step_nt, ↓step_nf, ↓op_load, ↓op_store, ↓op_slice, ↓op_app, ↓op_islc, ↓P_skip, ↓P_exit, ↓P_ret, ↓P_seq, ↓P_cond, ↓P_blk, ↓P_reg, ↓P_draw, ↓P_nil, ↓P_cons, condP_t, condP_f, dum_ab, stepR, want_none, want_some, opRun, ev_t, ev_c, put_none, put_some, resAll, res_tmp, res_cell, oneOf, minI, maxI, min2A, max2A, mn2, mx2, mx3, rdBlk, wrBlk, newBlk, partA, abin, ibin, isShift, AV.cells, AV.one, lay, sub, fillA, lenA, toN, allApart, apartFrom, Nat.testBit, Mem.blk_set_same, Mem.blk_set_ne, Mem.set_set, bit_zero, bit_self, lowBits_or, lowBits_zero, len_setT, sl_same, sl_ne, len_frame, sl_frame,↓op_len, lenOp_slc, lenOp_nils, ↓Post.some, ↓Post_bind, ↓Post_ret, ↓Post_draw, ↓PostL_nil, ↓PostL_cons, Post_fail, ofOpt_some, ofOpt_none, eA_b, eA_i, eA_s, eA_nn, eA_np, eA_pn, eA_lnn, eA_lnp, eA_lpn, eA_i2, eA_i3, blt_dec, Nat.add_assoc, keeps_refl, keeps_at, keeps_up, new_one, and_pow, bit_hi, lowBits_pow, ble_dec, fr_refl, fr_at, fr_up, fr_p, dum_ab, reps, F11, e1, l0, z', wl, wx, wy, n3, py, ey, pl2, sH]
      refine ⟨⟨_, cH.cr, by rw [List.length_set]; omega, (fw.mono (by omega)).set _ _ (by have := fw.b _ hLk; simp only; omega)⟩, by omega, fun q hq => (kH q (by have := lt1 cb hcb; omega)).trans ((Mem.blk_set_ne _ _ _ _ (by omega)).trans (kk1 q hq)), fun q hq => ?_⟩
      have := lt1 cb hcb
      simp only [Nat.and_or_distrib_right, ww1 q hq, bit_and (lg := lg) (show q ≠ cb by omega), Nat.or_zero]
    · obtain ⟨H, sH, cH, kH⟩ := st 1 (by decide) (.int .i64 n) rfl rfl { L[k] with sup := n } rfl rk rk2 rk3 (co1.sep L[k] hLk)
      simp (maxSteps := 4000000) (maxDischargeDepth := 6) [↓step_none, ↓step_t, ↓step_f, ↓step_nt, ↓step_nf, ↓op_load, ↓op_store, ↓op_slice, ↓op_app, ↓op_islc, ↓P_skip, ↓P_exit, ↓P_ret, ↓P_seq, ↓P_cond, ↓P_blk, ↓P_reg, ↓P_draw, ↓P_nil, ↓P_cons, condP_t, condP_f, dum_ab, stepR, want_none, want_some, opRun, ev_t, ev_c, put_none, put_some, resAll, res_tmp, res_cell, oneOf, minI, maxI, min2A, max2A, mn2, mx2, mx3, rdBlk, wrBlk, newBlk, partA, abin, ibin, isShift, AV.cells, AV.one, lay, sub, fillA, lenA, toN, allApart, apartFrom, Nat.testBit, Mem.blk_set_same, Mem.blk_set_ne, Mem.set_set, bit_zero, bit_self, lowBits_or, lowBits_zero, len_setT, sl_same, sl_ne, len_frame, sl_frame,↓op_len, lenOp_slc, lenOp_nils, ↓Post.some, ↓Post_bind, ↓Post_ret, ↓Post_draw, ↓PostL_nil, ↓PostL_cons, Post_fail, ofOpt_some, ofOpt_none, eA_b, eA_i, eA_s, eA_nn, eA_np, eA_pn, eA_lnn, eA_lnp, eA_lpn, eA_i2, eA_i3, blt_dec, Nat.add_assoc, keeps_refl, keeps_at, keeps_up, new_one, and_pow, bit_hi, lowBits_pow, ble_dec, fr_refl, fr_at, fr_up, fr_p, dum_ab, reps, F11, e1, l0, z', wl, wx, wy, pl, sH]
      refine ⟨⟨_, cH.cr, by rw [List.length_set]; omega, (fw.mono (by omega)).set _ _ (by have := fw.b _ hLk; simp only; omega)⟩, by omega, fun q hq => (kH q (by have := lt1 cb hcb; omega)).trans (kk1 q hq), fun q hq => ?_⟩
      have := lt1 cb hcb
      simp only [Nat.and_or_distrib_right, ww1 q hq, bit_and (lg := lg) (show q ≠ cb by omega), Nat.or_zero]
    · obtain ⟨H, sH, cH, kH⟩ := st 2 (by decide) (.int .i64 n) rfl rfl { L[k] with fld := n } rfl rk rk2 rk3 (co1.sep L[k] hLk)
      simp (maxSteps := 4000000) (maxDischargeDepth := 6) [↓step_none, ↓step_t, ↓step_f, ↓step_nt, ↓step_nf, ↓op_load, ↓op_store, ↓op_slice, ↓op_app, ↓op_islc, ↓P_skip, ↓P_exit, ↓P_ret, ↓P_seq, ↓P_cond, ↓P_blk, ↓P_reg, ↓P_draw, ↓P_nil, ↓P_cons, condP_t, condP_f, dum_ab, stepR, want_none, want_some, opRun, ev_t, ev_c, put_none, put_some, resAll, res_tmp, res_cell, oneOf, minI, maxI, min2A, max2A, mn2, mx2, mx3, rdBlk, wrBlk, newBlk, partA, abin, ibin, isShift, AV.cells, AV.one, lay, sub, fillA, lenA, toN, allApart, apartFrom, Nat.testBit, Mem.blk_set_same, Mem.blk_set_ne, Mem.set_set, bit_zero, bit_self, lowBits_or, lowBits_zero, len_setT, sl_same, sl_ne, len_frame, sl_frame,↓op_len, lenOp_slc, lenOp_nils, ↓Post.some, ↓Post_bind, ↓Post_ret, ↓Post_draw, ↓PostL_nil, ↓PostL_cons, Post_fail, ofOpt_some, ofOpt_none, eA_b, eA_i, eA_s, eA_nn, eA_np, eA_pn, eA_lnn, eA_lnp, eA_lpn, eA_i2, eA_i3, blt_dec, Nat.add_assoc, keeps_refl, keeps_at, keeps_up, new_one, and_pow, bit_hi, lowBits_pow, ble_dec, fr_refl, fr_at, fr_up, fr_p, dum_ab, reps, F11, e1, l0, z', wl, wx, wy, pl, sH]
      refine ⟨⟨_, cH.cr, by rw [List.length_set]; omega, (fw.mono (by omega)).set _ _ (by have := fw.b _ hLk; simp only; omega)⟩, by omega, fun q hq => (kH q (by have := lt1 cb hcb; omega)).trans (kk1 q hq), fun q hq => ?_⟩
      have := lt1 cb hcb
      simp only [Nat.and_or_distrib_right, ww1 q hq, bit_and (lg := lg) (show q ≠ cb by omega), Nat.or_zero]
    · have B2 : OW 2 (.slc nx1 0 0 (some 0)) (h1.set nx1 (some ⟨57, 2, true, false, []⟩)) (nx1 + 1) [] := OW.new h1 nx1 57 2
      have co2 := co1.keeps (h' := h1.set nx1 (some ⟨57, 2, true, false, []⟩)) (nx' := nx1 + 1) (by omega) fun q hq => Mem.blk_set_ne _ _ _ _ (by omega)
      obtain ⟨cb2, hcb2, _, pl2, ld2, _⟩ := co2.at hk
      rw [hcb] at hcb2; cases hcb2
      have lb2 := fun lg => ld2 3 _ rfl lg
      obtain ⟨u3, h3, nx3, tc3, wr3, e3, n3', o3, k3, d3, _, w3⟩ := OW.cat (sz := 2) (by decide) 57 16 B2 (co2.b _ hLk).1 (fun k hk => fits16 (n := 100) (by rw [bnds_len] at hk; have := fw.b _ hLk; simp at hk; omega) (by omega)) (bnds_one _) lg
      rw [List.nil_append] at o3
      obtain ⟨u4, h4, nx4, tc4, wr4, e4, n4, o4, k4, d4, _, w4⟩ := OW.push (sz := 2) (by decide) 57 16 o3 [.int .i64 n, .int .i64 0] rfl (fun k hk => fits16 (n := 100) (by rw [bnds_len] at hk; have := fw.b _ hLk; omega) (by omega)) rfl 57 2 lg
      rw [show bnds L[k].B ++ [[AV.int .i64 n, AV.int .i64 0]] = bnds (L[k].B ++ [(n, 0)]) by rw [bnds_app]] at o4
      have k3' : ∀ q, q < nx1 → h3.blk q = h1.blk q := fun q hq => (k3 q (by omega) fun e => by cases e; omega).trans (Mem.blk_set_ne _ _ _ _ (by omega))
      have u3l : ∀ x, bid u3 = some x → nx1 ≤ x := fun x hx => by
        rcases d3 x hx with e | e
        · cases e; exact Nat.le_refl _
        · omega
      have k4' : ∀ q, q < nx1 → h4.blk q = h1.blk q := fun q hq => (k4 q (by omega) fun e => by have := u3l q e; omega).trans (k3' q hq)
      have u4l : ∀ x, bid u4 = some x → nx1 ≤ x := fun x hx => by
        rcases d4 x hx with e | e
        · exact u3l x e
        · omega
      have co4 := co1.keeps (h' := h4) (nx' := nx4) (by omega) k4'
      obtain ⟨cb4, hcb4, _, pl4, _, st4⟩ := co4.at hk
      rw [hcb] at hcb4; cases hcb4
      obtain ⟨H, sH, cH, kH⟩ := st4 3 (by decide) u4 o4.one.1 o4.one.2 (L[k].wb u4 (L[k].B ++ [(n, 0)])) rfl (o4.rd (by decide)) (by simp only [C.wb, List.length_append, List.length_singleton]; have := fw.b _ hLk; unfold big; omega) rk3 (fun y hy e => by have := u4l y hy; have := lt1 cb hcb; rw [hcb] at e; cases e; omega)
      simp (maxSteps := 4000000) (maxDischargeDepth := 6) [↓step_none, ↓step_t, ↓step_f, ↓step_nt, ↓step_nf, ↓op_load, ↓op_store, ↓op_slice, ↓op_app, ↓op_islc, ↓P_skip, ↓P_exit, ↓P_ret, ↓P_seq, ↓P_cond, ↓P_blk, ↓P_reg, ↓P_draw, ↓P_nil, ↓P_cons, condP_t, condP_f, dum_ab, stepR, want_none, want_some, opRun, ev_t, ev_c, put_none, put_some, resAll, res_tmp, res_cell, oneOf, minI, maxI, min2A, max2A, mn2, mx2, mx3, rdBlk, wrBlk, newBlk, partA, abin, ibin, isShift, AV.cells, AV.one, lay, sub, fillA, lenA, toN, allApart, apartFrom, Nat.testBit, Mem.blk_set_same, Mem.blk_set_ne, Mem.set_set, bit_zero, bit_self, lowBits_or, lowBits_zero, len_setT, sl_same, sl_ne, len_frame, sl_frame,↓op_len, lenOp_slc, lenOp_nils, ↓Post.some, ↓Post_bind, ↓Post_ret, ↓Post_draw, ↓PostL_nil, ↓PostL_cons, Post_fail, ofOpt_some, ofOpt_none, eA_b, eA_i, eA_s, eA_nn, eA_np, eA_pn, eA_lnn, eA_lnp, eA_lpn, eA_i2, eA_i3, blt_dec, Nat.add_assoc, keeps_refl, keeps_at, keeps_up, new_one, and_pow, bit_hi, lowBits_pow, ble_dec, fr_refl, fr_at, fr_up, fr_p, dum_ab, reps, F11, e1, l0, z', wl, wx, wy, pl2, lb2, e3, e4, pl4, sH]
      refine ⟨⟨_, cH.cr, by rw [List.length_set]; omega, (fw.mono (by omega)).set _ _ (by simp only [C.wb, List.length_append, List.length_singleton]; have := fw.b _ hLk; omega)⟩, by omega, fun q hq => (kH q (by have := lt1 cb hcb; omega)).trans ((k4' q (by omega)).trans (kk1 q hq)), fun q hq => ?_⟩
      have := lt1 cb hcb
      have z3 := w3 q (fun e => by cases e; omega)
      have z4 := w4 q (fun e => by have := u3l q e; omega)
      simp only [Nat.and_or_distrib_right, ww1 q hq, z3, z4, bit_and (lg := lg) (show q ≠ cb by omega), Nat.or_zero]
    · have B2 : OW 2 (.slc nx1 0 0 (some 0)) (h1.set nx1 (some ⟨57, 2, true, false, []⟩)) (nx1 + 1) [] := OW.new h1 nx1 57 2
      have co2 := co1.keeps (h' := h1.set nx1 (some ⟨57, 2, true, false, []⟩)) (nx' := nx1 + 1) (by omega) fun q hq => Mem.blk_set_ne _ _ _ _ (by omega)
      obtain ⟨cb2, hcb2, _, pl2, ld2, _⟩ := co2.at hk
      rw [hcb] at hcb2; cases hcb2
      have lb2 := fun lg => ld2 3 _ rfl lg
      obtain ⟨u3, h3, nx3, tc3, wr3, e3, n3', o3, k3, d3, _, w3⟩ := OW.cat (sz := 2) (by decide) 57 16 B2 (co2.b _ hLk).1 (fun k hk => fits16 (n := 100) (by rw [bnds_len] at hk; have := fw.b _ hLk; simp at hk; omega) (by omega)) (bnds_one _) lg
      rw [List.nil_append] at o3
      obtain ⟨u4, h4, nx4, tc4, wr4, e4, n4, o4, k4, d4, _, w4⟩ := OW.push (sz := 2) (by decide) 57 16 o3 [.int .i64 0, .int .i64 n] rfl (fun k hk => fits16 (n := 100) (by rw [bnds_len] at hk; have := fw.b _ hLk; omega) (by omega)) rfl 57 2 lg
      rw [show bnds L[k].B ++ [[AV.int .i64 0, AV.int .i64 n]] = bnds (L[k].B ++ [(0, n)]) by rw [bnds_app]] at o4
      have k3' : ∀ q, q < nx1 → h3.blk q = h1.blk q := fun q hq => (k3 q (by omega) fun e => by cases e; omega).trans (Mem.blk_set_ne _ _ _ _ (by omega))
      have u3l : ∀ x, bid u3 = some x → nx1 ≤ x := fun x hx => by
        rcases d3 x hx with e | e
        · cases e; exact Nat.le_refl _
        · omega
      have k4' : ∀ q, q < nx1 → h4.blk q = h1.blk q := fun q hq => (k4 q (by omega) fun e => by have := u3l q e; omega).trans (k3' q hq)
      have u4l : ∀ x, bid u4 = some x → nx1 ≤ x := fun x hx => by
        rcases d4 x hx with e | e
        · exact u3l x e
        · omega
      have co4 := co1.keeps (h' := h4) (nx' := nx4) (by omega) k4'
      obtain ⟨cb4, hcb4, _, pl4, _, st4⟩ := co4.at hk
      rw [hcb] at hcb4; cases hcb4
      obtain ⟨H, sH, cH, kH⟩ := st4 3 (by decide) u4 o4.one.1 o4.one.2 (L[k].wb u4 (L[k].B ++ [(0, n)])) rfl (o4.rd (by decide)) (by simp only [C.wb, List.length_append, List.length_singleton]; have := fw.b _ hLk; unfold big; omega) rk3 (fun y hy e => by have := u4l y hy; have := lt1 cb hcb; rw [hcb] at e; cases e; omega)
      simp (maxSteps := 4000000) (maxDischargeDepth := 6) [↓step_none, ↓step_t, ↓step_f, ↓step_nt, ↓step_nf, ↓op_load, ↓op_store, ↓op_slice, ↓op_app, ↓op_islc, ↓P_skip, ↓P_exit, ↓P_ret, ↓P_seq, ↓P_cond, ↓P_blk, ↓P_reg, ↓P_draw, ↓P_nil, ↓P_cons, condP_t, condP_f, dum_ab, stepR, want_none, want_some, opRun, ev_t, ev_c, put_none, put_some, resAll, res_tmp, res_cell, oneOf, minI, maxI, min2A, max2A, mn2, mx2, mx3, rdBlk, wrBlk, newBlk, partA, abin, ibin, isShift, AV.cells, AV.one, lay, sub, fillA, lenA, toN, allApart, apartFrom, Nat.testBit, Mem.blk_set_same, Mem.blk_set_ne, Mem.set_set, bit_zero, bit_self, lowBits_or, lowBits_zero, len_setT, sl_same, sl_ne, len_frame, sl_frame,↓op_len, lenOp_slc, lenOp_nils, ↓Post.some, ↓Post_bind, ↓Post_ret, ↓Post_draw, ↓PostL_nil, ↓PostL_cons, Post_fail, ofOpt_some, ofOpt_none, eA_b, eA_i, eA_s, eA_nn, eA_np, eA_pn, eA_lnn, eA_lnp, eA_lpn, eA_i2, eA_i3, blt_dec, Nat.add_assoc, keeps_refl, keeps_at, keeps_up, new_one, and_pow, bit_hi, lowBits_pow, ble_dec, fr_refl, fr_at, fr_up, fr_p, dum_ab, reps, F11, e1, l0, z', wl, wx, wy, pl2, lb2, e3, e4, pl4, sH]
      refine ⟨⟨_, cH.cr, by rw [List.length_set]; omega, (fw.mono (by omega)).set _ _ (by simp only [C.wb, List.length_append, List.length_singleton]; have := fw.b _ hLk; omega)⟩, by omega, fun q hq => (kH q (by have := lt1 cb hcb; omega)).trans ((k4' q (by omega)).trans (kk1 q hq)), fun q hq => ?_⟩
      have := lt1 cb hcb
      have z3 := w3 q (fun e => by cases e; omega)
      have z4 := w4 q (fun e => by have := u3l q e; omega)
      simp only [Nat.and_or_distrib_right, ww1 q hq, z3, z4, bit_and (lg := lg) (show q ≠ cb by omega), Nat.or_zero]
    · obtain ⟨m, hm⟩ : ∃ m : Nat, n % 32 = m := ⟨(n % 32).toNat, by omega⟩
      rw [hm] at n31
      have hm32 : m < 32 := by omega
      have t1 : toNle 70368744177664 (m : Int) = some m := toNle_nat (by omega)
      have t2 : toNle m (m : Int) = some m := toNle_nat (Nat.le_refl _)
      have t3 : 16 * m ≤ 70368744177664 := by omega
      obtain ⟨H2, hH2⟩ : ∃ H2, H2 = h1.set nx1 (some ⟨57, 2, true, false, reps m [.int .i64 0, .int .i64 0]⟩) := ⟨_, rfl⟩
      have k2 : ∀ q, q < nx1 → H2.blk q = h1.blk q := fun q hq => by rw [hH2, Mem.blk_set_ne _ _ _ _ (by omega)]
      have fB : (bnds (List.replicate m ((0 : Int), (0 : Int)))).flatten = reps m [.int .i64 0, .int .i64 0] := bnds_rep m
      have lB : (bnds (List.replicate m ((0 : Int), (0 : Int)))).length = m := by rw [bnds_len, List.length_replicate]
      have oB : OW 2 (.slc nx1 0 m (some m)) H2 (nx1 + 1) (bnds (List.replicate m (0, 0))) := .inr (.inr (.inr ⟨nx1, 57, 2, false, by rw [lB], by omega, fun y hy => by
        unfold bnds at hy
        obtain ⟨x, _, rfl⟩ := List.mem_map.1 hy
        rfl, by rw [hH2, Mem.blk_set_same, fB]⟩))
      have co2 := co1.keeps (h' := H2) (nx' := nx1 + 1) (by omega) k2
      obtain ⟨cb2, hcb2, hcbn2, pl2, _, st2⟩ := co2.at hk
      rw [hcb] at hcb2; cases hcb2
      obtain ⟨H3, s3, c3, k3⟩ := st2 3 (by decide) (.slc nx1 0 m (some m)) rfl rfl (L[k].wb (.slc nx1 0 m (some m)) (List.replicate m (0, 0))) rfl (oB.rd (by decide)) (by simp only [C.wb, List.length_replicate]; unfold big; omega) rk3 (fun y hy e => by cases hy; rw [hcb] at e; cases e; omega)
      have oB3 : OW 2 (.slc nx1 0 m (some m)) H3 (nx1 + 1) (bnds (List.replicate m (0, 0))) := oB.keep (Nat.le_refl _) fun x hx => by cases hx; exact k3 nx1 (by omega)
      have pl3 : islcA 4 u1 (.int .i64 (k : Int)) = A.ret (.ptr cb (k * 4)) := pl
      obtain ⟨cb3, hcb3, _, _, ld3, _⟩ := c3.at (i := k) (by rw [List.length_set]; exact hk)
      rw [hcb] at hcb3; cases hcb3
      have lu3 := fun lg => ld3 3 (.slc nx1 0 m (some m)) (by rw [List.getElem_set_self]; rfl) lg
      have lt2 := lt1 cb hcb
      have hH2' := hH2.symm
      simp (maxSteps := 4000000) (maxDischargeDepth := 6) [↓step_none, ↓step_t, ↓step_f, ↓step_nt, ↓step_nf, ↓op_load, ↓op_store, ↓op_slice, ↓op_app, ↓op_islc, ↓P_skip, ↓P_exit, ↓P_ret, ↓P_seq, ↓P_cond, ↓P_blk, ↓P_reg, ↓P_draw, ↓P_nil, ↓P_cons, condP_t, condP_f, dum_ab, stepR, want_none, want_some, opRun, ev_t, ev_c, put_none, put_some, resAll, res_tmp, res_cell, oneOf, minI, maxI, min2A, max2A, mn2, mx2, mx3, rdBlk, wrBlk, newBlk, partA, abin, ibin, isShift, AV.cells, AV.one, lay, sub, fillA, lenA, toN, allApart, apartFrom, Nat.testBit, Mem.blk_set_same, Mem.blk_set_ne, Mem.set_set, bit_zero, bit_self, lowBits_or, lowBits_zero, len_setT, sl_same, sl_ne, len_frame, sl_frame,↓op_len, lenOp_slc, lenOp_nils, ↓Post.some, ↓Post_bind, ↓Post_ret, ↓Post_draw, ↓PostL_nil, ↓PostL_cons, Post_fail, ofOpt_some, ofOpt_none, eA_b, eA_i, eA_s, eA_nn, eA_np, eA_pn, eA_lnn, eA_lnp, eA_lpn, eA_i2, eA_i3, blt_dec, Nat.add_assoc, keeps_refl, keeps_at, keeps_up, new_one, and_pow, bit_hi, lowBits_pow, ble_dec, fr_refl, fr_at, fr_up, fr_p, dum_ab, reps, F11, e1, l0, z', wl, wx, wy, n31, t1, t2, t3, hH2', pl3, s3, lu3, L11_0]
      refine Post.loop (o5_round (L := L) (u1 := u1) (k := k) (m := m) (cb := cb) (x := nx1) hk hcb hm32 (by omega) (h1 := h1) (nx1 := nx1) (Nat.le_refl _) (lo := nx) (by omega) L[k] lg) (m - 0) ⟨0, List.replicate m (0, 0), rfl, by omega, ?_, ?_, ?_, ?_, ?_, by rw [css_wb L k L[k] _ [] (List.replicate m (0, 0))]; exact c3.ow, oB3, by rw [List.length_replicate], by omega, fun q hq hqc => (k3 q hqc).trans (k2 q hq), fun q _ => Nat.zero_and _⟩ ?_ ?_
      any_goals simp (maxDischargeDepth := 6) [len_setT, sl_same, sl_ne, sl_frame, len_frame]
      · omega
      rintro e tsE hE nxE tcE wrE ⟨rfl, B, hlenE, f9, owE, oBE, hBE, nE, kE, wE⟩
      simp (maxSteps := 4000000) (maxDischargeDepth := 6) [↓step_none, ↓step_t, ↓step_f, ↓step_nt, ↓step_nf, ↓op_load, ↓op_store, ↓op_slice, ↓op_app, ↓op_islc, ↓P_skip, ↓P_exit, ↓P_ret, ↓P_seq, ↓P_cond, ↓P_blk, ↓P_reg, ↓P_draw, ↓P_nil, ↓P_cons, condP_t, condP_f, dum_ab, stepR, want_none, want_some, opRun, ev_t, ev_c, put_none, put_some, resAll, res_tmp, res_cell, oneOf, minI, maxI, min2A, max2A, mn2, mx2, mx3, rdBlk, wrBlk, newBlk, partA, abin, ibin, isShift, AV.cells, AV.one, lay, sub, fillA, lenA, toN, allApart, apartFrom, Nat.testBit, Mem.blk_set_same, Mem.blk_set_ne, Mem.set_set, bit_zero, bit_self, lowBits_or, lowBits_zero, len_setT, sl_same, sl_ne, len_frame, sl_frame,↓op_len, lenOp_slc, lenOp_nils, ↓Post.some, ↓Post_bind, ↓Post_ret, ↓Post_draw, ↓PostL_nil, ↓PostL_cons, Post_fail, ofOpt_some, ofOpt_none, eA_b, eA_i, eA_s, eA_nn, eA_np, eA_pn, eA_lnn, eA_lnp, eA_lpn, eA_i2, eA_i3, blt_dec, Nat.add_assoc, keeps_refl, keeps_at, keeps_up, new_one, and_pow, bit_hi, lowBits_pow, ble_dec, fr_refl, fr_at, fr_up, fr_p, dum_ab, reps, hlenE, f9]
      have coE : CO u1 hE nxE (L.set k (L[k].wb (.slc nx1 0 m (some m)) B)) := by
        refine ⟨by rw [css_wb L k L[k] _ B []]; exact owE, by rw [List.length_set]; exact co1.n, fun c hc => ?_, fun c hc y hy => ?_⟩
        · rcases List.mem_or_eq_of_mem_set hc with hc | rfl
          · obtain ⟨r, r2⟩ := co1.b c hc
            exact ⟨r.keep (by omega) fun y hy hl => kE y hl fun e => co1.sep c hc y hy (e ▸ hcb), r2⟩
          · exact ⟨oBE.rd (by decide), by simp only [C.wb]; unfold big; omega, rk3⟩
        · rcases List.mem_or_eq_of_mem_set hc with hc | rfl
          · exact co1.sep c hc y hy
          · cases hy; rw [hcb]; intro e; cases e; omega
      refine ⟨⟨_, coE.cr, by rw [List.length_set]; omega, (fw.mono (by omega)).set _ _ (by simp only [C.wb]; omega)⟩, by omega, fun q hq => (kE q (by omega) (by omega)).trans (kk1 q hq), fun q hq => ?_⟩
      simp only [Nat.and_or_distrib_right, ww1 q hq, wE q hq, bit_and (lg := lg) (show q ≠ cb by omega), Nat.or_zero]
    · have wk : IntKind.i64.wrap (40 + n % 32) = 40 + n % 32 := by rw [IntKind.wrap_i64]; omega
      obtain ⟨u6, h6, nx6, tc6, wr6, e6, n6, co6, k6, d6, _, w6⟩ := co1.push (by omega) ⟨⟨⟨[78, 101, 119]⟩⟩, (L.length : Int) - 1, 40 + n % 32, .nils, []⟩ (RD.nil ..) ⟨Nat.zero_le _, by show (3 : Nat) ≤ big; decide⟩ (fun x hx => by cases hx) lg
      have lu := co1.cr.lenOp
      simp only [C.cs] at e6
      simp (maxSteps := 4000000) (maxDischargeDepth := 6) [↓step_none, ↓step_t, ↓step_f, ↓step_nt, ↓step_nf, ↓op_load, ↓op_store, ↓op_slice, ↓op_app, ↓op_islc, ↓P_skip, ↓P_exit, ↓P_ret, ↓P_seq, ↓P_cond, ↓P_blk, ↓P_reg, ↓P_draw, ↓P_nil, ↓P_cons, condP_t, condP_f, dum_ab, stepR, want_none, want_some, opRun, ev_t, ev_c, put_none, put_some, resAll, res_tmp, res_cell, oneOf, minI, maxI, min2A, max2A, mn2, mx2, mx3, rdBlk, wrBlk, newBlk, partA, abin, ibin, isShift, AV.cells, AV.one, lay, sub, fillA, lenA, toN, allApart, apartFrom, Nat.testBit, Mem.blk_set_same, Mem.blk_set_ne, Mem.set_set, bit_zero, bit_self, lowBits_or, lowBits_zero, len_setT, sl_same, sl_ne, len_frame, sl_frame,↓op_len, lenOp_slc, lenOp_nils, ↓Post.some, ↓Post_bind, ↓Post_ret, ↓Post_draw, ↓PostL_nil, ↓PostL_cons, Post_fail, ofOpt_some, ofOpt_none, eA_b, eA_i, eA_s, eA_nn, eA_np, eA_pn, eA_lnn, eA_lnp, eA_lpn, eA_i2, eA_i3, blt_dec, Nat.add_assoc, keeps_refl, keeps_at, keeps_up, new_one, and_pow, bit_hi, lowBits_pow, ble_dec, fr_refl, fr_at, fr_up, fr_p, dum_ab, reps, F11, e1, l0, z', wl, wx, wy, n31, lu, wk, e6]
      refine ⟨⟨_, co6.cr, by rw [List.length_append]; exact Nat.le_refl _, ⟨fun c hc => ?_⟩⟩, by omega, fun q hq => (k6 q (by omega) fun e => by have := lt1 q e; omega).trans (kk1 q hq), fun q hq => ?_⟩
      · rcases List.mem_append.1 hc with hc | hc
        · have := fw.b c hc; omega
        · rw [List.mem_singleton.1 hc]; exact Nat.zero_le _
      · simp only [Nat.and_or_distrib_right, ww1 q hq, w6 q (fun e => by have := lt1 q e; omega), Nat.or_zero]
    · obtain ⟨y, ry, cut⟩ := co1.cr.cut (j := k) (by omega)
      obtain ⟨tcc, cut⟩ := cut lg
      simp (maxSteps := 4000000) (maxDischargeDepth := 6) [↓step_none, ↓step_t, ↓step_f, ↓step_nt, ↓step_nf, ↓op_load, ↓op_store, ↓op_slice, ↓op_app, ↓op_islc, ↓P_skip, ↓P_exit, ↓P_ret, ↓P_seq, ↓P_cond, ↓P_blk, ↓P_reg, ↓P_draw, ↓P_nil, ↓P_cons, condP_t, condP_f, dum_ab, stepR, want_none, want_some, opRun, ev_t, ev_c, put_none, put_some, resAll, res_tmp, res_cell, oneOf, minI, maxI, min2A, max2A, mn2, mx2, mx3, rdBlk, wrBlk, newBlk, partA, abin, ibin, isShift, AV.cells, AV.one, lay, sub, fillA, lenA, toN, allApart, apartFrom, Nat.testBit, Mem.blk_set_same, Mem.blk_set_ne, Mem.set_set, bit_zero, bit_self, lowBits_or, lowBits_zero, len_setT, sl_same, sl_ne, len_frame, sl_frame,↓op_len, lenOp_slc, lenOp_nils, ↓Post.some, ↓Post_bind, ↓Post_ret, ↓Post_draw, ↓PostL_nil, ↓PostL_cons, Post_fail, ofOpt_some, ofOpt_none, eA_b, eA_i, eA_s, eA_nn, eA_np, eA_pn, eA_lnn, eA_lnp, eA_lpn, eA_i2, eA_i3, blt_dec, Nat.add_assoc, keeps_refl, keeps_at, keeps_up, new_one, and_pow, bit_hi, lowBits_pow, ble_dec, fr_refl, fr_at, fr_up, fr_p, dum_ab, reps, F11, e1, l0, z', wl, wx, wy, cut]
      exact ⟨⟨_, ry, by rw [List.length_take]; omega, ⟨fun c hc => by have := fw.b c (List.mem_of_mem_take hc); omega⟩⟩, by omega, kk1, ww1⟩
end Go.Proofs.YtahjkhmoojobgaaT
