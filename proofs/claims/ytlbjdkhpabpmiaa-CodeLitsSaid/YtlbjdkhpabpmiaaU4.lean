/- The tape: a program's objects. -/
import Derived.Test.YtlbjdkhpabpmiaaU23
namespace Go.Proofs.YtlbjdkhpabpmiaaT
open Go Go.Proofs.YtlbjdkhpabpmiaaE Go.Proofs.YtlbjdkhpabpmiaaB
set_option linter.unusedSimpArgs false
set_option linter.unusedVariables false
attribute [local congr] Post_cg PostL_cg condP_cg

def FlI (p : Nat) (s : AV) (T0 : List Int) (h0 : Mem) (nx0 b2 b : Nat) (nv cv mv ov : AV) (n i : Nat) (b11 : Nat) (hf : Mem) (nxf : Nat) (k : Nat) (ts : List AV) (h : Mem) (nx tc wr : Nat) : Prop := ∃ (cls : Int) (u : AV) (M : List (List AV)), ts.length = 197 ∧ sl ts 0 = .ptr p 0 ∧ sl ts 2 = .ptr b2 0 ∧ sl ts 3 = .ptr b 0 ∧ sl ts 9 = .int .i64 n ∧ sl ts 10 = .int .i64 i ∧ sl ts 11 = .ptr b11 0 ∧ sl ts 12 = .int .i64 k ∧ Us p s T0 h0 nx0 b2 b h nx nv cv mv ov ∧ h.blk b11 = some ⟨66, 2, true, false, [.int .i64 cls, u]⟩ ∧ OW 2 u h nx M ∧ (∀ x, bid u = some x → nxf ≤ x) ∧ M.length + k ≤ 100 ∧ nxf ≤ nx ∧ (∀ q, q < nxf → ¬ q = p → ¬ q = b11 → h.blk q = hf.blk q) ∧ Mk p s nx0 tc wr
def FlR (p : Nat) (s : AV) (T0 : List Int) (h0 : Mem) (nx0 b2 b : Nat) (nv cv mv ov : AV) (n i : Nat) (b11 : Nat) (hf : Mem) (nxf : Nat) (e : Ex) (ts : List AV) (h : Mem) (nx tc wr : Nat) : Prop := e = .exit 10 ∧ ∃ (cls : Int) (u : AV), ts.length = 197 ∧ sl ts 0 = .ptr p 0 ∧ sl ts 2 = .ptr b2 0 ∧ sl ts 3 = .ptr b 0 ∧ sl ts 9 = .int .i64 n ∧ sl ts 10 = .int .i64 i ∧ sl ts 11 = .ptr b11 0 ∧ Us p s T0 h0 nx0 b2 b h nx nv cv mv ov ∧ h.blk b11 = some ⟨66, 2, true, false, [.int .i64 cls, u]⟩ ∧ u.one = true ∧ nxf ≤ nx ∧ (∀ q, q < nxf → ¬ q = p → ¬ q = b11 → h.blk q = hf.blk q) ∧ Mk p s nx0 tc wr
set_option maxHeartbeats 16000000 in
theorem fl_round {p : Nat} {s : AV} {T0 : List Int} {h0 : Mem} {nx0 b2 b : Nat} {nv cv mv ov : AV} {n : Nat} (hn1 : 1 ≤ n) (hn5 : n ≤ 5) (i : Nat) {b11 : Nat} (hbf : b < b11) {hf : Mem} {nxf : Nat} (hf11 : b11 < nxf) (lg : Nat) (hlg : lg ≤ nx0) (k : Nat) (ts : List AV) (h : Mem) (nx tc wr : Nat) (hi : FlI p s T0 h0 nx0 b2 b nv cv mv ov n i b11 hf nxf k ts h nx tc wr) :
    Post (xC T 160 L9_0b ts h nx lg) fun v' h' nx' tc' wr' => Round (FlI p s T0 h0 nx0 b2 b nv cv mv ov n i b11 hf nxf) (FlR p s T0 h0 nx0 b2 b nv cv mv ov n i b11 hf nxf) k v' h' nx' (tc ||| tc') (wr ||| wr') := by
  obtain ⟨cls, u, M, hlen, g0, g2, g3, g9, g10, g11, g12, g, bk, uo, own, hM, hnf, kf, mk⟩ := hi
  have hb2 := g.bn
  have hbb := g.b2b
  have hbl := g.bl
  have hp := g.hp
  by_cases ck : 0 < k
  · have ck' : (0 : Int) < (k : Int) := by omega
    have ci : IntKind.i64.wrap ((k : Int) - 1) = ((k - 1 : Nat) : Int) := by rw [IntKind.wrap_i64]; omega
    have lu := fun lg => ld_at bk (show b11 < nx by omega) (o := 1) (v := u) rfl lg
    simp (maxSteps := 4000000) (maxDischargeDepth := 6) [↓step_none, ↓step_t, ↓step_f, ↓step_nt, ↓step_nf, ↓op_load, ↓op_store, ↓op_slice, ↓op_app, ↓op_islc, ↓P_skip, ↓P_exit, ↓P_ret, ↓P_seq, ↓P_cond, ↓P_blk, ↓P_reg, ↓P_draw, ↓P_nil, ↓P_cons, condP_t, condP_f, dum_ab, stepR, want_none, want_some, opRun, ev_t, ev_c, put_none, put_some, resAll, res_tmp, res_cell, oneOf, minI, maxI, min2A, max2A, mn2, mx2, mx3, rdBlk, wrBlk, newBlk, partA, abin, ibin, isShift, AV.cells, AV.one, lay, sub, fillA, lenA, toN, allApart, apartFrom, Nat.testBit, Mem.blk_set_same, Mem.blk_set_ne, Mem.set_set, bit_zero, bit_self, lowBits_or, lowBits_zero, len_setT, sl_same, sl_ne, len_frame, sl_frame,↓op_len, lenOp_slc, lenOp_nils, ↓Post.some, ↓Post_bind, ↓Post_ret, ↓Post_draw, ↓PostL_nil, ↓PostL_cons, Post_fail, ofOpt_some, ofOpt_none, eA_b, eA_i, eA_s, eA_nn, eA_np, eA_pn, eA_lnn, eA_lnp, eA_lpn, eA_i2, eA_i3, blt_dec, Nat.add_assoc, keeps_refl, keeps_at, keeps_up, new_one, and_pow, bit_hi, lowBits_pow, ble_dec, fr_refl, fr_at, fr_up, fr_p, dum_ab, reps, L9_0b, hlen, g0, g2, g3, g9, g10, g11, g12, ck, ck', lu]
    refine (next_fx g.tp 900 (by decide) (by decide)).postL (by omega) (by omega) ?_
    rintro _ h1 nx1 tc1 wr1 ⟨r1, rfl, hr1, t1⟩ n1 k1 w1 x1 i1
    have u1 := g.call t1 n1 k1
    simp (maxSteps := 4000000) (maxDischargeDepth := 6) [↓step_none, ↓step_t, ↓step_f, ↓step_nt, ↓step_nf, ↓op_load, ↓op_store, ↓op_slice, ↓op_app, ↓op_islc, ↓P_skip, ↓P_exit, ↓P_ret, ↓P_seq, ↓P_cond, ↓P_blk, ↓P_reg, ↓P_draw, ↓P_nil, ↓P_cons, condP_t, condP_f, dum_ab, stepR, want_none, want_some, opRun, ev_t, ev_c, put_none, put_some, resAll, res_tmp, res_cell, oneOf, minI, maxI, min2A, max2A, mn2, mx2, mx3, rdBlk, wrBlk, newBlk, partA, abin, ibin, isShift, AV.cells, AV.one, lay, sub, fillA, lenA, toN, allApart, apartFrom, Nat.testBit, Mem.blk_set_same, Mem.blk_set_ne, Mem.set_set, bit_zero, bit_self, lowBits_or, lowBits_zero, len_setT, sl_same, sl_ne, len_frame, sl_frame,↓op_len, lenOp_slc, lenOp_nils, ↓Post.some, ↓Post_bind, ↓Post_ret, ↓Post_draw, ↓PostL_nil, ↓PostL_cons, Post_fail, ofOpt_some, ofOpt_none, eA_b, eA_i, eA_s, eA_nn, eA_np, eA_pn, eA_lnn, eA_lnp, eA_lpn, eA_i2, eA_i3, blt_dec, Nat.add_assoc, keeps_refl, keeps_at, keeps_up, new_one, and_pow, bit_hi, lowBits_pow, ble_dec, fr_refl, fr_at, fr_up, fr_p, dum_ab, reps, hlen, g0, g2, g3, g9, g10, g11, g12]
    refine (next_fx u1.tp n (by omega) (by omega)).postL (by omega) (by omega) ?_
    rintro _ h2 nx2 tc2 wr2 ⟨r2, rfl, hr2, t2⟩ n2 k2 w2 x2 i2
    have u2 := u1.call t2 n2 k2
    simp (maxSteps := 4000000) (maxDischargeDepth := 6) [↓step_none, ↓step_t, ↓step_f, ↓step_nt, ↓step_nf, ↓op_load, ↓op_store, ↓op_slice, ↓op_app, ↓op_islc, ↓P_skip, ↓P_exit, ↓P_ret, ↓P_seq, ↓P_cond, ↓P_blk, ↓P_reg, ↓P_draw, ↓P_nil, ↓P_cons, condP_t, condP_f, dum_ab, stepR, want_none, want_some, opRun, ev_t, ev_c, put_none, put_some, resAll, res_tmp, res_cell, oneOf, minI, maxI, min2A, max2A, mn2, mx2, mx3, rdBlk, wrBlk, newBlk, partA, abin, ibin, isShift, AV.cells, AV.one, lay, sub, fillA, lenA, toN, allApart, apartFrom, Nat.testBit, Mem.blk_set_same, Mem.blk_set_ne, Mem.set_set, bit_zero, bit_self, lowBits_or, lowBits_zero, len_setT, sl_same, sl_ne, len_frame, sl_frame,↓op_len, lenOp_slc, lenOp_nils, ↓Post.some, ↓Post_bind, ↓Post_ret, ↓Post_draw, ↓PostL_nil, ↓PostL_cons, Post_fail, ofOpt_some, ofOpt_none, eA_b, eA_i, eA_s, eA_nn, eA_np, eA_pn, eA_lnn, eA_lnp, eA_lpn, eA_i2, eA_i3, blt_dec, Nat.add_assoc, keeps_refl, keeps_at, keeps_up, new_one, and_pow, bit_hi, lowBits_pow, ble_dec, fr_refl, fr_at, fr_up, fr_p, dum_ab, reps, hlen, g0, g2, g3, g9, g10, g11, g12]
    refine (next_fx (u2.new _).tp 5 (by decide) (by decide)).postL (by omega) (by omega) ?_
    rintro _ h3 nx3 tc3 wr3 ⟨r3, rfl, hr3, t3⟩ n3 k3 w3 x3 i3
    have u3 := (u2.new _).call t3 n3 k3
    have B3 := (k3 nx2 (by omega) (by omega)).trans (Mem.blk_set_same ..)
    obtain ⟨Y, hY⟩ : ∃ Y : List (List AV), Y = [[.int .i64 0, .int .i64 0], [.int .i64 1, .int .i64 0], [.int .i64 2, .int .i64 0], [.int .i64 3, .int .i64 (IntKind.i64.wrap ((r1 : Int) - 400))], [.int .i64 4, .int .i64 r2]] := ⟨_, rfl⟩
    have gY : RD 2 (.slc nx2 0 5 (some 5)) h3 nx3 Y := RD.lit (M := Y) (by rw [hY]; rfl) (by rw [hY]; simp) (by omega) (by rw [hY]; exact B3)
    have vY : ∀ y ∈ Y, V2 y := by
      rw [hY]
      intro y hy
      simp only [List.mem_cons, List.not_mem_nil, or_false] at hy
      rcases hy with rfl | rfl | rfl | rfl | rfl <;> exact ⟨_, _, rfl⟩
    have lY : Y.length = 5 := by rw [hY]; rfl
    obtain ⟨bY, oY, el⟩ := gY.el (i := r3) (by omega)
    obtain ⟨ya, yb, ey⟩ := vY _ (List.getElem_mem (show r3 < Y.length by omega))
    rw [ey] at el
    have eb := el.bd
    cases eb
    have ea := el.all
    have ep := el.pl
    have own' : ∀ x, bid u = some x → x < nx ∧ ¬ x = p ∧ ¬ x = b11 ∧ ¬ x = b ∧ ¬ x = b2 ∧ nx0 ≤ x := fun x hx => by
      have := own x hx
      have := uo.lt hx
      omega
    have uo3 : OW 2 u h3 nx3 M := uo.keep (by omega) fun x hx => by
      obtain ⟨q1, q2, _⟩ := own' x hx
      rw [k3 x (by omega) q2, Mem.blk_set_ne _ _ _ _ (by omega), k2 x (by omega) q2, k1 x (by omega) q2]
    have bk3 : h3.blk b11 = some ⟨66, 2, true, false, [.int .i64 cls, u]⟩ := by
      rw [k3 b11 (by omega) (by omega), Mem.blk_set_ne _ _ _ _ (by omega), k2 b11 (by omega) (by omega), k1 b11 (by omega) (by omega)]
      exact bk
    simp (maxSteps := 4000000) (maxDischargeDepth := 6) [↓step_none, ↓step_t, ↓step_f, ↓step_nt, ↓step_nf, ↓op_load, ↓op_store, ↓op_slice, ↓op_app, ↓op_islc, ↓P_skip, ↓P_exit, ↓P_ret, ↓P_seq, ↓P_cond, ↓P_blk, ↓P_reg, ↓P_draw, ↓P_nil, ↓P_cons, condP_t, condP_f, dum_ab, stepR, want_none, want_some, opRun, ev_t, ev_c, put_none, put_some, resAll, res_tmp, res_cell, oneOf, minI, maxI, min2A, max2A, mn2, mx2, mx3, rdBlk, wrBlk, newBlk, partA, abin, ibin, isShift, AV.cells, AV.one, lay, sub, fillA, lenA, toN, allApart, apartFrom, Nat.testBit, Mem.blk_set_same, Mem.blk_set_ne, Mem.set_set, bit_zero, bit_self, lowBits_or, lowBits_zero, len_setT, sl_same, sl_ne, len_frame, sl_frame,↓op_len, lenOp_slc, lenOp_nils, ↓Post.some, ↓Post_bind, ↓Post_ret, ↓Post_draw, ↓PostL_nil, ↓PostL_cons, Post_fail, ofOpt_some, ofOpt_none, eA_b, eA_i, eA_s, eA_nn, eA_np, eA_pn, eA_lnn, eA_lnp, eA_lpn, eA_i2, eA_i3, blt_dec, Nat.add_assoc, keeps_refl, keeps_at, keeps_up, new_one, and_pow, bit_hi, lowBits_pow, ble_dec, fr_refl, fr_at, fr_up, fr_p, dum_ab, reps, hlen, g0, g2, g3, g9, g10, g11, g12, ea, ep]
    obtain ⟨u', hT, nxT, tcT, wrT, eT, nT, owT, kT, dT, tT, wT⟩ := OW.push (sz := 2) (by decide) 41 16 uo3 [.int .i64 ya, .int .i64 yb] rfl (fun k hk => fits16 (n := 100) (by omega) (by omega)) rfl 41 2 (nx3 + 1)
    refine Post.of eT ?_
    have uT : Us p s T0 h0 nx0 b2 b hT nxT nv cv mv ov := u3.other (by omega) (fun q => bid u = some q) (fun q hq hx => kT q hq hx) (fun q hq => by have := own' q hq; omega)
    have bkT : hT.blk b11 = some ⟨66, 2, true, false, [.int .i64 cls, u]⟩ := (kT b11 (by omega) fun e => by have := own' b11 e; omega).trans bk3
    have ownT : ∀ x, bid u' = some x → nxf ≤ x := fun x hx => by
      rcases dT x hx with e | e
      · exact own x e
      · omega
    have st := fun lg => st_at bkT (show b11 < nxT by omega) (n := 1) (o := 1) u' (by rw [owT.one.1]; rfl) (by rw [owT.one.1]; simp only [List.all_cons, List.all_nil, owT.one.2]; rfl) (by simp) lg
    have e1 : lay [AV.int .i64 cls, u] 1 [u'] = [AV.int .i64 cls, u'] := rfl
    rw [owT.one.1] at st
    simp only [e1] at st
    obtain ⟨HF, hHF⟩ : ∃ HF, HF = hT.set b11 (some ⟨66, 2, true, false, [.int .i64 cls, u']⟩) := ⟨_, rfl⟩
    rw [← hHF] at st
    have kF : ∀ q, ¬ q = b11 → HF.blk q = hT.blk q := fun q hq => by rw [hHF, Mem.blk_set_ne _ _ _ _ hq]
    have bkF : HF.blk b11 = some ⟨66, 2, true, false, [.int .i64 cls, u']⟩ := by rw [hHF, Mem.blk_set_same]
    have uF : Us p s T0 h0 nx0 b2 b HF nxT nv cv mv ov := uT.other (Nat.le_refl _) (fun q => q = b11) (fun q _ hq => kF q hq) (fun q hq => by subst hq; omega)
    simp (maxSteps := 4000000) (maxDischargeDepth := 6) [↓step_none, ↓step_t, ↓step_f, ↓step_nt, ↓step_nf, ↓op_load, ↓op_store, ↓op_slice, ↓op_app, ↓op_islc, ↓P_skip, ↓P_exit, ↓P_ret, ↓P_seq, ↓P_cond, ↓P_blk, ↓P_reg, ↓P_draw, ↓P_nil, ↓P_cons, condP_t, condP_f, dum_ab, stepR, want_none, want_some, opRun, ev_t, ev_c, put_none, put_some, resAll, res_tmp, res_cell, oneOf, minI, maxI, min2A, max2A, mn2, mx2, mx3, rdBlk, wrBlk, newBlk, partA, abin, ibin, isShift, AV.cells, AV.one, lay, sub, fillA, lenA, toN, allApart, apartFrom, Nat.testBit, Mem.blk_set_same, Mem.blk_set_ne, Mem.set_set, bit_zero, bit_self, lowBits_or, lowBits_zero, len_setT, sl_same, sl_ne, len_frame, sl_frame,↓op_len, lenOp_slc, lenOp_nils, ↓Post.some, ↓Post_bind, ↓Post_ret, ↓Post_draw, ↓PostL_nil, ↓PostL_cons, Post_fail, ofOpt_some, ofOpt_none, eA_b, eA_i, eA_s, eA_nn, eA_np, eA_pn, eA_lnn, eA_lnp, eA_lpn, eA_i2, eA_i3, blt_dec, Nat.add_assoc, keeps_refl, keeps_at, keeps_up, new_one, and_pow, bit_hi, lowBits_pow, ble_dec, fr_refl, fr_at, fr_up, fr_p, dum_ab, reps, hlen, g0, g2, g3, g9, g10, g11, g12, st, ci]
    have q2 : ¬ (nx2 = p ∨ bid s = some nx2) := fun e => by
      rcases e with e | e
      · omega
      · have := g.hs nx2 e; omega
    refine ⟨⟨ap3 (w1 b11 (by omega) (by omega)) (new_lo (by omega)), ap3 (w2 b11 (by omega) (by omega)) (new_lo (by omega)), bit_and (by omega), ⟨ap3 (w3 b11 (by omega) (by omega)) (new_lo (by omega)), ap2 (x3 nx2 (by omega) q2) (new_lo (by omega)), ap2 (w3 nx2 (by omega) (by omega)) (new_lo (by omega))⟩, bit_and (by omega)⟩, ?_⟩
    have M1 : Mk p s nx0 tc1 wr1 := ⟨fun q hq hp => w1 q (by omega) hp, fun q hq hp => x1 q (by omega) hp⟩
    have M2 : Mk p s nx0 tc2 wr2 := ⟨fun q hq hp => w2 q (by omega) hp, fun q hq hp => x2 q (by omega) hp⟩
    have M3 : Mk p s nx0 tc3 wr3 := ⟨fun q hq hp => w3 q (by omega) hp, fun q hq hp => x3 q (by omega) hp⟩
    have no : ∀ q, q < nxf → bid u ≠ some q := fun q hq e => by have := own q e; omega
    refine Round.nor (m' := k - 1) (by omega) ⟨cls, u', M ++ [[.int .i64 ya, .int .i64 yb]], ?_, ?_, ?_, ?_, ?_, ?_, ?_, ?_, uF, bkF, owT.keep (Nat.le_refl _) fun x hx => kF x (by have := ownT x hx; omega), ownT, by rw [List.length_append]; simp; omega, by omega, fun q hq hqp hqb => ?_, ?_⟩
    any_goals simp [len_setT, sl_same, sl_ne, hlen, g0, g2, g3, g9, g10, g11]
    · rw [kF q hqb, kT q (by omega) (no q hq), k3 q (by omega) hqp, Mem.blk_set_ne _ _ _ _ (by omega), k2 q (by omega) hqp, k1 q (by omega) hqp]
      exact kf q hq hqp hqb
    · have z2 : ∀ q, q < nx0 → ∀ lg', lowBits lg (bit lg' b11) &&& 2 ^ q = 0 := fun q hq lg' => low_z (bit_and (by omega))
      have z3 : ∀ q, q < nx0 → ∀ lg', lowBits lg (bit lg' nx2) &&& 2 ^ q = 0 := fun q hq lg' => low_z (bit_and (by omega))
      refine ⟨fun q hq hp => ?_, fun q hq hp => ?_⟩
      · have zT := low_z (lg := lg) (wT q (no q (by omega)))
        simp only [Nat.and_or_distrib_right, mk.w q hq hp, (M1.low (lg := lg)).w q hq hp, (M2.low (lg := lg)).w q hq hp, (M3.low (lg := lg)).w q hq hp, z2 q hq, z3 q hq, zT, Nat.or_zero]
      · have zT := low_z (lg := lg) (tT q (no q (by omega)) (by omega))
        simp only [Nat.and_or_distrib_right, mk.t q hq hp, (M1.low (lg := lg)).t q hq hp, (M2.low (lg := lg)).t q hq hp, (M3.low (lg := lg)).t q hq hp, z2 q hq, z3 q hq, zT, Nat.or_zero]
  · have ck' : ¬ (0 : Int) < (k : Int) := by omega
    simp (maxSteps := 4000000) (maxDischargeDepth := 6) [↓step_none, ↓step_t, ↓step_f, ↓step_nt, ↓step_nf, ↓op_load, ↓op_store, ↓op_slice, ↓op_app, ↓op_islc, ↓P_skip, ↓P_exit, ↓P_ret, ↓P_seq, ↓P_cond, ↓P_blk, ↓P_reg, ↓P_draw, ↓P_nil, ↓P_cons, condP_t, condP_f, dum_ab, stepR, want_none, want_some, opRun, ev_t, ev_c, put_none, put_some, resAll, res_tmp, res_cell, oneOf, minI, maxI, min2A, max2A, mn2, mx2, mx3, rdBlk, wrBlk, newBlk, partA, abin, ibin, isShift, AV.cells, AV.one, lay, sub, fillA, lenA, toN, allApart, apartFrom, Nat.testBit, Mem.blk_set_same, Mem.blk_set_ne, Mem.set_set, bit_zero, bit_self, lowBits_or, lowBits_zero, len_setT, sl_same, sl_ne, len_frame, sl_frame,↓op_len, lenOp_slc, lenOp_nils, ↓Post.some, ↓Post_bind, ↓Post_ret, ↓Post_draw, ↓PostL_nil, ↓PostL_cons, Post_fail, ofOpt_some, ofOpt_none, eA_b, eA_i, eA_s, eA_nn, eA_np, eA_pn, eA_lnn, eA_lnp, eA_lpn, eA_i2, eA_i3, blt_dec, Nat.add_assoc, keeps_refl, keeps_at, keeps_up, new_one, and_pow, bit_hi, lowBits_pow, ble_dec, fr_refl, fr_at, fr_up, fr_p, dum_ab, reps, L9_0b, hlen, g0, g2, g3, g9, g10, g11, g12, ck, ck']
    refine Round.exit (R := FlR p s T0 h0 nx0 b2 b nv cv mv ov n i b11 hf nxf) ⟨rfl, cls, u, ?_, ?_, ?_, ?_, ?_, ?_, ?_, g, bk, uo.one.2, hnf, kf, mk⟩ <;> simp [len_setT, sl_same, sl_ne, hlen, g0, g2, g3, g9, g10, g11]
def ObI (p : Nat) (s : AV) (T0 : List Int) (h0 : Mem) (nx0 b2 b : Nat) (nv cv mv : AV) (n : Nat) (hA : Mem) (nxA : Nat) (m : Nat) (ts : List AV) (h : Mem) (nx tc wr : Nat) : Prop := ∃ (i : Nat) (ov : AV) (N : List (List AV)), m = n - i ∧ i ≤ n ∧ ts.length = 197 ∧ sl ts 0 = .ptr p 0 ∧ sl ts 2 = .ptr b2 0 ∧ sl ts 3 = .ptr b 0 ∧ sl ts 9 = .int .i64 n ∧ sl ts 10 = .int .i64 i ∧ Us p s T0 h0 nx0 b2 b h nx nv cv mv ov ∧ OW 2 ov h nx N ∧ (∀ x, bid ov = some x → nxA ≤ x) ∧ N.length = i ∧ nxA ≤ nx ∧ (∀ q, q < nxA → ¬ q = p → ¬ q = b → h.blk q = hA.blk q) ∧ Mk p s nx0 tc wr
def ObR (p : Nat) (s : AV) (T0 : List Int) (h0 : Mem) (nx0 b2 b : Nat) (nv cv mv : AV) (n : Nat) (hA : Mem) (nxA : Nat) (e : Ex) (ts : List AV) (h : Mem) (nx tc wr : Nat) : Prop := e = .exit 8 ∧ ∃ (ov : AV), ts.length = 197 ∧ sl ts 0 = .ptr p 0 ∧ sl ts 2 = .ptr b2 0 ∧ sl ts 3 = .ptr b 0 ∧ ov.one = true ∧ Us p s T0 h0 nx0 b2 b h nx nv cv mv ov ∧ nxA ≤ nx ∧ (∀ q, q < nxA → ¬ q = p → ¬ q = b → h.blk q = hA.blk q) ∧ Mk p s nx0 tc wr
def ObS (p : Nat) (s : AV) (T0 : List Int) (h0 : Mem) (nx0 b2 b : Nat) (nv cv mv ov : AV) (n i b11 : Nat) (N : List (List AV)) (hf : Mem) (nxf : Nat) (ts : List AV) (h : Mem) (nx : Nat) : Prop := ∃ (cls : Int) (k : Nat), ts.length = 197 ∧ sl ts 0 = .ptr p 0 ∧ sl ts 2 = .ptr b2 0 ∧ sl ts 3 = .ptr b 0 ∧ sl ts 9 = .int .i64 n ∧ sl ts 10 = .int .i64 i ∧ sl ts 11 = .ptr b11 0 ∧ sl ts 12 = .int .i64 k ∧ k ≤ 50 ∧ Us p s T0 h0 nx0 b2 b h nx nv cv mv ov ∧ h.blk b11 = some ⟨66, 2, true, false, [.int .i64 cls, .nils]⟩ ∧ OW 2 ov h nx N ∧ nxf ≤ nx ∧ (∀ q, q < nxf → ¬ q = p → ¬ q = b11 → h.blk q = hf.blk q)
set_option maxHeartbeats 16000000 in
theorem ob_round {p : Nat} {s : AV} {T0 : List Int} {h0 : Mem} {nx0 b2 b : Nat} {nv cv mv : AV} {n : Nat} (hn1 : 1 ≤ n) (hn5 : n ≤ 5) {hA : Mem} {nxA : Nat} (hbA : b < nxA) {L : List C} (cw : OW 4 cv hA nxA (css L)) (hcp : ∀ x, bid cv = some x → ¬ x = p ∧ ¬ x = b) (hc0 : ∀ x, bid cv = some x → nx0 ≤ x) (hL3 : 3 ≤ L.length) (hL5 : L.length ≤ 5) (fb : ∀ c ∈ L, 0 ≤ c.fld ∧ c.fld ≤ 40) (lg : Nat) (hlg : lg ≤ nx0) (m : Nat) (ts : List AV) (h : Mem) (nx tc wr : Nat) (hi : ObI p s T0 h0 nx0 b2 b nv cv mv n hA nxA m ts h nx tc wr) :
    Post (xC T 400 L9_1b ts h nx lg) fun v' h' nx' tc' wr' => Round (ObI p s T0 h0 nx0 b2 b nv cv mv n hA nxA) (ObR p s T0 h0 nx0 b2 b nv cv mv n hA nxA) m v' h' nx' (tc ||| tc') (wr ||| wr') := by
  obtain ⟨i, ov, N, rfl, hi, hlen, g0, g2, g3, g9, g10, g, ow, own, hN, hnA, kA, mk⟩ := hi
  have hb2 := g.bn
  have hbb := g.b2b
  have hbl := g.bl
  have hp := g.hp
  have ci : IntKind.i64.wrap ((i : Int) + 1) = ((i + 1 : Nat) : Int) := by rw [IntKind.wrap_i64]; omega
  by_cases cn : i < n
  · have cn' : (i : Int) < (n : Int) := by omega
    have lb := fun lg => ld_at g.blk g.bl (o := 1) (v := cv) rfl lg
    have lc := cw.lenOp
    rw [css_len] at lc
    have w2 : IntKind.i64.wrap ((L.length : Int) - 2) = (L.length : Int) - 2 := by rw [IntKind.wrap_i64]; omega
    simp (maxSteps := 4000000) (maxDischargeDepth := 6) [↓step_none, ↓step_t, ↓step_f, ↓step_nt, ↓step_nf, ↓op_load, ↓op_store, ↓op_slice, ↓op_app, ↓op_islc, ↓P_skip, ↓P_exit, ↓P_ret, ↓P_seq, ↓P_cond, ↓P_blk, ↓P_reg, ↓P_draw, ↓P_nil, ↓P_cons, condP_t, condP_f, dum_ab, stepR, want_none, want_some, opRun, ev_t, ev_c, put_none, put_some, resAll, res_tmp, res_cell, oneOf, minI, maxI, min2A, max2A, mn2, mx2, mx3, rdBlk, wrBlk, newBlk, partA, abin, ibin, isShift, AV.cells, AV.one, lay, sub, fillA, lenA, toN, allApart, apartFrom, Nat.testBit, Mem.blk_set_same, Mem.blk_set_ne, Mem.set_set, bit_zero, bit_self, lowBits_or, lowBits_zero, len_setT, sl_same, sl_ne, len_frame, sl_frame,↓op_len, lenOp_slc, lenOp_nils, ↓Post.some, ↓Post_bind, ↓Post_ret, ↓Post_draw, ↓PostL_nil, ↓PostL_cons, Post_fail, ofOpt_some, ofOpt_none, eA_b, eA_i, eA_s, eA_nn, eA_np, eA_pn, eA_lnn, eA_lnp, eA_lpn, eA_i2, eA_i3, blt_dec, Nat.add_assoc, keeps_refl, keeps_at, keeps_up, new_one, and_pow, bit_hi, lowBits_pow, ble_dec, fr_refl, fr_at, fr_up, fr_p, dum_ab, reps, L9_1b, hlen, g0, g2, g3, g9, g10, cn, cn', lb, lc, w2]
    refine (next_fx g.tp ((L.length : Int) - 2) (by omega) (by omega)).post (by omega) (by omega) ?_
    rintro _ h1 nx1 tc1 wr1 ⟨r1, rfl, hr1, t1⟩ n1 k1 w1 x1
    have u1 := g.call t1 n1 k1
    have w3 : IntKind.i64.wrap (2 + (r1 : Int)) = ((r1 + 2 : Nat) : Int) := by rw [IntKind.wrap_i64]; omega
    obtain ⟨S6, hS6⟩ : ∃ S6 : Nat, S6 = r1 + 2 := ⟨_, rfl⟩
    rw [← hS6] at w3
    have hS : S6 < L.length := by omega
    obtain ⟨H2, st2, bk2, s2⟩ := st_var h1 nx1 (n := 2) (t := 66) (sz := 2) (g := false) [.int .i64 0, .nils] [.int .i64 (S6 : Int), .nils] rfl rfl rfl
    have u2 := u1.keeps (nx' := nx1 + 1) (by omega) s2
    have cw2 : OW 4 cv H2 (nx1 + 1) (css L) := cw.keep (by omega) fun x hx => by
      have h1 := hcp x hx
      have h2 := cw.lt hx
      rw [s2 x (by omega), k1 x (by omega) h1.1, kA x h2 h1.1 h1.2]
    have ow2 : OW 2 ov H2 (nx1 + 1) N := ow.keep (by omega) fun x hx => by
      have := own x hx
      have := ow.lt hx
      rw [s2 x (by omega), k1 x (by omega) (by omega)]
    have kf2 : ∀ q, q < nx → ¬ q = p → H2.blk q = h.blk q := fun q hq hp => (s2 q (by omega)).trans (k1 q hq hp)
    have lb2 := fun lg => ld_at u2.blk u2.bl (o := 1) (v := cv) rfl lg
    have l0 := fun lg => ld_at bk2 (show nx1 < nx1 + 1 by omega) (o := 0) (v := .int .i64 (S6 : Int)) rfl lg
    obtain ⟨bE, oE, el⟩ := (cw2.rd (by decide)).el (i := S6) (by rw [css_len]; exact hS)
    rw [css_at] at el
    have el2 := fun lg => el.one 2 _ rfl lg
    have elp := el.pl
    have eld : bid cv = some bE := el.bd
    have hbE := cw.lt eld
    obtain ⟨f0, f1⟩ := fb _ (List.getElem_mem hS)
    obtain ⟨fk, hfk⟩ : ∃ fk : Nat, L[S6].fld = fk := ⟨L[S6].fld.toNat, by omega⟩
    rw [hfk] at el2
    simp (maxSteps := 4000000) (maxDischargeDepth := 6) [↓step_none, ↓step_t, ↓step_f, ↓step_nt, ↓step_nf, ↓op_load, ↓op_store, ↓op_slice, ↓op_app, ↓op_islc, ↓P_skip, ↓P_exit, ↓P_ret, ↓P_seq, ↓P_cond, ↓P_blk, ↓P_reg, ↓P_draw, ↓P_nil, ↓P_cons, condP_t, condP_f, dum_ab, stepR, want_none, want_some, opRun, ev_t, ev_c, put_none, put_some, resAll, res_tmp, res_cell, oneOf, minI, maxI, min2A, max2A, mn2, mx2, mx3, rdBlk, wrBlk, newBlk, partA, abin, ibin, isShift, AV.cells, AV.one, lay, sub, fillA, lenA, toN, allApart, apartFrom, Nat.testBit, Mem.blk_set_same, Mem.blk_set_ne, Mem.set_set, bit_zero, bit_self, lowBits_or, lowBits_zero, len_setT, sl_same, sl_ne, len_frame, sl_frame,↓op_len, lenOp_slc, lenOp_nils, ↓Post.some, ↓Post_bind, ↓Post_ret, ↓Post_draw, ↓PostL_nil, ↓PostL_cons, Post_fail, ofOpt_some, ofOpt_none, eA_b, eA_i, eA_s, eA_nn, eA_np, eA_pn, eA_lnn, eA_lnp, eA_lpn, eA_i2, eA_i3, blt_dec, Nat.add_assoc, keeps_refl, keeps_at, keeps_up, new_one, and_pow, bit_hi, lowBits_pow, ble_dec, fr_refl, fr_at, fr_up, fr_p, dum_ab, reps, hlen, g0, g2, g3, g9, g10, w3, st2, lb2, l0, elp, el2]
    have hcx : ∀ x, bid cv = some x → nx0 ≤ x := hc0
    have M1 : Mk p s nx0 tc1 wr1 := ⟨fun q hq hp => w1 q (by omega) hp, fun q hq hp => x1 q (by omega) hp⟩
    have hk40 : fk ≤ 40 := by omega
    by_cases i0 : i = 0
    · have i0n : ¬ 0 < i := by omega
      have i0' : ¬ (0 : Int) < (i : Int) := by omega
      simp (maxSteps := 4000000) (maxDischargeDepth := 6) [↓step_none, ↓step_t, ↓step_f, ↓step_nt, ↓step_nf, ↓op_load, ↓op_store, ↓op_slice, ↓op_app, ↓op_islc, ↓P_skip, ↓P_exit, ↓P_ret, ↓P_seq, ↓P_cond, ↓P_blk, ↓P_reg, ↓P_draw, ↓P_nil, ↓P_cons, condP_t, condP_f, dum_ab, stepR, want_none, want_some, opRun, ev_t, ev_c, put_none, put_some, resAll, res_tmp, res_cell, oneOf, minI, maxI, min2A, max2A, mn2, mx2, mx3, rdBlk, wrBlk, newBlk, partA, abin, ibin, isShift, AV.cells, AV.one, lay, sub, fillA, lenA, toN, allApart, apartFrom, Nat.testBit, Mem.blk_set_same, Mem.blk_set_ne, Mem.set_set, bit_zero, bit_self, lowBits_or, lowBits_zero, len_setT, sl_same, sl_ne, len_frame, sl_frame,↓op_len, lenOp_slc, lenOp_nils, ↓Post.some, ↓Post_bind, ↓Post_ret, ↓Post_draw, ↓PostL_nil, ↓PostL_cons, Post_fail, ofOpt_some, ofOpt_none, eA_b, eA_i, eA_s, eA_nn, eA_np, eA_pn, eA_lnn, eA_lnp, eA_lpn, eA_i2, eA_i3, blt_dec, Nat.add_assoc, keeps_refl, keeps_at, keeps_up, new_one, and_pow, bit_hi, lowBits_pow, ble_dec, fr_refl, fr_at, fr_up, fr_p, dum_ab, reps, hlen, g0, g2, g3, g9, g10, i0n, i0', L9_0]
      refine Post.loop (fl_round (p := p) (s := s) (T0 := T0) (h0 := h0) (nx0 := nx0) (b2 := b2) (b := b) (nv := nv) (cv := cv) (mv := mv) (ov := ov) hn1 hn5 i (b11 := nx1) (by omega) (hf := H2) (nxf := (nx1 + 1)) (by omega) lg hlg) fk ⟨S6, .nils, [], ?_, ?_, ?_, ?_, ?_, ?_, ?_, ?_, u2, bk2, OW.nil .., (fun x hx => by cases hx), by simp; omega, Nat.le_refl _, fun q _ _ _ => rfl, Mk.z ..⟩ ?_ ?_
      any_goals simp [len_setT, sl_same, sl_ne, hlen, g0, g2, g3, g9, g10]
      · omega
      rintro e ts3 h3 nx3 tc3 wr3 ⟨rfl, cls3, v3, hlen3, a0, a2, a3, a9, a10, a11, u3, bk3, one3, hn3, kf3, mk3⟩
      have lb3 := fun lg => ld_at u3.blk u3.bl (o := 3) (v := ov) rfl lg
      have lo3 := fun lg => ld_sub (n := 2) (o := 0) bk3 (show nx1 < nx3 by omega) (vs := [.int .i64 cls3, v3]) rfl lg
      have ow3 : OW 2 ov h3 nx3 N := ow2.keep (by omega) fun x hx => by
        have := own x hx
        have := ow.lt hx
        exact kf3 x (by omega) (by omega) (by omega)
      simp (maxSteps := 4000000) (maxDischargeDepth := 6) [↓step_none, ↓step_t, ↓step_f, ↓step_nt, ↓step_nf, ↓op_load, ↓op_store, ↓op_slice, ↓op_app, ↓op_islc, ↓P_skip, ↓P_exit, ↓P_ret, ↓P_seq, ↓P_cond, ↓P_blk, ↓P_reg, ↓P_draw, ↓P_nil, ↓P_cons, condP_t, condP_f, dum_ab, stepR, want_none, want_some, opRun, ev_t, ev_c, put_none, put_some, resAll, res_tmp, res_cell, oneOf, minI, maxI, min2A, max2A, mn2, mx2, mx3, rdBlk, wrBlk, newBlk, partA, abin, ibin, isShift, AV.cells, AV.one, lay, sub, fillA, lenA, toN, allApart, apartFrom, Nat.testBit, Mem.blk_set_same, Mem.blk_set_ne, Mem.set_set, bit_zero, bit_self, lowBits_or, lowBits_zero, len_setT, sl_same, sl_ne, len_frame, sl_frame,↓op_len, lenOp_slc, lenOp_nils, ↓Post.some, ↓Post_bind, ↓Post_ret, ↓Post_draw, ↓PostL_nil, ↓PostL_cons, Post_fail, ofOpt_some, ofOpt_none, eA_b, eA_i, eA_s, eA_nn, eA_np, eA_pn, eA_lnn, eA_lnp, eA_lpn, eA_i2, eA_i3, blt_dec, Nat.add_assoc, keeps_refl, keeps_at, keeps_up, new_one, and_pow, bit_hi, lowBits_pow, ble_dec, fr_refl, fr_at, fr_up, fr_p, dum_ab, reps, hlen3, a0, a2, a3, a9, a10, a11, lb3, lo3]
      obtain ⟨ov', hT, nxT, tcT, wrT, eT, nT, owT, kT, dT, tT, wT⟩ := OW.push (sz := 2) (by decide) 66 32 ow3 [.int .i64 cls3, v3] rfl (fun k hk => fits_few (by omega) (by omega)) (by simp only [List.all_cons, List.all_nil, one3]; rfl) 66 2 lg
      refine Post.of eT ?_
      have uT : Us p s T0 h0 nx0 b2 b hT nxT nv cv mv ov := u3.other (by omega) (fun q => bid ov = some q) (fun q hq hx => kT q hq hx) (fun q hq => by have := own q hq; omega)
      have ownT : ∀ x, bid ov' = some x → nxA ≤ x := fun x hx => by
        rcases dT x hx with e | e
        · exact own x e
        · omega
      obtain ⟨HF, stF, uF, kF⟩ := uT.put 3 ov' owT.one.1 owT.one.2 nv cv mv ov' rfl (by decide)
      simp (maxSteps := 4000000) (maxDischargeDepth := 6) [↓step_none, ↓step_t, ↓step_f, ↓step_nt, ↓step_nf, ↓op_load, ↓op_store, ↓op_slice, ↓op_app, ↓op_islc, ↓P_skip, ↓P_exit, ↓P_ret, ↓P_seq, ↓P_cond, ↓P_blk, ↓P_reg, ↓P_draw, ↓P_nil, ↓P_cons, condP_t, condP_f, dum_ab, stepR, want_none, want_some, opRun, ev_t, ev_c, put_none, put_some, resAll, res_tmp, res_cell, oneOf, minI, maxI, min2A, max2A, mn2, mx2, mx3, rdBlk, wrBlk, newBlk, partA, abin, ibin, isShift, AV.cells, AV.one, lay, sub, fillA, lenA, toN, allApart, apartFrom, Nat.testBit, Mem.blk_set_same, Mem.blk_set_ne, Mem.set_set, bit_zero, bit_self, lowBits_or, lowBits_zero, len_setT, sl_same, sl_ne, len_frame, sl_frame,↓op_len, lenOp_slc, lenOp_nils, ↓Post.some, ↓Post_bind, ↓Post_ret, ↓Post_draw, ↓PostL_nil, ↓PostL_cons, Post_fail, ofOpt_some, ofOpt_none, eA_b, eA_i, eA_s, eA_nn, eA_np, eA_pn, eA_lnn, eA_lnp, eA_lpn, eA_i2, eA_i3, blt_dec, Nat.add_assoc, keeps_refl, keeps_at, keeps_up, new_one, and_pow, bit_hi, lowBits_pow, ble_dec, fr_refl, fr_at, fr_up, fr_p, dum_ab, reps, hlen3, a0, a2, a3, a9, a10, a11, stF, ci]
      have no : ∀ q, q < nxA → bid ov ≠ some q := fun q hq e => by have := own q e; omega
      have MT : Mk p s nx0 tcT wrT := ⟨fun q hq hp => wT q (no q (by omega)), fun q hq hp => tT q (no q (by omega)) (by omega)⟩
      refine Round.nor (m' := n - (i + 1)) (by omega) ⟨i + 1, ov', N ++ [[.int .i64 cls3, v3]], rfl, by omega, ?_, ?_, ?_, ?_, ?_, ?_, uF, owT.keep (Nat.le_refl _) fun x hx => kF x (by have := ownT x hx; omega), ownT, by rw [List.length_append, hN]; rfl, by omega, fun q hq hqp hqb => ?_, ?_⟩
      any_goals simp [len_setT, sl_same, sl_ne, hlen3, a0, a2, a3, a9]
      · rw [kF q hqb, kT q (by omega) (no q hq), kf3 q (by omega) hqp (by omega), kf2 q (by omega) hqp]
        exact kA q hq hqp hqb
      · refine ⟨fun q hq hp => ?_, fun q hq hp => ?_⟩
        · have z1 : ∀ lg, bit lg b &&& 2 ^ q = 0 := fun lg => bit_and (by omega)
          have z2 : ∀ lg, bit lg nx1 &&& 2 ^ q = 0 := fun lg => bit_and (by omega)
          have z3 : ∀ lg, bit lg bE &&& 2 ^ q = 0 := fun lg => bit_and (by have := hcx bE eld; omega)
          simp only [Nat.and_or_distrib_right, mk.w q hq hp, M1.w q hq hp, mk3.w q hq hp, MT.w q hq hp, z1, z2, z3, Nat.or_zero]
        · have z1 : ∀ lg, bit lg b &&& 2 ^ q = 0 := fun lg => bit_and (by omega)
          have z2 : ∀ lg, bit lg nx1 &&& 2 ^ q = 0 := fun lg => bit_and (by omega)
          have z3 : ∀ lg, bit lg bE &&& 2 ^ q = 0 := fun lg => bit_and (by have := hcx bE eld; omega)
          simp only [Nat.and_or_distrib_right, mk.t q hq hp, M1.t q hq hp, mk3.t q hq hp, MT.t q hq hp, z1, z2, z3, Nat.or_zero]
    have i0n : 0 < i := by omega
    have i0' : (0 : Int) < (i : Int) := by omega
    simp (maxSteps := 4000000) (maxDischargeDepth := 6) [↓step_none, ↓step_t, ↓step_f, ↓step_nt, ↓step_nf, ↓op_load, ↓op_store, ↓op_slice, ↓op_app, ↓op_islc, ↓P_skip, ↓P_exit, ↓P_ret, ↓P_seq, ↓P_cond, ↓P_blk, ↓P_reg, ↓P_draw, ↓P_nil, ↓P_cons, condP_t, condP_f, dum_ab, stepR, want_none, want_some, opRun, ev_t, ev_c, put_none, put_some, resAll, res_tmp, res_cell, oneOf, minI, maxI, min2A, max2A, mn2, mx2, mx3, rdBlk, wrBlk, newBlk, partA, abin, ibin, isShift, AV.cells, AV.one, lay, sub, fillA, lenA, toN, allApart, apartFrom, Nat.testBit, Mem.blk_set_same, Mem.blk_set_ne, Mem.set_set, bit_zero, bit_self, lowBits_or, lowBits_zero, len_setT, sl_same, sl_ne, len_frame, sl_frame,↓op_len, lenOp_slc, lenOp_nils, ↓Post.some, ↓Post_bind, ↓Post_ret, ↓Post_draw, ↓PostL_nil, ↓PostL_cons, Post_fail, ofOpt_some, ofOpt_none, eA_b, eA_i, eA_s, eA_nn, eA_np, eA_pn, eA_lnn, eA_lnp, eA_lpn, eA_i2, eA_i3, blt_dec, Nat.add_assoc, keeps_refl, keeps_at, keeps_up, new_one, and_pow, bit_hi, lowBits_pow, ble_dec, fr_refl, fr_at, fr_up, fr_p, dum_ab, reps, hlen, g0, g2, g3, g9, g10, i0n, i0']
    refine (next_fx u2.tp 3 (by decide) (by decide)).post (by omega) (by omega) ?_
    rintro _ h5 nx5 tc5 wr5 ⟨r5, rfl, hr5, t5⟩ n5 k5 w5 x5
    have u5 := u2.call t5 n5 k5
    have M5 : Mk p s nx0 tc5 wr5 := ⟨fun q hq hp => w5 q (by omega) hp, fun q hq hp => x5 q (by omega) hp⟩
    have bk5 := (k5 nx1 (by omega) (by omega)).trans bk2
    have ow5 : OW 2 ov h5 nx5 N := ow2.keep (by omega) fun x hx => by
      have := own x hx
      have := ow.lt hx
      exact k5 x (by omega) (by omega)
    simp (maxSteps := 4000000) (maxDischargeDepth := 6) [↓step_none, ↓step_t, ↓step_f, ↓step_nt, ↓step_nf, ↓op_load, ↓op_store, ↓op_slice, ↓op_app, ↓op_islc, ↓P_skip, ↓P_exit, ↓P_ret, ↓P_seq, ↓P_cond, ↓P_blk, ↓P_reg, ↓P_draw, ↓P_nil, ↓P_cons, condP_t, condP_f, dum_ab, stepR, want_none, want_some, opRun, ev_t, ev_c, put_none, put_some, resAll, res_tmp, res_cell, oneOf, minI, maxI, min2A, max2A, mn2, mx2, mx3, rdBlk, wrBlk, newBlk, partA, abin, ibin, isShift, AV.cells, AV.one, lay, sub, fillA, lenA, toN, allApart, apartFrom, Nat.testBit, Mem.blk_set_same, Mem.blk_set_ne, Mem.set_set, bit_zero, bit_self, lowBits_or, lowBits_zero, len_setT, sl_same, sl_ne, len_frame, sl_frame,↓op_len, lenOp_slc, lenOp_nils, ↓Post.some, ↓Post_bind, ↓Post_ret, ↓Post_draw, ↓PostL_nil, ↓PostL_cons, Post_fail, ofOpt_some, ofOpt_none, eA_b, eA_i, eA_s, eA_nn, eA_np, eA_pn, eA_lnn, eA_lnp, eA_lpn, eA_i2, eA_i3, blt_dec, Nat.add_assoc, keeps_refl, keeps_at, keeps_up, new_one, and_pow, bit_hi, lowBits_pow, ble_dec, fr_refl, fr_at, fr_up, fr_p, dum_ab, reps, hlen, g0, g2, g3, g9, g10, i0n, i0']
    refine condP_cut (I := fun r h' n' tc wr => r.1 = .nor ∧ ObS p s T0 h0 nx0 b2 b nv cv mv ov n i nx1 N h5 nx5 r.2 h' n' ∧ Mk p s nx0 tc wr) (fun _ => ?_) (fun _ => ?_) ?_
    · simp (maxSteps := 4000000) (maxDischargeDepth := 6) [↓step_none, ↓step_t, ↓step_f, ↓step_nt, ↓step_nf, ↓op_load, ↓op_store, ↓op_slice, ↓op_app, ↓op_islc, ↓P_skip, ↓P_exit, ↓P_ret, ↓P_seq, ↓P_cond, ↓P_blk, ↓P_reg, ↓P_draw, ↓P_nil, ↓P_cons, condP_t, condP_f, dum_ab, stepR, want_none, want_some, opRun, ev_t, ev_c, put_none, put_some, resAll, res_tmp, res_cell, oneOf, minI, maxI, min2A, max2A, mn2, mx2, mx3, rdBlk, wrBlk, newBlk, partA, abin, ibin, isShift, AV.cells, AV.one, lay, sub, fillA, lenA, toN, allApart, apartFrom, Nat.testBit, Mem.blk_set_same, Mem.blk_set_ne, Mem.set_set, bit_zero, bit_self, lowBits_or, lowBits_zero, len_setT, sl_same, sl_ne, len_frame, sl_frame,↓op_len, lenOp_slc, lenOp_nils, ↓Post.some, ↓Post_bind, ↓Post_ret, ↓Post_draw, ↓PostL_nil, ↓PostL_cons, Post_fail, ofOpt_some, ofOpt_none, eA_b, eA_i, eA_s, eA_nn, eA_np, eA_pn, eA_lnn, eA_lnp, eA_lpn, eA_i2, eA_i3, blt_dec, Nat.add_assoc, keeps_refl, keeps_at, keeps_up, new_one, and_pow, bit_hi, lowBits_pow, ble_dec, fr_refl, fr_at, fr_up, fr_p, dum_ab, reps, hlen, g0, g2, g3, g9, g10]
      refine (next_fx u5.tp 9 (by decide) (by decide)).post (by omega) (by omega) ?_
      rintro _ h6 nx6 tc6 wr6 ⟨r6, rfl, hr6, t6⟩ n6 k6 w6 x6
      have u6 := u5.call t6 n6 k6
      have M6 : Mk p s nx0 tc6 wr6 := ⟨fun q hq hp => w6 q (by omega) hp, fun q hq hp => x6 q (by omega) hp⟩
      have bk6 := (k6 nx1 (by omega) (by omega)).trans bk5
      have ow6 : OW 2 ov h6 nx6 N := ow5.keep (by omega) fun x hx => by
        have := own x hx
        have := ow.lt hx
        exact k6 x (by omega) (by omega)
      have st6 := fun lg => st_at bk6 (show nx1 < nx6 by omega) (n := 1) (o := 0) (.int .i64 1) rfl rfl (by simp) lg
      have e6 : lay [AV.int .i64 (S6 : Int), AV.nils] 0 [AV.int .i64 1] = [AV.int .i64 1, AV.nils] := rfl
      simp only [AV.cells, e6] at st6
      obtain ⟨H7, hH7⟩ : ∃ H7, H7 = h6.set nx1 (some ⟨66, 2, true, false, [.int .i64 1, .nils]⟩) := ⟨_, rfl⟩
      rw [← hH7] at st6
      have k7 : ∀ q, ¬ q = nx1 → H7.blk q = h6.blk q := fun q hq => by rw [hH7, Mem.blk_set_ne _ _ _ _ hq]
      have bk7 : H7.blk nx1 = some ⟨66, 2, true, false, [.int .i64 1, .nils]⟩ := by rw [hH7, Mem.blk_set_same]
      have u7 : Us p s T0 h0 nx0 b2 b H7 nx6 nv cv mv ov := u6.other (Nat.le_refl _) (fun q => q = nx1) (fun q _ hq => k7 q hq) (fun q hq => by subst hq; omega)
      have ow7 : OW 2 ov H7 nx6 N := ow6.keep (Nat.le_refl _) fun x hx => k7 x (by have := ow.lt hx; omega)
      simp (maxSteps := 4000000) (maxDischargeDepth := 6) [↓step_none, ↓step_t, ↓step_f, ↓step_nt, ↓step_nf, ↓op_load, ↓op_store, ↓op_slice, ↓op_app, ↓op_islc, ↓P_skip, ↓P_exit, ↓P_ret, ↓P_seq, ↓P_cond, ↓P_blk, ↓P_reg, ↓P_draw, ↓P_nil, ↓P_cons, condP_t, condP_f, dum_ab, stepR, want_none, want_some, opRun, ev_t, ev_c, put_none, put_some, resAll, res_tmp, res_cell, oneOf, minI, maxI, min2A, max2A, mn2, mx2, mx3, rdBlk, wrBlk, newBlk, partA, abin, ibin, isShift, AV.cells, AV.one, lay, sub, fillA, lenA, toN, allApart, apartFrom, Nat.testBit, Mem.blk_set_same, Mem.blk_set_ne, Mem.set_set, bit_zero, bit_self, lowBits_or, lowBits_zero, len_setT, sl_same, sl_ne, len_frame, sl_frame,↓op_len, lenOp_slc, lenOp_nils, ↓Post.some, ↓Post_bind, ↓Post_ret, ↓Post_draw, ↓PostL_nil, ↓PostL_cons, Post_fail, ofOpt_some, ofOpt_none, eA_b, eA_i, eA_s, eA_nn, eA_np, eA_pn, eA_lnn, eA_lnp, eA_lpn, eA_i2, eA_i3, blt_dec, Nat.add_assoc, keeps_refl, keeps_at, keeps_up, new_one, and_pow, bit_hi, lowBits_pow, ble_dec, fr_refl, fr_at, fr_up, fr_p, dum_ab, reps, hlen, g0, g2, g3, g9, g10, st6]
      refine ⟨⟨1, r6, ?_, ?_, ?_, ?_, ?_, ?_, ?_, ?_, by omega, u7, bk7, ow7, by omega, fun q hq hqp hqb => (k7 q hqb).trans (k6 q hq hqp)⟩, ?_⟩
      any_goals simp [len_setT, sl_same, sl_ne, hlen, g0, g2, g3, g9, g10]
      have z : ∀ q, q < nx0 → ∀ lg, bit lg nx1 &&& 2 ^ q = 0 := fun q hq lg => bit_and (by omega)
      refine ⟨fun q hq hp => ?_, fun q hq hp => ?_⟩
      · simp only [Nat.and_or_distrib_right, M6.w q hq hp, z q hq, Nat.or_zero]
      · simp only [Nat.and_or_distrib_right, M6.t q hq hp, z q hq, Nat.or_zero]
    · simp (maxSteps := 4000000) (maxDischargeDepth := 6) [↓step_none, ↓step_t, ↓step_f, ↓step_nt, ↓step_nf, ↓op_load, ↓op_store, ↓op_slice, ↓op_app, ↓op_islc, ↓P_skip, ↓P_exit, ↓P_ret, ↓P_seq, ↓P_cond, ↓P_blk, ↓P_reg, ↓P_draw, ↓P_nil, ↓P_cons, condP_t, condP_f, dum_ab, stepR, want_none, want_some, opRun, ev_t, ev_c, put_none, put_some, resAll, res_tmp, res_cell, oneOf, minI, maxI, min2A, max2A, mn2, mx2, mx3, rdBlk, wrBlk, newBlk, partA, abin, ibin, isShift, AV.cells, AV.one, lay, sub, fillA, lenA, toN, allApart, apartFrom, Nat.testBit, Mem.blk_set_same, Mem.blk_set_ne, Mem.set_set, bit_zero, bit_self, lowBits_or, lowBits_zero, len_setT, sl_same, sl_ne, len_frame, sl_frame,↓op_len, lenOp_slc, lenOp_nils, ↓Post.some, ↓Post_bind, ↓Post_ret, ↓Post_draw, ↓PostL_nil, ↓PostL_cons, Post_fail, ofOpt_some, ofOpt_none, eA_b, eA_i, eA_s, eA_nn, eA_np, eA_pn, eA_lnn, eA_lnp, eA_lpn, eA_i2, eA_i3, blt_dec, Nat.add_assoc, keeps_refl, keeps_at, keeps_up, new_one, and_pow, bit_hi, lowBits_pow, ble_dec, fr_refl, fr_at, fr_up, fr_p, dum_ab, reps, hlen]
      refine ⟨⟨S6, fk, ?_, ?_, ?_, ?_, ?_, ?_, ?_, ?_, by omega, u5, bk5, ow5, Nat.le_refl _, fun q _ _ _ => rfl⟩, Mk.z ..⟩ <;> simp [len_setT, sl_same, sl_ne, hlen, g0, g2, g3, g9, g10]
    rintro ⟨eC, tsC⟩ hC nxC tcC wrC ⟨he, ⟨clsC, kC, hlenC, c0, c2, c3, c9, c10, c11, c12, hkC, uC, bkC, owC, hnC, kfC'⟩, MC⟩
    simp only at he
    subst he
    have kfC : ∀ q, q < nx → ¬ q = p → hC.blk q = h.blk q := fun q hq hp => ((kfC' q (by omega) hp (by omega)).trans (k5 q (by omega) hp)).trans (kf2 q hq hp)
    simp (maxSteps := 4000000) (maxDischargeDepth := 6) [↓step_none, ↓step_t, ↓step_f, ↓step_nt, ↓step_nf, ↓op_load, ↓op_store, ↓op_slice, ↓op_app, ↓op_islc, ↓P_skip, ↓P_exit, ↓P_ret, ↓P_seq, ↓P_cond, ↓P_blk, ↓P_reg, ↓P_draw, ↓P_nil, ↓P_cons, condP_t, condP_f, dum_ab, stepR, want_none, want_some, opRun, ev_t, ev_c, put_none, put_some, resAll, res_tmp, res_cell, oneOf, minI, maxI, min2A, max2A, mn2, mx2, mx3, rdBlk, wrBlk, newBlk, partA, abin, ibin, isShift, AV.cells, AV.one, lay, sub, fillA, lenA, toN, allApart, apartFrom, Nat.testBit, Mem.blk_set_same, Mem.blk_set_ne, Mem.set_set, bit_zero, bit_self, lowBits_or, lowBits_zero, len_setT, sl_same, sl_ne, len_frame, sl_frame,↓op_len, lenOp_slc, lenOp_nils, ↓Post.some, ↓Post_bind, ↓Post_ret, ↓Post_draw, ↓PostL_nil, ↓PostL_cons, Post_fail, ofOpt_some, ofOpt_none, eA_b, eA_i, eA_s, eA_nn, eA_np, eA_pn, eA_lnn, eA_lnp, eA_lpn, eA_i2, eA_i3, blt_dec, Nat.add_assoc, keeps_refl, keeps_at, keeps_up, new_one, and_pow, bit_hi, lowBits_pow, ble_dec, fr_refl, fr_at, fr_up, fr_p, dum_ab, reps, hlenC, c0, c2, c3, c9, c10, c11, c12, L9_0]
    refine Post.loop (fl_round (p := p) (s := s) (T0 := T0) (h0 := h0) (nx0 := nx0) (b2 := b2) (b := b) (nv := nv) (cv := cv) (mv := mv) (ov := ov) hn1 hn5 i (b11 := nx1) (by omega) (hf := hC) (nxf := nxC) (by omega) lg hlg) kC ⟨clsC, .nils, [], ?_, ?_, ?_, ?_, ?_, ?_, ?_, ?_, uC, bkC, OW.nil .., (fun x hx => by cases hx), by simp; omega, Nat.le_refl _, fun q _ _ _ => rfl, Mk.z ..⟩ ?_ ?_
    any_goals simp [len_setT, sl_same, sl_ne, hlenC, c0, c2, c3, c9, c10, c11, c12]
    · omega
    rintro e ts3 h3 nx3 tc3 wr3 ⟨rfl, cls3, v3, hlen3, a0, a2, a3, a9, a10, a11, u3, bk3, one3, hn3, kf3, mk3⟩
    have lb3 := fun lg => ld_at u3.blk u3.bl (o := 3) (v := ov) rfl lg
    have lo3 := fun lg => ld_sub (n := 2) (o := 0) bk3 (show nx1 < nx3 by omega) (vs := [.int .i64 cls3, v3]) rfl lg
    have ow3 : OW 2 ov h3 nx3 N := owC.keep (by omega) fun x hx => by
      have := own x hx
      have := ow.lt hx
      exact kf3 x (by omega) (by omega) (by omega)
    simp (maxSteps := 4000000) (maxDischargeDepth := 6) [↓step_none, ↓step_t, ↓step_f, ↓step_nt, ↓step_nf, ↓op_load, ↓op_store, ↓op_slice, ↓op_app, ↓op_islc, ↓P_skip, ↓P_exit, ↓P_ret, ↓P_seq, ↓P_cond, ↓P_blk, ↓P_reg, ↓P_draw, ↓P_nil, ↓P_cons, condP_t, condP_f, dum_ab, stepR, want_none, want_some, opRun, ev_t, ev_c, put_none, put_some, resAll, res_tmp, res_cell, oneOf, minI, maxI, min2A, max2A, mn2, mx2, mx3, rdBlk, wrBlk, newBlk, partA, abin, ibin, isShift, AV.cells, AV.one, lay, sub, fillA, lenA, toN, allApart, apartFrom, Nat.testBit, Mem.blk_set_same, Mem.blk_set_ne, Mem.set_set, bit_zero, bit_self, lowBits_or, lowBits_zero, len_setT, sl_same, sl_ne, len_frame, sl_frame,↓op_len, lenOp_slc, lenOp_nils, ↓Post.some, ↓Post_bind, ↓Post_ret, ↓Post_draw, ↓PostL_nil, ↓PostL_cons, Post_fail, ofOpt_some, ofOpt_none, eA_b, eA_i, eA_s, eA_nn, eA_np, eA_pn, eA_lnn, eA_lnp, eA_lpn, eA_i2, eA_i3, blt_dec, Nat.add_assoc, keeps_refl, keeps_at, keeps_up, new_one, and_pow, bit_hi, lowBits_pow, ble_dec, fr_refl, fr_at, fr_up, fr_p, dum_ab, reps, hlen3, a0, a2, a3, a9, a10, a11, lb3, lo3]
    obtain ⟨ov', hT, nxT, tcT, wrT, eT, nT, owT, kT, dT, tT, wT⟩ := OW.push (sz := 2) (by decide) 66 32 ow3 [.int .i64 cls3, v3] rfl (fun k hk => fits_few (by omega) (by omega)) (by simp only [List.all_cons, List.all_nil, one3]; rfl) 66 2 lg
    refine Post.of eT ?_
    have uT : Us p s T0 h0 nx0 b2 b hT nxT nv cv mv ov := u3.other (by omega) (fun q => bid ov = some q) (fun q hq hx => kT q hq hx) (fun q hq => by have := own q hq; omega)
    have ownT : ∀ x, bid ov' = some x → nxA ≤ x := fun x hx => by
      rcases dT x hx with e | e
      · exact own x e
      · omega
    obtain ⟨HF, stF, uF, kF⟩ := uT.put 3 ov' owT.one.1 owT.one.2 nv cv mv ov' rfl (by decide)
    simp (maxSteps := 4000000) (maxDischargeDepth := 6) [↓step_none, ↓step_t, ↓step_f, ↓step_nt, ↓step_nf, ↓op_load, ↓op_store, ↓op_slice, ↓op_app, ↓op_islc, ↓P_skip, ↓P_exit, ↓P_ret, ↓P_seq, ↓P_cond, ↓P_blk, ↓P_reg, ↓P_draw, ↓P_nil, ↓P_cons, condP_t, condP_f, dum_ab, stepR, want_none, want_some, opRun, ev_t, ev_c, put_none, put_some, resAll, res_tmp, res_cell, oneOf, minI, maxI, min2A, max2A, mn2, mx2, mx3, rdBlk, wrBlk, newBlk, partA, abin, ibin, isShift, AV.cells, AV.one, lay, sub, fillA, lenA, toN, allApart, apartFrom, Nat.testBit, Mem.blk_set_same, Mem.blk_set_ne, Mem.set_set, bit_zero, bit_self, lowBits_or, lowBits_zero, len_setT, sl_same, sl_ne, len_frame, sl_frame,↓op_len, lenOp_slc, lenOp_nils, ↓Post.some, ↓Post_bind, ↓Post_ret, ↓Post_draw, ↓PostL_nil, ↓PostL_cons, Post_fail, ofOpt_some, ofOpt_none, eA_b, eA_i, eA_s, eA_nn, eA_np, eA_pn, eA_lnn, eA_lnp, eA_lpn, eA_i2, eA_i3, blt_dec, Nat.add_assoc, keeps_refl, keeps_at, keeps_up, new_one, and_pow, bit_hi, lowBits_pow, ble_dec, fr_refl, fr_at, fr_up, fr_p, dum_ab, reps, hlen3, a0, a2, a3, a9, a10, a11, stF, ci]
    have no : ∀ q, q < nxA → bid ov ≠ some q := fun q hq e => by have := own q e; omega
    have MT : Mk p s nx0 tcT wrT := ⟨fun q hq hp => wT q (no q (by omega)), fun q hq hp => tT q (no q (by omega)) (by omega)⟩
    refine Round.nor (m' := n - (i + 1)) (by omega) ⟨i + 1, ov', N ++ [[.int .i64 cls3, v3]], rfl, by omega, ?_, ?_, ?_, ?_, ?_, ?_, uF, owT.keep (Nat.le_refl _) fun x hx => kF x (by have := ownT x hx; omega), ownT, by rw [List.length_append, hN]; rfl, by omega, fun q hq hqp hqb => ?_, ?_⟩
    any_goals simp [len_setT, sl_same, sl_ne, hlen3, a0, a2, a3, a9]
    · rw [kF q hqb, kT q (by omega) (no q hq), kf3 q (by omega) hqp (by omega), kfC q (by omega) hqp]
      exact kA q hq hqp hqb
    · refine ⟨fun q hq hp => ?_, fun q hq hp => ?_⟩
      · have z1 : ∀ lg, bit lg b &&& 2 ^ q = 0 := fun lg => bit_and (by omega)
        have z2 : ∀ lg, bit lg nx1 &&& 2 ^ q = 0 := fun lg => bit_and (by omega)
        have z3 : ∀ lg, bit lg bE &&& 2 ^ q = 0 := fun lg => bit_and (by have := hcx bE eld; omega)
        simp only [Nat.and_or_distrib_right, mk.w q hq hp, M1.w q hq hp, mk3.w q hq hp, MT.w q hq hp, z1, z2, z3, M5.w q hq hp, MC.w q hq hp, Nat.or_zero]
      · have z1 : ∀ lg, bit lg b &&& 2 ^ q = 0 := fun lg => bit_and (by omega)
        have z2 : ∀ lg, bit lg nx1 &&& 2 ^ q = 0 := fun lg => bit_and (by omega)
        have z3 : ∀ lg, bit lg bE &&& 2 ^ q = 0 := fun lg => bit_and (by have := hcx bE eld; omega)
        simp only [Nat.and_or_distrib_right, mk.t q hq hp, M1.t q hq hp, mk3.t q hq hp, MT.t q hq hp, z1, z2, z3, M5.t q hq hp, MC.t q hq hp, Nat.or_zero]
  · have cn' : ¬ (i : Int) < (n : Int) := by omega
    simp (maxSteps := 4000000) (maxDischargeDepth := 6) [↓step_none, ↓step_t, ↓step_f, ↓step_nt, ↓step_nf, ↓op_load, ↓op_store, ↓op_slice, ↓op_app, ↓op_islc, ↓P_skip, ↓P_exit, ↓P_ret, ↓P_seq, ↓P_cond, ↓P_blk, ↓P_reg, ↓P_draw, ↓P_nil, ↓P_cons, condP_t, condP_f, dum_ab, stepR, want_none, want_some, opRun, ev_t, ev_c, put_none, put_some, resAll, res_tmp, res_cell, oneOf, minI, maxI, min2A, max2A, mn2, mx2, mx3, rdBlk, wrBlk, newBlk, partA, abin, ibin, isShift, AV.cells, AV.one, lay, sub, fillA, lenA, toN, allApart, apartFrom, Nat.testBit, Mem.blk_set_same, Mem.blk_set_ne, Mem.set_set, bit_zero, bit_self, lowBits_or, lowBits_zero, len_setT, sl_same, sl_ne, len_frame, sl_frame,↓op_len, lenOp_slc, lenOp_nils, ↓Post.some, ↓Post_bind, ↓Post_ret, ↓Post_draw, ↓PostL_nil, ↓PostL_cons, Post_fail, ofOpt_some, ofOpt_none, eA_b, eA_i, eA_s, eA_nn, eA_np, eA_pn, eA_lnn, eA_lnp, eA_lpn, eA_i2, eA_i3, blt_dec, Nat.add_assoc, keeps_refl, keeps_at, keeps_up, new_one, and_pow, bit_hi, lowBits_pow, ble_dec, fr_refl, fr_at, fr_up, fr_p, dum_ab, reps, L9_1b, hlen, g0, g2, g3, g9, g10, cn, cn']
    refine Round.exit (R := ObR p s T0 h0 nx0 b2 b nv cv mv n hA nxA) ⟨rfl, ov, ?_, ?_, ?_, ?_, ow.one.2, g, hnA, kA, mk⟩ <;> simp [len_setT, sl_same, sl_ne, hlen, g0, g2, g3]
end Go.Proofs.YtlbjdkhpabpmiaaT
