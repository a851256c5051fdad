/- Frame: At, Free, New. -/
import Derived.Test.YtobcboiemibkkaaTake
namespace Go.Proofs.YtobcboiemibkkaaT
open Go Go.Proofs.YtobcboiemibkkaaE Go.Proofs.YtobcboiemibkkaaB
set_option linter.unusedSimpArgs false
set_option linter.unusedVariables false
attribute [local congr] Post_cg PostL_cg condP_cg

def fzero : List AV := [.int .i64 0, .int .i64 0, .int .i64 0, .int .i64 0, .int .i64 0, .int .u32 0, .nils, .nils]
def fr8 (f : Fr) (a b : AV) : AV := .agg [.int .i64 f.m, .int .i64 f.pc, .int .i64 f.se, .int .i64 f.ho, .int .i64 f.sr, .int .u32 f.self, a, b]
/-- What At of one that is in comes to. -/
def AtOk (h : Mem) (nx p : Nat) (f : Fr) (la lb : List Int) (x : Int) (lg : Nat) : Prop := ∃ a b h' nx' tc wr, (∀ k, xF T (k + 80) 14 [.ptr p 0, .int .i64 x] h nx lg = some ⟨.tup [fr8 f a b, .bool true], h', nx', tc, wr⟩) ∧ nx ≤ nx' ∧ RV 1 la.length a h' 0 nx' (u32s la) ∧ RV 1 lb.length b h' 0 nx' (u32s lb) ∧ (∀ q, q < nx → h'.blk q = h.blk q) ∧ (∀ q, bid a = some q → nx ≤ q) ∧ (∀ q, bid b = some q → nx ≤ q) ∧ (a = .nils ∨ ∃ b n, a = .slc b 0 n (some n)) ∧ (b = .nils ∨ ∃ q n, b = .slc q 0 n (some n))
set_option maxHeartbeats 16000000 in
theorem at_yes {h : Mem} {nx p : Nat} {F : List Fr} {U : List Bool} {s : Int} {A B : List (List Int)} (ps : PS h nx p F U s A B) (i : Nat) (hi : i < U.length) (hf : i < F.length) (hA : i < A.length) (hB : i < B.length) (hu : U[i] = true) (lA : A[i].length ≤ 100) (lB : B[i].length ≤ 100) (lg : Nat) (hlg : lg ≤ nx) : AtOk h nx p F[i] A[i] B[i] i lg := by
  have hU := ps.hU
  have hp := ps.hp
  obtain ⟨H1, hH1⟩ : ∃ H1, H1 = h.set nx (some ⟨36, 8, true, false, fzero⟩) := ⟨_, rfl⟩
  have k1 : ∀ b, b < nx → H1.blk b = h.blk b := fun b hb => by rw [hH1, Mem.blk_set_ne _ _ _ _ (by omega)]
  have ps1 := ps.keeps (show nx ≤ nx + 1 by omega) k1
  obtain ⟨tc, x1⟩ := (is_in ps1 i hi).at lg (by omega)
  rw [hu] at x1
  obtain ⟨t, hb⟩ := ps1.hb
  have l1 := fun lg => ld_sub hb ps1.hp (p_line ps.hF hU s hf) lg
  obtain ⟨H2, hH2⟩ : ∃ H2, H2 = H1.set (nx + 1) (some ⟨36, 8, true, false, fcells F[i]⟩) := ⟨_, rfl⟩
  have k2 : ∀ b, b < nx + 1 → H2.blk b = H1.blk b := fun b hb => by rw [hH2, Mem.blk_set_ne _ _ _ _ (by omega)]
  have ps2 := ps1.keeps (show nx + 1 ≤ nx + 2 by omega) k2
  have hb2 : H2.blk (nx + 1) = some ⟨36, 8, true, false, fcells F[i]⟩ := by rw [hH2, Mem.blk_set_same]
  have hb1 : H2.blk nx = some ⟨36, 8, true, false, fzero⟩ := by rw [k2 nx (by omega), hH1, Mem.blk_set_same]
  obtain ⟨va, h3, nx3, tc3, x3, n3, o3, k3, b3, m3⟩ := clone_or (ps2.rA i hf hA).rv lA (nx + 2) (Nat.le_refl _)
  obtain ⟨wa, tc4, x4, r4, b4, m4, f4⟩ := clip_or o3 nx3
  have ps3 := ps2.keeps n3 k3
  obtain ⟨vb, h5, nx5, tc5, x5, n5, o5, k5, b5, m5⟩ := clone_or (ps3.rB i hf hB).rv lB nx3 (Nat.le_refl _)
  obtain ⟨wb, tc6, x6, r6, b6, m6, f6⟩ := clip_or o5 nx5
  have e2 : h3.blk (nx + 1) = some ⟨36, 8, true, false, fcells F[i]⟩ := (k3 _ (by omega)).trans hb2
  have e5 : h5.blk (nx + 1) = some ⟨36, 8, true, false, fcells F[i]⟩ := (k5 _ (by omega)).trans e2
  have e51 : h5.blk nx = some ⟨36, 8, true, false, fzero⟩ := by rw [k5 nx (by omega), k3 nx (by omega), hb1]
  have r4' : RV 1 A[i].length wa h5 0 nx5 (u32s A[i]) := rv_keep r4 n5 fun b hb _ => k5 b hb
  have low4 : ∀ b, bid wa = some b → nx + 2 ≤ b := fun b hb => b3 b (b4 b hb)
  have low6 : ∀ b, bid wb = some b → nx3 ≤ b := fun b hb => b5 b (b6 b hb)
  have oneA : wa.cells = [wa] ∧ wa.one = true := by rcases f4 with rfl | ⟨_, _, rfl⟩ <;> exact ⟨rfl, rfl⟩
  have oneB : wb.cells = [wb] ∧ wb.one = true := by rcases f6 with rfl | ⟨_, _, rfl⟩ <;> exact ⟨rfl, rfl⟩
  obtain ⟨H6, hH6⟩ : ∃ H6, H6 = h5.set (nx + 1) (some ⟨36, 8, true, false, (fcells F[i]).set 6 wa⟩) := ⟨_, rfl⟩
  obtain ⟨H7, hH7⟩ : ∃ H7, H7 = H6.set (nx + 1) (some ⟨36, 8, true, false, ((fcells F[i]).set 6 wa).set 7 wb⟩) := ⟨_, rfl⟩
  obtain ⟨H8, hH8⟩ : ∃ H8, H8 = H7.set nx (some ⟨36, 8, true, false, ((fcells F[i]).set 6 wa).set 7 wb⟩) := ⟨_, rfl⟩
  have e6 : H6.blk (nx + 1) = some ⟨36, 8, true, false, (fcells F[i]).set 6 wa⟩ := by rw [hH6, Mem.blk_set_same]
  have e7 : H7.blk (nx + 1) = some ⟨36, 8, true, false, ((fcells F[i]).set 6 wa).set 7 wb⟩ := by rw [hH7, Mem.blk_set_same]
  have e71 : H7.blk nx = some ⟨36, 8, true, false, fzero⟩ := by rw [hH7, Mem.blk_set_ne _ _ _ _ (by omega), hH6, Mem.blk_set_ne _ _ _ _ (by omega), e51]
  have e8 : H8.blk nx = some ⟨36, 8, true, false, ((fcells F[i]).set 6 wa).set 7 wb⟩ := by rw [hH8, Mem.blk_set_same]
  have sA : ∀ lg, stA 8 (.ptr (nx + 1) 0) (.agg (fcells F[i])) (H1.set (nx + 1) (some ⟨36, 8, true, false, fzero⟩)) (nx + 1 + 1) lg = some ⟨.tup [], H2, nx + 1 + 1, bit lg (nx + 1), bit lg (nx + 1)⟩ := fun lg => by
    have := st_at (n := 8) (h := H1.set (nx + 1) (some ⟨36, 8, true, false, fzero⟩)) (Mem.blk_set_same ..) (show nx + 1 < nx + 1 + 1 by omega) (o := 0) (.agg (fcells F[i])) rfl (by
      have h1 := (ps.rA i hf hA).form
      have h2 := (ps.rB i hf hB).form
      simp only [AV.cells, fcells, List.all_cons, List.all_nil, Bool.and_true]
      rcases h1 with ⟨e, _⟩ | ⟨_, _, e⟩ <;> rcases h2 with ⟨e', _⟩ | ⟨_, _, e'⟩ <;> rw [e, e'] <;> rfl) (by show 8 ≤ 8; omega) lg
    rw [Mem.set_set] at this
    rw [hH2]
    exact this
  have l6 := fun lg => ld_at hb2 (show nx + 1 < nx + 2 by omega) (o := 6) (v := F[i].sl) rfl lg
  have l7 := fun lg => ld_at e2 (show nx + 1 < nx3 by omega) (o := 7) (v := F[i].st) rfl lg
  have s6 : ∀ lg, stA 1 (.ptr (nx + 1) 6) wa h5 nx5 lg = some ⟨.tup [], H6, nx5, bit lg (nx + 1), bit lg (nx + 1)⟩ := fun lg => by
    have := st_at (n := 1) e5 (show nx + 1 < nx5 by omega) (o := 6) wa (by rw [oneA.1]; rfl) (by rw [oneA.1]; simp only [List.all_cons, List.all_nil, oneA.2]; rfl) (by show 7 ≤ 8; omega) lg
    rw [oneA.1] at this
    rw [hH6]
    exact this
  have s7 : ∀ lg, stA 1 (.ptr (nx + 1) 7) wb H6 nx5 lg = some ⟨.tup [], H7, nx5, bit lg (nx + 1), bit lg (nx + 1)⟩ := fun lg => by
    have := st_at (n := 1) e6 (show nx + 1 < nx5 by omega) (o := 7) wb (by rw [oneB.1]; rfl) (by rw [oneB.1]; simp only [List.all_cons, List.all_nil, oneB.2]; rfl) (by show 8 ≤ 8; omega) lg
    rw [oneB.1] at this
    rw [hH7]
    exact this
  have l8 : ∀ lg, ldA (some 8) (.ptr (nx + 1) 0) H7 nx5 lg = some ⟨fr8 F[i] wa wb, H7, nx5, bit lg (nx + 1), 0⟩ := fun lg => ld_sub e7 (show nx + 1 < nx5 by omega) (o := 0) (n := 8) rfl lg
  have s8 : ∀ lg, stA 8 (.ptr nx 0) (fr8 F[i] wa wb) H7 nx5 lg = some ⟨.tup [], H8, nx5, bit lg nx, bit lg nx⟩ := fun lg => by
    have := st_at (n := 8) e71 (show nx < nx5 by omega) (o := 0) (fr8 F[i] wa wb) rfl (by simp only [fr8, AV.cells, List.all_cons, List.all_nil, oneA.2, oneB.2, Bool.and_true]; rfl) (by show 8 ≤ 8; omega) lg
    rw [hH8]
    exact this
  have eqR : (⟨36, 8, true, false, ((fcells F[i]).set 6 wa).set 7 wb⟩ : Blk) = ⟨36, 8, true, false, [.int .i64 F[i].m, .int .i64 F[i].pc, .int .i64 F[i].se, .int .i64 F[i].ho, .int .i64 F[i].sr, .int .u32 F[i].self, wa, wb]⟩ := rfl
  rw [eqR] at e8
  have kF : ∀ q, q < nx → H8.blk q = h.blk q := fun q hq => by
    rw [hH8, Mem.blk_set_ne _ _ _ _ (by omega), hH7, Mem.blk_set_ne _ _ _ _ (by omega), hH6, Mem.blk_set_ne _ _ _ _ (by omega), k5 q (by omega), k3 q (by omega), k2 q (by omega), k1 q hq]
  have kG : ∀ q, nx + 2 ≤ q → H8.blk q = h5.blk q := fun q hq => by
    rw [hH8, Mem.blk_set_ne _ _ _ _ (by omega), hH7, Mem.blk_set_ne _ _ _ _ (by omega), hH6, Mem.blk_set_ne _ _ _ _ (by omega)]
  have ra : RV 1 A[i].length wa H8 0 nx5 (u32s A[i]) := rv_keep r4' (Nat.le_refl _) fun b _ hb => kG b (low4 b hb)
  have rb : RV 1 B[i].length wb H8 0 nx5 (u32s B[i]) := rv_keep r6 (Nat.le_refl _) fun b _ hb => kG b (by have := low6 b hb; omega)
  have key : Post (xF T 80 14 [.ptr p 0, .int .i64 i] h nx lg) fun v' h' nx' tc wr => v' = .tup [fr8 F[i] wa wb, .bool true] ∧ h' = H8 ∧ nx' = nx5 := by
    have c1 : (i : Int) < 24 := by omega
    have c2 : i < 24 := by omega
    have q1 : nx < nx5 := by omega
    simp only [fzero] at hH1 sA
    have hH1' := hH1.symm
    rw [xF_fr T14]
    simp (maxSteps := 4000000) [↓step_none, ↓step_t, ↓step_f, ↓step_nt, ↓step_nf, ↓op_load, ↓op_store, ↓op_slice, ↓op_app, ↓P_skip, ↓P_exit, ↓P_ret, ↓P_seq, ↓P_cond, ↓P_blk, ↓P_reg, ↓P_draw, ↓P_nil, ↓P_cons, condP_t, condP_f, dum_ab, stepR, want_none, want_some, opRun, ev_t, ev_c, put_none, put_some, resAll, res_tmp, res_cell, oneOf, minI, maxI, min2A, max2A, mn2, mx2, mx3, rdBlk, wrBlk, newBlk, partA, abin, ibin, isShift, AV.cells, AV.one, lay, sub, fillA, lenA, toN, allApart, apartFrom, Nat.testBit, Mem.blk_set_same, Mem.blk_set_ne, Mem.set_set, bit_zero, bit_self, lowBits_or, lowBits_zero, len_setT, sl_same, sl_ne, len_frame, sl_frame,↓op_len, lenOp_slc, lenOp_nils, ↓Post.some, ↓Post_bind, ↓Post_ret, ↓Post_draw, ↓PostL_nil, ↓PostL_cons, Post_fail, ofOpt_some, ofOpt_none, eA_b, eA_i, eA_s, eA_nn, eA_np, eA_pn, eA_lnn, eA_lnp, eA_lpn, eA_i2, eA_i3, blt_dec, Nat.add_assoc, keeps_refl, keeps_at, keeps_up, new_one, and_pow, bit_hi, lowBits_pow, ble_dec, fr_refl, fr_at, fr_up, fr_p, dum_ab, F14, c1, c2, hH1', x1, l1, sA, l6, x3, x4, l7, x5, x6, s6, s7, l8, s8, e8, q1]
    exact ⟨by rw [bit_hi (by omega)]; exact new_lo (by omega), rfl⟩
  obtain ⟨v', h', nx', tc, wr, e, e1', e2', e3'⟩ := key.inv
  rw [e1', e2', e3'] at e
  exact ⟨wa, wb, H8, nx5, tc, wr, fun k => xF_mono T (Nat.le_add_left ..) e, by omega, ra, rb, kF, fun q hq => by have := low4 q hq; omega, fun q hq => by have := low6 q hq; omega, f4, f6⟩
theorem at_no {h : Mem} {nx p : Nat} {x : Int} (hp : p < nx) (r : Rd 30 29 [.ptr p 0, .int .i64 x] (h.set nx (some ⟨36, 8, true, false, fzero⟩)) (nx + 1) (.bool false)) (lg : Nat) (hlg : lg ≤ nx) : ∃ h' nx' tc wr, (∀ k, xF T (k + 80) 14 [.ptr p 0, .int .i64 x] h nx lg = some ⟨.tup [.agg fzero, .bool false], h', nx', tc, wr⟩) ∧ nx ≤ nx' ∧ ∀ q, q < nx → h'.blk q = h.blk q := by
  obtain ⟨tc, x1⟩ := r.at lg (by omega)
  have q1 : nx < nx + 1 := by omega
  simp only [fzero] at x1
  have key : Post (xF T 80 14 [.ptr p 0, .int .i64 x] h nx lg) fun v' h' nx' tc wr => v' = .tup [.agg fzero, .bool false] ∧ nx ≤ nx' ∧ ∀ q, q < nx → h'.blk q = h.blk q := by
    have s1 := fun lg => st_at (n := 8) (h := h.set nx (some ⟨36, 8, true, false, fzero⟩)) (Mem.blk_set_same ..) (show nx < nx + 1 by omega) (o := 0) (.agg fzero) rfl rfl (by show 8 ≤ 8; omega) lg
    simp only [Mem.set_set] at s1
    have e0 : lay fzero 0 (AV.agg fzero).cells = fzero := rfl
    rw [e0] at s1
    simp only [fzero] at s1
    rw [xF_fr T14]
    simp (maxSteps := 4000000) [↓step_none, ↓step_t, ↓step_f, ↓step_nt, ↓step_nf, ↓op_load, ↓op_store, ↓op_slice, ↓op_app, ↓P_skip, ↓P_exit, ↓P_ret, ↓P_seq, ↓P_cond, ↓P_blk, ↓P_reg, ↓P_draw, ↓P_nil, ↓P_cons, condP_t, condP_f, dum_ab, stepR, want_none, want_some, opRun, ev_t, ev_c, put_none, put_some, resAll, res_tmp, res_cell, oneOf, minI, maxI, min2A, max2A, mn2, mx2, mx3, rdBlk, wrBlk, newBlk, partA, abin, ibin, isShift, AV.cells, AV.one, lay, sub, fillA, lenA, toN, allApart, apartFrom, Nat.testBit, Mem.blk_set_same, Mem.blk_set_ne, Mem.set_set, bit_zero, bit_self, lowBits_or, lowBits_zero, len_setT, sl_same, sl_ne, len_frame, sl_frame,↓op_len, lenOp_slc, lenOp_nils, ↓Post.some, ↓Post_bind, ↓Post_ret, ↓Post_draw, ↓PostL_nil, ↓PostL_cons, Post_fail, ofOpt_some, ofOpt_none, eA_b, eA_i, eA_s, eA_nn, eA_np, eA_pn, eA_lnn, eA_lnp, eA_lpn, eA_i2, eA_i3, blt_dec, Nat.add_assoc, keeps_refl, keeps_at, keeps_up, new_one, and_pow, bit_hi, lowBits_pow, ble_dec, fr_refl, fr_at, fr_up, fr_p, dum_ab, F14, x1, s1, q1]
    exact ⟨rfl, fun q hq => Mem.blk_set_ne _ _ _ _ (by omega)⟩
  obtain ⟨v', h', nx', tc, wr, e, e1, e2, e3⟩ := key.inv
  rw [e1] at e
  exact ⟨h', nx', tc, wr, fun k => xF_mono T (Nat.le_add_left ..) e, e2, e3⟩

/-! ### Free -/
def cf (U : List Bool) : Nat := (U.filter fun b => !b).length
theorem cf_next (U : List Bool) (j : Nat) (h : j < U.length) : cf (U.take (j + 1)) = cf (U.take j) + cond U[j] 0 1 := by
  unfold cf
  rw [List.take_succ_eq_append_getElem h, List.filter_append, List.length_append]
  cases U[j] <;> rfl
theorem cf_le (U : List Bool) (j : Nat) : cf (U.take j) ≤ j := by
  have := List.length_filter_le (fun b => !b) (U.take j)
  have h2 := List.length_take_le j U
  unfold cf
  omega
def FeI (U : List Bool) (h0 : Mem) (nx0 : Nat) (m : Nat) (ts : List AV) (h : Mem) (nx tc wr : Nat) : Prop := ∃ j : Nat, m = 24 - j ∧ j ≤ 24 ∧ ts.length = 19 ∧ sl ts 3 = .int .i64 (cf (U.take j) : Nat) ∧ sl ts 9 = .agg (U.map .bool) ∧ sl ts 10 = .int .i64 j ∧ h = h0 ∧ nx = nx0 ∧ wr = 0
def FeR (U : List Bool) (h0 : Mem) (nx0 : Nat) (e : Ex) (ts : List AV) (h : Mem) (nx tc wr : Nat) : Prop := e = .exit 0 ∧ ts.length = 19 ∧ sl ts 3 = .int .i64 (cf U : Nat) ∧ h = h0 ∧ nx = nx0 ∧ wr = 0
set_option maxHeartbeats 4000000 in
theorem fe_round {U : List Bool} (hU : U.length = 24) (h0 : Mem) (nx0 : Nat) (lg : Nat) (m : Nat) (ts : List AV) (h : Mem) (nx tc wr : Nat) (hi : FeI U h0 nx0 m ts h nx tc wr) :
    Post (xC T 30 L15_0b ts h nx lg) fun v' h' nx' tc' wr' => Round (FeI U h0 nx0) (FeR U h0 nx0) m v' h' nx' (tc ||| tc') (wr ||| wr') := by
  obtain ⟨j, rfl, hj, hlen, g3, g9, g10, rfl, rfl, rfl⟩ := hi
  by_cases c1 : j < 24
  · have c1' : (j : Int) < 24 := by omega
    have ci : IntKind.i64.wrap ((j : Int) + 1) = ((j + 1 : Nat) : Int) := by rw [IntKind.wrap_i64]; omega
    have hj' : j < U.length := by omega
    have gU : (U.map AV.bool)[j]? = some (.bool U[j]) := by rw [List.getElem?_map, List.getElem?_eq_getElem hj']; rfl
    have gl : j < (U.map AV.bool).length := by rw [List.length_map]; exact hj'
    have gU' := get_of gU gl
    have lm : (U.map AV.bool).length = 24 := by rw [List.length_map]; exact hU
    have cn := cf_next U j hj'
    have cl := cf_le U j
    have cw : IntKind.i64.wrap ((cf (U.take j) : Nat) + 1 : Int) = ((cf (U.take j) + 1 : Nat) : Int) := by rw [IntKind.wrap_i64]; omega
    generalize hUM : U.map AV.bool = UM at *
    cases hu : U[j] with
    | false =>
      rw [hu] at gU gU' cn
      simp only [cond_false] at cn
      rw [← cn] at cw
      simp (maxSteps := 4000000) [↓step_none, ↓step_t, ↓step_f, ↓step_nt, ↓step_nf, ↓op_load, ↓op_store, ↓op_slice, ↓op_app, ↓P_skip, ↓P_exit, ↓P_ret, ↓P_seq, ↓P_cond, ↓P_blk, ↓P_reg, ↓P_draw, ↓P_nil, ↓P_cons, condP_t, condP_f, dum_ab, stepR, want_none, want_some, opRun, ev_t, ev_c, put_none, put_some, resAll, res_tmp, res_cell, oneOf, minI, maxI, min2A, max2A, mn2, mx2, mx3, rdBlk, wrBlk, newBlk, partA, abin, ibin, isShift, AV.cells, AV.one, lay, sub, fillA, lenA, toN, allApart, apartFrom, Nat.testBit, Mem.blk_set_same, Mem.blk_set_ne, Mem.set_set, bit_zero, bit_self, lowBits_or, lowBits_zero, len_setT, sl_same, sl_ne, len_frame, sl_frame,↓op_len, lenOp_slc, lenOp_nils, ↓Post.some, ↓Post_bind, ↓Post_ret, ↓Post_draw, ↓PostL_nil, ↓PostL_cons, Post_fail, ofOpt_some, ofOpt_none, eA_b, eA_i, eA_s, eA_nn, eA_np, eA_pn, eA_lnn, eA_lnp, eA_lpn, eA_i2, eA_i3, blt_dec, Nat.add_assoc, keeps_refl, keeps_at, keeps_up, new_one, and_pow, bit_hi, lowBits_pow, ble_dec, fr_refl, fr_at, fr_up, fr_p, dum_ab, L15_0b, partA, hlen, g3, g9, g10, c1, c1', gU, gU', gl, lm, ci, cw]
      exact Round.nor (m' := 24 - (j + 1)) (by omega) ⟨j + 1, rfl, by omega, by simp [↓P_skip, ↓P_exit, ↓P_ret, ↓P_seq, ↓P_cond, ↓P_blk, ↓P_reg, ↓P_draw, ↓P_nil, ↓P_cons, condP_t, condP_f, dum_ab, stepR, want_none, want_some, opRun, ev_t, ev_c, put_none, put_some, resAll, res_tmp, res_cell, oneOf, minI, maxI, min2A, max2A, mn2, mx2, mx3, rdBlk, wrBlk, newBlk, partA, abin, ibin, isShift, AV.cells, AV.one, lay, sub, fillA, lenA, toN, allApart, apartFrom, Nat.testBit, Mem.blk_set_same, Mem.blk_set_ne, Mem.set_set, bit_zero, bit_self, lowBits_or, lowBits_zero, len_setT, sl_same, sl_ne, len_frame, sl_frame,↓op_len, lenOp_slc, lenOp_nils, ↓Post.some, ↓Post_bind, ↓Post_ret, ↓Post_draw, ↓PostL_nil, ↓PostL_cons, Post_fail, ofOpt_some, ofOpt_none, eA_b, eA_i, eA_s, eA_nn, eA_np, eA_pn, eA_lnn, eA_lnp, eA_lpn, eA_i2, eA_i3, blt_dec, Nat.add_assoc, keeps_refl, keeps_at, keeps_up, hlen], by simp [↓P_skip, ↓P_exit, ↓P_ret, ↓P_seq, ↓P_cond, ↓P_blk, ↓P_reg, ↓P_draw, ↓P_nil, ↓P_cons, condP_t, condP_f, dum_ab, stepR, want_none, want_some, opRun, ev_t, ev_c, put_none, put_some, resAll, res_tmp, res_cell, oneOf, minI, maxI, min2A, max2A, mn2, mx2, mx3, rdBlk, wrBlk, newBlk, partA, abin, ibin, isShift, AV.cells, AV.one, lay, sub, fillA, lenA, toN, allApart, apartFrom, Nat.testBit, Mem.blk_set_same, Mem.blk_set_ne, Mem.set_set, bit_zero, bit_self, lowBits_or, lowBits_zero, len_setT, sl_same, sl_ne, len_frame, sl_frame,↓op_len, lenOp_slc, lenOp_nils, ↓Post.some, ↓Post_bind, ↓Post_ret, ↓Post_draw, ↓PostL_nil, ↓PostL_cons, Post_fail, ofOpt_some, ofOpt_none, eA_b, eA_i, eA_s, eA_nn, eA_np, eA_pn, eA_lnn, eA_lnp, eA_lpn, eA_i2, eA_i3, blt_dec, Nat.add_assoc, keeps_refl, keeps_at, keeps_up, hlen], by rw [hUM]; simp [↓P_skip, ↓P_exit, ↓P_ret, ↓P_seq, ↓P_cond, ↓P_blk, ↓P_reg, ↓P_draw, ↓P_nil, ↓P_cons, condP_t, condP_f, dum_ab, stepR, want_none, want_some, opRun, ev_t, ev_c, put_none, put_some, resAll, res_tmp, res_cell, oneOf, minI, maxI, min2A, max2A, mn2, mx2, mx3, rdBlk, wrBlk, newBlk, partA, abin, ibin, isShift, AV.cells, AV.one, lay, sub, fillA, lenA, toN, allApart, apartFrom, Nat.testBit, Mem.blk_set_same, Mem.blk_set_ne, Mem.set_set, bit_zero, bit_self, lowBits_or, lowBits_zero, len_setT, sl_same, sl_ne, len_frame, sl_frame,↓op_len, lenOp_slc, lenOp_nils, ↓Post.some, ↓Post_bind, ↓Post_ret, ↓Post_draw, ↓PostL_nil, ↓PostL_cons, Post_fail, ofOpt_some, ofOpt_none, eA_b, eA_i, eA_s, eA_nn, eA_np, eA_pn, eA_lnn, eA_lnp, eA_lpn, eA_i2, eA_i3, blt_dec, Nat.add_assoc, keeps_refl, keeps_at, keeps_up, hlen, g9], by simp [↓P_skip, ↓P_exit, ↓P_ret, ↓P_seq, ↓P_cond, ↓P_blk, ↓P_reg, ↓P_draw, ↓P_nil, ↓P_cons, condP_t, condP_f, dum_ab, stepR, want_none, want_some, opRun, ev_t, ev_c, put_none, put_some, resAll, res_tmp, res_cell, oneOf, minI, maxI, min2A, max2A, mn2, mx2, mx3, rdBlk, wrBlk, newBlk, partA, abin, ibin, isShift, AV.cells, AV.one, lay, sub, fillA, lenA, toN, allApart, apartFrom, Nat.testBit, Mem.blk_set_same, Mem.blk_set_ne, Mem.set_set, bit_zero, bit_self, lowBits_or, lowBits_zero, len_setT, sl_same, sl_ne, len_frame, sl_frame,↓op_len, lenOp_slc, lenOp_nils, ↓Post.some, ↓Post_bind, ↓Post_ret, ↓Post_draw, ↓PostL_nil, ↓PostL_cons, Post_fail, ofOpt_some, ofOpt_none, eA_b, eA_i, eA_s, eA_nn, eA_np, eA_pn, eA_lnn, eA_lnp, eA_lpn, eA_i2, eA_i3, blt_dec, Nat.add_assoc, keeps_refl, keeps_at, keeps_up, hlen], rfl, rfl, rfl⟩
    | true =>
      rw [hu] at gU gU' cn
      simp only [cond_true, Nat.add_zero] at cn
      rw [← cn] at g3
      simp (maxSteps := 4000000) [↓step_none, ↓step_t, ↓step_f, ↓step_nt, ↓step_nf, ↓op_load, ↓op_store, ↓op_slice, ↓op_app, ↓P_skip, ↓P_exit, ↓P_ret, ↓P_seq, ↓P_cond, ↓P_blk, ↓P_reg, ↓P_draw, ↓P_nil, ↓P_cons, condP_t, condP_f, dum_ab, stepR, want_none, want_some, opRun, ev_t, ev_c, put_none, put_some, resAll, res_tmp, res_cell, oneOf, minI, maxI, min2A, max2A, mn2, mx2, mx3, rdBlk, wrBlk, newBlk, partA, abin, ibin, isShift, AV.cells, AV.one, lay, sub, fillA, lenA, toN, allApart, apartFrom, Nat.testBit, Mem.blk_set_same, Mem.blk_set_ne, Mem.set_set, bit_zero, bit_self, lowBits_or, lowBits_zero, len_setT, sl_same, sl_ne, len_frame, sl_frame,↓op_len, lenOp_slc, lenOp_nils, ↓Post.some, ↓Post_bind, ↓Post_ret, ↓Post_draw, ↓PostL_nil, ↓PostL_cons, Post_fail, ofOpt_some, ofOpt_none, eA_b, eA_i, eA_s, eA_nn, eA_np, eA_pn, eA_lnn, eA_lnp, eA_lpn, eA_i2, eA_i3, blt_dec, Nat.add_assoc, keeps_refl, keeps_at, keeps_up, new_one, and_pow, bit_hi, lowBits_pow, ble_dec, fr_refl, fr_at, fr_up, fr_p, dum_ab, L15_0b, partA, hlen, g3, g9, g10, c1, c1', gU, gU', gl, lm, ci]
      exact Round.nor (m' := 24 - (j + 1)) (by omega) ⟨j + 1, rfl, by omega, by simp [↓P_skip, ↓P_exit, ↓P_ret, ↓P_seq, ↓P_cond, ↓P_blk, ↓P_reg, ↓P_draw, ↓P_nil, ↓P_cons, condP_t, condP_f, dum_ab, stepR, want_none, want_some, opRun, ev_t, ev_c, put_none, put_some, resAll, res_tmp, res_cell, oneOf, minI, maxI, min2A, max2A, mn2, mx2, mx3, rdBlk, wrBlk, newBlk, partA, abin, ibin, isShift, AV.cells, AV.one, lay, sub, fillA, lenA, toN, allApart, apartFrom, Nat.testBit, Mem.blk_set_same, Mem.blk_set_ne, Mem.set_set, bit_zero, bit_self, lowBits_or, lowBits_zero, len_setT, sl_same, sl_ne, len_frame, sl_frame,↓op_len, lenOp_slc, lenOp_nils, ↓Post.some, ↓Post_bind, ↓Post_ret, ↓Post_draw, ↓PostL_nil, ↓PostL_cons, Post_fail, ofOpt_some, ofOpt_none, eA_b, eA_i, eA_s, eA_nn, eA_np, eA_pn, eA_lnn, eA_lnp, eA_lpn, eA_i2, eA_i3, blt_dec, Nat.add_assoc, keeps_refl, keeps_at, keeps_up, hlen], by simp [↓P_skip, ↓P_exit, ↓P_ret, ↓P_seq, ↓P_cond, ↓P_blk, ↓P_reg, ↓P_draw, ↓P_nil, ↓P_cons, condP_t, condP_f, dum_ab, stepR, want_none, want_some, opRun, ev_t, ev_c, put_none, put_some, resAll, res_tmp, res_cell, oneOf, minI, maxI, min2A, max2A, mn2, mx2, mx3, rdBlk, wrBlk, newBlk, partA, abin, ibin, isShift, AV.cells, AV.one, lay, sub, fillA, lenA, toN, allApart, apartFrom, Nat.testBit, Mem.blk_set_same, Mem.blk_set_ne, Mem.set_set, bit_zero, bit_self, lowBits_or, lowBits_zero, len_setT, sl_same, sl_ne, len_frame, sl_frame,↓op_len, lenOp_slc, lenOp_nils, ↓Post.some, ↓Post_bind, ↓Post_ret, ↓Post_draw, ↓PostL_nil, ↓PostL_cons, Post_fail, ofOpt_some, ofOpt_none, eA_b, eA_i, eA_s, eA_nn, eA_np, eA_pn, eA_lnn, eA_lnp, eA_lpn, eA_i2, eA_i3, blt_dec, Nat.add_assoc, keeps_refl, keeps_at, keeps_up, hlen, g3], by rw [hUM]; simp [↓P_skip, ↓P_exit, ↓P_ret, ↓P_seq, ↓P_cond, ↓P_blk, ↓P_reg, ↓P_draw, ↓P_nil, ↓P_cons, condP_t, condP_f, dum_ab, stepR, want_none, want_some, opRun, ev_t, ev_c, put_none, put_some, resAll, res_tmp, res_cell, oneOf, minI, maxI, min2A, max2A, mn2, mx2, mx3, rdBlk, wrBlk, newBlk, partA, abin, ibin, isShift, AV.cells, AV.one, lay, sub, fillA, lenA, toN, allApart, apartFrom, Nat.testBit, Mem.blk_set_same, Mem.blk_set_ne, Mem.set_set, bit_zero, bit_self, lowBits_or, lowBits_zero, len_setT, sl_same, sl_ne, len_frame, sl_frame,↓op_len, lenOp_slc, lenOp_nils, ↓Post.some, ↓Post_bind, ↓Post_ret, ↓Post_draw, ↓PostL_nil, ↓PostL_cons, Post_fail, ofOpt_some, ofOpt_none, eA_b, eA_i, eA_s, eA_nn, eA_np, eA_pn, eA_lnn, eA_lnp, eA_lpn, eA_i2, eA_i3, blt_dec, Nat.add_assoc, keeps_refl, keeps_at, keeps_up, hlen, g9], by simp [↓P_skip, ↓P_exit, ↓P_ret, ↓P_seq, ↓P_cond, ↓P_blk, ↓P_reg, ↓P_draw, ↓P_nil, ↓P_cons, condP_t, condP_f, dum_ab, stepR, want_none, want_some, opRun, ev_t, ev_c, put_none, put_some, resAll, res_tmp, res_cell, oneOf, minI, maxI, min2A, max2A, mn2, mx2, mx3, rdBlk, wrBlk, newBlk, partA, abin, ibin, isShift, AV.cells, AV.one, lay, sub, fillA, lenA, toN, allApart, apartFrom, Nat.testBit, Mem.blk_set_same, Mem.blk_set_ne, Mem.set_set, bit_zero, bit_self, lowBits_or, lowBits_zero, len_setT, sl_same, sl_ne, len_frame, sl_frame,↓op_len, lenOp_slc, lenOp_nils, ↓Post.some, ↓Post_bind, ↓Post_ret, ↓Post_draw, ↓PostL_nil, ↓PostL_cons, Post_fail, ofOpt_some, ofOpt_none, eA_b, eA_i, eA_s, eA_nn, eA_np, eA_pn, eA_lnn, eA_lnp, eA_lpn, eA_i2, eA_i3, blt_dec, Nat.add_assoc, keeps_refl, keeps_at, keeps_up, hlen], rfl, rfl, rfl⟩
  · have c1' : ¬ (j : Int) < 24 := by omega
    have : j = 24 := by omega
    subst this
    rw [List.take_of_length_le (by omega)] at g3
    simp (maxSteps := 4000000) [↓step_none, ↓step_t, ↓step_f, ↓step_nt, ↓step_nf, ↓op_load, ↓op_store, ↓op_slice, ↓op_app, ↓P_skip, ↓P_exit, ↓P_ret, ↓P_seq, ↓P_cond, ↓P_blk, ↓P_reg, ↓P_draw, ↓P_nil, ↓P_cons, condP_t, condP_f, dum_ab, stepR, want_none, want_some, opRun, ev_t, ev_c, put_none, put_some, resAll, res_tmp, res_cell, oneOf, minI, maxI, min2A, max2A, mn2, mx2, mx3, rdBlk, wrBlk, newBlk, partA, abin, ibin, isShift, AV.cells, AV.one, lay, sub, fillA, lenA, toN, allApart, apartFrom, Nat.testBit, Mem.blk_set_same, Mem.blk_set_ne, Mem.set_set, bit_zero, bit_self, lowBits_or, lowBits_zero, len_setT, sl_same, sl_ne, len_frame, sl_frame,↓op_len, lenOp_slc, lenOp_nils, ↓Post.some, ↓Post_bind, ↓Post_ret, ↓Post_draw, ↓PostL_nil, ↓PostL_cons, Post_fail, ofOpt_some, ofOpt_none, eA_b, eA_i, eA_s, eA_nn, eA_np, eA_pn, eA_lnn, eA_lnp, eA_lpn, eA_i2, eA_i3, blt_dec, Nat.add_assoc, keeps_refl, keeps_at, keeps_up, new_one, and_pow, bit_hi, lowBits_pow, ble_dec, fr_refl, fr_at, fr_up, fr_p, dum_ab, L15_0b, hlen, g3, g9, g10]
    exact Round.exit (R := FeR U h nx) ⟨rfl, by simp [↓P_skip, ↓P_exit, ↓P_ret, ↓P_seq, ↓P_cond, ↓P_blk, ↓P_reg, ↓P_draw, ↓P_nil, ↓P_cons, condP_t, condP_f, dum_ab, stepR, want_none, want_some, opRun, ev_t, ev_c, put_none, put_some, resAll, res_tmp, res_cell, oneOf, minI, maxI, min2A, max2A, mn2, mx2, mx3, rdBlk, wrBlk, newBlk, partA, abin, ibin, isShift, AV.cells, AV.one, lay, sub, fillA, lenA, toN, allApart, apartFrom, Nat.testBit, Mem.blk_set_same, Mem.blk_set_ne, Mem.set_set, bit_zero, bit_self, lowBits_or, lowBits_zero, len_setT, sl_same, sl_ne, len_frame, sl_frame,↓op_len, lenOp_slc, lenOp_nils, ↓Post.some, ↓Post_bind, ↓Post_ret, ↓Post_draw, ↓PostL_nil, ↓PostL_cons, Post_fail, ofOpt_some, ofOpt_none, eA_b, eA_i, eA_s, eA_nn, eA_np, eA_pn, eA_lnn, eA_lnp, eA_lpn, eA_i2, eA_i3, blt_dec, Nat.add_assoc, keeps_refl, keeps_at, keeps_up, hlen], by simp [↓P_skip, ↓P_exit, ↓P_ret, ↓P_seq, ↓P_cond, ↓P_blk, ↓P_reg, ↓P_draw, ↓P_nil, ↓P_cons, condP_t, condP_f, dum_ab, stepR, want_none, want_some, opRun, ev_t, ev_c, put_none, put_some, resAll, res_tmp, res_cell, oneOf, minI, maxI, min2A, max2A, mn2, mx2, mx3, rdBlk, wrBlk, newBlk, partA, abin, ibin, isShift, AV.cells, AV.one, lay, sub, fillA, lenA, toN, allApart, apartFrom, Nat.testBit, Mem.blk_set_same, Mem.blk_set_ne, Mem.set_set, bit_zero, bit_self, lowBits_or, lowBits_zero, len_setT, sl_same, sl_ne, len_frame, sl_frame,↓op_len, lenOp_slc, lenOp_nils, ↓Post.some, ↓Post_bind, ↓Post_ret, ↓Post_draw, ↓PostL_nil, ↓PostL_cons, Post_fail, ofOpt_some, ofOpt_none, eA_b, eA_i, eA_s, eA_nn, eA_np, eA_pn, eA_lnn, eA_lnp, eA_lpn, eA_i2, eA_i3, blt_dec, Nat.add_assoc, keeps_refl, keeps_at, keeps_up, hlen, g3], rfl, rfl, rfl⟩
theorem p_us {F : List Fr} {U : List Bool} (hF : F.length = 24) (hU : U.length = 24) (s : Int) : sub (pcells F U s) 192 24 = some (U.map .bool) := by
  unfold sub
  rw [plen hF hU, Nat.ble_eq_true_of_le (by omega)]
  unfold pcells
  rw [List.drop_append_of_le_length (by rw [flen hF]; exact Nat.le_refl _), List.drop_of_length_le (by rw [flen hF]; exact Nat.le_refl _), List.nil_append, List.take_append_of_le_length (by rw [List.length_map, hU]; exact Nat.le_refl _), List.take_of_length_le (by rw [List.length_map, hU]; exact Nat.le_refl _)]
theorem free_rd {h : Mem} {nx p : Nat} {F : List Fr} {U : List Bool} {s : Int} {A B : List (List Int)} (ps : PS h nx p F U s A B) : Rd 60 15 [.ptr p 0] h nx (.int .i64 (cf U : Nat)) := by
  intro lg hlg
  obtain ⟨t, hb⟩ := ps.hb
  have l1 := fun lg => ld_sub hb ps.hp (p_us ps.hF ps.hU s) lg
  rw [xF_fr T15]
  simp (maxSteps := 4000000) [↓step_none, ↓step_t, ↓step_f, ↓step_nt, ↓step_nf, ↓op_load, ↓op_store, ↓op_slice, ↓op_app, ↓P_skip, ↓P_exit, ↓P_ret, ↓P_seq, ↓P_cond, ↓P_blk, ↓P_reg, ↓P_draw, ↓P_nil, ↓P_cons, condP_t, condP_f, dum_ab, stepR, want_none, want_some, opRun, ev_t, ev_c, put_none, put_some, resAll, res_tmp, res_cell, oneOf, minI, maxI, min2A, max2A, mn2, mx2, mx3, rdBlk, wrBlk, newBlk, partA, abin, ibin, isShift, AV.cells, AV.one, lay, sub, fillA, lenA, toN, allApart, apartFrom, Nat.testBit, Mem.blk_set_same, Mem.blk_set_ne, Mem.set_set, bit_zero, bit_self, lowBits_or, lowBits_zero, len_setT, sl_same, sl_ne, len_frame, sl_frame,↓op_len, lenOp_slc, lenOp_nils, ↓Post.some, ↓Post_bind, ↓Post_ret, ↓Post_draw, ↓PostL_nil, ↓PostL_cons, Post_fail, ofOpt_some, ofOpt_none, eA_b, eA_i, eA_s, eA_nn, eA_np, eA_pn, eA_lnn, eA_lnp, eA_lpn, eA_i2, eA_i3, blt_dec, Nat.add_assoc, keeps_refl, keeps_at, keeps_up, new_one, and_pow, bit_hi, lowBits_pow, ble_dec, fr_refl, fr_at, fr_up, fr_p, dum_ab, F15, l1]
  refine Post.loop (fe_round ps.hU h nx lg) 24 ⟨0, rfl, by omega, by simp [↓P_skip, ↓P_exit, ↓P_ret, ↓P_seq, ↓P_cond, ↓P_blk, ↓P_reg, ↓P_draw, ↓P_nil, ↓P_cons, condP_t, condP_f, dum_ab, stepR, want_none, want_some, opRun, ev_t, ev_c, put_none, put_some, resAll, res_tmp, res_cell, oneOf, minI, maxI, min2A, max2A, mn2, mx2, mx3, rdBlk, wrBlk, newBlk, partA, abin, ibin, isShift, AV.cells, AV.one, lay, sub, fillA, lenA, toN, allApart, apartFrom, Nat.testBit, Mem.blk_set_same, Mem.blk_set_ne, Mem.set_set, bit_zero, bit_self, lowBits_or, lowBits_zero, len_setT, sl_same, sl_ne, len_frame, sl_frame,↓op_len, lenOp_slc, lenOp_nils, ↓Post.some, ↓Post_bind, ↓Post_ret, ↓Post_draw, ↓PostL_nil, ↓PostL_cons, Post_fail, ofOpt_some, ofOpt_none, eA_b, eA_i, eA_s, eA_nn, eA_np, eA_pn, eA_lnn, eA_lnp, eA_lpn, eA_i2, eA_i3, blt_dec, Nat.add_assoc, keeps_refl, keeps_at, keeps_up], by simp [↓P_skip, ↓P_exit, ↓P_ret, ↓P_seq, ↓P_cond, ↓P_blk, ↓P_reg, ↓P_draw, ↓P_nil, ↓P_cons, condP_t, condP_f, dum_ab, stepR, want_none, want_some, opRun, ev_t, ev_c, put_none, put_some, resAll, res_tmp, res_cell, oneOf, minI, maxI, min2A, max2A, mn2, mx2, mx3, rdBlk, wrBlk, newBlk, partA, abin, ibin, isShift, AV.cells, AV.one, lay, sub, fillA, lenA, toN, allApart, apartFrom, Nat.testBit, Mem.blk_set_same, Mem.blk_set_ne, Mem.set_set, bit_zero, bit_self, lowBits_or, lowBits_zero, len_setT, sl_same, sl_ne, len_frame, sl_frame,↓op_len, lenOp_slc, lenOp_nils, ↓Post.some, ↓Post_bind, ↓Post_ret, ↓Post_draw, ↓PostL_nil, ↓PostL_cons, Post_fail, ofOpt_some, ofOpt_none, eA_b, eA_i, eA_s, eA_nn, eA_np, eA_pn, eA_lnn, eA_lnp, eA_lpn, eA_i2, eA_i3, blt_dec, Nat.add_assoc, keeps_refl, keeps_at, keeps_up, cf], by simp [↓P_skip, ↓P_exit, ↓P_ret, ↓P_seq, ↓P_cond, ↓P_blk, ↓P_reg, ↓P_draw, ↓P_nil, ↓P_cons, condP_t, condP_f, dum_ab, stepR, want_none, want_some, opRun, ev_t, ev_c, put_none, put_some, resAll, res_tmp, res_cell, oneOf, minI, maxI, min2A, max2A, mn2, mx2, mx3, rdBlk, wrBlk, newBlk, partA, abin, ibin, isShift, AV.cells, AV.one, lay, sub, fillA, lenA, toN, allApart, apartFrom, Nat.testBit, Mem.blk_set_same, Mem.blk_set_ne, Mem.set_set, bit_zero, bit_self, lowBits_or, lowBits_zero, len_setT, sl_same, sl_ne, len_frame, sl_frame,↓op_len, lenOp_slc, lenOp_nils, ↓Post.some, ↓Post_bind, ↓Post_ret, ↓Post_draw, ↓PostL_nil, ↓PostL_cons, Post_fail, ofOpt_some, ofOpt_none, eA_b, eA_i, eA_s, eA_nn, eA_np, eA_pn, eA_lnn, eA_lnp, eA_lpn, eA_i2, eA_i3, blt_dec, Nat.add_assoc, keeps_refl, keeps_at, keeps_up], by simp [↓P_skip, ↓P_exit, ↓P_ret, ↓P_seq, ↓P_cond, ↓P_blk, ↓P_reg, ↓P_draw, ↓P_nil, ↓P_cons, condP_t, condP_f, dum_ab, stepR, want_none, want_some, opRun, ev_t, ev_c, put_none, put_some, resAll, res_tmp, res_cell, oneOf, minI, maxI, min2A, max2A, mn2, mx2, mx3, rdBlk, wrBlk, newBlk, partA, abin, ibin, isShift, AV.cells, AV.one, lay, sub, fillA, lenA, toN, allApart, apartFrom, Nat.testBit, Mem.blk_set_same, Mem.blk_set_ne, Mem.set_set, bit_zero, bit_self, lowBits_or, lowBits_zero, len_setT, sl_same, sl_ne, len_frame, sl_frame,↓op_len, lenOp_slc, lenOp_nils, ↓Post.some, ↓Post_bind, ↓Post_ret, ↓Post_draw, ↓PostL_nil, ↓PostL_cons, Post_fail, ofOpt_some, ofOpt_none, eA_b, eA_i, eA_s, eA_nn, eA_np, eA_pn, eA_lnn, eA_lnp, eA_lpn, eA_i2, eA_i3, blt_dec, Nat.add_assoc, keeps_refl, keeps_at, keeps_up], rfl, rfl, rfl⟩ (by omega) ?_
  rintro e ts2 h2 nx2 tc2 wr2 ⟨rfl, hlen, g3, rfl, rfl, rfl⟩
  simp (maxSteps := 4000000) [↓P_skip, ↓P_exit, ↓P_ret, ↓P_seq, ↓P_cond, ↓P_blk, ↓P_reg, ↓P_draw, ↓P_nil, ↓P_cons, condP_t, condP_f, dum_ab, stepR, want_none, want_some, opRun, ev_t, ev_c, put_none, put_some, resAll, res_tmp, res_cell, oneOf, minI, maxI, min2A, max2A, mn2, mx2, mx3, rdBlk, wrBlk, newBlk, partA, abin, ibin, isShift, AV.cells, AV.one, lay, sub, fillA, lenA, toN, allApart, apartFrom, Nat.testBit, Mem.blk_set_same, Mem.blk_set_ne, Mem.set_set, bit_zero, bit_self, lowBits_or, lowBits_zero, len_setT, sl_same, sl_ne, len_frame, sl_frame,↓op_len, lenOp_slc, lenOp_nils, ↓Post.some, ↓Post_bind, ↓Post_ret, ↓Post_draw, ↓PostL_nil, ↓PostL_cons, Post_fail, ofOpt_some, ofOpt_none, eA_b, eA_i, eA_s, eA_nn, eA_np, eA_pn, eA_lnn, eA_lnp, eA_lpn, eA_i2, eA_i3, blt_dec, Nat.add_assoc, keeps_refl, keeps_at, keeps_up, new_one, and_pow, bit_hi, lowBits_pow, ble_dec, fr_refl, fr_at, fr_up, fr_p, dum_ab, hlen, g3]

/-! ### New -/
def F0 : List Fr := List.replicate 24 ⟨0, 0, 0, 0, 0, 0, .nils, .nils⟩
def U0 : List Bool := List.replicate 24 false
def A0 : List (List Int) := List.replicate 24 []
theorem pool_new (h : Mem) (nx : Nat) {t : TypeId} (hb : h.blk nx = some ⟨t, 217, true, false, pcells F0 U0 0⟩) : PS h (nx + 1) nx F0 U0 0 A0 A0 := by
  have e : ∀ i (h : i < F0.length), F0[i].sl = .nils ∧ F0[i].st = .nils := fun i h => by
    have : F0[i] = ⟨0, 0, 0, 0, 0, 0, .nils, .nils⟩ := List.getElem_replicate ..
    rw [this]; exact ⟨rfl, rfl⟩
  have a : ∀ i (h : i < A0.length), A0[i] = [] := fun i h => List.getElem_replicate ..
  refine ⟨rfl, rfl, rfl, rfl, ⟨t, hb⟩, fun i h1 h2 => ?_, fun i h1 h2 => ?_, by omega, fun b ⟨i, h1, hb⟩ => ?_, fun i j h1 h2 b _ hb => ?_, fun i j h1 h2 b _ hb => ?_, fun i j h1 h2 b hb => ?_⟩
  · rw [(e i h1).1, a i h2]; exact .inl ⟨rfl, rfl⟩
  · rw [(e i h1).2, a i h2]; exact .inl ⟨rfl, rfl⟩
  · rw [(e i h1).1, (e i h1).2] at hb; rcases hb with hb | hb <;> cases hb
  · rw [(e i h1).1] at hb; cases hb
  · rw [(e i h1).2] at hb; cases hb
  · rw [(e i h1).1] at hb; cases hb
set_option maxHeartbeats 4000000 in
theorem new_at (h : Mem) (nx lg : Nat) : ∃ h', (∀ k, xF T (k + 20) 11 [] h nx lg = some ⟨.ptr nx 0, h', nx + 1, 0, 0⟩) ∧ PS h' (nx + 1) nx F0 U0 0 A0 A0 ∧ ∀ b, b < nx → h'.blk b = h.blk b := by
  have e0 : pcells F0 U0 0 = ((F0.map fcells).flatten ++ (U0.map .bool ++ [.int .i64 0])) := rfl
  refine ⟨h.set nx (some ⟨61, 217, true, false, pcells F0 U0 0⟩), fun k => ?_, pool_new _ nx (Mem.blk_set_same ..), fun b hb => Mem.blk_set_ne _ _ _ _ (by omega)⟩
  rw [xF_fr T11]; apply eq_of_Post
  simp (maxSteps := 4000000) [↓P_skip, ↓P_exit, ↓P_ret, ↓P_seq, ↓P_cond, ↓P_blk, ↓P_reg, ↓P_draw, ↓P_nil, ↓P_cons, condP_t, condP_f, dum_ab, stepR, want_none, want_some, opRun, ev_t, ev_c, put_none, put_some, resAll, res_tmp, res_cell, oneOf, minI, maxI, min2A, max2A, mn2, mx2, mx3, rdBlk, wrBlk, newBlk, partA, abin, ibin, isShift, AV.cells, AV.one, lay, sub, fillA, lenA, toN, allApart, apartFrom, Nat.testBit, Mem.blk_set_same, Mem.blk_set_ne, Mem.set_set, bit_zero, bit_self, lowBits_or, lowBits_zero, len_setT, sl_same, sl_ne, len_frame, sl_frame,↓op_len, lenOp_slc, lenOp_nils, ↓Post.some, ↓Post_bind, ↓Post_ret, ↓Post_draw, ↓PostL_nil, ↓PostL_cons, Post_fail, ofOpt_some, ofOpt_none, eA_b, eA_i, eA_s, eA_nn, eA_np, eA_pn, eA_lnn, eA_lnp, eA_lpn, eA_i2, eA_i3, blt_dec, Nat.add_assoc, keeps_refl, keeps_at, keeps_up, new_one, and_pow, bit_hi, lowBits_pow, ble_dec, fr_refl, fr_at, fr_up, fr_p, dum_ab, F11]
  rfl
end Go.Proofs.YtobcboiemibkkaaT
