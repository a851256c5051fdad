/- Dict: DictBounded. -/
import Derived.Test.YtadenjdkknakgaaG
import Derived.Test.YtadenjdkknakgaaBdp
import Derived.Test.YtadenjdkknakgaaFndF
namespace Go.Proofs.YtadenjdkknakgaaT
open Go Go.Proofs.YtadenjdkknakgaaE Go.Proofs.YtadenjdkknakgaaB
set_option linter.unusedSimpArgs false
set_option linter.unusedVariables false
attribute [local congr] Post_cg PostL_cg condP_cg

/-! ### The map's operations -/
def mputA (q : EqK) (x i v : AV) : A AV := match keyA q i with
    | false => A.fail
    | true => match x with
      | .map b => A.bind (rdBlk b) fun k => match findA q i k.cells 0 with
        | some (some (j, _)) => match sameA (k.cells.getD j .nilm) i with
          | true => A.bind (wrMap b (k.cells.set (j + 1) v)) fun _ => A.ret (.tup [])
          | false => A.fail
        | some none => A.bind (wrMap b (k.cells ++ [i, v])) fun _ => A.ret (.tup [])
        | none => A.fail
      | _ => A.fail
theorem op_mput (c : FuncId → List AV → A AV) (ts : List AV) (q : EqK) (x i v : X) : opRun c ts (.mput q x i v) = mputA q (x.ev ts) (i.ev ts) (v.ev ts) := Eq.trans rfl rfl
def mgetA (q : EqK) (z : AV) (ok : Bool) (x i : AV) : A AV := match keyA q i with
    | false => A.fail
    | true => match x with
      | .nilm => A.ret (okA ok z false)
      | .map b => A.bind (rdBlk b) fun k => match findA q i k.cells 0 with
        | some (some (_, v)) => A.ret (okA ok v true)
        | some none => A.ret (okA ok z false)
        | none => A.fail
      | _ => A.fail
theorem op_mget (c : FuncId → List AV → A AV) (ts : List AV) (q : EqK) (z : AV) (ok : Bool) (x i : X) : opRun c ts (.mget q z ok x i) = mgetA q z ok (x.ev ts) (i.ev ts) := Eq.trans rfl rfl
theorem mput_eq {h : Mem} {nx q : Nat} {M : List (Int × Int)} (hq : h.blk q = some ⟨0, 0, true, false, mi M⟩) (hn : q < nx) (s i : Int) : mputA .i (.map q) (.int .i64 s) (.int .i64 i) h nx 0 = some ⟨.tup [], h.set q (some ⟨0, 0, true, false, mi (pI s i M)⟩), nx, 0, 0⟩ := by
  unfold mputA
  rw [show keyA .i (.int .i64 s) = true from rfl]
  simp only [A.bind, rdBlk, blt_of hn, hq, find_i]
  cases hf : fI s M 0 with
  | none =>
    rw [p_noneI s i M 0 hf, mi_app]
    simp [A.bind, wrMap, blt_of hn, hq, A.ret, bit_zero, mi]
  | some p =>
    obtain ⟨j, v⟩ := p
    obtain ⟨_, h2, h3⟩ := p_someI s i M 0 j v hf
    rw [Nat.sub_zero] at h2 h3
    have e : (mi M).getD j .nilm = .int .i64 s := by rw [List.getD_eq_getElem?_getD, h2]; rfl
    have e2 : sameA (.int .i64 s) (.int .i64 s) = true := by simp [sameA, sameC]
    simp only [Option.map_some, e, e2, h3]
    simp [A.bind, wrMap, blt_of hn, hq, A.ret, bit_zero]
theorem mget_eq {h : Mem} {nx q : Nat} {M : List (Int × Int)} (hq : h.blk q = some ⟨0, 0, true, false, mi M⟩) (hn : q < nx) (s : Int) : mgetA .i (.int .i64 0) true (.map q) (.int .i64 s) h nx 0 = some ⟨.tup [.int .i64 ((gI s M).getD 0), .bool (gI s M).isSome], h, nx, 0, 0⟩ := by
  unfold mgetA
  rw [show keyA .i (.int .i64 s) = true from rfl]
  simp only [A.bind, rdBlk, blt_of hn, hq, find_i]
  have := f_gI s M 0
  cases hf : fI s M 0 with
  | none =>
    rw [hf] at this
    rw [← this]
    simp [A.ret, okA, bit_zero]
  | some p =>
    obtain ⟨j, v⟩ := p
    rw [hf] at this
    rw [← this]
    simp [A.ret, okA, bit_zero]

/-! ### The rounds that put -/
def BoI (v : AV) (ask : Int) (len : Nat) (h0 : Mem) (p : Nat) (m : Nat) (ts : List AV) (h : Mem) (nx tc wr : Nat) : Prop := ∃ (i : Nat) (P : List Pl) (M : List (Int × Int)), m = min len 40 - i ∧ i ≤ min len 40 ∧ ts.length = 108 ∧ sl ts 0 = v ∧ sl ts 1 = .int .i64 ask ∧ sl ts 5 = .ptr p 0 ∧ sl ts 6 = .map (p + 1) ∧ sl ts 7 = .int .i64 i ∧
  h.blk p = some (db P (cnt P)) ∧ h.blk (p + 1) = some ⟨0, 0, true, false, mi M⟩ ∧ Bd P M ∧ p + 1 < nx ∧ ∀ b, b < p → h.blk b = h0.blk b
def BoR (ask : Int) (p : Nat) (e : Ex) (ts : List AV) (h : Mem) (nx tc wr : Nat) : Prop := e = .exit 0 ∧ ∃ (P : List Pl) (M : List (Int × Int)), ts.length = 108 ∧ sl ts 1 = .int .i64 ask ∧ sl ts 5 = .ptr p 0 ∧ sl ts 6 = .map (p + 1) ∧
  h.blk p = some (db P (cnt P)) ∧ h.blk (p + 1) = some ⟨0, 0, true, false, mi M⟩ ∧ Bd P M ∧ p + 1 < nx
set_option maxHeartbeats 4000000 in
theorem bo_round (v : AV) (l : List Int) (ask : Int) (h0 : Mem) (p : Nat) (hr : IRow .i64 v h0 p l) (m : Nat) (ts : List AV) (h : Mem) (nx tc wr : Nat) (hi : BoI v ask l.length h0 p m ts h nx tc wr) :
    Post (xC T 150 L5_0b ts h nx 0) fun v' h' nx' tc' wr' => Round (BoI v ask l.length h0 p) (BoR ask p) m v' h' nx' (tc ||| tc') (wr ||| wr') := by
  obtain ⟨i, P, M, rfl, hi, hlen, g0, g1, g5, g6, g7, hp, hq, bd, hn, kp⟩ := hi
  have hln := hr.lenOp
  by_cases c1 : i < l.length
  · have c1' : (i : Int) < (l.length : Int) := by omega
    by_cases c2 : i < 40
    · have c2' : (i : Int) < 40 := by omega
      obtain ⟨bb, c, K, rfl, hb, hK, hs⟩ := hr.at c1
      have hK' : h.blk bb = some K := (kp bb hb).trans hK
      have hbn : bb < nx := by omega
      have ci : IntKind.i64.wrap ((i : Int) + 1) = ((i + 1 : Nat) : Int) := by rw [IntKind.wrap_i64]; omega
      generalize l[i] = x at hs
      have ea : Go.bits .and .i64 x 65535 = x % 65536 := and_mask .i64 16 (by decide) x
      obtain ⟨s, hse⟩ : ∃ s, s = x % 65536 := ⟨_, rfl⟩
      have s0 : 0 ≤ s := by omega
      rw [← hse] at ea
      have hs' := get_of hs
      obtain ⟨h2, nx2, tc2, wr2, x2, n2, k2, f2, _, _⟩ := (put_does bd.ok hp (nx := nx) (by omega) s (i : Int)).at 0 (by omega)
      have q2 : h2.blk (p + 1) = some ⟨0, 0, true, false, mi M⟩ := (f2 (p + 1) (by omega) (by omega)).trans hq
      have kk : ∀ b, b < p → h2.blk b = h0.blk b := fun b hb => (f2 b (by omega) (by omega)).trans (kp b hb)
      cases e : putP P s (i : Int) with
      | none =>
        have hg := bd.no s0 e
        have ap : aft P s (i : Int) = P := by unfold aft; rw [e]; rfl
        rw [ap] at k2
        rw [e] at x2
        have x3 := mget_eq q2 (nx := nx2) (by omega) s
        rw [hg] at x3
        simp (maxSteps := 4000000) [↓step_none, ↓op_mput, ↓op_mget, ↓P_skip, ↓P_exit, ↓P_ret, ↓P_seq, ↓P_cond, ↓P_blk, ↓P_reg, ↓P_draw, ↓P_nil, ↓P_cons, condP_t, condP_f, dum_ab, stepR, want_none, want_some, opRun, ev_t, ev_c, put_none, put_some, resAll, res_tmp, res_cell, oneOf, minI, maxI, min2A, max2A, mn2, mx2, mx3, rdBlk, wrBlk, newBlk, partA, abin, ibin, isShift, AV.cells, AV.one, lay, sub, fillA, lenA, toN, allApart, apartFrom, Nat.testBit, Mem.blk_set_same, Mem.blk_set_ne, Mem.set_set, bit_zero, bit_self, lowBits_or, lowBits_zero, len_setT, sl_same, sl_ne, len_frame, sl_frame,↓op_len, lenOp_slc, lenOp_nils, ↓Post.some, ↓Post_bind, ↓Post_ret, ↓Post_draw, ↓PostL_nil, ↓PostL_cons, Post_fail, ofOpt_some, ofOpt_none, eA_b, eA_i, eA_s, eA_nn, eA_np, eA_pn, eA_lnn, eA_lnp, eA_lpn, eA_i2, eA_i3, blt_dec, Nat.add_assoc, keeps_refl, keeps_at, keeps_up, new_one, and_pow, bit_hi, lowBits_pow, ble_dec, fr_refl, fr_at, fr_up, fr_p, dum_ab, L5_0b, hlen, g0, g1, g5, g6, g7, hln, c1, c1', c2, c2', hbn, hK', hs, hs', ea, x2, x3, ci]
        refine Round.nor (m' := min l.length 40 - (i + 1)) (by omega) ⟨i + 1, P, M, rfl, by omega, ?_, ?_, ?_, ?_, ?_, ?_, k2, q2, bd, by omega, kk⟩
        all_goals simp [len_setT, sl_same, sl_ne, hlen, g0, g1, g5, g6]
      | some P' =>
        have bd' := bd.yes s0 (by omega) e
        have ap : aft P s (i : Int) = P' := by unfold aft; rw [e]; rfl
        rw [ap] at k2
        rw [e] at x2
        have x3 := mput_eq q2 (nx := nx2) (by omega) s (i : Int)
        simp (maxSteps := 4000000) [↓step_none, ↓op_mput, ↓op_mget, ↓P_skip, ↓P_exit, ↓P_ret, ↓P_seq, ↓P_cond, ↓P_blk, ↓P_reg, ↓P_draw, ↓P_nil, ↓P_cons, condP_t, condP_f, dum_ab, stepR, want_none, want_some, opRun, ev_t, ev_c, put_none, put_some, resAll, res_tmp, res_cell, oneOf, minI, maxI, min2A, max2A, mn2, mx2, mx3, rdBlk, wrBlk, newBlk, partA, abin, ibin, isShift, AV.cells, AV.one, lay, sub, fillA, lenA, toN, allApart, apartFrom, Nat.testBit, Mem.blk_set_same, Mem.blk_set_ne, Mem.set_set, bit_zero, bit_self, lowBits_or, lowBits_zero, len_setT, sl_same, sl_ne, len_frame, sl_frame,↓op_len, lenOp_slc, lenOp_nils, ↓Post.some, ↓Post_bind, ↓Post_ret, ↓Post_draw, ↓PostL_nil, ↓PostL_cons, Post_fail, ofOpt_some, ofOpt_none, eA_b, eA_i, eA_s, eA_nn, eA_np, eA_pn, eA_lnn, eA_lnp, eA_lpn, eA_i2, eA_i3, blt_dec, Nat.add_assoc, keeps_refl, keeps_at, keeps_up, new_one, and_pow, bit_hi, lowBits_pow, ble_dec, fr_refl, fr_at, fr_up, fr_p, dum_ab, L5_0b, hlen, g0, g1, g5, g6, g7, hln, c1, c1', c2, c2', hbn, hK', hs, hs', ea, x2, x3, ci]
        refine Round.nor (m' := min l.length 40 - (i + 1)) (by omega) ⟨i + 1, P', pI s (i : Int) M, rfl, by omega, ?_, ?_, ?_, ?_, ?_, ?_, ?_, ?_, bd', by omega, ?_⟩
        any_goals simp [len_setT, sl_same, sl_ne, hlen, g0, g1, g5, g6]
        · rw [Mem.blk_set_ne _ _ _ _ (by omega)]; exact k2
        · rw [Mem.blk_set_same]
        · intro b hb
          rw [Mem.blk_set_ne _ _ _ _ (by omega)]; exact kk b hb
    · have c2' : ¬ (i : Int) < 40 := by omega
      simp (maxSteps := 4000000) [↓step_none, ↓P_skip, ↓P_exit, ↓P_ret, ↓P_seq, ↓P_cond, ↓P_blk, ↓P_reg, ↓P_draw, ↓P_nil, ↓P_cons, condP_t, condP_f, dum_ab, stepR, want_none, want_some, opRun, ev_t, ev_c, put_none, put_some, resAll, res_tmp, res_cell, oneOf, minI, maxI, min2A, max2A, mn2, mx2, mx3, rdBlk, wrBlk, newBlk, partA, abin, ibin, isShift, AV.cells, AV.one, lay, sub, fillA, lenA, toN, allApart, apartFrom, Nat.testBit, Mem.blk_set_same, Mem.blk_set_ne, Mem.set_set, bit_zero, bit_self, lowBits_or, lowBits_zero, len_setT, sl_same, sl_ne, len_frame, sl_frame,↓op_len, lenOp_slc, lenOp_nils, ↓Post.some, ↓Post_bind, ↓Post_ret, ↓Post_draw, ↓PostL_nil, ↓PostL_cons, Post_fail, ofOpt_some, ofOpt_none, eA_b, eA_i, eA_s, eA_nn, eA_np, eA_pn, eA_lnn, eA_lnp, eA_lpn, eA_i2, eA_i3, blt_dec, Nat.add_assoc, keeps_refl, keeps_at, keeps_up, new_one, and_pow, bit_hi, lowBits_pow, ble_dec, fr_refl, fr_at, fr_up, fr_p, dum_ab, L5_0b, hlen, g0, g1, g5, g6, g7, hln, c1, c1', c2, c2']
      refine Round.exit (R := BoR ask p) ⟨rfl, P, M, ?_, ?_, ?_, ?_, hp, hq, bd, hn⟩
      all_goals simp [len_setT, sl_same, sl_ne, hlen, g1, g5, g6]
  · have c1' : ¬ (i : Int) < (l.length : Int) := by omega
    simp (maxSteps := 4000000) [↓step_none, ↓P_skip, ↓P_exit, ↓P_ret, ↓P_seq, ↓P_cond, ↓P_blk, ↓P_reg, ↓P_draw, ↓P_nil, ↓P_cons, condP_t, condP_f, dum_ab, stepR, want_none, want_some, opRun, ev_t, ev_c, put_none, put_some, resAll, res_tmp, res_cell, oneOf, minI, maxI, min2A, max2A, mn2, mx2, mx3, rdBlk, wrBlk, newBlk, partA, abin, ibin, isShift, AV.cells, AV.one, lay, sub, fillA, lenA, toN, allApart, apartFrom, Nat.testBit, Mem.blk_set_same, Mem.blk_set_ne, Mem.set_set, bit_zero, bit_self, lowBits_or, lowBits_zero, len_setT, sl_same, sl_ne, len_frame, sl_frame,↓op_len, lenOp_slc, lenOp_nils, ↓Post.some, ↓Post_bind, ↓Post_ret, ↓Post_draw, ↓PostL_nil, ↓PostL_cons, Post_fail, ofOpt_some, ofOpt_none, eA_b, eA_i, eA_s, eA_nn, eA_np, eA_pn, eA_lnn, eA_lnp, eA_lpn, eA_i2, eA_i3, blt_dec, Nat.add_assoc, keeps_refl, keeps_at, keeps_up, new_one, and_pow, bit_hi, lowBits_pow, ble_dec, fr_refl, fr_at, fr_up, fr_p, dum_ab, L5_0b, hlen, g0, g1, g5, g6, g7, hln, c1, c1']
    refine Round.exit (R := BoR ask p) ⟨rfl, P, M, ?_, ?_, ?_, ?_, hp, hq, bd, hn⟩
    all_goals simp [len_setT, sl_same, sl_ne, hlen, g1, g5, g6]

set_option maxHeartbeats 4000000 in
theorem bounded_law (l : List Int) (v : AV) (y : l.length * 8 ≤ 140737488351232) (q : ∀ x ∈ l, (Lit.int .i64 x).wf = true) (ask : Int) (w1 : (Lit.int .i64 ask).wf = true) (h0 : Mem) (p : Nat) (hr : IRow .i64 v h0 p l) : YesN Try.prog T 5 [v, .int .i64 ask] h0 p := by
  refine ⟨108, 4, G5, G5_ok, ?_⟩
  unfold G5
  refine RW.ds 20 ?_
  simp (maxSteps := 4000000) [↓step_none, ↓P_skip, ↓P_exit, ↓P_ret, ↓P_seq, ↓P_cond, ↓P_blk, ↓P_reg, ↓P_draw, ↓P_nil, ↓P_cons, condP_t, condP_f, dum_ab, stepR, want_none, want_some, opRun, ev_t, ev_c, put_none, put_some, resAll, res_tmp, res_cell, oneOf, minI, maxI, min2A, max2A, mn2, mx2, mx3, rdBlk, wrBlk, newBlk, partA, abin, ibin, isShift, AV.cells, AV.one, lay, sub, fillA, lenA, toN, allApart, apartFrom, Nat.testBit, Mem.blk_set_same, Mem.blk_set_ne, Mem.set_set, bit_zero, bit_self, lowBits_or, lowBits_zero, len_setT, sl_same, sl_ne, len_frame, sl_frame,↓op_len, lenOp_slc, lenOp_nils, ↓Post.some, ↓Post_bind, ↓Post_ret, ↓Post_draw, ↓PostL_nil, ↓PostL_cons, Post_fail, ofOpt_some, ofOpt_none, eA_b, eA_i, eA_s, eA_nn, eA_np, eA_pn, eA_lnn, eA_lnp, eA_lpn, eA_i2, eA_i3, blt_dec, Nat.add_assoc, keeps_refl, keeps_at, keeps_up, new_one, and_pow, bit_hi, lowBits_pow, ble_dec, fr_refl, fr_at, fr_up, fr_p, dum_ab, D5_0]
  refine RW.ds 50 ?_
  have x1 := fun n => new_eq n h0 p 0
  obtain ⟨h1, hh1⟩ : ∃ h1, h1 = h0.set p (some (db empty 0)) := ⟨_, rfl⟩
  rw [← hh1] at x1
  have p1 : h1.blk p = some (db empty (cnt empty)) := by rw [hh1, Mem.blk_set_same]; rfl
  have k1 : ∀ b, b < p → h1.blk b = h0.blk b := fun b hb => by rw [hh1, Mem.blk_set_ne _ _ _ _ (by omega)]
  simp (maxSteps := 4000000) [↓step_none, ↓P_skip, ↓P_exit, ↓P_ret, ↓P_seq, ↓P_cond, ↓P_blk, ↓P_reg, ↓P_draw, ↓P_nil, ↓P_cons, condP_t, condP_f, dum_ab, stepR, want_none, want_some, opRun, ev_t, ev_c, put_none, put_some, resAll, res_tmp, res_cell, oneOf, minI, maxI, min2A, max2A, mn2, mx2, mx3, rdBlk, wrBlk, newBlk, partA, abin, ibin, isShift, AV.cells, AV.one, lay, sub, fillA, lenA, toN, allApart, apartFrom, Nat.testBit, Mem.blk_set_same, Mem.blk_set_ne, Mem.set_set, bit_zero, bit_self, lowBits_or, lowBits_zero, len_setT, sl_same, sl_ne, len_frame, sl_frame,↓op_len, lenOp_slc, lenOp_nils, ↓Post.some, ↓Post_bind, ↓Post_ret, ↓Post_draw, ↓PostL_nil, ↓PostL_cons, Post_fail, ofOpt_some, ofOpt_none, eA_b, eA_i, eA_s, eA_nn, eA_np, eA_pn, eA_lnn, eA_lnp, eA_lpn, eA_i2, eA_i3, blt_dec, Nat.add_assoc, keeps_refl, keeps_at, keeps_up, new_one, and_pow, bit_hi, lowBits_pow, ble_dec, fr_refl, fr_at, fr_up, fr_p, dum_ab, D5_1, x1]
  refine RW.ds 50 ?_
  simp (maxSteps := 4000000) [↓step_none, ↓P_skip, ↓P_exit, ↓P_ret, ↓P_seq, ↓P_cond, ↓P_blk, ↓P_reg, ↓P_draw, ↓P_nil, ↓P_cons, condP_t, condP_f, dum_ab, stepR, want_none, want_some, opRun, ev_t, ev_c, put_none, put_some, resAll, res_tmp, res_cell, oneOf, minI, maxI, min2A, max2A, mn2, mx2, mx3, rdBlk, wrBlk, newBlk, partA, abin, ibin, isShift, AV.cells, AV.one, lay, sub, fillA, lenA, toN, allApart, apartFrom, Nat.testBit, Mem.blk_set_same, Mem.blk_set_ne, Mem.set_set, bit_zero, bit_self, lowBits_or, lowBits_zero, len_setT, sl_same, sl_ne, len_frame, sl_frame,↓op_len, lenOp_slc, lenOp_nils, ↓Post.some, ↓Post_bind, ↓Post_ret, ↓Post_draw, ↓PostL_nil, ↓PostL_cons, Post_fail, ofOpt_some, ofOpt_none, eA_b, eA_i, eA_s, eA_nn, eA_np, eA_pn, eA_lnn, eA_lnp, eA_lpn, eA_i2, eA_i3, blt_dec, Nat.add_assoc, keeps_refl, keeps_at, keeps_up, new_one, and_pow, bit_hi, lowBits_pow, ble_dec, fr_refl, fr_at, fr_up, fr_p, dum_ab, D5_2]
  refine RW.ds 50 ?_
  simp (maxSteps := 4000000) [↓step_none, ↓P_skip, ↓P_exit, ↓P_ret, ↓P_seq, ↓P_cond, ↓P_blk, ↓P_reg, ↓P_draw, ↓P_nil, ↓P_cons, condP_t, condP_f, dum_ab, stepR, want_none, want_some, opRun, ev_t, ev_c, put_none, put_some, resAll, res_tmp, res_cell, oneOf, minI, maxI, min2A, max2A, mn2, mx2, mx3, rdBlk, wrBlk, newBlk, partA, abin, ibin, isShift, AV.cells, AV.one, lay, sub, fillA, lenA, toN, allApart, apartFrom, Nat.testBit, Mem.blk_set_same, Mem.blk_set_ne, Mem.set_set, bit_zero, bit_self, lowBits_or, lowBits_zero, len_setT, sl_same, sl_ne, len_frame, sl_frame,↓op_len, lenOp_slc, lenOp_nils, ↓Post.some, ↓Post_bind, ↓Post_ret, ↓Post_draw, ↓PostL_nil, ↓PostL_cons, Post_fail, ofOpt_some, ofOpt_none, eA_b, eA_i, eA_s, eA_nn, eA_np, eA_pn, eA_lnn, eA_lnp, eA_lpn, eA_i2, eA_i3, blt_dec, Nat.add_assoc, keeps_refl, keeps_at, keeps_up, new_one, and_pow, bit_hi, lowBits_pow, ble_dec, fr_refl, fr_at, fr_up, fr_p, dum_ab, D5_3]
  refine RW.ds 250 ?_
  simp (maxSteps := 4000000) [↓step_none, ↓P_skip, ↓P_exit, ↓P_ret, ↓P_seq, ↓P_cond, ↓P_blk, ↓P_reg, ↓P_draw, ↓P_nil, ↓P_cons, condP_t, condP_f, dum_ab, stepR, want_none, want_some, opRun, ev_t, ev_c, put_none, put_some, resAll, res_tmp, res_cell, oneOf, minI, maxI, min2A, max2A, mn2, mx2, mx3, rdBlk, wrBlk, newBlk, partA, abin, ibin, isShift, AV.cells, AV.one, lay, sub, fillA, lenA, toN, allApart, apartFrom, Nat.testBit, Mem.blk_set_same, Mem.blk_set_ne, Mem.set_set, bit_zero, bit_self, lowBits_or, lowBits_zero, len_setT, sl_same, sl_ne, len_frame, sl_frame,↓op_len, lenOp_slc, lenOp_nils, ↓Post.some, ↓Post_bind, ↓Post_ret, ↓Post_draw, ↓PostL_nil, ↓PostL_cons, Post_fail, ofOpt_some, ofOpt_none, eA_b, eA_i, eA_s, eA_nn, eA_np, eA_pn, eA_lnn, eA_lnp, eA_lpn, eA_i2, eA_i3, blt_dec, Nat.add_assoc, keeps_refl, keeps_at, keeps_up, new_one, and_pow, bit_hi, lowBits_pow, ble_dec, fr_refl, fr_at, fr_up, fr_p, dum_ab, D5_4, L5_0]
  obtain ⟨h2, hh2⟩ : ∃ h2, h2 = h1.set (p + 1) (some ⟨0, 0, true, false, []⟩) := ⟨_, rfl⟩
  rw [← hh2]
  refine Post.loop (bo_round v l ask h0 p hr) (min l.length 40) ⟨0, empty, [], rfl, by omega, ?_, ?_, ?_, ?_, ?_, ?_, ?_, ?_, Bd.nil, by omega, ?_⟩ (by omega) ?_
  any_goals simp (maxDischargeDepth := 6) [len_setT, sl_same, sl_ne, sl_frame, len_frame]
  · rw [hh2, Mem.blk_set_ne _ _ _ _ (by omega)]; exact p1
  · rw [hh2, Mem.blk_set_same]; rfl
  · intro b hb
    rw [hh2, Mem.blk_set_ne _ _ _ _ (by omega)]; exact k1 b hb
  rintro e ts' h' nx' tc wr ⟨rfl, P, M, hlen, g1, g5, g6, hp, hq, bd, hn⟩
  simp (maxSteps := 4000000) [↓step_none, ↓P_skip, ↓P_exit, ↓P_ret, ↓P_seq, ↓P_cond, ↓P_blk, ↓P_reg, ↓P_draw, ↓P_nil, ↓P_cons, condP_t, condP_f, dum_ab, stepR, want_none, want_some, opRun, ev_t, ev_c, put_none, put_some, resAll, res_tmp, res_cell, oneOf, minI, maxI, min2A, max2A, mn2, mx2, mx3, rdBlk, wrBlk, newBlk, partA, abin, ibin, isShift, AV.cells, AV.one, lay, sub, fillA, lenA, toN, allApart, apartFrom, Nat.testBit, Mem.blk_set_same, Mem.blk_set_ne, Mem.set_set, bit_zero, bit_self, lowBits_or, lowBits_zero, len_setT, sl_same, sl_ne, len_frame, sl_frame,↓op_len, lenOp_slc, lenOp_nils, ↓Post.some, ↓Post_bind, ↓Post_ret, ↓Post_draw, ↓PostL_nil, ↓PostL_cons, Post_fail, ofOpt_some, ofOpt_none, eA_b, eA_i, eA_s, eA_nn, eA_np, eA_pn, eA_lnn, eA_lnp, eA_lpn, eA_i2, eA_i3, blt_dec, Nat.add_assoc, keeps_refl, keeps_at, keeps_up, new_one, and_pow, bit_hi, lowBits_pow, ble_dec, fr_refl, fr_at, fr_up, fr_p, dum_ab, hlen]
  refine RW.rs 0 ?_
  simp (maxSteps := 4000000) [↓step_none, ↓P_skip, ↓P_exit, ↓P_ret, ↓P_seq, ↓P_cond, ↓P_blk, ↓P_reg, ↓P_draw, ↓P_nil, ↓P_cons, condP_t, condP_f, dum_ab, stepR, want_none, want_some, opRun, ev_t, ev_c, put_none, put_some, resAll, res_tmp, res_cell, oneOf, minI, maxI, min2A, max2A, mn2, mx2, mx3, rdBlk, wrBlk, newBlk, partA, abin, ibin, isShift, AV.cells, AV.one, lay, sub, fillA, lenA, toN, allApart, apartFrom, Nat.testBit, Mem.blk_set_same, Mem.blk_set_ne, Mem.set_set, bit_zero, bit_self, lowBits_or, lowBits_zero, len_setT, sl_same, sl_ne, len_frame, sl_frame,↓op_len, lenOp_slc, lenOp_nils, ↓Post.some, ↓Post_bind, ↓Post_ret, ↓Post_draw, ↓PostL_nil, ↓PostL_cons, Post_fail, ofOpt_some, ofOpt_none, eA_b, eA_i, eA_s, eA_nn, eA_np, eA_pn, eA_lnn, eA_lnp, eA_lpn, eA_i2, eA_i3, blt_dec, Nat.add_assoc, keeps_refl, keeps_at, keeps_up, new_one, and_pow, bit_hi, lowBits_pow, ble_dec, fr_refl, fr_at, fr_up, fr_p, dum_ab, P5_0, hlen, g6]
  obtain ⟨hz, ehz⟩ : ∃ hz, hz = Mem.empty.set p (some (dbf P (cnt P))) := ⟨_, rfl⟩
  have zp : hz.blk p = some (dbf P (cnt P)) := by rw [ehz, Mem.blk_set_same]
  refine ⟨_, hq, hz, ?_, fun ts2 => ts2.length = 108 ∧ sl ts2 1 = .int .i64 ask ∧ sl ts2 5 = .ptr p 0 ∧ sl ts2 6 = .map (p + 1) ∧ sl ts2 51 = .ptr nx' 0, ?_, ?_, ?_, ?_⟩
  · intro b K hb
    rw [ehz, Mem.blk_set, Mem.blk_empty] at hb
    split at hb
    · rename_i e; subst e
      cases hb
      exact ⟨_, hp, by simp [db], rfl⟩
    · cases hb
  · refine ⟨?_, ?_, ?_, ?_, ?_⟩ <;> simp [len_setT, sl_same, sl_ne, hlen, g1, g5, g6]
  · rintro ts2 ⟨l, _, _, _, e⟩
    exact ⟨e, by omega, by omega⟩
  · rintro ts2 nn i kk vv ⟨l, e1, e5, e6, e51⟩ hnn hkk hvv
    obtain ⟨e, he, rfl, rfl⟩ := mi_at M i hkk hvv
    obtain ⟨s, k⟩ := e
    obtain ⟨n, hfd⟩ := bd.fd _ he
    have hpos := bd.pos _ he
    have hfn := fnd_n P s 4 (by omega)
    have hfind : find P s = (k, n) := by unfold find; rw [if_neg (by simp only at hpos; omega)]; exact hfd
    rw [hfd] at hfn
    simp only at hfn
    have n1 : ¬ n < 1 := by omega
    have n4 : ¬ 4 < n := by omega
    obtain ⟨h2, nx2, tc2, wr2, x2, n2, b2, k2, t2, w2⟩ := (find_doesF bd.ok zp (show p < nn by omega) s).at 0 (by omega)
    rw [hfind] at x2
    refine ⟨200, ?_⟩
    simp (maxSteps := 4000000) [↓step_none, ↓P_skip, ↓P_exit, ↓P_ret, ↓P_seq, ↓P_cond, ↓P_blk, ↓P_reg, ↓P_draw, ↓P_nil, ↓P_cons, condP_t, condP_f, dum_ab, stepR, want_none, want_some, opRun, ev_t, ev_c, put_none, put_some, resAll, res_tmp, res_cell, oneOf, minI, maxI, min2A, max2A, mn2, mx2, mx3, rdBlk, wrBlk, newBlk, partA, abin, ibin, isShift, AV.cells, AV.one, lay, sub, fillA, lenA, toN, allApart, apartFrom, Nat.testBit, Mem.blk_set_same, Mem.blk_set_ne, Mem.set_set, bit_zero, bit_self, lowBits_or, lowBits_zero, len_setT, sl_same, sl_ne, len_frame, sl_frame,↓op_len, lenOp_slc, lenOp_nils, ↓Post.some, ↓Post_bind, ↓Post_ret, ↓Post_draw, ↓PostL_nil, ↓PostL_cons, Post_fail, ofOpt_some, ofOpt_none, eA_b, eA_i, eA_s, eA_nn, eA_np, eA_pn, eA_lnn, eA_lnp, eA_lpn, eA_i2, eA_i3, blt_dec, Nat.add_assoc, keeps_refl, keeps_at, keeps_up, new_one, and_pow, bit_hi, lowBits_pow, ble_dec, fr_refl, fr_at, fr_up, fr_p, dum_ab, E5_0, B5_0, l, e1, e5, e6, e51, x2, n1, n4]
  · rintro ts2 nn ⟨l, e1, e5, e6, e51⟩ hnn
    refine RW.de 700 ?_
    obtain ⟨h2, nx2, tc2, wr2, x2, n2, b2, k2, t2, w2⟩ := (find_does bd.ok hp (nx := nn) (by omega) ask).at 0 (by omega)
    have hq2 := (k2 (p + 1) (by omega) (by omega)).trans hq
    have x3 := fun k => len_eq bd.ok.len b2 (show p < nx2 by omega) k 0
    have hct : ((cnt P : Int) == ((mi M).length : Int) / 2) = true := by rw [mi_len, bd.ct, beq_iff_eq]; omega
    have hle : (cnt P : Int) ≤ 16 := by have := cnt_le P; rw [bd.ok.len] at this; omega
    obtain ⟨h5, nx5, tc5, wr5, x5, _⟩ := (known_ans h2 nx2).at
    have hfn := fnd_n P ask 4 (by omega)
    by_cases c : ask < 0
    · have hf : find P ask = (-1, 0) := by unfold find; rw [if_pos c]
      rw [hf] at x2
      have c' : ¬ 0 ≤ ask := by omega
      simp (maxSteps := 4000000) [↓step_none, ↓step_t, ↓step_f, ↓step_nt, ↓step_nf, ↓P_skip, ↓P_exit, ↓P_ret, ↓P_seq, ↓P_cond, ↓P_blk, ↓P_reg, ↓P_draw, ↓P_nil, ↓P_cons, condP_t, condP_f, dum_ab, stepR, want_none, want_some, opRun, ev_t, ev_c, put_none, put_some, resAll, res_tmp, res_cell, oneOf, minI, maxI, min2A, max2A, mn2, mx2, mx3, rdBlk, wrBlk, newBlk, partA, abin, ibin, isShift, AV.cells, AV.one, lay, sub, fillA, lenA, toN, allApart, apartFrom, Nat.testBit, Mem.blk_set_same, Mem.blk_set_ne, Mem.set_set, bit_zero, bit_self, lowBits_or, lowBits_zero, len_setT, sl_same, sl_ne, len_frame, sl_frame,↓op_len, lenOp_slc, lenOp_nils, ↓Post.some, ↓Post_bind, ↓Post_ret, ↓Post_draw, ↓PostL_nil, ↓PostL_cons, Post_fail, ofOpt_some, ofOpt_none, eA_b, eA_i, eA_s, eA_nn, eA_np, eA_pn, eA_lnn, eA_lnp, eA_lpn, eA_i2, eA_i3, blt_dec, Nat.add_assoc, keeps_refl, keeps_at, keeps_up, new_one, and_pow, bit_hi, lowBits_pow, ble_dec, fr_refl, fr_at, fr_up, fr_p, dum_ab, D5_5, l, e1, e5, e6, x2, x3, x5, hq2, hct, hle, c, c', show p + 1 < nx2 by omega]
    · have hf : find P ask = fnd P ask 4 := by unfold find; rw [if_neg c]
      rw [hf] at x2
      generalize fnd P ask 4 = R at hfn x2
      obtain ⟨ri, rn⟩ := R
      simp only at hfn x2
      have c' : 0 ≤ ask := by omega
      simp (maxSteps := 4000000) [↓step_none, ↓step_t, ↓step_f, ↓step_nt, ↓step_nf, ↓P_skip, ↓P_exit, ↓P_ret, ↓P_seq, ↓P_cond, ↓P_blk, ↓P_reg, ↓P_draw, ↓P_nil, ↓P_cons, condP_t, condP_f, dum_ab, stepR, want_none, want_some, opRun, ev_t, ev_c, put_none, put_some, resAll, res_tmp, res_cell, oneOf, minI, maxI, min2A, max2A, mn2, mx2, mx3, rdBlk, wrBlk, newBlk, partA, abin, ibin, isShift, AV.cells, AV.one, lay, sub, fillA, lenA, toN, allApart, apartFrom, Nat.testBit, Mem.blk_set_same, Mem.blk_set_ne, Mem.set_set, bit_zero, bit_self, lowBits_or, lowBits_zero, len_setT, sl_same, sl_ne, len_frame, sl_frame,↓op_len, lenOp_slc, lenOp_nils, ↓Post.some, ↓Post_bind, ↓Post_ret, ↓Post_draw, ↓PostL_nil, ↓PostL_cons, Post_fail, ofOpt_some, ofOpt_none, eA_b, eA_i, eA_s, eA_nn, eA_np, eA_pn, eA_lnn, eA_lnp, eA_lpn, eA_i2, eA_i3, blt_dec, Nat.add_assoc, keeps_refl, keeps_at, keeps_up, new_one, and_pow, bit_hi, lowBits_pow, ble_dec, fr_refl, fr_at, fr_up, fr_p, dum_ab, D5_5, l, e1, e5, e6, x2, x3, x5, hq2, hct, hle, c, c', show p + 1 < nx2 by omega, show 0 ≤ rn by omega, show rn ≤ 4 by omega, show 0 < rn by omega]
end Go.Proofs.YtadenjdkknakgaaT
