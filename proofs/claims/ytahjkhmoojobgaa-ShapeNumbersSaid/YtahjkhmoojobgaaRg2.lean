/- Shape: classes are judged: Right. -/
import Derived.Test.YtahjkhmoojobgaaSu
namespace Go.Proofs.YtahjkhmoojobgaaT
open Go Go.Proofs.YtahjkhmoojobgaaE Go.Proofs.YtahjkhmoojobgaaB
set_option linter.unusedSimpArgs false
set_option linter.unusedVariables false
attribute [local congr] Post_cg PostL_cg condP_cg

def nameBad (L : List C) (i : Nat) (c : C) : Bool := decide (c.name.size < 1) || decide (16 < c.name.size) || anyN (L.take i) c
def errAt (L : List C) (n m : Int) (i : Nat) : Int := match L[i]? with
  | none => 0
  | some c => cond (nameBad L i c) 13 (cond (supB L i) (cond (bindsV c.B n m) 0 15) 14)
theorem errAt_at {L : List C} {n m : Int} {i : Nat} (h : i < L.length) : errAt L n m i = cond (nameBad L i L[i]) 13 (cond (supB L i) (cond (bindsV L[i].B n m) 0 15) 14) := by unfold errAt; rw [List.getElem?_eq_getElem h]
def errN (L : List C) (n m : Int) : Nat → Int
  | 0 => 0
  | k + 1 => if errAt L n m (L.length - (k + 1)) = 0 then errN L n m k else errAt L n m (L.length - (k + 1))
theorem errN_at {L : List C} {n m : Int} {j : Nat} (h : j < L.length) : errN L n m (L.length - j) = if errAt L n m j = 0 then errN L n m (L.length - (j + 1)) else errAt L n m j := by
  obtain ⟨k, hk⟩ : ∃ k, L.length - j = k + 1 := ⟨L.length - j - 1, by omega⟩
  rw [hk, errN, show L.length - (k + 1) = j by omega, show L.length - (j + 1) = k by omega]
def headBad (L : List C) : Bool := match L[0]?, L[1]? with
  | some a, some b => a.sup != -1 || b.sup != -1 || a.fld != 4 || b.fld != 0
  | _, _ => false
def rightV (L : List C) (n m : Int) : Int := if L.length < 2 ∨ 12 < L.length then 3 else if headBad L = true then 14 else errN L n m L.length
theorem CR.cut {v : AV} {h : Mem} {nx : Nat} {L : List C} (g : CR v h nx L) {j : Nat} (hj : j ≤ L.length) : ∃ y, CR y h nx (L.take j) ∧ ∀ lg, ∃ tc, sliceA 4 v none (some (.int .i64 (j : Nat))) none h nx lg = some ⟨y, h, nx, tc, 0⟩ := by
  obtain ⟨y, ry, _, e⟩ := g.r.cut (a := 0) (e := j) (Nat.zero_le _) (by rw [css_len]; exact hj) none _ (.inl ⟨rfl, rfl⟩) (.inr rfl)
  refine ⟨y, ⟨?_, by have := g.n; rw [List.length_take]; omega, fun c hc => g.b c (List.mem_of_mem_take hc)⟩, fun lg => ?_⟩
  · rw [List.drop_zero, Nat.sub_zero] at ry
    have : (css L).take j = css (L.take j) := by unfold css; rw [List.map_take]
    rwa [this] at ry
  · obtain ⟨tc, e1, _⟩ := e lg
    exact ⟨tc, e1⟩
theorem supB_down {L : List C} {i : Nat} (h : i < L.length) (e : supB L i = true) : -1 ≤ L[i].sup ∧ L[i].sup < i := by
  unfold supB at e
  rw [List.getElem?_eq_getElem h] at e
  simp only [Bool.and_eq_true, decide_eq_true_eq] at e
  exact ⟨e.1.1.2, e.1.2⟩
theorem Down.more {L : List C} {i : Nat} (d : Down L i) (h : i < L.length) (e : supB L i = true) : Down L (i + 1) := fun j hj hi => by
  by_cases x : j = i
  · subst x; exact supB_down hj e
  · exact d j hj (by omega)
def RgI (nt a : Nat) (v : AV) (L : List C) (n m : Int) (h0 : Mem) (nx0 : Nat) (k : Nat) (ts : List AV) (h : Mem) (nx tc wr : Nat) : Prop := ∃ j : Nat, k = L.length - j ∧ j ≤ L.length ∧ ts.length = nt ∧ sl ts 0 = v ∧ sl ts 1 = .int .i64 n ∧ sl ts 2 = .int .i64 m ∧ sl ts a = v ∧ sl ts (a + 1) = .int .i64 L.length ∧ sl ts (a + 2) = .int .i64 j ∧ Down L j ∧ errN L n m (L.length - j) = errN L n m L.length ∧ nx0 ≤ nx ∧ (∀ q, q < nx0 → h.blk q = h0.blk q) ∧ ∀ q, q < nx0 → wr &&& 2 ^ q = 0
def RgR (nt : Nat) (L : List C) (n m : Int) (h0 : Mem) (nx0 : Nat) (e : Ex) (ts : List AV) (h : Mem) (nx tc wr : Nat) : Prop := ts.length = nt ∧ nx0 ≤ nx ∧ (∀ q, q < nx0 → h.blk q = h0.blk q) ∧ (∀ q, q < nx0 → wr &&& 2 ^ q = 0) ∧ ((e = .exit 0 ∧ errN L n m L.length = 0) ∨ (e = .ret ∧ sl ts 6 = .int .i64 (errN L n m L.length)))
set_option maxHeartbeats 16000000 in
theorem rg_round {v : AV} {L : List C} (n m : Int) {bb : Nat} {h0 : Mem} {nx0 : Nat} (g : CR v h0 nx0 L) (h12 : L.length ≤ 12) (hbb : ∀ c ∈ L, c.B.length ≤ bb) (lg : Nat) (hlg : lg ≤ nx0) (k : Nat) (ts : List AV) (h : Mem) (nx tc wr : Nat) (hi : RgI 81 43 v L n m h0 nx0 k ts h nx tc wr) :
    Post (xC T (2 * bb + 400) L13_0b ts h nx lg) fun v' h' nx' tc' wr' => Round (RgI 81 43 v L n m h0 nx0) (RgR 81 L n m h0 nx0) k v' h' nx' (tc ||| tc') (wr ||| wr') := by
  obtain ⟨j, rfl, hj, hlen, g0, g1, g2, g43, g44, g45, hd, et, hn, hk, hw⟩ := hi
  have hl := g.n
  by_cases cj : j < L.length
  · have gc := g.keeps hn hk
    obtain ⟨b, o, el⟩ := gc.el cj
    have e0 := el.all lg
    have p0 := el.pl
    have ok := errAt_at (n := n) (m := m) cj
    rw [errN_at cj] at et
    have ci : IntKind.i64.wrap ((j : Int) + 1) = ((j + 1 : Nat) : Int) := by rw [IntKind.wrap_i64]; omega
    obtain ⟨H, st, hb, hs⟩ := cvar gc cj
    have gH := gc.keeps (nx' := nx + 1) (by omega) hs
    have l0 := fun lg => ld_at hb (show nx < nx + 1 by omega) (o := 0) (v := .str L[j].name) rfl lg
    have kk : ∀ q, q < nx0 → H.blk q = h0.blk q := fun q hq => (hs q (by omega)).trans (hk q hq)
    obtain ⟨y, ry, cu⟩ := gH.cut hj
    obtain ⟨tcc, cu⟩ := cu lg
    have bitz : bit lg nx = 0 := bit_up (by omega)
    have gB := (g.bind (List.getElem_mem cj))
    have lB := hbb _ (List.getElem_mem cj)
    have sz := (g.b _ (List.getElem_mem cj)).2.2
    have nb : nameBad L j L[j] = (decide (L[j].name.size < 1) || decide (16 < L[j].name.size) || anyN (L.take j) L[j]) := rfl
    have e3 : ∀ {h' nx'}, h'.blk nx = some ⟨38, 4, true, false, L[j].cs⟩ → nx < nx' → ∀ lg, ldA none (.ptr nx 3) h' nx' lg = some ⟨L[j].bv, h', nx', bit lg nx, 0⟩ := fun hb hn lg => ld_at hb hn (o := 3) rfl lg
    have nms := names_nw ry (c := L[j]) (show nx < nx + 1 by omega) hb
    generalize hc : L[j] = c at *
    simp only [C.cs, cz] at e0 st
    have bad : nameBad L j c = true → ∀ ts' h' nx' tc2 wr2, ts'.length = 81 → sl ts' 6 = .int .i64 13 → nx0 ≤ nx' → (∀ q, q < nx0 → h'.blk q = h0.blk q) → (∀ q, q < nx0 → wr2 &&& 2 ^ q = 0) → ∀ mm, Round (RgI 81 43 v L n m h0 nx0) (RgR 81 L n m h0 nx0) mm (.ret, ts') h' nx' tc2 wr2 := fun e ts' h' nx' tc2 wr2 a1 a2 a3 a4 a5 mm => by
      rw [e] at ok
      simp only [cond_true] at ok
      rw [ok, if_neg (by decide)] at et
      exact Round.ret (R := RgR 81 L n m h0 nx0) ⟨a1, a3, a4, a5, .inr ⟨rfl, by rw [a2, ← et]⟩⟩
    by_cases c1 : c.name.size < 1
    · have c1' : (c.name.size : Int) < 1 := by omega
      have := bad (by rw [nb]; simp [c1])
      simp (maxSteps := 4000000) (maxDischargeDepth := 6) [↓step_none, ↓step_t, ↓step_f, ↓step_nt, ↓step_nf, ↓op_load, ↓op_store, ↓op_slice, ↓op_app, ↓op_islc, ↓op_lens, lenS_str, ↓P_skip, ↓P_exit, ↓P_ret, ↓P_seq, ↓P_cond, ↓P_blk, ↓P_reg, ↓P_draw, ↓P_nil, ↓P_cons, condP_t, condP_f, dum_ab, stepR, want_none, want_some, opRun, ev_t, ev_c, put_none, put_some, resAll, res_tmp, res_cell, oneOf, minI, maxI, min2A, max2A, mn2, mx2, mx3, rdBlk, wrBlk, newBlk, partA, abin, ibin, isShift, AV.cells, AV.one, lay, sub, fillA, lenA, toN, allApart, apartFrom, Nat.testBit, Mem.blk_set_same, Mem.blk_set_ne, Mem.set_set, bit_zero, bit_self, lowBits_or, lowBits_zero, len_setT, sl_same, sl_ne, len_frame, sl_frame,↓op_len, lenOp_slc, lenOp_nils, ↓Post.some, ↓Post_bind, ↓Post_ret, ↓Post_draw, ↓PostL_nil, ↓PostL_cons, Post_fail, ofOpt_some, ofOpt_none, eA_b, eA_i, eA_s, eA_nn, eA_np, eA_pn, eA_lnn, eA_lnp, eA_lpn, eA_i2, eA_i3, blt_dec, Nat.add_assoc, keeps_refl, keeps_at, keeps_up, new_one, and_pow, bit_hi, lowBits_pow, ble_dec, fr_refl, fr_at, fr_up, fr_p, dum_ab, reps, L13_0b, hlen, g0, g1, g2, g43, g44, g45, cj, e0, p0, st, l0, c1, c1', bitz]
      refine this _ _ _ _ _ ?_ ?_ (by omega) kk hw _ <;> simp [len_setT, sl_same, sl_ne, hlen]
    have c1' : ¬ (c.name.size : Int) < 1 := by omega
    by_cases c2 : 16 < c.name.size
    · have c2' : 16 < (c.name.size : Int) := by omega
      have := bad (by rw [nb]; simp [c2])
      simp (maxSteps := 4000000) (maxDischargeDepth := 6) [↓step_none, ↓step_t, ↓step_f, ↓step_nt, ↓step_nf, ↓op_load, ↓op_store, ↓op_slice, ↓op_app, ↓op_islc, ↓op_lens, lenS_str, ↓P_skip, ↓P_exit, ↓P_ret, ↓P_seq, ↓P_cond, ↓P_blk, ↓P_reg, ↓P_draw, ↓P_nil, ↓P_cons, condP_t, condP_f, dum_ab, stepR, want_none, want_some, opRun, ev_t, ev_c, put_none, put_some, resAll, res_tmp, res_cell, oneOf, minI, maxI, min2A, max2A, mn2, mx2, mx3, rdBlk, wrBlk, newBlk, partA, abin, ibin, isShift, AV.cells, AV.one, lay, sub, fillA, lenA, toN, allApart, apartFrom, Nat.testBit, Mem.blk_set_same, Mem.blk_set_ne, Mem.set_set, bit_zero, bit_self, lowBits_or, lowBits_zero, len_setT, sl_same, sl_ne, len_frame, sl_frame,↓op_len, lenOp_slc, lenOp_nils, ↓Post.some, ↓Post_bind, ↓Post_ret, ↓Post_draw, ↓PostL_nil, ↓PostL_cons, Post_fail, ofOpt_some, ofOpt_none, eA_b, eA_i, eA_s, eA_nn, eA_np, eA_pn, eA_lnn, eA_lnp, eA_lpn, eA_i2, eA_i3, blt_dec, Nat.add_assoc, keeps_refl, keeps_at, keeps_up, new_one, and_pow, bit_hi, lowBits_pow, ble_dec, fr_refl, fr_at, fr_up, fr_p, dum_ab, reps, L13_0b, hlen, g0, g1, g2, g43, g44, g45, cj, e0, p0, st, l0, c1', c2', bitz]
      refine this _ _ _ _ _ ?_ ?_ (by omega) kk hw _ <;> simp [len_setT, sl_same, sl_ne, hlen]
    have nb' : nameBad L j c = anyN (L.take j) c := by rw [nb]; simp [c1, c2]
    have c2' : ¬ 16 < (c.name.size : Int) := by omega
    simp (maxSteps := 4000000) (maxDischargeDepth := 6) [↓step_none, ↓step_t, ↓step_f, ↓step_nt, ↓step_nf, ↓op_load, ↓op_store, ↓op_slice, ↓op_app, ↓op_islc, ↓op_lens, lenS_str, ↓P_skip, ↓P_exit, ↓P_ret, ↓P_seq, ↓P_cond, ↓P_blk, ↓P_reg, ↓P_draw, ↓P_nil, ↓P_cons, condP_t, condP_f, dum_ab, stepR, want_none, want_some, opRun, ev_t, ev_c, put_none, put_some, resAll, res_tmp, res_cell, oneOf, minI, maxI, min2A, max2A, mn2, mx2, mx3, rdBlk, wrBlk, newBlk, partA, abin, ibin, isShift, AV.cells, AV.one, lay, sub, fillA, lenA, toN, allApart, apartFrom, Nat.testBit, Mem.blk_set_same, Mem.blk_set_ne, Mem.set_set, bit_zero, bit_self, lowBits_or, lowBits_zero, len_setT, sl_same, sl_ne, len_frame, sl_frame,↓op_len, lenOp_slc, lenOp_nils, ↓Post.some, ↓Post_bind, ↓Post_ret, ↓Post_draw, ↓PostL_nil, ↓PostL_cons, Post_fail, ofOpt_some, ofOpt_none, eA_b, eA_i, eA_s, eA_nn, eA_np, eA_pn, eA_lnn, eA_lnp, eA_lpn, eA_i2, eA_i3, blt_dec, Nat.add_assoc, keeps_refl, keeps_at, keeps_up, new_one, and_pow, bit_hi, lowBits_pow, ble_dec, fr_refl, fr_at, fr_up, fr_p, dum_ab, reps, L13_0b, hlen, g0, g1, g2, g43, g44, g45, cj, e0, p0, st, l0, c1', c2', bitz, cu]
    refine nms.post (by rw [List.length_take]; omega) (by omega) ?_
    rintro r h2 nx2 tc2 wr2 rfl hn2 hk2 hw2
    have kk2 : ∀ q, q < nx0 → h2.blk q = h0.blk q := fun q hq => (hk2 q (by omega)).trans (kk q hq)
    have ww2 : ∀ q, q < nx0 → (wr ||| wr2) &&& 2 ^ q = 0 := fun q hq => wr_or (hw q hq) (hw2 q (by omega))
    have hb2 := (hk2 nx (by omega)).trans hb
    cases d : anyN (L.take j) c with
    | true =>
      simp (maxSteps := 4000000) (maxDischargeDepth := 6) [↓step_none, ↓step_t, ↓step_f, ↓step_nt, ↓step_nf, ↓op_load, ↓op_store, ↓op_slice, ↓op_app, ↓op_islc, ↓P_skip, ↓P_exit, ↓P_ret, ↓P_seq, ↓P_cond, ↓P_blk, ↓P_reg, ↓P_draw, ↓P_nil, ↓P_cons, condP_t, condP_f, dum_ab, stepR, want_none, want_some, opRun, ev_t, ev_c, put_none, put_some, resAll, res_tmp, res_cell, oneOf, minI, maxI, min2A, max2A, mn2, mx2, mx3, rdBlk, wrBlk, newBlk, partA, abin, ibin, isShift, AV.cells, AV.one, lay, sub, fillA, lenA, toN, allApart, apartFrom, Nat.testBit, Mem.blk_set_same, Mem.blk_set_ne, Mem.set_set, bit_zero, bit_self, lowBits_or, lowBits_zero, len_setT, sl_same, sl_ne, len_frame, sl_frame,↓op_len, lenOp_slc, lenOp_nils, ↓Post.some, ↓Post_bind, ↓Post_ret, ↓Post_draw, ↓PostL_nil, ↓PostL_cons, Post_fail, ofOpt_some, ofOpt_none, eA_b, eA_i, eA_s, eA_nn, eA_np, eA_pn, eA_lnn, eA_lnp, eA_lpn, eA_i2, eA_i3, blt_dec, Nat.add_assoc, keeps_refl, keeps_at, keeps_up, new_one, and_pow, bit_hi, lowBits_pow, ble_dec, fr_refl, fr_at, fr_up, fr_p, dum_ab, hlen]
      refine bad (nb'.trans d) _ _ _ _ _ ?_ ?_ (by omega) kk2 ww2 _ <;> simp [len_setT, sl_same, sl_ne, hlen]
    | false =>
      rw [nb', d] at ok
      simp only [cond_false] at ok
      simp (maxSteps := 4000000) (maxDischargeDepth := 6) [↓step_none, ↓step_t, ↓step_f, ↓step_nt, ↓step_nf, ↓op_load, ↓op_store, ↓op_slice, ↓op_app, ↓op_islc, ↓P_skip, ↓P_exit, ↓P_ret, ↓P_seq, ↓P_cond, ↓P_blk, ↓P_reg, ↓P_draw, ↓P_nil, ↓P_cons, condP_t, condP_f, dum_ab, stepR, want_none, want_some, opRun, ev_t, ev_c, put_none, put_some, resAll, res_tmp, res_cell, oneOf, minI, maxI, min2A, max2A, mn2, mx2, mx3, rdBlk, wrBlk, newBlk, partA, abin, ibin, isShift, AV.cells, AV.one, lay, sub, fillA, lenA, toN, allApart, apartFrom, Nat.testBit, Mem.blk_set_same, Mem.blk_set_ne, Mem.set_set, bit_zero, bit_self, lowBits_or, lowBits_zero, len_setT, sl_same, sl_ne, len_frame, sl_frame,↓op_len, lenOp_slc, lenOp_nils, ↓Post.some, ↓Post_bind, ↓Post_ret, ↓Post_draw, ↓PostL_nil, ↓PostL_cons, Post_fail, ofOpt_some, ofOpt_none, eA_b, eA_i, eA_s, eA_nn, eA_np, eA_pn, eA_lnn, eA_lnp, eA_lpn, eA_i2, eA_i3, blt_dec, Nat.add_assoc, keeps_refl, keeps_at, keeps_up, new_one, and_pow, bit_hi, lowBits_pow, ble_dec, fr_refl, fr_at, fr_up, fr_p, dum_ab, hlen, g0]
      have gH2 := gH.keeps hn2 hk2
      refine (sup_nw gH2 cj).post (by omega) (by omega) ?_
      rintro r h3 nx3 tc3 wr3 rfl hn3 hk3 hw3
      have kk3 : ∀ q, q < nx0 → h3.blk q = h0.blk q := fun q hq => (hk3 q (by omega)).trans (kk2 q hq)
      have ww3 : ∀ q, q < nx0 → (wr ||| wr2 ||| wr3) &&& 2 ^ q = 0 := fun q hq => wr_or (ww2 q hq) (hw3 q (by omega))
      have ww3' : ∀ q, q < nx0 → (wr ||| (wr2 ||| wr3)) &&& 2 ^ q = 0 := fun q hq => by rw [← Nat.or_assoc]; exact ww3 q hq
      cases s : supB L j with
      | false =>
        rw [s] at ok
        simp only [cond_false] at ok
        rw [ok, if_neg (by decide)] at et
        simp (maxSteps := 4000000) (maxDischargeDepth := 6) [↓step_none, ↓step_t, ↓step_f, ↓step_nt, ↓step_nf, ↓op_load, ↓op_store, ↓op_slice, ↓op_app, ↓op_islc, ↓P_skip, ↓P_exit, ↓P_ret, ↓P_seq, ↓P_cond, ↓P_blk, ↓P_reg, ↓P_draw, ↓P_nil, ↓P_cons, condP_t, condP_f, dum_ab, stepR, want_none, want_some, opRun, ev_t, ev_c, put_none, put_some, resAll, res_tmp, res_cell, oneOf, minI, maxI, min2A, max2A, mn2, mx2, mx3, rdBlk, wrBlk, newBlk, partA, abin, ibin, isShift, AV.cells, AV.one, lay, sub, fillA, lenA, toN, allApart, apartFrom, Nat.testBit, Mem.blk_set_same, Mem.blk_set_ne, Mem.set_set, bit_zero, bit_self, lowBits_or, lowBits_zero, len_setT, sl_same, sl_ne, len_frame, sl_frame,↓op_len, lenOp_slc, lenOp_nils, ↓Post.some, ↓Post_bind, ↓Post_ret, ↓Post_draw, ↓PostL_nil, ↓PostL_cons, Post_fail, ofOpt_some, ofOpt_none, eA_b, eA_i, eA_s, eA_nn, eA_np, eA_pn, eA_lnn, eA_lnp, eA_lpn, eA_i2, eA_i3, blt_dec, Nat.add_assoc, keeps_refl, keeps_at, keeps_up, new_one, and_pow, bit_hi, lowBits_pow, ble_dec, fr_refl, fr_at, fr_up, fr_p, dum_ab, hlen]
        refine Round.ret (R := RgR 81 L n m h0 nx0) ⟨?_, by omega, kk3, ?_, .inr ⟨rfl, ?_⟩⟩
        · simp [len_setT, sl_same, sl_ne, hlen]
        · first | exact ww3 | exact ww3'
        · simp [len_setT, sl_same, sl_ne, hlen, et]
      | true =>
        rw [s] at ok
        simp only [cond_true] at ok
        have hb3 := (hk3 nx (by omega)).trans hb2
        have e3' := fun lg => e3 hb3 (show nx < nx3 by omega) lg
        simp (maxSteps := 4000000) (maxDischargeDepth := 6) [↓step_none, ↓step_t, ↓step_f, ↓step_nt, ↓step_nf, ↓op_load, ↓op_store, ↓op_slice, ↓op_app, ↓op_islc, ↓P_skip, ↓P_exit, ↓P_ret, ↓P_seq, ↓P_cond, ↓P_blk, ↓P_reg, ↓P_draw, ↓P_nil, ↓P_cons, condP_t, condP_f, dum_ab, stepR, want_none, want_some, opRun, ev_t, ev_c, put_none, put_some, resAll, res_tmp, res_cell, oneOf, minI, maxI, min2A, max2A, mn2, mx2, mx3, rdBlk, wrBlk, newBlk, partA, abin, ibin, isShift, AV.cells, AV.one, lay, sub, fillA, lenA, toN, allApart, apartFrom, Nat.testBit, Mem.blk_set_same, Mem.blk_set_ne, Mem.set_set, bit_zero, bit_self, lowBits_or, lowBits_zero, len_setT, sl_same, sl_ne, len_frame, sl_frame,↓op_len, lenOp_slc, lenOp_nils, ↓Post.some, ↓Post_bind, ↓Post_ret, ↓Post_draw, ↓PostL_nil, ↓PostL_cons, Post_fail, ofOpt_some, ofOpt_none, eA_b, eA_i, eA_s, eA_nn, eA_np, eA_pn, eA_lnn, eA_lnp, eA_lpn, eA_i2, eA_i3, blt_dec, Nat.add_assoc, keeps_refl, keeps_at, keeps_up, new_one, and_pow, bit_hi, lowBits_pow, ble_dec, fr_refl, fr_at, fr_up, fr_p, dum_ab, hlen, e3', g1, g2, bitz]
        refine (binds_nw n m (gB.keeps (show nx0 ≤ nx3 by omega) kk3)).post (by omega) (by omega) ?_
        rintro r h4 nx4 tc4 wr4 rfl hn4 hk4 hw4
        have kk4 : ∀ q, q < nx0 → h4.blk q = h0.blk q := fun q hq => (hk4 q (by omega)).trans (kk3 q hq)
        have ww4 : ∀ q, q < nx0 → (wr ||| (wr2 ||| (wr3 ||| wr4))) &&& 2 ^ q = 0 := fun q hq => wr_or (hw q hq) (wr_or (hw2 q (by omega)) (wr_or (hw3 q (by omega)) (hw4 q (by omega))))
        have ww4' : ∀ q, q < nx0 → (wr ||| wr2 ||| wr3 ||| wr4) &&& 2 ^ q = 0 := fun q hq => wr_or (wr_or (wr_or (hw q hq) (hw2 q (by omega))) (hw3 q (by omega))) (hw4 q (by omega))
        cases bv : bindsV c.B n m with
        | false =>
          rw [bv] at ok
          simp only [cond_false] at ok
          rw [ok, if_neg (by decide)] at et
          simp (maxSteps := 4000000) (maxDischargeDepth := 6) [↓step_none, ↓step_t, ↓step_f, ↓step_nt, ↓step_nf, ↓op_load, ↓op_store, ↓op_slice, ↓op_app, ↓op_islc, ↓P_skip, ↓P_exit, ↓P_ret, ↓P_seq, ↓P_cond, ↓P_blk, ↓P_reg, ↓P_draw, ↓P_nil, ↓P_cons, condP_t, condP_f, dum_ab, stepR, want_none, want_some, opRun, ev_t, ev_c, put_none, put_some, resAll, res_tmp, res_cell, oneOf, minI, maxI, min2A, max2A, mn2, mx2, mx3, rdBlk, wrBlk, newBlk, partA, abin, ibin, isShift, AV.cells, AV.one, lay, sub, fillA, lenA, toN, allApart, apartFrom, Nat.testBit, Mem.blk_set_same, Mem.blk_set_ne, Mem.set_set, bit_zero, bit_self, lowBits_or, lowBits_zero, len_setT, sl_same, sl_ne, len_frame, sl_frame,↓op_len, lenOp_slc, lenOp_nils, ↓Post.some, ↓Post_bind, ↓Post_ret, ↓Post_draw, ↓PostL_nil, ↓PostL_cons, Post_fail, ofOpt_some, ofOpt_none, eA_b, eA_i, eA_s, eA_nn, eA_np, eA_pn, eA_lnn, eA_lnp, eA_lpn, eA_i2, eA_i3, blt_dec, Nat.add_assoc, keeps_refl, keeps_at, keeps_up, new_one, and_pow, bit_hi, lowBits_pow, ble_dec, fr_refl, fr_at, fr_up, fr_p, dum_ab, hlen]
          refine Round.ret (R := RgR 81 L n m h0 nx0) ⟨?_, by omega, kk4, ?_, .inr ⟨rfl, ?_⟩⟩
          · simp [len_setT, sl_same, sl_ne, hlen]
          · first | exact ww4 | exact ww4'
          · simp [len_setT, sl_same, sl_ne, hlen, et]
        | true =>
          rw [bv] at ok
          simp only [cond_true] at ok
          rw [ok, if_pos rfl] at et
          simp (maxSteps := 4000000) (maxDischargeDepth := 6) [↓step_none, ↓step_t, ↓step_f, ↓step_nt, ↓step_nf, ↓op_load, ↓op_store, ↓op_slice, ↓op_app, ↓op_islc, ↓P_skip, ↓P_exit, ↓P_ret, ↓P_seq, ↓P_cond, ↓P_blk, ↓P_reg, ↓P_draw, ↓P_nil, ↓P_cons, condP_t, condP_f, dum_ab, stepR, want_none, want_some, opRun, ev_t, ev_c, put_none, put_some, resAll, res_tmp, res_cell, oneOf, minI, maxI, min2A, max2A, mn2, mx2, mx3, rdBlk, wrBlk, newBlk, partA, abin, ibin, isShift, AV.cells, AV.one, lay, sub, fillA, lenA, toN, allApart, apartFrom, Nat.testBit, Mem.blk_set_same, Mem.blk_set_ne, Mem.set_set, bit_zero, bit_self, lowBits_or, lowBits_zero, len_setT, sl_same, sl_ne, len_frame, sl_frame,↓op_len, lenOp_slc, lenOp_nils, ↓Post.some, ↓Post_bind, ↓Post_ret, ↓Post_draw, ↓PostL_nil, ↓PostL_cons, Post_fail, ofOpt_some, ofOpt_none, eA_b, eA_i, eA_s, eA_nn, eA_np, eA_pn, eA_lnn, eA_lnp, eA_lpn, eA_i2, eA_i3, blt_dec, Nat.add_assoc, keeps_refl, keeps_at, keeps_up, new_one, and_pow, bit_hi, lowBits_pow, ble_dec, fr_refl, fr_at, fr_up, fr_p, dum_ab, hlen, g45, ci]
          refine Round.nor (m' := L.length - (j + 1)) (by omega) ⟨j + 1, rfl, by omega, ?_, ?_, ?_, ?_, ?_, ?_, ?_, hd.more cj s, et, by omega, kk4, ?_⟩
          any_goals first | exact ww4 | exact ww4'
          all_goals simp [len_setT, sl_same, sl_ne, hlen, g0, g1, g2, g43, g44]
  · simp (maxSteps := 4000000) (maxDischargeDepth := 6) [↓step_none, ↓step_t, ↓step_f, ↓step_nt, ↓step_nf, ↓op_load, ↓op_store, ↓op_slice, ↓op_app, ↓op_islc, ↓P_skip, ↓P_exit, ↓P_ret, ↓P_seq, ↓P_cond, ↓P_blk, ↓P_reg, ↓P_draw, ↓P_nil, ↓P_cons, condP_t, condP_f, dum_ab, stepR, want_none, want_some, opRun, ev_t, ev_c, put_none, put_some, resAll, res_tmp, res_cell, oneOf, minI, maxI, min2A, max2A, mn2, mx2, mx3, rdBlk, wrBlk, newBlk, partA, abin, ibin, isShift, AV.cells, AV.one, lay, sub, fillA, lenA, toN, allApart, apartFrom, Nat.testBit, Mem.blk_set_same, Mem.blk_set_ne, Mem.set_set, bit_zero, bit_self, lowBits_or, lowBits_zero, len_setT, sl_same, sl_ne, len_frame, sl_frame,↓op_len, lenOp_slc, lenOp_nils, ↓Post.some, ↓Post_bind, ↓Post_ret, ↓Post_draw, ↓PostL_nil, ↓PostL_cons, Post_fail, ofOpt_some, ofOpt_none, eA_b, eA_i, eA_s, eA_nn, eA_np, eA_pn, eA_lnn, eA_lnp, eA_lpn, eA_i2, eA_i3, blt_dec, Nat.add_assoc, keeps_refl, keeps_at, keeps_up, new_one, and_pow, bit_hi, lowBits_pow, ble_dec, fr_refl, fr_at, fr_up, fr_p, dum_ab, L13_0b, hlen, g0, g1, g43, g44, g45, cj]
    have : j = L.length := by omega
    rw [this, Nat.sub_self, errN] at et
    refine Round.exit (R := RgR 81 L n m h0 nx0) ⟨?_, hn, hk, hw, .inl ⟨rfl, et.symm⟩⟩
    simp [len_setT, sl_same, sl_ne, hlen]

theorem headBad_at {L : List C} (h : 2 ≤ L.length) : headBad L = ((L[0]'(by omega)).sup != -1 || (L[1]'(by omega)).sup != -1 || (L[0]'(by omega)).fld != 4 || (L[1]'(by omega)).fld != 0) := by
  unfold headBad
  rw [List.getElem?_eq_getElem (show 0 < L.length by omega), List.getElem?_eq_getElem (show 1 < L.length by omega)]
set_option maxHeartbeats 16000000 in
theorem right_nw {v : AV} {L : List C} (n m : Int) {bb : Nat} {h : Mem} {nx : Nat} (g : CR v h nx L) (hbb : ∀ c ∈ L, c.B.length ≤ bb) : NwC T (2 * bb + 500) 13 [v, .int .i64 n, .int .i64 m] h nx fun r h' nx' => r = .int .i64 (rightV L n m) := by
  intro lg hlg
  have ls := g.lenOp
  rw [xF_fr T13]
  by_cases c1 : L.length < 2
  · have c1' : (L.length : Int) < 2 := by omega
    have : rightV L n m = 3 := by unfold rightV; rw [if_pos (.inl c1)]
    rw [this]
    simp (maxSteps := 4000000) (maxDischargeDepth := 6) [↓step_none, ↓step_t, ↓step_f, ↓step_nt, ↓step_nf, ↓op_load, ↓op_store, ↓op_slice, ↓op_app, ↓op_islc, ↓op_lens, lenS_str, ↓P_skip, ↓P_exit, ↓P_ret, ↓P_seq, ↓P_cond, ↓P_blk, ↓P_reg, ↓P_draw, ↓P_nil, ↓P_cons, condP_t, condP_f, dum_ab, stepR, want_none, want_some, opRun, ev_t, ev_c, put_none, put_some, resAll, res_tmp, res_cell, oneOf, minI, maxI, min2A, max2A, mn2, mx2, mx3, rdBlk, wrBlk, newBlk, partA, abin, ibin, isShift, AV.cells, AV.one, lay, sub, fillA, lenA, toN, allApart, apartFrom, Nat.testBit, Mem.blk_set_same, Mem.blk_set_ne, Mem.set_set, bit_zero, bit_self, lowBits_or, lowBits_zero, len_setT, sl_same, sl_ne, len_frame, sl_frame,↓op_len, lenOp_slc, lenOp_nils, ↓Post.some, ↓Post_bind, ↓Post_ret, ↓Post_draw, ↓PostL_nil, ↓PostL_cons, Post_fail, ofOpt_some, ofOpt_none, eA_b, eA_i, eA_s, eA_nn, eA_np, eA_pn, eA_lnn, eA_lnp, eA_lpn, eA_i2, eA_i3, blt_dec, Nat.add_assoc, keeps_refl, keeps_at, keeps_up, new_one, and_pow, bit_hi, lowBits_pow, ble_dec, fr_refl, fr_at, fr_up, fr_p, dum_ab, reps, F13, ls, c1']
  by_cases c2 : 12 < L.length
  · have c1' : ¬ (L.length : Int) < 2 := by omega
    have c2' : 12 < (L.length : Int) := by omega
    have : rightV L n m = 3 := by unfold rightV; rw [if_pos (.inr c2)]
    rw [this]
    simp (maxSteps := 4000000) (maxDischargeDepth := 6) [↓step_none, ↓step_t, ↓step_f, ↓step_nt, ↓step_nf, ↓op_load, ↓op_store, ↓op_slice, ↓op_app, ↓op_islc, ↓op_lens, lenS_str, ↓P_skip, ↓P_exit, ↓P_ret, ↓P_seq, ↓P_cond, ↓P_blk, ↓P_reg, ↓P_draw, ↓P_nil, ↓P_cons, condP_t, condP_f, dum_ab, stepR, want_none, want_some, opRun, ev_t, ev_c, put_none, put_some, resAll, res_tmp, res_cell, oneOf, minI, maxI, min2A, max2A, mn2, mx2, mx3, rdBlk, wrBlk, newBlk, partA, abin, ibin, isShift, AV.cells, AV.one, lay, sub, fillA, lenA, toN, allApart, apartFrom, Nat.testBit, Mem.blk_set_same, Mem.blk_set_ne, Mem.set_set, bit_zero, bit_self, lowBits_or, lowBits_zero, len_setT, sl_same, sl_ne, len_frame, sl_frame,↓op_len, lenOp_slc, lenOp_nils, ↓Post.some, ↓Post_bind, ↓Post_ret, ↓Post_draw, ↓PostL_nil, ↓PostL_cons, Post_fail, ofOpt_some, ofOpt_none, eA_b, eA_i, eA_s, eA_nn, eA_np, eA_pn, eA_lnn, eA_lnp, eA_lpn, eA_i2, eA_i3, blt_dec, Nat.add_assoc, keeps_refl, keeps_at, keeps_up, new_one, and_pow, bit_hi, lowBits_pow, ble_dec, fr_refl, fr_at, fr_up, fr_p, dum_ab, reps, F13, ls, c1', c2']
  have c1' : ¬ (L.length : Int) < 2 := by omega
  have c2' : ¬ 12 < (L.length : Int) := by omega
  have hR : rightV L n m = if headBad L = true then 14 else errN L n m L.length := by unfold rightV; rw [if_neg (by omega)]
  obtain ⟨b0, o0, el0⟩ := g.el (show 0 < L.length by omega)
  obtain ⟨b1, o1, el1⟩ := g.el (show 1 < L.length by omega)
  have p0 := el0.pl
  have p1 := el1.pl
  have e0 := el0.all
  have e1 := el1.all
  have lt0 := el0.lt
  have lt1 := el1.lt
  have hh := headBad_at (L := L) (by omega)
  have one0 : (AV.agg (L[0]'(by omega)).cs).cells.all AV.one = true := g.one (List.getElem_mem (by omega))
  have one1 : (AV.agg (L[1]'(by omega)).cs).cells.all AV.one = true := g.one (List.getElem_mem (by omega))
  obtain ⟨x, hx⟩ : ∃ x, x = L[0]'(by omega) := ⟨_, rfl⟩
  obtain ⟨y, hy⟩ : ∃ y, y = L[1]'(by omega) := ⟨_, rfl⟩
  rw [← hx] at e0 one0
  rw [← hy] at e1 one1
  rw [← hx, ← hy] at hh
  simp only [C.cs] at e0 e1 one0 one1
  simp only [show ((0 : Nat) : Int) = 0 from rfl, show ((1 : Nat) : Int) = 1 from rfl] at p0 p1
  have B0 : ((h.set nx (some ⟨38, 4, true, false, cz⟩)).set (nx + 1) (some ⟨38, 4, true, false, cz⟩)).blk nx = some ⟨38, 4, true, false, cz⟩ := by rw [Mem.blk_set_ne _ _ _ _ (by omega), Mem.blk_set_same]
  have s0 := fun lg => st_at B0 (show nx < nx + 2 by omega) (n := 4) (o := 0) (.agg [.str x.name, .int .i64 x.sup, .int .i64 x.fld, x.bv]) rfl one0 (by decide) lg
  simp only [AV.cells, lay_all cz [.str x.name, .int .i64 x.sup, .int .i64 x.fld, x.bv] rfl] at s0
  obtain ⟨H1, hH1⟩ : ∃ H1, H1 = ((h.set nx (some ⟨38, 4, true, false, cz⟩)).set (nx + 1) (some ⟨38, 4, true, false, cz⟩)).set nx (some ⟨38, 4, true, false, [.str x.name, .int .i64 x.sup, .int .i64 x.fld, x.bv]⟩) := ⟨_, rfl⟩
  rw [← hH1] at s0
  have B1 : H1.blk (nx + 1) = some ⟨38, 4, true, false, cz⟩ := by rw [hH1, Mem.blk_set_ne _ _ _ _ (by omega), Mem.blk_set_same]
  have s1 := fun lg => st_at B1 (show nx + 1 < nx + 2 by omega) (n := 4) (o := 0) (.agg [.str y.name, .int .i64 y.sup, .int .i64 y.fld, y.bv]) rfl one1 (by decide) lg
  simp only [AV.cells, lay_all cz [.str y.name, .int .i64 y.sup, .int .i64 y.fld, y.bv] rfl] at s1
  obtain ⟨H2, hH2⟩ : ∃ H2, H2 = H1.set (nx + 1) (some ⟨38, 4, true, false, [.str y.name, .int .i64 y.sup, .int .i64 y.fld, y.bv]⟩) := ⟨_, rfl⟩
  rw [← hH2] at s1
  have D0 : H2.blk nx = some ⟨38, 4, true, false, [.str x.name, .int .i64 x.sup, .int .i64 x.fld, x.bv]⟩ := by rw [hH2, Mem.blk_set_ne _ _ _ _ (by omega), hH1, Mem.blk_set_same]
  have D1 : H2.blk (nx + 1) = some ⟨38, 4, true, false, [.str y.name, .int .i64 y.sup, .int .i64 y.fld, y.bv]⟩ := by rw [hH2, Mem.blk_set_same]
  have kk : ∀ q, q < nx → H2.blk q = h.blk q := fun q hq => by rw [hH2, Mem.blk_set_ne _ _ _ _ (by omega), hH1, Mem.blk_set_ne _ _ _ _ (by omega), Mem.blk_set_ne _ _ _ _ (by omega), Mem.blk_set_ne _ _ _ _ (by omega)]
  have x1 := fun lg => ld_at D0 (show nx < nx + 2 by omega) (o := 1) (v := .int .i64 x.sup) rfl lg
  have x2 := fun lg => ld_at D0 (show nx < nx + 2 by omega) (o := 2) (v := .int .i64 x.fld) rfl lg
  have y1 := fun lg => ld_at D1 (show nx + 1 < nx + 2 by omega) (o := 1) (v := .int .i64 y.sup) rfl lg
  have y2 := fun lg => ld_at D1 (show nx + 1 < nx + 2 by omega) (o := 2) (v := .int .i64 y.fld) rfl lg
  simp only [cz] at s0 s1
  have bit0 : bit lg nx = 0 := bit_up hlg
  have bit1 : bit lg (nx + 1) = 0 := bit_up (by omega)
  have bad : headBad L = true → rightV L n m = 14 := fun e => by rw [hR, if_pos e]
  have a00 : 2 ^ b0 &&& 2 ^ nx = 0 := and_pow (by omega)
  have a01 : 2 ^ b0 &&& 2 ^ (nx + 1) = 0 := and_pow (by omega)
  have a10 : 2 ^ b1 &&& 2 ^ nx = 0 := and_pow (by omega)
  have a11 : 2 ^ b1 &&& 2 ^ (nx + 1) = 0 := and_pow (by omega)
  by_cases d1 : x.sup = -1
  · rw [d1] at x1
    by_cases d2 : y.sup = -1
    · rw [d2] at y1
      by_cases d3 : x.fld = 4
      · rw [d3] at x2
        by_cases d4 : y.fld = 0
        · have hg : rightV L n m = errN L n m L.length := by rw [hR, if_neg (by rw [hh, d1, d2, d3, d4]; decide)]
          rw [d4] at y2
          rw [hg]
          simp (maxSteps := 4000000) (maxDischargeDepth := 6) [↓step_none, ↓step_t, ↓step_f, ↓step_nt, ↓step_nf, ↓op_load, ↓op_store, ↓op_slice, ↓op_app, ↓op_islc, ↓op_lens, lenS_str, ↓P_skip, ↓P_exit, ↓P_ret, ↓P_seq, ↓P_cond, ↓P_blk, ↓P_reg, ↓P_draw, ↓P_nil, ↓P_cons, condP_t, condP_f, dum_ab, stepR, want_none, want_some, opRun, ev_t, ev_c, put_none, put_some, resAll, res_tmp, res_cell, oneOf, minI, maxI, min2A, max2A, mn2, mx2, mx3, rdBlk, wrBlk, newBlk, partA, abin, ibin, isShift, AV.cells, AV.one, lay, sub, fillA, lenA, toN, allApart, apartFrom, Nat.testBit, Mem.blk_set_same, Mem.blk_set_ne, Mem.set_set, bit_zero, bit_self, lowBits_or, lowBits_zero, len_setT, sl_same, sl_ne, len_frame, sl_frame,↓op_len, lenOp_slc, lenOp_nils, ↓Post.some, ↓Post_bind, ↓Post_ret, ↓Post_draw, ↓PostL_nil, ↓PostL_cons, Post_fail, ofOpt_some, ofOpt_none, eA_b, eA_i, eA_s, eA_nn, eA_np, eA_pn, eA_lnn, eA_lnp, eA_lpn, eA_i2, eA_i3, blt_dec, Nat.add_assoc, keeps_refl, keeps_at, keeps_up, new_one, and_pow, bit_hi, lowBits_pow, ble_dec, fr_refl, fr_at, fr_up, fr_p, dum_ab, reps, F13, ls, c1', c2', p0, p1, e0, e1, lt0, lt1, s0, s1, x1, x2, y1, y2, bit0, bit1, L13_0, a00, a01, a10, a11]
          refine Post.loop (rg_round n m (g.keeps (show nx ≤ nx + 2 by omega) kk) (by omega) hbb lg (by omega)) (L.length - 0) ⟨0, rfl, by omega, ?_, ?_, ?_, ?_, ?_, ?_, ?_, fun j _ hj => absurd hj (Nat.not_lt_zero _), rfl, Nat.le_refl _, fun _ _ => rfl, fun q _ => Nat.zero_and _⟩ ?_ ?_
          any_goals simp (maxDischargeDepth := 6) [len_setT, sl_same, sl_ne, sl_frame, len_frame]
          · omega
          rintro e ts' h' nx' tc wr ⟨hlen, hn, hk, hw, ⟨rfl, hx⟩ | ⟨rfl, g6⟩⟩
          · simp (maxSteps := 4000000) [↓step_none, ↓step_t, ↓step_f, ↓step_nt, ↓step_nf, ↓op_load, ↓op_store, ↓op_slice, ↓op_app, ↓P_skip, ↓P_exit, ↓P_ret, ↓P_seq, ↓P_cond, ↓P_blk, ↓P_reg, ↓P_draw, ↓P_nil, ↓P_cons, condP_t, condP_f, dum_ab, stepR, want_none, want_some, opRun, ev_t, ev_c, put_none, put_some, resAll, res_tmp, res_cell, oneOf, minI, maxI, min2A, max2A, mn2, mx2, mx3, rdBlk, wrBlk, newBlk, partA, abin, ibin, isShift, AV.cells, AV.one, lay, sub, fillA, lenA, toN, allApart, apartFrom, Nat.testBit, Mem.blk_set_same, Mem.blk_set_ne, Mem.set_set, bit_zero, bit_self, lowBits_or, lowBits_zero, len_setT, sl_same, sl_ne, len_frame, sl_frame,↓op_len, lenOp_slc, lenOp_nils, ↓Post.some, ↓Post_bind, ↓Post_ret, ↓Post_draw, ↓PostL_nil, ↓PostL_cons, Post_fail, ofOpt_some, ofOpt_none, eA_b, eA_i, eA_s, eA_nn, eA_np, eA_pn, eA_lnn, eA_lnp, eA_lpn, eA_i2, eA_i3, blt_dec, Nat.add_assoc, keeps_refl, keeps_at, keeps_up, new_one, and_pow, bit_hi, lowBits_pow, ble_dec, fr_refl, fr_at, fr_up, fr_p, dum_ab, hlen, hx]
            exact ⟨by omega, fun q hq => (hk q (by omega)).trans (kk q hq), fun q hq => by rw [bit0, bit1]; simpa using hw q (by omega)⟩
          · simp (maxSteps := 4000000) [↓step_none, ↓step_t, ↓step_f, ↓step_nt, ↓step_nf, ↓op_load, ↓op_store, ↓op_slice, ↓op_app, ↓P_skip, ↓P_exit, ↓P_ret, ↓P_seq, ↓P_cond, ↓P_blk, ↓P_reg, ↓P_draw, ↓P_nil, ↓P_cons, condP_t, condP_f, dum_ab, stepR, want_none, want_some, opRun, ev_t, ev_c, put_none, put_some, resAll, res_tmp, res_cell, oneOf, minI, maxI, min2A, max2A, mn2, mx2, mx3, rdBlk, wrBlk, newBlk, partA, abin, ibin, isShift, AV.cells, AV.one, lay, sub, fillA, lenA, toN, allApart, apartFrom, Nat.testBit, Mem.blk_set_same, Mem.blk_set_ne, Mem.set_set, bit_zero, bit_self, lowBits_or, lowBits_zero, len_setT, sl_same, sl_ne, len_frame, sl_frame,↓op_len, lenOp_slc, lenOp_nils, ↓Post.some, ↓Post_bind, ↓Post_ret, ↓Post_draw, ↓PostL_nil, ↓PostL_cons, Post_fail, ofOpt_some, ofOpt_none, eA_b, eA_i, eA_s, eA_nn, eA_np, eA_pn, eA_lnn, eA_lnp, eA_lpn, eA_i2, eA_i3, blt_dec, Nat.add_assoc, keeps_refl, keeps_at, keeps_up, new_one, and_pow, bit_hi, lowBits_pow, ble_dec, fr_refl, fr_at, fr_up, fr_p, dum_ab, hlen, g6]
            exact ⟨by omega, fun q hq => (hk q (by omega)).trans (kk q hq), fun q hq => by rw [bit0, bit1]; simpa using hw q (by omega)⟩
        · have d4' : (y.fld != 0) = true := by simp [d4]
          rw [bad (by rw [hh, d4']; simp)]
          simp (maxSteps := 4000000) (maxDischargeDepth := 6) [↓step_none, ↓step_t, ↓step_f, ↓step_nt, ↓step_nf, ↓op_load, ↓op_store, ↓op_slice, ↓op_app, ↓op_islc, ↓op_lens, lenS_str, ↓P_skip, ↓P_exit, ↓P_ret, ↓P_seq, ↓P_cond, ↓P_blk, ↓P_reg, ↓P_draw, ↓P_nil, ↓P_cons, condP_t, condP_f, dum_ab, stepR, want_none, want_some, opRun, ev_t, ev_c, put_none, put_some, resAll, res_tmp, res_cell, oneOf, minI, maxI, min2A, max2A, mn2, mx2, mx3, rdBlk, wrBlk, newBlk, partA, abin, ibin, isShift, AV.cells, AV.one, lay, sub, fillA, lenA, toN, allApart, apartFrom, Nat.testBit, Mem.blk_set_same, Mem.blk_set_ne, Mem.set_set, bit_zero, bit_self, lowBits_or, lowBits_zero, len_setT, sl_same, sl_ne, len_frame, sl_frame,↓op_len, lenOp_slc, lenOp_nils, ↓Post.some, ↓Post_bind, ↓Post_ret, ↓Post_draw, ↓PostL_nil, ↓PostL_cons, Post_fail, ofOpt_some, ofOpt_none, eA_b, eA_i, eA_s, eA_nn, eA_np, eA_pn, eA_lnn, eA_lnp, eA_lpn, eA_i2, eA_i3, blt_dec, Nat.add_assoc, keeps_refl, keeps_at, keeps_up, new_one, and_pow, bit_hi, lowBits_pow, ble_dec, fr_refl, fr_at, fr_up, fr_p, dum_ab, reps, F13, ls, c1', c2', p0, p1, e0, e1, lt0, lt1, s0, s1, x1, x2, y1, y2, bit0, bit1, L13_0, a00, a01, a10, a11, d4']
          exact kk
      · have d3' : (x.fld != 4) = true := by simp [d3]
        rw [bad (by rw [hh, d3']; simp)]
        simp (maxSteps := 4000000) (maxDischargeDepth := 6) [↓step_none, ↓step_t, ↓step_f, ↓step_nt, ↓step_nf, ↓op_load, ↓op_store, ↓op_slice, ↓op_app, ↓op_islc, ↓op_lens, lenS_str, ↓P_skip, ↓P_exit, ↓P_ret, ↓P_seq, ↓P_cond, ↓P_blk, ↓P_reg, ↓P_draw, ↓P_nil, ↓P_cons, condP_t, condP_f, dum_ab, stepR, want_none, want_some, opRun, ev_t, ev_c, put_none, put_some, resAll, res_tmp, res_cell, oneOf, minI, maxI, min2A, max2A, mn2, mx2, mx3, rdBlk, wrBlk, newBlk, partA, abin, ibin, isShift, AV.cells, AV.one, lay, sub, fillA, lenA, toN, allApart, apartFrom, Nat.testBit, Mem.blk_set_same, Mem.blk_set_ne, Mem.set_set, bit_zero, bit_self, lowBits_or, lowBits_zero, len_setT, sl_same, sl_ne, len_frame, sl_frame,↓op_len, lenOp_slc, lenOp_nils, ↓Post.some, ↓Post_bind, ↓Post_ret, ↓Post_draw, ↓PostL_nil, ↓PostL_cons, Post_fail, ofOpt_some, ofOpt_none, eA_b, eA_i, eA_s, eA_nn, eA_np, eA_pn, eA_lnn, eA_lnp, eA_lpn, eA_i2, eA_i3, blt_dec, Nat.add_assoc, keeps_refl, keeps_at, keeps_up, new_one, and_pow, bit_hi, lowBits_pow, ble_dec, fr_refl, fr_at, fr_up, fr_p, dum_ab, reps, F13, ls, c1', c2', p0, p1, e0, e1, lt0, lt1, s0, s1, x1, x2, y1, y2, bit0, bit1, L13_0, a00, a01, a10, a11, d3']
        exact kk
    · have d2' : (y.sup != -1) = true := by simp [d2]
      rw [bad (by rw [hh, d2']; simp)]
      simp (maxSteps := 4000000) (maxDischargeDepth := 6) [↓step_none, ↓step_t, ↓step_f, ↓step_nt, ↓step_nf, ↓op_load, ↓op_store, ↓op_slice, ↓op_app, ↓op_islc, ↓op_lens, lenS_str, ↓P_skip, ↓P_exit, ↓P_ret, ↓P_seq, ↓P_cond, ↓P_blk, ↓P_reg, ↓P_draw, ↓P_nil, ↓P_cons, condP_t, condP_f, dum_ab, stepR, want_none, want_some, opRun, ev_t, ev_c, put_none, put_some, resAll, res_tmp, res_cell, oneOf, minI, maxI, min2A, max2A, mn2, mx2, mx3, rdBlk, wrBlk, newBlk, partA, abin, ibin, isShift, AV.cells, AV.one, lay, sub, fillA, lenA, toN, allApart, apartFrom, Nat.testBit, Mem.blk_set_same, Mem.blk_set_ne, Mem.set_set, bit_zero, bit_self, lowBits_or, lowBits_zero, len_setT, sl_same, sl_ne, len_frame, sl_frame,↓op_len, lenOp_slc, lenOp_nils, ↓Post.some, ↓Post_bind, ↓Post_ret, ↓Post_draw, ↓PostL_nil, ↓PostL_cons, Post_fail, ofOpt_some, ofOpt_none, eA_b, eA_i, eA_s, eA_nn, eA_np, eA_pn, eA_lnn, eA_lnp, eA_lpn, eA_i2, eA_i3, blt_dec, Nat.add_assoc, keeps_refl, keeps_at, keeps_up, new_one, and_pow, bit_hi, lowBits_pow, ble_dec, fr_refl, fr_at, fr_up, fr_p, dum_ab, reps, F13, ls, c1', c2', p0, p1, e0, e1, lt0, lt1, s0, s1, x1, x2, y1, y2, bit0, bit1, L13_0, a00, a01, a10, a11, d2']
      exact kk
  · have d1' : (x.sup != -1) = true := by simp [d1]
    rw [bad (by rw [hh, d1']; simp)]
    simp (maxSteps := 4000000) (maxDischargeDepth := 6) [↓step_none, ↓step_t, ↓step_f, ↓step_nt, ↓step_nf, ↓op_load, ↓op_store, ↓op_slice, ↓op_app, ↓op_islc, ↓op_lens, lenS_str, ↓P_skip, ↓P_exit, ↓P_ret, ↓P_seq, ↓P_cond, ↓P_blk, ↓P_reg, ↓P_draw, ↓P_nil, ↓P_cons, condP_t, condP_f, dum_ab, stepR, want_none, want_some, opRun, ev_t, ev_c, put_none, put_some, resAll, res_tmp, res_cell, oneOf, minI, maxI, min2A, max2A, mn2, mx2, mx3, rdBlk, wrBlk, newBlk, partA, abin, ibin, isShift, AV.cells, AV.one, lay, sub, fillA, lenA, toN, allApart, apartFrom, Nat.testBit, Mem.blk_set_same, Mem.blk_set_ne, Mem.set_set, bit_zero, bit_self, lowBits_or, lowBits_zero, len_setT, sl_same, sl_ne, len_frame, sl_frame,↓op_len, lenOp_slc, lenOp_nils, ↓Post.some, ↓Post_bind, ↓Post_ret, ↓Post_draw, ↓PostL_nil, ↓PostL_cons, Post_fail, ofOpt_some, ofOpt_none, eA_b, eA_i, eA_s, eA_nn, eA_np, eA_pn, eA_lnn, eA_lnp, eA_lpn, eA_i2, eA_i3, blt_dec, Nat.add_assoc, keeps_refl, keeps_at, keeps_up, new_one, and_pow, bit_hi, lowBits_pow, ble_dec, fr_refl, fr_at, fr_up, fr_p, dum_ab, reps, F13, ls, c1', c2', p0, p1, e0, e1, lt0, lt1, s0, s1, x1, x2, y1, y2, bit0, bit1, L13_0, a00, a01, a10, a11, d1']
    exact kk
end Go.Proofs.YtahjkhmoojobgaaT
