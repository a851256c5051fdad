/- Cache: what each call does to its block. -/
import Derived.Test.YthiiegkjbglflaaFn
namespace Go.Proofs.YthiiegkjbglflaaT
open Go Go.Proofs.YthiiegkjbglflaaE Go.Proofs.YthiiegkjbglflaaB
set_option linter.unusedSimpArgs false
set_option linter.unusedVariables false
attribute [local congr] Post_cg PostL_cg condP_cg

def putL (L : List Ln) (c s m : Int) : List Ln := L.set (li c s) ⟨true, c, s, m⟩
def getL (L : List Ln) (c s : Int) : Ln := L.getD (li c s) ⟨false, 0, 0, 0⟩
theorem putL_len {L : List Ln} (hL : L.length = 32) (c s m : Int) : (putL L c s m).length = 32 := by unfold putL; rw [List.length_set, hL]
theorem getL_at {L : List Ln} (hL : L.length = 32) (c s : Int) : ∃ hi : li c s < L.length, L[li c s]'hi = getL L c s := by
  have hi : li c s < L.length := by rw [hL]; exact li_lt c s
  exact ⟨hi, by unfold getL; rw [List.getD_eq_getElem?_getD, List.getElem?_eq_getElem hi]; rfl⟩
theorem blk_lo {h : Mem} {b p : Nat} (K : Option Blk) (e : b ≠ p) : (h.set p K).blk b = h.blk b := Mem.blk_set_ne _ _ _ _ e

set_option maxHeartbeats 2000000 in
theorem put_acts {L : List Ln} (hL : L.length = 32) {a b : Int} {h : Mem} {nx p : Nat} (hp : h.blk p = some (cb L a b)) (hpn : p < nx) (c s m : Int) :
    Acts T 40 11 [.ptr p 0, .agg [.int .i64 c, .int .i64 s], .int .i64 m] h nx p (.tup []) (cb (putL L c s m) a b) true := by
  intro lg hl
  obtain ⟨i0, i1⟩ := ix_in c s
  have e : (ix c s).toNat = li c s := rfl
  obtain ⟨hi, hg⟩ := getL_at hL c s
  have hn : ¬ p = nx := by omega
  have hk : ∀ k, ¬ p = nx + k := fun k => by omega
  have hlt : ∀ k, p < nx + k := fun k => by omega
  have hn' : ¬ nx = p := by omega
  have hk' : ∀ k, ¬ nx + k = p := fun k => by omega
  have b0 := bit_up hl
  have bk := fun k => bit_upk k hl
  have ck := c_put a b hi ⟨true, c, s, m⟩
  have len := clen hL a b
  have bnd : li c s * 4 + 4 ≤ 130 := by have := li_lt c s; omega
  have ll : (lay (ccells L a b) (li c s * 4) [.bool true, .int .i64 c, .int .i64 s, .int .i64 m]).length = 130 := by rw [lay_len _ _ _ (by rw [len]; exact bnd), len]
  simp [lay] at ck ll
  rw [xF_fr T11]
  have cl := clen (putL_len hL c s m) a b
  unfold putL at cl
  simp (maxSteps := 4000000) [↓P_skip, ↓P_exit, ↓P_ret, ↓P_seq, ↓P_cond, ↓P_blk, ↓P_reg, ↓P_draw, ↓P_nil, ↓P_cons, condP_t, condP_f, dum_ab, stepR, want_none, want_some, opRun, ev_t, ev_c, put_none, put_some, resAll, res_tmp, res_cell, oneOf, minI, maxI, min2A, max2A, mn2, mx2, mx3, rdBlk, wrBlk, newBlk, partA, abin, ibin, isShift, AV.cells, AV.one, lay, sub, fillA, lenA, toN, allApart, apartFrom, Nat.testBit, Mem.blk_set_same, Mem.blk_set_ne, Mem.set_set, bit_zero, bit_self, lowBits_or, lowBits_zero, len_setT, sl_same, sl_ne, len_frame, sl_frame,↓op_len, lenOp_slc, lenOp_nils, ↓Post.some, ↓Post_bind, ↓Post_ret, ↓Post_draw, ↓PostL_nil, ↓PostL_cons, Post_fail, ofOpt_some, ofOpt_none, eA_b, eA_i, eA_s, eA_nn, eA_np, eA_pn, eA_lnn, eA_lnp, eA_lpn, eA_i2, eA_i3, blt_dec, Nat.add_assoc, keeps_refl, keeps_at, keeps_up, new_one, and_pow, bit_hi, lowBits_pow, ble_dec, fr_refl, fr_at, fr_up, fr_p, dum_ab, F11, at_eq, i0, i1, e, hp, hn, hk, hn', hk', hlt, b0, bk, cb, len, bnd, ll, ck, putL, cl]

/-- What is counted. -/
def up (x : Int) : Int := IntKind.i64.wrap (x + 1)
def hitL (L : List Ln) (c s : Int) : Bool := (getL L c s).u && ((getL L c s).c == c && (getL L c s).s == s)
def resL (L : List Ln) (c s : Int) : AV := cond (hitL L c s) (.tup [.int .i64 (getL L c s).m, .bool true]) (.tup [.int .i64 (-1), .bool false])
def afterH (L : List Ln) (c s a : Int) : Int := cond (hitL L c s) (up a) a
def afterM (L : List Ln) (c s b : Int) : Int := cond (hitL L c s) b (up b)

set_option maxHeartbeats 4000000 in
theorem get_acts {L : List Ln} (hL : L.length = 32) {a b : Int} {h : Mem} {nx p : Nat} (hp : h.blk p = some (cb L a b)) (hpn : p < nx) (c s : Int) :
    Acts T 40 12 [.ptr p 0, .agg [.int .i64 c, .int .i64 s]] h nx p (resL L c s) (cb L (afterH L c s a) (afterM L c s b)) true := by
  intro lg hl
  obtain ⟨i0, i1⟩ := ix_in c s
  have e : (ix c s).toNat = li c s := rfl
  obtain ⟨hi, hg⟩ := getL_at hL c s
  have hn : ¬ p = nx := by omega
  have hk : ∀ k, ¬ p = nx + k := fun k => by omega
  have hlt : ∀ k, p < nx + k := fun k => by omega
  have hn' : ¬ nx = p := by omega
  have hk' : ∀ k, ¬ nx + k = p := fun k => by omega
  have b0 := bit_up hl
  have bk := fun k => bit_upk k hl
  have cl := c_line a b hi hL
  rw [hg] at cl
  simp only [resL, afterH, afterM, hitL]
  clear hg
  generalize getL L c s = q at cl
  obtain ⟨u, c', s', m'⟩ := q
  have len := clen hL
  have bnd : li c s * 4 + 4 ≤ 130 := by have := li_lt c s; omega
  simp [sub, ble_dec, len, bnd, Ln.cells] at cl
  have h1 := get_of (c_hits a b hL)
  have h2 := get_of (c_miss a b hL)
  have h3 := c_hit a b (up a) hL
  have h4 := c_mis a b (up b) hL
  simp [lay, up] at h3 h4
  rw [xF_fr T12]
  cases u with
  | false =>
    simp (maxSteps := 4000000) [↓P_skip, ↓P_exit, ↓P_ret, ↓P_seq, ↓P_cond, ↓P_blk, ↓P_reg, ↓P_draw, ↓P_nil, ↓P_cons, condP_t, condP_f, dum_ab, stepR, want_none, want_some, opRun, ev_t, ev_c, put_none, put_some, resAll, res_tmp, res_cell, oneOf, minI, maxI, min2A, max2A, mn2, mx2, mx3, rdBlk, wrBlk, newBlk, partA, abin, ibin, isShift, AV.cells, AV.one, lay, sub, fillA, lenA, toN, allApart, apartFrom, Nat.testBit, Mem.blk_set_same, Mem.blk_set_ne, Mem.set_set, bit_zero, bit_self, lowBits_or, lowBits_zero, len_setT, sl_same, sl_ne, len_frame, sl_frame,↓op_len, lenOp_slc, lenOp_nils, ↓Post.some, ↓Post_bind, ↓Post_ret, ↓Post_draw, ↓PostL_nil, ↓PostL_cons, Post_fail, ofOpt_some, ofOpt_none, eA_b, eA_i, eA_s, eA_nn, eA_np, eA_pn, eA_lnn, eA_lnp, eA_lpn, eA_i2, eA_i3, blt_dec, Nat.add_assoc, keeps_refl, keeps_at, keeps_up, new_one, and_pow, bit_hi, lowBits_pow, ble_dec, fr_refl, fr_at, fr_up, fr_p, dum_ab, F12, at_eq, i0, i1, e, hp, hn, hk, hn', hk', hlt, b0, bk, cb, len, bnd, cl, h1, h2, h3, h4, up]
  | true =>
    cases e1 : (c' == c && s' == s) with
    | false =>
      simp (maxSteps := 4000000) [↓P_skip, ↓P_exit, ↓P_ret, ↓P_seq, ↓P_cond, ↓P_blk, ↓P_reg, ↓P_draw, ↓P_nil, ↓P_cons, condP_t, condP_f, dum_ab, stepR, want_none, want_some, opRun, ev_t, ev_c, put_none, put_some, resAll, res_tmp, res_cell, oneOf, minI, maxI, min2A, max2A, mn2, mx2, mx3, rdBlk, wrBlk, newBlk, partA, abin, ibin, isShift, AV.cells, AV.one, lay, sub, fillA, lenA, toN, allApart, apartFrom, Nat.testBit, Mem.blk_set_same, Mem.blk_set_ne, Mem.set_set, bit_zero, bit_self, lowBits_or, lowBits_zero, len_setT, sl_same, sl_ne, len_frame, sl_frame,↓op_len, lenOp_slc, lenOp_nils, ↓Post.some, ↓Post_bind, ↓Post_ret, ↓Post_draw, ↓PostL_nil, ↓PostL_cons, Post_fail, ofOpt_some, ofOpt_none, eA_b, eA_i, eA_s, eA_nn, eA_np, eA_pn, eA_lnn, eA_lnp, eA_lpn, eA_i2, eA_i3, blt_dec, Nat.add_assoc, keeps_refl, keeps_at, keeps_up, new_one, and_pow, bit_hi, lowBits_pow, ble_dec, fr_refl, fr_at, fr_up, fr_p, dum_ab, F12, at_eq, i0, i1, e, hp, hn, hk, hn', hk', hlt, b0, bk, cb, len, bnd, cl, h1, h2, h3, h4, up, e1]
    | true =>
      simp (maxSteps := 4000000) [↓P_skip, ↓P_exit, ↓P_ret, ↓P_seq, ↓P_cond, ↓P_blk, ↓P_reg, ↓P_draw, ↓P_nil, ↓P_cons, condP_t, condP_f, dum_ab, stepR, want_none, want_some, opRun, ev_t, ev_c, put_none, put_some, resAll, res_tmp, res_cell, oneOf, minI, maxI, min2A, max2A, mn2, mx2, mx3, rdBlk, wrBlk, newBlk, partA, abin, ibin, isShift, AV.cells, AV.one, lay, sub, fillA, lenA, toN, allApart, apartFrom, Nat.testBit, Mem.blk_set_same, Mem.blk_set_ne, Mem.set_set, bit_zero, bit_self, lowBits_or, lowBits_zero, len_setT, sl_same, sl_ne, len_frame, sl_frame,↓op_len, lenOp_slc, lenOp_nils, ↓Post.some, ↓Post_bind, ↓Post_ret, ↓Post_draw, ↓PostL_nil, ↓PostL_cons, Post_fail, ofOpt_some, ofOpt_none, eA_b, eA_i, eA_s, eA_nn, eA_np, eA_pn, eA_lnn, eA_lnp, eA_lpn, eA_i2, eA_i3, blt_dec, Nat.add_assoc, keeps_refl, keeps_at, keeps_up, new_one, and_pow, bit_hi, lowBits_pow, ble_dec, fr_refl, fr_at, fr_up, fr_p, dum_ab, F12, at_eq, i0, i1, e, hp, hn, hk, hn', hk', hlt, b0, bk, cb, len, bnd, cl, h1, h2, h3, h4, up, e1]

end Go.Proofs.YthiiegkjbglflaaT
