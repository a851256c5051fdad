/- Cache, function by function: what the engine's run of each comes to. -/
import Derived.Test.YthiiegkjbglflaaT
import Derived.Test.YthiiegkjbglflaaB
import Derived.Test.YthiiegkjbglflaaE27
namespace Go.Proofs.YthiiegkjbglflaaT
open Go Go.Proofs.YthiiegkjbglflaaE Go.Proofs.YthiiegkjbglflaaB
set_option linter.unusedSimpArgs false
set_option linter.unusedVariables false
attribute [local congr] Post_congr

/-- A line. -/
structure Ln where
  u : Bool
  c : Int
  s : Int
  m : Int
def Ln.cells (l : Ln) : List AV := [.bool l.u, .int .i64 l.c, .int .i64 l.s, .int .i64 l.m]
def ccells (L : List Ln) (a b : Int) : List AV := (L.map Ln.cells).flatten ++ [.int .i64 a, .int .i64 b]
def cb (L : List Ln) (a b : Int) : Blk := ⟨49, 130, true, false, ccells L a b⟩
def rcells (L : List Ln) (a b : Int) : List AV := L.map (fun l => .bool l.u) ++ (L.map (fun l => .int .i64 l.c) ++ (L.map (fun l => .int .i64 l.s) ++ (L.map (fun l => .int .i64 l.m) ++ [.int .i64 a, .int .i64 b])))
def rb (ty : Nat) (L : List Ln) (a b : Int) : Blk := ⟨ty, 130, true, false, rcells L a b⟩
theorem all4 (L : List Ln) : ∀ x ∈ L.map Ln.cells, x.length = 4 := by
  intro x hx
  obtain ⟨l, _, rfl⟩ := List.mem_map.1 hx
  rfl
theorem clen {L : List Ln} (hL : L.length = 32) (a b : Int) : (ccells L a b).length = 130 := by
  unfold ccells
  rw [List.length_append, flat_len (all4 L), List.length_map, hL]; rfl
theorem rlen {L : List Ln} (hL : L.length = 32) (a b : Int) : (rcells L a b).length = 130 := by
  unfold rcells; simp [hL]
theorem c_line {L : List Ln} (a b : Int) {i : Nat} (hi : i < L.length) (hL : L.length = 32) : sub (ccells L a b) (i * 4) 4 = some L[i].cells := by
  unfold sub
  rw [clen hL, Nat.ble_eq_true_of_le (by omega)]
  unfold ccells
  rw [flat_at (all4 L) (i := i) (by simpa using hi)]
  simp
theorem c_put {L : List Ln} (a b : Int) {i : Nat} (hi : i < L.length) (l : Ln) : lay (ccells L a b) (i * 4) [.bool l.u, .int .i64 l.c, .int .i64 l.s, .int .i64 l.m] = ccells (L.set i l) a b := by
  have e : [.bool l.u, .int .i64 l.c, .int .i64 l.s, .int .i64 l.m] = l.cells := rfl
  unfold ccells
  rw [lay_app _ _ _ _ (by rw [flat_len (all4 L), List.length_map]; simp only [List.length_cons, List.length_nil]; omega), e, lay_flat (all4 L) (by simpa using hi) _ rfl, List.map_set]
theorem c_tail {L : List Ln} (a b : Int) (hL : L.length = 32) (k : Nat) : (ccells L a b)[128 + k]? = [AV.int .i64 a, .int .i64 b][k]? := by
  unfold ccells
  rw [List.getElem?_append_right (by rw [flat_len (all4 L), List.length_map, hL]; omega), flat_len (all4 L), List.length_map, hL, show 128 + k - 32 * 4 = k by omega]
theorem c_hits {L : List Ln} (a b : Int) (hL : L.length = 32) : (ccells L a b)[128]? = some (.int .i64 a) := c_tail a b hL 0
theorem c_miss {L : List Ln} (a b : Int) (hL : L.length = 32) : (ccells L a b)[129]? = some (.int .i64 b) := c_tail a b hL 1
theorem c_hit {L : List Ln} (a b x : Int) (hL : L.length = 32) : lay (ccells L a b) 128 [.int .i64 x] = ccells L x b := by
  unfold ccells
  have := lay_skip (L.map Ln.cells).flatten [.int .i64 a, .int .i64 b] 0 [.int .i64 x] 128 (by rw [flat_len (all4 L), List.length_map, hL])
  rw [Nat.add_zero] at this
  rw [this]
  rfl
theorem c_mis {L : List Ln} (a b x : Int) (hL : L.length = 32) : lay (ccells L a b) 129 [.int .i64 x] = ccells L a x := by
  unfold ccells
  rw [show (129 : Nat) = 128 + 1 from rfl, lay_skip _ _ 1 _ 128 (by rw [flat_len (all4 L), List.length_map, hL])]
  rfl
theorem c_all {L : List Ln} (a b : Int) (hL : L.length = 32) : sub (ccells L a b) 0 128 = some (L.map Ln.cells).flatten := by
  have h4 := flat_len (all4 L)
  rw [List.length_map, hL] at h4
  unfold sub
  rw [clen hL]
  unfold ccells
  rw [List.drop_zero, List.take_append_of_le_length (by omega), List.take_of_length_le (by omega)]
def empty : List Ln := List.replicate 32 ⟨false, 0, 0, 0⟩
theorem empty_len : empty.length = 32 := rfl
theorem c_new (L : List Ln) (a b : Int) (hL : L.length = 32) (z : List AV) (hz : z = (empty.map Ln.cells).flatten) : lay (ccells L a b) 0 z = ccells empty a b := by
  have h4 := flat_len (all4 L)
  rw [List.length_map, hL] at h4
  subst hz
  have hz : ((empty.map Ln.cells).flatten).length = 128 := rfl
  unfold lay ccells
  rw [hz, List.drop_append_of_le_length (by omega), List.drop_of_length_le (by omega)]
  simp

theorem r_at {L : List Ln} (a b : Int) {i : Nat} (hi : i < L.length) (hL : L.length = 32) : (rcells L a b)[i]? = some (.bool L[i].u) ∧ (rcells L a b)[32 + i]? = some (.int .i64 L[i].c) ∧ (rcells L a b)[64 + i]? = some (.int .i64 L[i].s) ∧ (rcells L a b)[96 + i]? = some (.int .i64 L[i].m) := by
  unfold rcells
  refine ⟨?_, ?_, ?_, ?_⟩
  · rw [List.getElem?_append_left (by simpa using hi)]; simp [hi]
  · rw [List.getElem?_append_right (by simp [hL]), List.getElem?_append_left (by simp [hL]; omega)]; simp only [List.length_map, hL, Nat.add_sub_cancel_left]; rw [List.getElem?_map, List.getElem?_eq_getElem hi]; rfl
  · rw [List.getElem?_append_right (by simp [hL]; omega), List.getElem?_append_right (by simp [hL]; omega), List.getElem?_append_left (by simp [hL]; omega)]
    simp only [List.length_map, hL]
    rw [show 64 + i - 32 - 32 = i by omega, List.getElem?_map, List.getElem?_eq_getElem hi]; rfl
  · rw [List.getElem?_append_right (by simp [hL]; omega), List.getElem?_append_right (by simp [hL]; omega), List.getElem?_append_right (by simp [hL]; omega), List.getElem?_append_left (by simp [hL]; omega)]
    simp only [List.length_map, hL]
    rw [show 96 + i - 32 - 32 - 32 = i by omega, List.getElem?_map, List.getElem?_eq_getElem hi]; rfl
theorem r_tail {L : List Ln} (a b : Int) (hL : L.length = 32) : (rcells L a b)[128]? = some (.int .i64 a) ∧ (rcells L a b)[129]? = some (.int .i64 b) := by
  unfold rcells
  constructor <;> (rw [List.getElem?_append_right (by simp [hL]), List.getElem?_append_right (by simp [hL]), List.getElem?_append_right (by simp [hL]), List.getElem?_append_right (by simp [hL])]; simp [hL])
theorem r_hit {L : List Ln} (a b x : Int) (hL : L.length = 32) : lay (rcells L a b) 128 [.int .i64 x] = rcells L x b := by
  unfold rcells
  rw [show 128 = 32 + (32 + (32 + (32 + 0))) from rfl, lay_skip _ _ _ _ 32 (by simp [hL]), lay_skip _ _ _ _ 32 (by simp [hL]), lay_skip _ _ _ _ 32 (by simp [hL]), lay_skip _ _ _ _ 32 (by simp [hL])]
  rfl
theorem r_mis {L : List Ln} (a b x : Int) (hL : L.length = 32) : lay (rcells L a b) 129 [.int .i64 x] = rcells L a x := by
  unfold rcells
  rw [show 129 = 32 + (32 + (32 + (32 + 1))) from rfl, lay_skip _ _ _ _ 32 (by simp [hL]), lay_skip _ _ _ _ 32 (by simp [hL]), lay_skip _ _ _ _ 32 (by simp [hL]), lay_skip _ _ _ _ 32 (by simp [hL])]
  rfl
theorem r_put {L : List Ln} (a b : Int) {i : Nat} (hi : i < L.length) (hL : L.length = 32) (l : Ln) : lay (lay (lay (lay (rcells L a b) i [.bool l.u]) (32 + i) [.int .i64 l.c]) (64 + i) [.int .i64 l.s]) (96 + i) [.int .i64 l.m] = rcells (L.set i l) a b := by
  unfold rcells
  have h1 : ∀ (f : Ln → AV) (x : AV), lay (L.map f) i [x] = (L.map f).set i x := fun f x => lay_one _ _ _ (by simpa using hi)
  have h2 : ∀ (f : Ln → AV) (x : AV) (r : List AV), lay (L.map f ++ r) i [x] = (L.map f).set i x ++ r := fun f x r => by rw [lay_app _ _ i _ (by simp; omega), h1]
  have h3 : ∀ (f : Ln → AV) (y : AV) (x : List AV) (r : List AV) (o : Nat), lay ((L.map f).set i y ++ r) (32 + o) x = (L.map f).set i y ++ lay r o x := fun f y x r o => lay_skip _ _ _ _ 32 (by simp [hL])
  rw [h2, h3, h2, show 64 + i = 32 + (32 + i) by omega, h3, h3, h2, show 96 + i = 32 + (32 + (32 + i)) by omega, h3, h3, h3, h2]
  simp only [List.map_set]
theorem r_all {L : List Ln} (a b : Int) (hL : L.length = 32) : sub (rcells L a b) 0 32 = some (L.map fun l => .bool l.u) := by
  unfold sub
  rw [rlen hL]
  unfold rcells
  rw [List.drop_zero, List.take_append_of_le_length (by simp [hL]), List.take_of_length_le (by simp [hL])]

/-- A key's line. -/
def ix (c s : Int) : Int := ((c.tmod 32 * 31 + s.tmod 32).tmod 32 + 32).tmod 32
theorem tm (x : Int) : -31 ≤ x.tmod 32 ∧ x.tmod 32 ≤ 31 := by
  have h1 := Int.tmod_lt_of_pos x (show (0:Int) < 32 by decide)
  have h2 := Int.tmod_lt_of_pos (-x) (show (0:Int) < 32 by decide)
  rw [Int.neg_tmod] at h2
  omega
theorem ix_in (c s : Int) : 0 ≤ ix c s ∧ ix c s < 32 := by
  unfold ix
  have h1 := tm (c.tmod 32 * 31 + s.tmod 32)
  have h2 := tm ((c.tmod 32 * 31 + s.tmod 32).tmod 32 + 32)
  have h3 := Int.tmod_nonneg 32 (show 0 ≤ (c.tmod 32 * 31 + s.tmod 32).tmod 32 + 32 by omega)
  omega
def li (c s : Int) : Nat := (ix c s).toNat
theorem li_lt (c s : Int) : li c s < 32 := by have := ix_in c s; unfold li; omega
theorem w64 (x : Int) (h : -1000000 ≤ x ∧ x ≤ 1000000) : IntKind.i64.wrap x = x := by rw [IntKind.wrap_i64]; omega

theorem line_eq (n : Nat) (c s : Int) (h : Mem) (nx lg : Nat) : xF T (n + 10) 21 [.int .i64 c, .int .i64 s] h nx lg = some ⟨.int .i64 (ix c s), h, nx, 0, 0⟩ := by
  have h1 := tm c
  have h2 := tm s
  have h3 := tm (c.tmod 32 * 31 + s.tmod 32)
  have w1 := w64 (c.tmod 32 * 31) (by omega)
  have w2 := w64 (c.tmod 32 * 31 + s.tmod 32) (by omega)
  have w3 := w64 ((c.tmod 32 * 31 + s.tmod 32).tmod 32 + 32) (by omega)
  rw [xF_fr T21]; apply eq_of_Post
  simp [yC_skip, yC_exit, yC_ret, yC_seq, yC_cond, yC_blk, yC_reg, yC_draw, reg_nil, reg_cons, stepR, want_none, want_some, opRun, ev_t, ev_c, put_none, put_some, resAll, res_tmp, res_cell, oneOf, minI, maxI, min2A, max2A, mn2, mx2, mx3, rdBlk, wrBlk, newBlk, partA, abin, ibin, isShift, AV.cells, AV.one, lay, sub, fillA, lenA, toN, allApart, apartFrom, Nat.testBit, Mem.blk_set_same, Mem.blk_set_ne, Mem.set_set, bit_zero, bit_self, lowBits_or, lowBits_zero, len_setT, sl_same, sl_ne, len_frame, sl_frame,↓op_len, lenOp_slc, lenOp_nils, ↓Post.some, ↓Post_bind, ↓Post_ret, ↓Post_draw, ↓PostL_nil, ↓PostL_cons, Post_fail, ofOpt_some, ofOpt_none, eA_b, eA_i, eA_s, eA_nn, eA_np, eA_pn, eA_lnn, eA_lnp, eA_lpn, eA_i2, eA_i3, blt_dec, Nat.add_assoc, keeps_refl, keeps_at, keeps_up, F21, w1, w2, w3, ix]
theorem at_eq (n : Nat) (c s : Int) (h : Mem) (nx lg : Nat) (hl : lg ≤ nx) : xF T (n + 10) 20 [.agg [.int .i64 c, .int .i64 s]] h nx lg = some ⟨.int .i64 (ix c s), h.set nx (some ⟨32, 2, true, false, [.int .i64 c, .int .i64 s]⟩), nx + 1, 0, 0⟩ := by
  have h1 := tm c
  have h2 := tm s
  have h3 := tm (c.tmod 32 * 31 + s.tmod 32)
  have w1 := w64 (c.tmod 32 * 31) (by omega)
  have w2 := w64 (c.tmod 32 * 31 + s.tmod 32) (by omega)
  have w3 := w64 ((c.tmod 32 * 31 + s.tmod 32).tmod 32 + 32) (by omega)
  have b0 := bit_up hl
  rw [xF_fr T20]; apply eq_of_Post
  simp [yC_skip, yC_exit, yC_ret, yC_seq, yC_cond, yC_blk, yC_reg, yC_draw, reg_nil, reg_cons, stepR, want_none, want_some, opRun, ev_t, ev_c, put_none, put_some, resAll, res_tmp, res_cell, oneOf, minI, maxI, min2A, max2A, mn2, mx2, mx3, rdBlk, wrBlk, newBlk, partA, abin, ibin, isShift, AV.cells, AV.one, lay, sub, fillA, lenA, toN, allApart, apartFrom, Nat.testBit, Mem.blk_set_same, Mem.blk_set_ne, Mem.set_set, bit_zero, bit_self, lowBits_or, lowBits_zero, len_setT, sl_same, sl_ne, len_frame, sl_frame,↓op_len, lenOp_slc, lenOp_nils, ↓Post.some, ↓Post_bind, ↓Post_ret, ↓Post_draw, ↓PostL_nil, ↓PostL_cons, Post_fail, ofOpt_some, ofOpt_none, eA_b, eA_i, eA_s, eA_nn, eA_np, eA_pn, eA_lnn, eA_lnp, eA_lpn, eA_i2, eA_i3, blt_dec, Nat.add_assoc, keeps_refl, keeps_at, keeps_up, F20, w1, w2, w3, ix, b0]
theorem new_eq (n : Nat) (h : Mem) (nx lg : Nat) : xF T (n + 10) 10 [] h nx lg = some ⟨.ptr nx 0, h.set nx (some (cb empty 0 0)), nx + 1, 0, 0⟩ := by
  rw [xF_fr T10]; apply eq_of_Post
  have e : cb empty 0 0 = ⟨49, 130, true, false, ccells empty 0 0⟩ := rfl
  rw [e]
  simp [yC_skip, yC_exit, yC_ret, yC_seq, yC_cond, yC_blk, yC_reg, yC_draw, reg_nil, reg_cons, stepR, want_none, want_some, opRun, ev_t, ev_c, put_none, put_some, resAll, res_tmp, res_cell, oneOf, minI, maxI, min2A, max2A, mn2, mx2, mx3, rdBlk, wrBlk, newBlk, partA, abin, ibin, isShift, AV.cells, AV.one, lay, sub, fillA, lenA, toN, allApart, apartFrom, Nat.testBit, Mem.blk_set_same, Mem.blk_set_ne, Mem.set_set, bit_zero, bit_self, lowBits_or, lowBits_zero, len_setT, sl_same, sl_ne, len_frame, sl_frame,↓op_len, lenOp_slc, lenOp_nils, ↓Post.some, ↓Post_bind, ↓Post_ret, ↓Post_draw, ↓PostL_nil, ↓PostL_cons, Post_fail, ofOpt_some, ofOpt_none, eA_b, eA_i, eA_s, eA_nn, eA_np, eA_pn, eA_lnn, eA_lnp, eA_lpn, eA_i2, eA_i3, blt_dec, Nat.add_assoc, keeps_refl, keeps_at, keeps_up, F10]
  rfl
end Go.Proofs.YthiiegkjbglflaaT
