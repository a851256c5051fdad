/- Frame: the reference's pool: its cells. -/
import Derived.Test.YtobcboiemibkkaaKnown
import Derived.Test.YtobcboiemibkkaaE30
namespace Go.Proofs.YtobcboiemibkkaaT
open Go Go.Proofs.YtobcboiemibkkaaE Go.Proofs.YtobcboiemibkkaaB
set_option linter.unusedSimpArgs false
set_option linter.unusedVariables false
attribute [local congr] Post_cg PostL_cg condP_cg

/-- A pool's cells: 24 frames of 9, and the last serial. -/
def rcells (X : List (List AV)) (s : Int) : List AV := X.flatten ++ [.int .i64 s]
def rz : List AV := [.bool false, .int .i64 0, .int .i64 0, .int .i64 0, .int .i64 0, .int .i64 0, .int .u32 0, .nils, .nils]
def rx (f : Fr) (a b : AV) : List AV := [.bool true, .int .i64 f.m, .int .i64 f.pc, .int .i64 f.se, .int .i64 f.ho, .int .i64 f.sr, .int .u32 f.self, a, b]
structure X9 (X : List (List AV)) : Prop where
  n : X.length = 24
  each : ∀ x ∈ X, x.length = 9
theorem X9.len {X : List (List AV)} (h : X9 X) (s : Int) : (rcells X s).length = 217 := by
  unfold rcells
  rw [List.length_append, flat_len h.each, h.n]
  rfl
theorem X9.set {X : List (List AV)} (h : X9 X) (i : Nat) (x : List AV) (hx : x.length = 9) : X9 (X.set i x) := by
  refine ⟨by rw [List.length_set]; exact h.n, fun y hy => ?_⟩
  rcases List.mem_or_eq_of_mem_set hy with hy | rfl
  · exact h.each y hy
  · exact hx
theorem r_line {X : List (List AV)} (h : X9 X) (s : Int) {i : Nat} (hi : i < X.length) : sub (rcells X s) (i * 9) 9 = some X[i] := by
  have := h.n
  unfold sub
  rw [h.len, Nat.ble_eq_true_of_le (by omega)]
  unfold rcells
  rw [flat_at h.each (i := i) hi]
theorem r_fld {X : List (List AV)} (h : X9 X) (s : Int) {i : Nat} (hi : i < X.length) {j : Nat} (hj : j < 9) : (rcells X s)[i * 9 + j]? = X[i][j]? := by
  obtain ⟨_, e⟩ := sub_inv (r_line h s hi)
  rw [← e, List.getElem?_take_of_lt hj, List.getElem?_drop]
theorem r_ser {X : List (List AV)} (h : X9 X) (s : Int) : (rcells X s)[216]? = some (.int .i64 s) := by
  have e : X.flatten.length = 216 := by rw [flat_len h.each, h.n]
  unfold rcells
  rw [List.getElem?_append_right (by omega), e]
  rfl
theorem rw_line {X : List (List AV)} (h : X9 X) (s : Int) {i : Nat} (hi : i < X.length) (x : List AV) (hx : x.length = 9) : lay (rcells X s) (i * 9) x = rcells (X.set i x) s := by
  unfold rcells
  rw [lay_app _ _ _ _ (by rw [flat_len h.each, hx]; omega), lay_flat h.each hi _ hx]
theorem rw_fld {X : List (List AV)} (h : X9 X) (s : Int) {i : Nat} (hi : i < X.length) {j : Nat} (hj : j < 9) (v : AV) : lay (rcells X s) (i * 9 + j) [v] = rcells (X.set i (X[i].set j v)) s := by
  have hx := h.each _ (List.getElem_mem hi)
  obtain ⟨b, e⟩ := sub_inv (r_line h s hi)
  rw [← rw_line h s hi _ (by rw [List.length_set]; exact hx)]
  exact lay_lay _ _ _ (by rw [hx]; exact b) j v (by omega) (by rw [hx]; exact e)
theorem rw_ser {X : List (List AV)} (h : X9 X) (s s' : Int) : lay (rcells X s) 216 [.int .i64 s'] = rcells X s' := by
  have e : X.flatten.length = 216 := by rw [flat_len h.each, h.n]
  unfold rcells
  rw [show (216 : Nat) = 216 + 0 from rfl, lay_skip _ _ _ _ 216 e.symm]
  rfl
/-- The frame of a place, as the reference has it. -/
def rf (b : Bool) (f : Fr) (r : AV × AV) : List AV := cond b (rx f r.1 r.2) rz
/-- What of the reference's rows is at a place. -/
def ROwn (U : List Bool) (R : List (AV × AV)) (b : Nat) : Prop := ∃ i, ∃ h : i < R.length, U[i]? = some true ∧ (bid R[i].1 = some b ∨ bid R[i].2 = some b)
structure RPS (h : Mem) (nx w : Nat) (F : List Fr) (U : List Bool) (s : Int) (A B : List (List Int)) (X : List (List AV)) (R : List (AV × AV)) : Prop where
  hb : ∃ t, h.blk w = some ⟨t, 217, true, false, rcells X s⟩
  hw : w < nx
  x9 : X9 X
  hR : R.length = 24
  hU : U.length = 24
  hF : F.length = 24
  hA : A.length = 24
  hB : B.length = 24
  fr : ∀ i (h1 : i < X.length) (h2 : i < U.length) (h3 : i < F.length) (h4 : i < R.length), X[i] = rf U[i] F[i] R[i]
  rA : ∀ i (h1 : i < R.length) (h2 : i < A.length), U[i]? = some true → OR R[i].1 h nx A[i]
  rB : ∀ i (h1 : i < R.length) (h2 : i < B.length), U[i]? = some true → OR R[i].2 h nx B[i]
  nw : ¬ ROwn U R w
  d1 : ∀ i j (h1 : i < R.length) (h2 : j < R.length) b, i ≠ j → U[i]? = some true → U[j]? = some true → (bid R[i].1 = some b ∨ bid R[i].2 = some b) → ¬ (bid R[j].1 = some b ∨ bid R[j].2 = some b)
  d2 : ∀ i (h1 : i < R.length) b, U[i]? = some true → bid R[i].1 = some b → bid R[i].2 ≠ some b
theorem RPS.keep {h h' : Mem} {nx nx' w : Nat} {F : List Fr} {U : List Bool} {s : Int} {A B : List (List Int)} {X : List (List AV)} {R : List (AV × AV)} (r : RPS h nx w F U s A B X R) (hn : nx ≤ nx') (e : ∀ b, b = w ∨ ROwn U R b → h'.blk b = h.blk b) : RPS h' nx' w F U s A B X R := by
  obtain ⟨t, hb⟩ := r.hb
  exact ⟨⟨t, (e w (.inl rfl)).trans hb⟩, Nat.lt_of_lt_of_le r.hw hn, r.x9, r.hR, r.hU, r.hF, r.hA, r.hB, r.fr, fun i h1 h2 hu => (r.rA i h1 h2 hu).keep hn fun b hb => e b (.inr ⟨i, h1, hu, .inl hb⟩), fun i h1 h2 hu => (r.rB i h1 h2 hu).keep hn fun b hb => e b (.inr ⟨i, h1, hu, .inr hb⟩), r.nw, r.d1, r.d2⟩
theorem RPS.lt {h : Mem} {nx w : Nat} {F : List Fr} {U : List Bool} {s : Int} {A B : List (List Int)} {X : List (List AV)} {R : List (AV × AV)} (r : RPS h nx w F U s A B X R) {b : Nat} (hb : b = w ∨ ROwn U R b) : b < nx := by
  rcases hb with rfl | ⟨i, h1, hu, hb | hb⟩
  · exact r.hw
  · exact (r.rA i h1 (by have := r.hR; have := r.hA; omega) hu).lt hb
  · exact (r.rB i h1 (by have := r.hR; have := r.hB; omega) hu).lt hb
/-! ### Has -/
theorem has_in {h : Mem} {nx w : Nat} {F : List Fr} {U : List Bool} {s : Int} {A B : List (List Int)} {X : List (List AV)} {R : List (AV × AV)} (r : RPS h nx w F U s A B X R) (i : Nat) (hi : i < U.length) : Rd 30 33 [.ptr w 0, .int .i64 i] h nx (.bool U[i]) := by
  intro lg hlg
  obtain ⟨t, hb⟩ := r.hb
  have hU := r.hU
  have hX := r.x9.n
  have c1 : (0 : Int) ≤ (i : Int) := by omega
  have c2 : (i : Int) < 24 := by omega
  have c3 : i < 24 := by omega
  have e := r.fr i (by omega) hi (by have := r.hF; omega) (by have := r.hR; omega)
  have e0 : (rcells X s)[i * 9]? = some (.bool U[i]) := by
    have := r_fld r.x9 s (i := i) (by omega) (j := 0) (by omega)
    rw [Nat.add_zero] at this
    rw [this, e]
    unfold rf
    cases U[i] <;> rfl
  have l1 := fun lg => ld_at hb r.hw e0 lg
  rw [xF_fr T33]
  simp (maxSteps := 4000000) [↓step_none, ↓step_t, ↓step_f, ↓step_nt, ↓step_nf, ↓op_load, ↓op_store, ↓op_slice, ↓op_app, ↓P_skip, ↓P_exit, ↓P_ret, ↓P_seq, ↓P_cond, ↓P_blk, ↓P_reg, ↓P_draw, ↓P_nil, ↓P_cons, condP_t, condP_f, dum_ab, stepR, want_none, want_some, opRun, ev_t, ev_c, put_none, put_some, resAll, res_tmp, res_cell, oneOf, minI, maxI, min2A, max2A, mn2, mx2, mx3, rdBlk, wrBlk, newBlk, partA, abin, ibin, isShift, AV.cells, AV.one, lay, sub, fillA, lenA, toN, allApart, apartFrom, Nat.testBit, Mem.blk_set_same, Mem.blk_set_ne, Mem.set_set, bit_zero, bit_self, lowBits_or, lowBits_zero, len_setT, sl_same, sl_ne, len_frame, sl_frame,↓op_len, lenOp_slc, lenOp_nils, ↓Post.some, ↓Post_bind, ↓Post_ret, ↓Post_draw, ↓PostL_nil, ↓PostL_cons, Post_fail, ofOpt_some, ofOpt_none, eA_b, eA_i, eA_s, eA_nn, eA_np, eA_pn, eA_lnn, eA_lnp, eA_lpn, eA_i2, eA_i3, blt_dec, Nat.add_assoc, keeps_refl, keeps_at, keeps_up, new_one, and_pow, bit_hi, lowBits_pow, ble_dec, fr_refl, fr_at, fr_up, fr_p, dum_ab, F33, c1, c2, c3, l1]
theorem has_out {h : Mem} {nx w : Nat} (i : Int) (hi : i < 0 ∨ 24 ≤ i) : Rd 30 33 [.ptr w 0, .int .i64 i] h nx (.bool false) := by
  intro lg hlg
  rw [xF_fr T33]
  by_cases c1 : 0 ≤ i
  · have c2 : ¬ i < 24 := by omega
    simp (maxSteps := 4000000) [↓step_none, ↓step_t, ↓step_f, ↓step_nt, ↓step_nf, ↓op_load, ↓op_store, ↓op_slice, ↓op_app, ↓P_skip, ↓P_exit, ↓P_ret, ↓P_seq, ↓P_cond, ↓P_blk, ↓P_reg, ↓P_draw, ↓P_nil, ↓P_cons, condP_t, condP_f, dum_ab, stepR, want_none, want_some, opRun, ev_t, ev_c, put_none, put_some, resAll, res_tmp, res_cell, oneOf, minI, maxI, min2A, max2A, mn2, mx2, mx3, rdBlk, wrBlk, newBlk, partA, abin, ibin, isShift, AV.cells, AV.one, lay, sub, fillA, lenA, toN, allApart, apartFrom, Nat.testBit, Mem.blk_set_same, Mem.blk_set_ne, Mem.set_set, bit_zero, bit_self, lowBits_or, lowBits_zero, len_setT, sl_same, sl_ne, len_frame, sl_frame,↓op_len, lenOp_slc, lenOp_nils, ↓Post.some, ↓Post_bind, ↓Post_ret, ↓Post_draw, ↓PostL_nil, ↓PostL_cons, Post_fail, ofOpt_some, ofOpt_none, eA_b, eA_i, eA_s, eA_nn, eA_np, eA_pn, eA_lnn, eA_lnp, eA_lpn, eA_i2, eA_i3, blt_dec, Nat.add_assoc, keeps_refl, keeps_at, keeps_up, new_one, and_pow, bit_hi, lowBits_pow, ble_dec, fr_refl, fr_at, fr_up, fr_p, dum_ab, F33, c1, c2]
  · simp (maxSteps := 4000000) [↓step_none, ↓step_t, ↓step_f, ↓step_nt, ↓step_nf, ↓op_load, ↓op_store, ↓op_slice, ↓op_app, ↓P_skip, ↓P_exit, ↓P_ret, ↓P_seq, ↓P_cond, ↓P_blk, ↓P_reg, ↓P_draw, ↓P_nil, ↓P_cons, condP_t, condP_f, dum_ab, stepR, want_none, want_some, opRun, ev_t, ev_c, put_none, put_some, resAll, res_tmp, res_cell, oneOf, minI, maxI, min2A, max2A, mn2, mx2, mx3, rdBlk, wrBlk, newBlk, partA, abin, ibin, isShift, AV.cells, AV.one, lay, sub, fillA, lenA, toN, allApart, apartFrom, Nat.testBit, Mem.blk_set_same, Mem.blk_set_ne, Mem.set_set, bit_zero, bit_self, lowBits_or, lowBits_zero, len_setT, sl_same, sl_ne, len_frame, sl_frame,↓op_len, lenOp_slc, lenOp_nils, ↓Post.some, ↓Post_bind, ↓Post_ret, ↓Post_draw, ↓PostL_nil, ↓PostL_cons, Post_fail, ofOpt_some, ofOpt_none, eA_b, eA_i, eA_s, eA_nn, eA_np, eA_pn, eA_lnn, eA_lnp, eA_lpn, eA_i2, eA_i3, blt_dec, Nat.add_assoc, keeps_refl, keeps_at, keeps_up, new_one, and_pow, bit_hi, lowBits_pow, ble_dec, fr_refl, fr_at, fr_up, fr_p, dum_ab, F33, c1]
end Go.Proofs.YtobcboiemibkkaaT
