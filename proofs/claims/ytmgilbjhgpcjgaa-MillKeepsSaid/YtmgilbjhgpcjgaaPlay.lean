/- Mill: New; play. -/
import Derived.Test.YtmgilbjhgpcjgaaSame
namespace Go.Proofs.YtmgilbjhgpcjgaaT
open Go Go.Proofs.YtmgilbjhgpcjgaaE Go.Proofs.YtmgilbjhgpcjgaaB
set_option linter.unusedSimpArgs false
set_option linter.unusedVariables false
attribute [local congr] Post_cg PostL_cg condP_cg

theorem and_high {lg m : Nat} (h : ∀ b, m.testBit b = true → b < lg) (q : Nat) (hq : lg ≤ q) : m &&& 2 ^ q = 0 := by
  apply Nat.eq_of_testBit_eq; intro i
  rw [Nat.testBit_and, Nat.testBit_two_pow, Nat.zero_testBit]
  by_cases c : q = i
  · subst c
    cases hm : m.testBit q with
    | false => rfl
    | true => have := h q hm; omega
  · simp [c]
/-- What a call marks is watched. -/
theorem foot_mk {n f : Nat} {args : List AV} {h : Mem} {nx lg : Nat} {v : AV} {h' : Mem} {nx' tc wr : Nat} (hl : lg ≤ nx) (e : xF T n f args h nx lg = some ⟨v, h', nx', tc, wr⟩) : Mk2 0 lg tc ∧ Mk2 0 lg wr := by
  have F := Foot.fn T n f args h nx lg _ hl e
  exact ⟨⟨fun q hq => absurd hq (Nat.not_lt_zero _), fun q hq => and_high F.low q hq⟩, ⟨fun q hq => absurd hq (Nat.not_lt_zero _), fun q hq => and_high (fun b hb => F.low b (F.sub b hb)) q hq⟩⟩
theorem LS0 (l : List Int) : LS (S0 l) = l := by unfold LS S0; simp
theorem gx_rep {n : Nat} {j : Int} (h0 : 0 ≤ j) (h1 : j < n) : gx (List.replicate n 0) j = 0 := by
  unfold gx
  rw [List.getD_eq_getElem?_getD, List.getElem?_eq_getElem (by rw [List.length_replicate]; omega)]
  simp
theorem mem_lits {n : Nat} {j : Int} : j ∈ lits n ↔ 0 ≤ j ∧ j < n := by
  unfold lits
  rw [List.mem_map]
  constructor
  · rintro ⟨k, hk, rfl⟩
    rw [List.mem_range] at hk
    omega
  · rintro ⟨h0, h1⟩
    exact ⟨j.toNat, by rw [List.mem_range]; omega, by omega⟩
theorem mnew_no (n : Int) (hn : n < 1 ∨ 512 < n) (h : Mem) (nx : Nat) : Rd 60 11 [.int .i64 n] h nx .null := by
  intro lg hlg
  rw [xF_fr T11]
  rcases hn with c | c
  · simp [↓P_skip, ↓P_exit, ↓P_ret, ↓P_seq, ↓P_cond, ↓P_blk, ↓P_reg, ↓P_draw, ↓P_nil, ↓P_cons, condP_t, condP_f, dum_ab, stepR, want_none, want_some, opRun, ev_t, ev_c, put_none, put_some, resAll, res_tmp, res_cell, oneOf, minI, maxI, min2A, max2A, mn2, mx2, mx3, rdBlk, wrBlk, newBlk, partA, abin, ibin, isShift, AV.cells, AV.one, lay, sub, fillA, lenA, toN, allApart, apartFrom, Nat.testBit, Mem.blk_set_same, Mem.blk_set_ne, Mem.set_set, bit_zero, bit_self, lowBits_or, lowBits_zero, len_setT, sl_same, sl_ne, len_frame, sl_frame,↓op_len, lenOp_slc, lenOp_nils, ↓Post.some, ↓Post_bind, ↓Post_ret, ↓Post_draw, ↓PostL_nil, ↓PostL_cons, Post_fail, ofOpt_some, ofOpt_none, eA_b, eA_i, eA_s, eA_nn, eA_np, eA_pn, eA_lnn, eA_lnp, eA_lpn, eA_i2, eA_i3, blt_dec, Nat.add_assoc, keeps_refl, keeps_at, keeps_up, new_one, and_pow, bit_hi, lowBits_pow, ble_dec, fr_refl, fr_at, fr_up, fr_p, dum_ab, F11, c]
  · have c' : ¬ n < 1 := by omega
    simp [↓P_skip, ↓P_exit, ↓P_ret, ↓P_seq, ↓P_cond, ↓P_blk, ↓P_reg, ↓P_draw, ↓P_nil, ↓P_cons, condP_t, condP_f, dum_ab, stepR, want_none, want_some, opRun, ev_t, ev_c, put_none, put_some, resAll, res_tmp, res_cell, oneOf, minI, maxI, min2A, max2A, mn2, mx2, mx3, rdBlk, wrBlk, newBlk, partA, abin, ibin, isShift, AV.cells, AV.one, lay, sub, fillA, lenA, toN, allApart, apartFrom, Nat.testBit, Mem.blk_set_same, Mem.blk_set_ne, Mem.set_set, bit_zero, bit_self, lowBits_or, lowBits_zero, len_setT, sl_same, sl_ne, len_frame, sl_frame,↓op_len, lenOp_slc, lenOp_nils, ↓Post.some, ↓Post_bind, ↓Post_ret, ↓Post_draw, ↓PostL_nil, ↓PostL_cons, Post_fail, ofOpt_some, ofOpt_none, eA_b, eA_i, eA_s, eA_nn, eA_np, eA_pn, eA_lnn, eA_lnp, eA_lpn, eA_i2, eA_i3, blt_dec, Nat.add_assoc, keeps_refl, keeps_at, keeps_up, new_one, and_pow, bit_hi, lowBits_pow, ble_dec, fr_refl, fr_at, fr_up, fr_p, dum_ab, F11, c, c']
set_option maxHeartbeats 8000000 in
theorem mnew_at (n : Nat) (hn : 1 ≤ n ∧ n ≤ 512) (h : Mem) (nx lg : Nat) (hlg : lg ≤ nx) : ∃ h' tc wr, (∀ k, xF T (k + 4500) 11 [.int .i64 n] h nx lg = some ⟨.ptr (nx + 4) 0, h', nx + 5, tc, wr⟩) ∧ ML h' (nx + 5) (nx + 4) (nx + 2) nx (nx + 1) (nx + 3) (newX n) (newY n) (S0 (lits n)) n ∧ Keeps nx h h' := by
  have key : Post (xF T 4500 11 [.int .i64 n] h nx lg) fun v' h' nx' tc wr => v' = .ptr (nx + 4) 0 ∧ nx' = nx + 5 ∧ ML h' (nx + 5) (nx + 4) (nx + 2) nx (nx + 1) (nx + 3) (newX n) (newY n) (S0 (lits n)) n ∧ Keeps nx h h' := by
    obtain ⟨h1, tc1, wr1, x1, r1, kp1⟩ := new_at n (by omega) h nx nx (Nat.le_refl _)
    obtain ⟨m1, m1'⟩ := foot_mk (Nat.le_refl _) (x1 0)
    have c1 : ¬ (n : Int) < 1 := by omega
    have c2 : ¬ (512 : Int) < (n : Int) := by omega
    have c3 : (n : Int) ≤ 70368744177664 := by omega
    have c4 : 8 * n ≤ 70368744177664 := by omega
    have c5 : n ≤ 70368744177664 := by omega
    have lX : (newX n).length = n := by unfold newX; simp
    rw [xF_fr T11]
    simp (maxSteps := 4000000) [↓P_skip, ↓P_exit, ↓P_ret, ↓P_seq, ↓P_cond, ↓P_blk, ↓P_reg, ↓P_draw, ↓P_nil, ↓P_cons, condP_t, condP_f, dum_ab, stepR, want_none, want_some, opRun, ev_t, ev_c, put_none, put_some, resAll, res_tmp, res_cell, oneOf, minI, maxI, min2A, max2A, mn2, mx2, mx3, rdBlk, wrBlk, newBlk, partA, abin, ibin, isShift, AV.cells, AV.one, lay, sub, fillA, lenA, toN, allApart, apartFrom, Nat.testBit, Mem.blk_set_same, Mem.blk_set_ne, Mem.set_set, bit_zero, bit_self, lowBits_or, lowBits_zero, len_setT, sl_same, sl_ne, len_frame, sl_frame,↓op_len, lenOp_slc, lenOp_nils, ↓Post.some, ↓Post_bind, ↓Post_ret, ↓Post_draw, ↓PostL_nil, ↓PostL_cons, Post_fail, ofOpt_some, ofOpt_none, eA_b, eA_i, eA_s, eA_nn, eA_np, eA_pn, eA_lnn, eA_lnp, eA_lpn, eA_i2, eA_i3, blt_dec, Nat.add_assoc, keeps_refl, keeps_at, keeps_up, new_one, and_pow, bit_hi, lowBits_pow, ble_dec, fr_refl, fr_at, fr_up, fr_p, dum_ab, F11, c1, c2, c3, c4, c5, toNle, x1]
    refine ⟨⟨or_z (m1'.l (.inr (by omega))) (new_up (Nat.le_refl _)), or_z (m1.l (.inr (by omega))) (new_up (Nat.le_refl _))⟩, ?_, ?_⟩
    · refine ⟨⟨?_, ?_, lX⟩, ⟨48, ?_⟩, ⟨3, List.replicate n 0, ?_, by simp, ?_⟩, ?_, by omega, by omega, by omega, by omega⟩
      · rw [LS0, lits_len]
        exact r1.stay (by omega) (by rw [Mem.blk_set_ne _ _ _ _ (by omega), Mem.blk_set_ne _ _ _ _ (by omega)]) (by rw [Mem.blk_set_ne _ _ _ _ (by omega), Mem.blk_set_ne _ _ _ _ (by omega)]) (by rw [Mem.blk_set_ne _ _ _ _ (by omega), Mem.blk_set_ne _ _ _ _ (by omega)])
      · rw [LS0]; exact new_link n hn.1
      · rw [Mem.blk_set_same]
        unfold mc hd S0
        obtain ⟨k, rfl⟩ : ∃ k, n = k + 1 := ⟨n - 1, by omega⟩
        have e0 : (lits (k + 1)).head?.getD (-1) = 0 := by
          unfold lits
          rw [List.range_succ_eq_map]
          rfl
        simp [e0, lits_len]
      · rw [Mem.blk_set_ne _ _ _ _ (by omega), Mem.blk_set_same, reps_ints]
      · intro k hk j hj
        unfold S0 at hj
        by_cases c : k = 0
        · rw [if_pos c] at hj
          obtain ⟨a, b⟩ := mem_lits.1 hj
          rw [gx_rep a b, c]; rfl
        · rw [if_neg c] at hj; cases hj
      · intro j a b
        rw [LS0]; exact mem_lits.2 ⟨a, b⟩
    · exact kp1
  obtain ⟨v', h', nx', tc, wr, e, rfl, rfl, e1, e2⟩ := key.inv
  exact ⟨h', tc, wr, fun k => xF_mono T (Nat.le_add_left ..) e, e1, e2⟩

/-! ### Both mills -/
structure MS (h : Mem) (nx base p r bn bp bc q : Nat) (X Y : List Int) (S : Nat → List Int) (n : Nat) : Prop where
  j : ML h nx p r bn bp bc X Y S n
  w : WM h nx q S
  lt : p < q ∧ r < q ∧ bn < q ∧ bp < q ∧ bc < q
  ge : base ≤ p ∧ base ≤ r ∧ base ≤ bn ∧ base ≤ bp ∧ base ≤ bc ∧ base ≤ q
theorem MS.keep {h h' : Mem} {nx nx' base p r bn bp bc q : Nat} {X Y : List Int} {S : Nat → List Int} {n : Nat} (s : MS h nx base p r bn bp bc q X Y S n) (hn : nx ≤ nx') (e : Keeps nx h h') : MS h' nx' base p r bn bp bc q X Y S n :=
  ⟨s.j.keep hn e, s.w.keep hn fun b _ hb => e b hb, s.lt, s.ge⟩
theorem ML.stay {h h' : Mem} {nx nx' p r bn bp bc q : Nat} {X Y : List Int} {S : Nat → List Int} {n : Nat} (j : ML h nx p r bn bp bc X Y S n) (hn : nx ≤ nx') (lt : p < q ∧ r < q ∧ bn < q ∧ bp < q ∧ bc < q) (e : ∀ x, x < nx → x ≠ q → h'.blk x = h.blk x) : ML h' nx' p r bn bp bc X Y S n := by
  have l := j.lt
  obtain ⟨k, ⟨t, ty⟩, ⟨t2, C, cl, c2⟩, al, hp, hbc, d1, d2⟩ := j
  exact ⟨⟨k.r.stay hn (e _ l.2.1 (by omega)) (e _ l.2.2.1 (by omega)) (e _ l.2.2.2.1 (by omega)), k.k, k.len⟩, ⟨t, (e p hp (by omega)).trans ty⟩, ⟨t2, C, (e bc hbc (by omega)).trans cl, c2⟩, al, by omega, by omega, d1, d2⟩
theorem MS.small {h : Mem} {nx base p r bn bp bc q : Nat} {X Y : List Int} {S : Nat → List Int} {n : Nat} (s : MS h nx base p r bn bp bc q X Y S n) {c : Nat} (hc : c < 4) : (S c).length ≤ n := by
  have := s.j.k.le
  obtain ⟨u, v, e⟩ := LS.at S c hc
  rw [e] at this
  simp only [List.length_append] at this
  omega
/-- A call of the mill's, then one of the document's. -/
theorem MS.next {h h1 h2 : Mem} {nx nx1 nx2 base p r bn bp bc q : Nat} {X Y X' Y' : List Int} {S S' : Nat → List Int} {n : Nat} (s : MS h nx base p r bn bp bc q X Y S n) (j1 : ML h1 nx1 p r bn bp bc X' Y' S' n) (n1 : nx ≤ nx1) (w2 : WM h2 nx2 q S') (n2 : nx1 ≤ nx2) (f2 : ∀ x, x < nx1 → x ≠ q → h2.blk x = h1.blk x) : MS h2 nx2 base p r bn bp bc q X' Y' S' n :=
  ⟨j1.stay n2 s.lt f2, w2, s.lt, s.ge⟩
theorem wshade_no {h : Mem} {nx q : Nat} {S : Nat → List Int} (w : WM h nx q S) (hS : ∀ k, k < 4 → (S k).length ≤ 100) (i : Int) (hi : colS S i ≠ 3) : Wch 900 21 [.ptr q 0, .int .i64 i] h nx q (.bool false) S := by
  intro lg hlg
  obtain ⟨tc1, x1⟩ := (wcolor_rd w (fun k hk => by have := hS k hk; omega) i).at lg hlg
  have c1 : (colS S i != 3) = true := by simpa using hi
  rw [xF_fr T21]
  simp (maxSteps := 4000000) [↓step_none, ↓op_slice, ↓op_app, ↓P_skip, ↓P_exit, ↓P_ret, ↓P_seq, ↓P_cond, ↓P_blk, ↓P_reg, ↓P_draw, ↓P_nil, ↓P_cons, condP_t, condP_f, dum_ab, stepR, want_none, want_some, opRun, ev_t, ev_c, put_none, put_some, resAll, res_tmp, res_cell, oneOf, minI, maxI, min2A, max2A, mn2, mx2, mx3, rdBlk, wrBlk, newBlk, partA, abin, ibin, isShift, AV.cells, AV.one, lay, sub, fillA, lenA, toN, allApart, apartFrom, Nat.testBit, Mem.blk_set_same, Mem.blk_set_ne, Mem.set_set, bit_zero, bit_self, lowBits_or, lowBits_zero, len_setT, sl_same, sl_ne, len_frame, sl_frame,↓op_len, lenOp_slc, lenOp_nils, ↓Post.some, ↓Post_bind, ↓Post_ret, ↓Post_draw, ↓PostL_nil, ↓PostL_cons, Post_fail, ofOpt_some, ofOpt_none, eA_b, eA_i, eA_s, eA_nn, eA_np, eA_pn, eA_lnn, eA_lnp, eA_lpn, eA_i2, eA_i3, blt_dec, Nat.add_assoc, keeps_refl, keeps_at, keeps_up, new_one, and_pow, bit_hi, lowBits_pow, ble_dec, fr_refl, fr_at, fr_up, fr_p, dum_ab, F21, x1, c1]
  exact w
theorem walloc {h : Mem} {nx q : Nat} {S : Nat → List Int} (w : WM h nx q S) (hS : ∀ k, k < 4 → (S k).length ≤ 100) : Wch 100 24 [.ptr q 0] h nx q (.int .i64 (takeI S 0)) (takeS S 0 1) := by
  intro lg hlg
  obtain ⟨h1, nx1, tc1, wr1, x1, n1, w1, f1⟩ := (wfirst w hS 0 (.inl rfl)).at lg hlg
  simp only [show ((0 : Nat) : Int) = 0 from rfl] at x1
  rw [xF_fr T24]
  simp (maxSteps := 4000000) [↓P_skip, ↓P_exit, ↓P_ret, ↓P_seq, ↓P_cond, ↓P_blk, ↓P_reg, ↓P_draw, ↓P_nil, ↓P_cons, condP_t, condP_f, dum_ab, stepR, want_none, want_some, opRun, ev_t, ev_c, put_none, put_some, resAll, res_tmp, res_cell, oneOf, minI, maxI, min2A, max2A, mn2, mx2, mx3, rdBlk, wrBlk, newBlk, partA, abin, ibin, isShift, AV.cells, AV.one, lay, sub, fillA, lenA, toN, allApart, apartFrom, Nat.testBit, Mem.blk_set_same, Mem.blk_set_ne, Mem.set_set, bit_zero, bit_self, lowBits_or, lowBits_zero, len_setT, sl_same, sl_ne, len_frame, sl_frame,↓op_len, lenOp_slc, lenOp_nils, ↓Post.some, ↓Post_bind, ↓Post_ret, ↓Post_draw, ↓PostL_nil, ↓PostL_cons, Post_fail, ofOpt_some, ofOpt_none, eA_b, eA_i, eA_s, eA_nn, eA_np, eA_pn, eA_lnn, eA_lnp, eA_lpn, eA_i2, eA_i3, blt_dec, Nat.add_assoc, keeps_refl, keeps_at, keeps_up, new_one, and_pow, bit_hi, lowBits_pow, ble_dec, fr_refl, fr_at, fr_up, fr_p, dum_ab, F24, x1]
  exact ⟨n1, w1, f1⟩
theorem wscan {h : Mem} {nx q : Nat} {S : Nat → List Int} (w : WM h nx q S) (hS : ∀ k, k < 4 → (S k).length ≤ 100) : Wch 100 22 [.ptr q 0] h nx q (.int .i64 (takeI S 2)) (takeS S 2 1) := by
  intro lg hlg
  obtain ⟨h1, nx1, tc1, wr1, x1, n1, w1, f1⟩ := (wfirst w hS 2 (.inr rfl)).at lg hlg
  simp only [show ((2 : Nat) : Int) = 2 from rfl] at x1
  rw [xF_fr T22]
  simp (maxSteps := 4000000) [↓P_skip, ↓P_exit, ↓P_ret, ↓P_seq, ↓P_cond, ↓P_blk, ↓P_reg, ↓P_draw, ↓P_nil, ↓P_cons, condP_t, condP_f, dum_ab, stepR, want_none, want_some, opRun, ev_t, ev_c, put_none, put_some, resAll, res_tmp, res_cell, oneOf, minI, maxI, min2A, max2A, mn2, mx2, mx3, rdBlk, wrBlk, newBlk, partA, abin, ibin, isShift, AV.cells, AV.one, lay, sub, fillA, lenA, toN, allApart, apartFrom, Nat.testBit, Mem.blk_set_same, Mem.blk_set_ne, Mem.set_set, bit_zero, bit_self, lowBits_or, lowBits_zero, len_setT, sl_same, sl_ne, len_frame, sl_frame,↓op_len, lenOp_slc, lenOp_nils, ↓Post.some, ↓Post_bind, ↓Post_ret, ↓Post_draw, ↓PostL_nil, ↓PostL_cons, Post_fail, ofOpt_some, ofOpt_none, eA_b, eA_i, eA_s, eA_nn, eA_np, eA_pn, eA_lnn, eA_lnp, eA_lpn, eA_i2, eA_i3, blt_dec, Nat.add_assoc, keeps_refl, keeps_at, keeps_up, new_one, and_pow, bit_hi, lowBits_pow, ble_dec, fr_refl, fr_at, fr_up, fr_p, dum_ab, F22, x1]
  exact ⟨n1, w1, f1⟩

/-- What both calls come to. -/
def Two (f g : Nat) (us vs : List AV) (h : Mem) (nx base p r bn bp bc q n lg : Nat) : Prop :=
  ∃ v h1 tc1 wr1 h2 nx2 tc2 wr2 X' Y' S', (∀ k, xF T (k + 280) f (.ptr p 0 :: us) h nx lg = some ⟨v, h1, nx, tc1, wr1⟩) ∧ (∀ k, xF T (k + 900) g (.ptr q 0 :: vs) h1 nx lg = some ⟨v, h2, nx2, tc2, wr2⟩) ∧ nx ≤ nx2 ∧ MS h2 nx2 base p r bn bp bc q X' Y' S' n ∧
    (∀ x, x < nx → x ≠ p → x ≠ r → x ≠ bn → x ≠ bp → x ≠ bc → x ≠ q → h1.blk x = h.blk x ∧ h2.blk x = h.blk x ∧ wr1 &&& 2 ^ x = 0)
theorem Two.mk {f g d e : Nat} {us vs : List AV} {h : Mem} {nx base p r bn bp bc q n : Nat} {X Y : List Int} {S S' : Nat → List Int} {v : AV} (s : MS h nx base p r bn bp bc q X Y S n) (hd : d ≤ 280) (he : e ≤ 900) (c1 : Mch d f (.ptr p 0 :: us) h nx p r bn bp bc v S' n)
    (c2 : ∀ h1, WM h1 nx q S → Wch e g (.ptr q 0 :: vs) h1 nx q v S') (lg : Nat) (hlg : lg ≤ nx) : Two f g us vs h nx base p r bn bp bc q n lg := by
  obtain ⟨h1, tc1, wr1, X', Y', x1, j1, f1⟩ := c1.at lg hlg
  have lt := s.lt
  have w1 : WM h1 nx q S := s.w.keep (Nat.le_refl _) fun b hb hb2 => (f1 b (by omega) (by omega) (by omega) (by omega) (by omega)).1
  obtain ⟨h2, nx2, tc2, wr2, x2, n2, w2, f2⟩ := (c2 h1 w1).at lg hlg
  exact ⟨v, h1, tc1, wr1, h2, nx2, tc2, wr2, X', Y', S', fun k => xF_mono T (show d ≤ k + 280 by omega) (by simpa using x1 0), fun k => xF_mono T (show e ≤ k + 900 by omega) (by simpa using x2 0), n2, s.next j1 (Nat.le_refl _) w2 n2 f2, fun x hx q1 q2 q3 q4 q5 q6 => ⟨(f1 x q1 q2 q3 q4 q5).1, (f2 x hx q6).trans (f1 x q1 q2 q3 q4 q5).1, (f1 x q1 q2 q3 q4 q5).2⟩⟩
theorem MS.alloc {h : Mem} {nx base p r bn bp bc q n : Nat} {X Y : List Int} {S : Nat → List Int} (s : MS h nx base p r bn bp bc q X Y S n) (hn : n ≤ 60) (lg : Nat) (hlg : lg ≤ nx) : Two 15 24 [] [] h nx base p r bn bp bc q n lg :=
  Two.mk s (by omega) (by omega) (alloc_ch s.j (by omega)) (fun h1 w1 => walloc w1 fun k hk => by have := s.small hk; omega) lg hlg
theorem MS.scan {h : Mem} {nx base p r bn bp bc q n : Nat} {X Y : List Int} {S : Nat → List Int} (s : MS h nx base p r bn bp bc q X Y S n) (hn : n ≤ 60) (lg : Nat) (hlg : lg ≤ nx) : Two 13 22 [] [] h nx base p r bn bp bc q n lg :=
  Two.mk s (by omega) (by omega) (scan_ch s.j (by omega)) (fun h1 w1 => wscan w1 fun k hk => by have := s.small hk; omega) lg hlg
theorem MS.shade {h : Mem} {nx base p r bn bp bc q n : Nat} {X Y : List Int} {S : Nat → List Int} (s : MS h nx base p r bn bp bc q X Y S n) (hn : n ≤ 60) (i : Int) (lg : Nat) (hlg : lg ≤ nx) : Two 12 21 [.int .i64 i] [.int .i64 i] h nx base p r bn bp bc q n lg := by
  by_cases c : colS S i = 3
  · exact Two.mk s (by omega) (by omega) (shade_yes s.j (by omega) i c) (fun h1 w1 => wshade_yes w1 (fun k hk => by have := s.small hk; omega) i c) lg hlg
  · exact Two.mk s (by omega) (by omega) (shade_no s.j i c) (fun h1 w1 => wshade_no w1 (fun k hk => by have := s.small hk; omega) i c) lg hlg
theorem MS.flip {h : Mem} {nx base p r bn bp bc q n : Nat} {X Y : List Int} {S : Nat → List Int} (s : MS h nx base p r bn bp bc q X Y S n) (hn : n ≤ 60) (lg : Nat) (hlg : lg ≤ nx) :
    ∃ v1 h1 nx1 tc1 wr1 v2 h2 nx2 tc2 wr2 tc3 wr3 X' Y' S', (∀ k, xF T (k + 900) 14 [.ptr p 0] h nx lg = some ⟨v1, h1, nx1, tc1, wr1⟩) ∧ (∀ k, xF T (k + 60) 23 [.ptr q 0] h1 nx1 lg = some ⟨v2, h2, nx2, tc2, wr2⟩) ∧ (∀ k, xF T (k + 300) 18 [v1, v2] h2 nx2 lg = some ⟨.bool true, h2, nx2, tc3, wr3⟩) ∧ nx ≤ nx2 ∧ MS h2 nx2 base p r bn bp bc q X' Y' S' n ∧
    (∀ x, x < nx → x ≠ p → x ≠ r → x ≠ bn → x ≠ bp → x ≠ bc → x ≠ q → h2.blk x = h.blk x) := by
  have lt := s.lt
  have hq : q < nx := by obtain ⟨_, _, _, _, hq⟩ := s.w; exact hq
  obtain ⟨v1, h1, nx1, tc1, wr1, x1, n1, r1, ⟨X', Y', j1⟩, f1⟩ := (flip_run s.j (by omega) lg hlg).inv
  have w1 : WM h1 nx1 q S := s.w.keep n1 fun b hb hb2 => f1 b hb2 (by omega) (by omega) (by omega) (by omega) (by omega)
  obtain ⟨v2, h2, nx2, tc2, wr2, x2, n2, r2, w2, f2⟩ := (wflip w1 (fun k hk => by have := s.small hk; omega) lg (by omega)).inv
  have s2 := s.next j1 n1 w2 n2 f2
  have r1' : RI v1 h2 nx nx2 (flipL S) := r1.keep n2 fun b hb hb2 => f2 b hb2 (by omega)
  have hl : (flipL S).length ≤ 150 := by
    have := s.small (c := 3) (by omega)
    unfold flipL
    split
    · omega
    · simp
  obtain ⟨tc3, wr3, x3⟩ := same_eq hl (RI.irow r1') (RI.irow r2) lg (by omega)
  exact ⟨v1, h1, nx1, tc1, wr1, v2, h2, nx2, tc2, wr2, tc3, wr3, X', Y', _, fun k => xF_mono T (Nat.le_add_left ..) x1, fun k => xF_mono T (Nat.le_add_left ..) x2, x3, by omega, s2, fun x hx q1 q2 q3 q4 q5 q6 => (f2 x (by omega) q6).trans (f1 x hx q1 q2 q3 q4 q5)⟩
end Go.Proofs.YtmgilbjhgpcjgaaT
