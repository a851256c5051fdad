/- Mill: move of a cell out of stretch 2 into 1 (printed by gen.py, then split). -/
import Derived.Test.YtmgilbjhgpcjgaaMove
namespace Go.Proofs.YtmgilbjhgpcjgaaT
open Go Go.Proofs.YtmgilbjhgpcjgaaE Go.Proofs.YtmgilbjhgpcjgaaB
set_option linter.unusedSimpArgs false
set_option linter.unusedVariables false
attribute [local congr] Post_cg PostL_cg condP_cg

set_option maxHeartbeats 4000000 in
theorem move_21 {h : Mem} {nx p r bn bp bc : Nat} {X Y : List Int} {S : Nat → List Int} {n : Nat} (j : ML h nx p r bn bp bc X Y S n) (hn : n ≤ 600) {a b : List Int} {i : Int} (e : S 2 = a ++ i :: b) (lg : Nat) (hl : lg ≤ nx) : Moved 2 1 h nx p r bn bp bc S a b i n lg := by
  obtain ⟨k0, ⟨t, ty⟩, ⟨t2, C, cl, cn, cc⟩, al, hp, hbc, ⟨d1, d2, d3, d4⟩, ⟨d5, d6, d7⟩⟩ := j
  have eL : LS S = S 0 ++ (S 1 ++ a) ++ i :: (b ++ (S 3)) := by unfold LS; rw [e]; simp
  have hLn := k0.le
  rw [eL] at k0 hLn
  obtain ⟨ap1, ap2, ap3⟩ := k0.k.apart
  rw [k0.len] at ap2
  have nin := (List.nodup_cons.1 ap1).1
  have pos : ∀ k, k < 4 → ∀ x ∈ S k, 0 ≤ x := by
    intro k hk x hx
    have hm : x ∈ LS S := by
      unfold LS
      obtain rfl | rfl | rfl | rfl : k = 0 ∨ k = 1 ∨ k = 2 ∨ k = 3 := by omega
      all_goals simp [hx]
    rw [eL] at hm
    exact (k0.k.dom x hm).1
  have cnt : ∀ k, k < 4 → (S k).length ≤ n := by
    intro k hk
    have : (S k).length ≤ (LS S).length := by
      unfold LS
      obtain rfl | rfl | rfl | rfl : k = 0 ∨ k = 1 ∨ k = 2 ∨ k = 3 := by omega
      all_goals (simp; try omega)
    rw [eL] at this
    omega
  have nxt := (next_rd (k0.r.stay (h' := h.set p (some ⟨t, 10, true, false, (mc r bc n S).set 8 (.int .i64 (((S 2).length : Int) - 1))⟩)) (Nat.le_refl _) (Mem.blk_set_ne _ _ _ _ (Ne.symm d1)) (Mem.blk_set_ne _ _ _ _ (Ne.symm d2)) (Mem.blk_set_ne _ _ _ _ (Ne.symm d3))) i).at nx (Nat.le_refl _)
  rw [k0.k.nextI] at nxt
  obtain ⟨tcn, xn⟩ := nxt
  have wN : ∀ k, k < 4 → IntKind.i64.wrap (((S k).length : Int) - 1) = ((S k).length : Int) - 1 ∧ IntKind.i64.wrap (((S k).length : Int) + 1) = ((S k).length : Int) + 1 := fun k hk => by
    have := cnt k hk
    exact ⟨by rw [IntKind.wrap_i64]; omega, by rw [IntKind.wrap_i64]; omega⟩
  have lw : ((S 2).length : Int) - 1 = ((a ++ b).length : Int) := by rw [e]; simp; omega
  unfold mc at ty xn
  simp only [List.set_cons_succ, List.set_cons_zero] at xn
  have main : ∀ (hw : Int), (a ++ b).headD (-1) = hw → ∀ H1 : Mem, H1 = h.set p (some ⟨t, 10, true, false, [.ptr r 0, .slc bc 0 n (some n), .int .i64 (hd S 0), .int .i64 (hd S 1), .int .i64 (hw), .int .i64 (hd S 3), .int .i64 (((S 0).length : Int)), .int .i64 (((S 1).length : Int)), .int .i64 ((((S 2).length : Int) - 1)), .int .i64 (((S 3).length : Int))]⟩) →
      ∃ h2 tc2 wr2 h3 tc3 wr3 fr tcf bb, (∀ k, xF T (k + 60) 34 [.ptr r 0, .int .i64 i] H1 nx lg = some ⟨.bool true, h2, nx, tc2, wr2⟩) ∧ (∀ k, xF T (k + 80) 36 [.ptr p 0, .int .i64 2] h2 nx nx = some ⟨.int .i64 fr, h2, nx, tcf, 0⟩) ∧ (∀ k, xF T (k + 60) 35 [.ptr r 0, .int .i64 i, .int .i64 fr] h2 nx nx = some ⟨.bool bb, h3, nx, tc3, wr3⟩) ∧ h2.blk p = H1.blk p ∧ h3.blk p = H1.blk p ∧ h3.blk bc = some ⟨t2, 1, true, false, ints C⟩ ∧ (∀ x, x ≠ r → x ≠ bn → x ≠ bp → wr2 &&& 2 ^ x = 0) ∧ (∀ x, x ≠ r → x ≠ bn → x ≠ bp → wr3 &&& 2 ^ x = 0) ∧
        ∀ ncells : List AV, ncells = mc r bc n (mv S 2 1 (a ++ b) i) → ∀ tt, (∃ X' Y', ML ((h3.set bc (some ⟨t2, 1, true, false, ints (C.set i.toNat 1)⟩)).set p (some ⟨tt, 10, true, false, ncells⟩)) nx p r bn bp bc X' Y' (mv S 2 1 (a ++ b) i) n) ∧ ∀ x, x ≠ p → x ≠ r → x ≠ bn → x ≠ bp → x ≠ bc → ((h3.set bc (some ⟨t2, 1, true, false, ints (C.set i.toNat 1)⟩)).set p (some ⟨tt, 10, true, false, ncells⟩)).blk x = h.blk x := by
    intro hw hhw H1 hH1
    have kH : K H1 nx r bn bp X Y (S 0 ++ (S 1 ++ (a)) ++ i :: (b ++ (S 3))) n := ⟨k0.r.stay (Nat.le_refl _) (by rw [hH1]; exact Mem.blk_set_ne _ _ _ _ (Ne.symm d1)) (by rw [hH1]; exact Mem.blk_set_ne _ _ _ _ (Ne.symm d2)) (by rw [hH1]; exact Mem.blk_set_ne _ _ _ _ (Ne.symm d3)), k0.k, k0.len⟩
    obtain ⟨h2, tc2, wr2, X1, Y1, x2, k1, f2, w2⟩ := kH.outAt hn lg hl
    have k1' : K h2 nx r bn bp X1 Y1 ((a ++ b) ++ (S 3 ++ (S 0 ++ (S 1)))) n := by
      have := (K.rot (u := S 0 ++ (S 1)) (v := (a ++ b) ++ (S 3)) (by simpa [List.append_assoc] using k1))
      simpa [List.append_assoc] using this
    have e2 := f2 p d1 d2 d3
    have hb2 : h2.blk p = some ⟨t, 10, true, false, [.ptr r 0, .slc bc 0 n (some n), .int .i64 ((S 0).headD (-1)), .int .i64 ((S 1).headD (-1)), .int .i64 (((a ++ b)).headD (-1)), .int .i64 ((S 3).headD (-1)), .int .i64 ((S 0).length : Int), .int .i64 ((S 1).length : Int), .int .i64 (((S 2).length : Int) - 1), .int .i64 ((S 3).length : Int)]⟩ := by
      rw [e2, hH1, Mem.blk_set_same, hhw]
      rfl
    have pab : ∀ x ∈ a ++ b, 0 ≤ x := fun x hx => pos 2 (by omega) x (by rw [e]; simp only [List.mem_append, List.mem_cons] at hx ⊢; rcases hx with hx | hx; exact .inl hx; exact .inr (.inr hx))
    obtain ⟨tcf, xf⟩ := (first_rd hb2 hp (pos 0 (by omega)) (pos 1 (by omega)) pab (pos 3 (by omega)) 2 (by omega)).at nx (Nat.le_refl _)
    have nm : i ∉ (a ++ b) ++ (S 3 ++ (S 0 ++ (S 1))) := by
      intro hh
      apply nin
      simp only [List.mem_append] at hh ⊢
      grind
    obtain ⟨bb, h3, tc3, wr3, X2, Y2, x3, k3, f3, w3⟩ := k1'.inAt hn ap2 nm nx (Nat.le_refl _)
    have e3 := f3 p d1 d2 d3
    have e4 : h3.blk bc = some ⟨t2, 1, true, false, ints C⟩ := by
      rw [f3 bc d5 d6 d7, f2 bc d5 d6 d7, hH1, Mem.blk_set_ne _ _ _ _ (Ne.symm d4), cl]
    refine ⟨h2, tc2, wr2, h3, tc3, wr3, _, tcf, bb, x2, xf, x3, e2, e3.trans e2, e4, w2, w3, ?_⟩
    intro ncells hc tt
    have k3' : K h3 nx r bn bp X2 Y2 (LS (mv S 2 1 (a ++ b) i)) n := by
      have := (K.rot (u := (a ++ b) ++ (S 3)) (v := S 0 ++ ((S 1 ++ [i]))) (by simpa [List.append_assoc] using k3))
      unfold LS mv
      simpa [List.append_assoc] using this
    refine ⟨⟨X2, Y2, ⟨k3'.r.stay (Nat.le_refl _) ?_ ?_ ?_, k3'.k, k3'.len⟩, ⟨tt, by rw [Mem.blk_set_same, hc]⟩, ⟨t2, C.set i.toNat 1, by rw [Mem.blk_set_ne _ _ _ _ (Ne.symm d4), Mem.blk_set_same], by simp [cn], ?_⟩, ?_, hp, hbc, ⟨d1, d2, d3, d4⟩, ⟨d5, d6, d7⟩⟩, ?_⟩
    · rw [Mem.blk_set_ne _ _ _ _ (Ne.symm d1), Mem.blk_set_ne _ _ _ _ (Ne.symm d5)]
    · rw [Mem.blk_set_ne _ _ _ _ (Ne.symm d2), Mem.blk_set_ne _ _ _ _ (Ne.symm d6)]
    · rw [Mem.blk_set_ne _ _ _ _ (Ne.symm d3), Mem.blk_set_ne _ _ _ _ (Ne.symm d7)]
    · intro k hk x hx
      have stay : ∀ k, k < 4 → x ∈ S k → x ≠ i → gx (C.set i.toNat 1) x = k := fun k hk hx hne => by
        rw [gx_ne ap2.1 (pos k hk x hx) (Ne.symm hne)]
        exact cc k hk x hx
      by_cases hxi : x = i
      · subst hxi
        have : k = 1 := by
          unfold mv at hx
          split at hx
          · assumption
          · exfalso
            apply nin
            split at hx
            · simp only [List.mem_append] at hx ⊢
              rcases hx with hx | hx <;> simp [hx]
            · obtain rfl | rfl | rfl | rfl : k = 0 ∨ k = 1 ∨ k = 2 ∨ k = 3 := by omega
              all_goals first | contradiction | simp [hx]
        subst this
        exact gx_at (by rw [cn]; exact ap2) _
      · unfold mv at hx
        split at hx
        · rename_i hkc
          subst hkc
          simp only [List.mem_append, List.mem_singleton] at hx
          rcases hx with hx | hx
          · exact stay _ hk hx hxi
          · exact absurd hx hxi
        · split at hx
          · rename_i hkw
            subst hkw
            refine stay _ hk ?_ hxi
            rw [e]
            simp only [List.mem_append, List.mem_cons] at hx ⊢
            rcases hx with hx | hx
            · exact .inl hx
            · exact .inr (.inr hx)
          · exact stay _ hk hx hxi
    · intro x h0 h1
      have := al x h0 h1
      unfold LS at this
      unfold LS mv
      rw [e] at this
      simp only [List.mem_append, List.mem_cons] at this
      simp
      grind
    · intro x q1 q2 q3 q4 q5
      rw [Mem.blk_set_ne _ _ _ _ q1, Mem.blk_set_ne _ _ _ _ q5, f3 x q2 q3 q4, f2 x q2 q3 q4, hH1, Mem.blk_set_ne _ _ _ _ q1]
  obtain ⟨wa, wb⟩ := wN 2 (by omega)
  obtain ⟨wc, wd⟩ := wN 1 (by omega)
  have ci : i.toNat < C.length := by omega
  have il := ints_len C
  have il2 : (ints (C.set i.toNat 1)).length.beq C.length = true := by rw [ints_len]; simp
  have l3 := ints_lay ci (1 : Int)
  have ci' : i.toNat < n := by omega
  have ci2 : i.toNat + 1 ≤ C.length := ci
  obtain ⟨i0, i1⟩ := ap2
  have la := fun x0 x1 x2 x3 x4 x5 x6 x7 x8 x9 y => lay10 x0 x1 x2 x3 x4 x5 x6 x7 x8 x9 y
  have dd := Ne.symm d4
  unfold Moved
  rw [xF_fr T27]
  have gC : (ints C)[i.toNat]? = some (.int .i64 2) := by
    rw [ints_at ci]
    have := cc 2 (by omega) i (by rw [e]; simp)
    unfold gx at this
    rw [List.getD_eq_getElem?_getD, List.getElem?_eq_getElem ci] at this
    rw [show C[i.toNat] = 2 from this]
  have gC' := get_of gC (by rw [il]; exact ci)
  rcases a with _ | ⟨a0, a⟩
  · rcases b with _ | ⟨z, b⟩
    · have hH : hd S 2 = i := by unfold hd; rw [e]; rfl
      have hN : ((S 2).length : Int) - 1 = 0 := by rw [e]; rfl
      obtain ⟨H1, hH1⟩ : ∃ H1, H1 = h.set p (some ⟨t, 10, true, false, [.ptr r 0, .slc bc 0 n (some n), .int .i64 (hd S 0), .int .i64 (hd S 1), .int .i64 ((-1)), .int .i64 (hd S 3), .int .i64 (((S 0).length : Int)), .int .i64 (((S 1).length : Int)), .int .i64 ((((S 2).length : Int) - 1)), .int .i64 (((S 3).length : Int))]⟩) := ⟨_, rfl⟩
      obtain ⟨h2, tc2, wr2, h3, tc3, wr3, fr, tcf, bb, x2, xf, x3, e2, e3, e4, w2, w3, fin⟩ := main (-1) rfl H1 hH1
      rw [hN] at hH1 xn wa
      rw [hH] at xn
      have e2' := e2
      have e3' := e3
      rw [hH1, Mem.blk_set_same] at e2' e3'
      have hH1' := hH1.symm
      have w3p := w3 p d1 d2 d3
      have w3' := w3
      have w2' := w2
      clear w2 w3
      have hb1 := congrArg (fun m => Mem.blk m p) hH1
      simp only [Mem.blk_set_same] at hb1
      by_cases hc0 : S 1 = []
      · have hc1 : (((S 1).length : Int) + 1 == 1) = true := by rw [hc0]; rfl
        have hcx := hc0
        simp (maxSteps := 4000000) [↓P_skip, ↓P_exit, ↓P_ret, ↓P_seq, ↓P_cond, ↓P_blk, ↓P_reg, ↓P_draw, ↓P_nil, ↓P_cons, condP_t, condP_f, dum_ab, stepR, want_none, want_some, opRun, ev_t, ev_c, put_none, put_some, resAll, res_tmp, res_cell, oneOf, minI, maxI, min2A, max2A, mn2, mx2, mx3, rdBlk, wrBlk, newBlk, partA, abin, ibin, isShift, AV.cells, AV.one, sub, fillA, lenA, toN, allApart, apartFrom, Nat.testBit, Mem.blk_set_same, Mem.blk_set_ne, Mem.set_set, bit_zero, bit_self, lowBits_or, lowBits_zero, len_setT, sl_same, sl_ne, len_frame, sl_frame,↓op_len, lenOp_slc, lenOp_nils, ↓Post.some, ↓Post_bind, ↓Post_ret, ↓Post_draw, ↓PostL_nil, ↓PostL_cons, Post_fail, ofOpt_some, ofOpt_none, eA_b, eA_i, eA_s, eA_nn, eA_np, eA_pn, eA_lnn, eA_lnp, eA_lpn, eA_i2, eA_i3, blt_dec, Nat.add_assoc, keeps_refl, keeps_at, keeps_up, new_one, and_pow, bit_hi, lowBits_pow, ble_dec, fr_refl, fr_at, fr_up, fr_p, dum_ab, F27, ty, cl, hp, hbc, i0, i1, ci, ci', ci2, il, il2, gC', la, wa, wb, wc, wd, hH1', hb1, xn, x2, xf, x3, e2', e3', e4, w3p, l3, dd, d4, wl0, wl1, wl2, wl3, wl4, hc1, hH, hN]
        refine ⟨(fin _ (by simp [mc, hd, mv, e, hc0, hcx] <;> omega) _).1, fun x q1 q2 q3 q4 q5 => ⟨(fin _ (by simp [mc, hd, mv, e, hc0, hcx] <;> omega) _).2 x q1 q2 q3 q4 q5, ?_⟩⟩
        repeat' first | exact w2' x q2 q3 q4 | exact w3' x q2 q3 q4 | exact bit_and q1 | exact bit_and q5 | exact and_pow (Ne.symm q1) | exact and_pow (Ne.symm q5) | apply or_z | apply low_z

      · have hc1 : (((S 1).length : Int) + 1 == 1) = false := by
          cases hS : S 1 with
          | nil => exact absurd hS hc0
          | cons y ys => simp; omega
        have hcx : ∃ y ys, S 1 = y :: ys := by
          cases hS : S 1 with
          | nil => exact absurd hS hc0
          | cons y ys => exact ⟨y, ys, rfl⟩
        obtain ⟨cy, cys, hcx⟩ := hcx
        simp (maxSteps := 4000000) [↓P_skip, ↓P_exit, ↓P_ret, ↓P_seq, ↓P_cond, ↓P_blk, ↓P_reg, ↓P_draw, ↓P_nil, ↓P_cons, condP_t, condP_f, dum_ab, stepR, want_none, want_some, opRun, ev_t, ev_c, put_none, put_some, resAll, res_tmp, res_cell, oneOf, minI, maxI, min2A, max2A, mn2, mx2, mx3, rdBlk, wrBlk, newBlk, partA, abin, ibin, isShift, AV.cells, AV.one, sub, fillA, lenA, toN, allApart, apartFrom, Nat.testBit, Mem.blk_set_same, Mem.blk_set_ne, Mem.set_set, bit_zero, bit_self, lowBits_or, lowBits_zero, len_setT, sl_same, sl_ne, len_frame, sl_frame,↓op_len, lenOp_slc, lenOp_nils, ↓Post.some, ↓Post_bind, ↓Post_ret, ↓Post_draw, ↓PostL_nil, ↓PostL_cons, Post_fail, ofOpt_some, ofOpt_none, eA_b, eA_i, eA_s, eA_nn, eA_np, eA_pn, eA_lnn, eA_lnp, eA_lpn, eA_i2, eA_i3, blt_dec, Nat.add_assoc, keeps_refl, keeps_at, keeps_up, new_one, and_pow, bit_hi, lowBits_pow, ble_dec, fr_refl, fr_at, fr_up, fr_p, dum_ab, F27, ty, cl, hp, hbc, i0, i1, ci, ci', ci2, il, il2, gC', la, wa, wb, wc, wd, hH1', hb1, xn, x2, xf, x3, e2', e3', e4, w3p, l3, dd, d4, wl0, wl1, wl2, wl3, wl4, hc1, hH, hN]
        refine ⟨(fin _ (by simp [mc, hd, mv, e, hc0, hcx] <;> omega) _).1, fun x q1 q2 q3 q4 q5 => ⟨(fin _ (by simp [mc, hd, mv, e, hc0, hcx] <;> omega) _).2 x q1 q2 q3 q4 q5, ?_⟩⟩
        repeat' first | exact w2' x q2 q3 q4 | exact w3' x q2 q3 q4 | exact bit_and q1 | exact bit_and q5 | exact and_pow (Ne.symm q1) | exact and_pow (Ne.symm q5) | apply or_z | apply low_z

    · have hH : hd S 2 = i := by unfold hd; rw [e]; rfl
      have hN : ¬ ((S 2).length : Int) - 1 = 0 := by rw [e]; simp; omega
      obtain ⟨H1, hH1⟩ : ∃ H1, H1 = h.set p (some ⟨t, 10, true, false, [.ptr r 0, .slc bc 0 n (some n), .int .i64 (hd S 0), .int .i64 (hd S 1), .int .i64 (z), .int .i64 (hd S 3), .int .i64 (((S 0).length : Int)), .int .i64 (((S 1).length : Int)), .int .i64 ((((S 2).length : Int) - 1)), .int .i64 (((S 3).length : Int))]⟩) := ⟨_, rfl⟩
      obtain ⟨h2, tc2, wr2, h3, tc3, wr3, fr, tcf, bb, x2, xf, x3, e2, e3, e4, w2, w3, fin⟩ := main z rfl H1 hH1
      have hN' : (((S 2).length : Int) - 1 == 0) = false := by simpa using hN
      simp only [List.cons_append, List.headD_cons] at xn
      rw [hH] at xn
      have e2' := e2
      have e3' := e3
      rw [hH1, Mem.blk_set_same] at e2' e3'
      have hH1' := hH1.symm
      have w3p := w3 p d1 d2 d3
      have w3' := w3
      have w2' := w2
      clear w2 w3
      have hb1 := congrArg (fun m => Mem.blk m p) hH1
      simp only [Mem.blk_set_same] at hb1
      by_cases hc0 : S 1 = []
      · have hc1 : (((S 1).length : Int) + 1 == 1) = true := by rw [hc0]; rfl
        have hcx := hc0
        simp (maxSteps := 4000000) [↓P_skip, ↓P_exit, ↓P_ret, ↓P_seq, ↓P_cond, ↓P_blk, ↓P_reg, ↓P_draw, ↓P_nil, ↓P_cons, condP_t, condP_f, dum_ab, stepR, want_none, want_some, opRun, ev_t, ev_c, put_none, put_some, resAll, res_tmp, res_cell, oneOf, minI, maxI, min2A, max2A, mn2, mx2, mx3, rdBlk, wrBlk, newBlk, partA, abin, ibin, isShift, AV.cells, AV.one, sub, fillA, lenA, toN, allApart, apartFrom, Nat.testBit, Mem.blk_set_same, Mem.blk_set_ne, Mem.set_set, bit_zero, bit_self, lowBits_or, lowBits_zero, len_setT, sl_same, sl_ne, len_frame, sl_frame,↓op_len, lenOp_slc, lenOp_nils, ↓Post.some, ↓Post_bind, ↓Post_ret, ↓Post_draw, ↓PostL_nil, ↓PostL_cons, Post_fail, ofOpt_some, ofOpt_none, eA_b, eA_i, eA_s, eA_nn, eA_np, eA_pn, eA_lnn, eA_lnp, eA_lpn, eA_i2, eA_i3, blt_dec, Nat.add_assoc, keeps_refl, keeps_at, keeps_up, new_one, and_pow, bit_hi, lowBits_pow, ble_dec, fr_refl, fr_at, fr_up, fr_p, dum_ab, F27, ty, cl, hp, hbc, i0, i1, ci, ci', ci2, il, il2, gC', la, wa, wb, wc, wd, hH1', hb1, xn, x2, xf, x3, e2', e3', e4, w3p, l3, dd, d4, wl0, wl1, wl2, wl3, wl4, hc1, hH, hN']
        refine ⟨(fin _ (by simp [mc, hd, mv, e, hc0, hcx] <;> omega) _).1, fun x q1 q2 q3 q4 q5 => ⟨(fin _ (by simp [mc, hd, mv, e, hc0, hcx] <;> omega) _).2 x q1 q2 q3 q4 q5, ?_⟩⟩
        repeat' first | exact w2' x q2 q3 q4 | exact w3' x q2 q3 q4 | exact bit_and q1 | exact bit_and q5 | exact and_pow (Ne.symm q1) | exact and_pow (Ne.symm q5) | apply or_z | apply low_z

      · have hc1 : (((S 1).length : Int) + 1 == 1) = false := by
          cases hS : S 1 with
          | nil => exact absurd hS hc0
          | cons y ys => simp; omega
        have hcx : ∃ y ys, S 1 = y :: ys := by
          cases hS : S 1 with
          | nil => exact absurd hS hc0
          | cons y ys => exact ⟨y, ys, rfl⟩
        obtain ⟨cy, cys, hcx⟩ := hcx
        simp (maxSteps := 4000000) [↓P_skip, ↓P_exit, ↓P_ret, ↓P_seq, ↓P_cond, ↓P_blk, ↓P_reg, ↓P_draw, ↓P_nil, ↓P_cons, condP_t, condP_f, dum_ab, stepR, want_none, want_some, opRun, ev_t, ev_c, put_none, put_some, resAll, res_tmp, res_cell, oneOf, minI, maxI, min2A, max2A, mn2, mx2, mx3, rdBlk, wrBlk, newBlk, partA, abin, ibin, isShift, AV.cells, AV.one, sub, fillA, lenA, toN, allApart, apartFrom, Nat.testBit, Mem.blk_set_same, Mem.blk_set_ne, Mem.set_set, bit_zero, bit_self, lowBits_or, lowBits_zero, len_setT, sl_same, sl_ne, len_frame, sl_frame,↓op_len, lenOp_slc, lenOp_nils, ↓Post.some, ↓Post_bind, ↓Post_ret, ↓Post_draw, ↓PostL_nil, ↓PostL_cons, Post_fail, ofOpt_some, ofOpt_none, eA_b, eA_i, eA_s, eA_nn, eA_np, eA_pn, eA_lnn, eA_lnp, eA_lpn, eA_i2, eA_i3, blt_dec, Nat.add_assoc, keeps_refl, keeps_at, keeps_up, new_one, and_pow, bit_hi, lowBits_pow, ble_dec, fr_refl, fr_at, fr_up, fr_p, dum_ab, F27, ty, cl, hp, hbc, i0, i1, ci, ci', ci2, il, il2, gC', la, wa, wb, wc, wd, hH1', hb1, xn, x2, xf, x3, e2', e3', e4, w3p, l3, dd, d4, wl0, wl1, wl2, wl3, wl4, hc1, hH, hN']
        refine ⟨(fin _ (by simp [mc, hd, mv, e, hc0, hcx] <;> omega) _).1, fun x q1 q2 q3 q4 q5 => ⟨(fin _ (by simp [mc, hd, mv, e, hc0, hcx] <;> omega) _).2 x q1 q2 q3 q4 q5, ?_⟩⟩
        repeat' first | exact w2' x q2 q3 q4 | exact w3' x q2 q3 q4 | exact bit_and q1 | exact bit_and q5 | exact and_pow (Ne.symm q1) | exact and_pow (Ne.symm q5) | apply or_z | apply low_z

  · have hH : hd S 2 = a0 := by unfold hd; rw [e]; rfl
    have hne : (a0 == i) = false := by
      have : a0 ≠ i := fun hh => nin (by subst hh; simp)
      simpa using this
    have nin' := nin
    · obtain ⟨H1, hH1⟩ : ∃ H1, H1 = h.set p (some ⟨t, 10, true, false, [.ptr r 0, .slc bc 0 n (some n), .int .i64 (hd S 0), .int .i64 (hd S 1), .int .i64 (a0), .int .i64 (hd S 3), .int .i64 (((S 0).length : Int)), .int .i64 (((S 1).length : Int)), .int .i64 ((((S 2).length : Int) - 1)), .int .i64 (((S 3).length : Int))]⟩) := ⟨_, rfl⟩
      obtain ⟨h2, tc2, wr2, h3, tc3, wr3, fr, tcf, bb, x2, xf, x3, e2, e3, e4, w2, w3, fin⟩ := main a0 rfl H1 hH1
      rw [hH] at xn
      have e2' := e2
      have e3' := e3
      rw [hH1, Mem.blk_set_same] at e2' e3'
      have hH1' := hH1.symm
      have w3p := w3 p d1 d2 d3
      have w3' := w3
      have w2' := w2
      clear w2 w3
      have hb1 := congrArg (fun m => Mem.blk m p) hH1
      simp only [Mem.blk_set_same] at hb1
      by_cases hc0 : S 1 = []
      · have hc1 : (((S 1).length : Int) + 1 == 1) = true := by rw [hc0]; rfl
        have hcx := hc0
        simp (maxSteps := 4000000) [↓P_skip, ↓P_exit, ↓P_ret, ↓P_seq, ↓P_cond, ↓P_blk, ↓P_reg, ↓P_draw, ↓P_nil, ↓P_cons, condP_t, condP_f, dum_ab, stepR, want_none, want_some, opRun, ev_t, ev_c, put_none, put_some, resAll, res_tmp, res_cell, oneOf, minI, maxI, min2A, max2A, mn2, mx2, mx3, rdBlk, wrBlk, newBlk, partA, abin, ibin, isShift, AV.cells, AV.one, sub, fillA, lenA, toN, allApart, apartFrom, Nat.testBit, Mem.blk_set_same, Mem.blk_set_ne, Mem.set_set, bit_zero, bit_self, lowBits_or, lowBits_zero, len_setT, sl_same, sl_ne, len_frame, sl_frame,↓op_len, lenOp_slc, lenOp_nils, ↓Post.some, ↓Post_bind, ↓Post_ret, ↓Post_draw, ↓PostL_nil, ↓PostL_cons, Post_fail, ofOpt_some, ofOpt_none, eA_b, eA_i, eA_s, eA_nn, eA_np, eA_pn, eA_lnn, eA_lnp, eA_lpn, eA_i2, eA_i3, blt_dec, Nat.add_assoc, keeps_refl, keeps_at, keeps_up, new_one, and_pow, bit_hi, lowBits_pow, ble_dec, fr_refl, fr_at, fr_up, fr_p, dum_ab, F27, ty, cl, hp, hbc, i0, i1, ci, ci', ci2, il, il2, gC', la, wa, wb, wc, wd, hH1', hb1, xn, x2, xf, x3, e2', e3', e4, w3p, l3, dd, d4, wl0, wl1, wl2, wl3, wl4, hc1, hH, hne]
        refine ⟨(fin _ (by simp [mc, hd, mv, e, hc0, hcx] <;> omega) _).1, fun x q1 q2 q3 q4 q5 => ⟨(fin _ (by simp [mc, hd, mv, e, hc0, hcx] <;> omega) _).2 x q1 q2 q3 q4 q5, ?_⟩⟩
        repeat' first | exact w2' x q2 q3 q4 | exact w3' x q2 q3 q4 | exact bit_and q1 | exact bit_and q5 | exact and_pow (Ne.symm q1) | exact and_pow (Ne.symm q5) | apply or_z | apply low_z

      · have hc1 : (((S 1).length : Int) + 1 == 1) = false := by
          cases hS : S 1 with
          | nil => exact absurd hS hc0
          | cons y ys => simp; omega
        have hcx : ∃ y ys, S 1 = y :: ys := by
          cases hS : S 1 with
          | nil => exact absurd hS hc0
          | cons y ys => exact ⟨y, ys, rfl⟩
        obtain ⟨cy, cys, hcx⟩ := hcx
        simp (maxSteps := 4000000) [↓P_skip, ↓P_exit, ↓P_ret, ↓P_seq, ↓P_cond, ↓P_blk, ↓P_reg, ↓P_draw, ↓P_nil, ↓P_cons, condP_t, condP_f, dum_ab, stepR, want_none, want_some, opRun, ev_t, ev_c, put_none, put_some, resAll, res_tmp, res_cell, oneOf, minI, maxI, min2A, max2A, mn2, mx2, mx3, rdBlk, wrBlk, newBlk, partA, abin, ibin, isShift, AV.cells, AV.one, sub, fillA, lenA, toN, allApart, apartFrom, Nat.testBit, Mem.blk_set_same, Mem.blk_set_ne, Mem.set_set, bit_zero, bit_self, lowBits_or, lowBits_zero, len_setT, sl_same, sl_ne, len_frame, sl_frame,↓op_len, lenOp_slc, lenOp_nils, ↓Post.some, ↓Post_bind, ↓Post_ret, ↓Post_draw, ↓PostL_nil, ↓PostL_cons, Post_fail, ofOpt_some, ofOpt_none, eA_b, eA_i, eA_s, eA_nn, eA_np, eA_pn, eA_lnn, eA_lnp, eA_lpn, eA_i2, eA_i3, blt_dec, Nat.add_assoc, keeps_refl, keeps_at, keeps_up, new_one, and_pow, bit_hi, lowBits_pow, ble_dec, fr_refl, fr_at, fr_up, fr_p, dum_ab, F27, ty, cl, hp, hbc, i0, i1, ci, ci', ci2, il, il2, gC', la, wa, wb, wc, wd, hH1', hb1, xn, x2, xf, x3, e2', e3', e4, w3p, l3, dd, d4, wl0, wl1, wl2, wl3, wl4, hc1, hH, hne]
        refine ⟨(fin _ (by simp [mc, hd, mv, e, hc0, hcx] <;> omega) _).1, fun x q1 q2 q3 q4 q5 => ⟨(fin _ (by simp [mc, hd, mv, e, hc0, hcx] <;> omega) _).2 x q1 q2 q3 q4 q5, ?_⟩⟩
        repeat' first | exact w2' x q2 q3 q4 | exact w3' x q2 q3 q4 | exact bit_and q1 | exact bit_and q5 | exact and_pow (Ne.symm q1) | exact and_pow (Ne.symm q5) | apply or_z | apply low_z


end Go.Proofs.YtmgilbjhgpcjgaaT
