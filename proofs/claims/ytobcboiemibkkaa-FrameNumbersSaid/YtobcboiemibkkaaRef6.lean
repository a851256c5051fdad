/- Frame: the reference's pool: Pop and Slot where they act. -/
import Derived.Test.YtobcboiemibkkaaRef5
namespace Go.Proofs.YtobcboiemibkkaaT
open Go Go.Proofs.YtobcboiemibkkaaE Go.Proofs.YtobcboiemibkkaaB
set_option linter.unusedSimpArgs false
set_option linter.unusedVariables false
attribute [local congr] Post_cg PostL_cg condP_cg

set_option maxHeartbeats 8000000 in
theorem rpop_yes {h : Mem} {nx w : Nat} {F : List Fr} {U : List Bool} {s : Int} {A B : List (List Int)} {X : List (List AV)} {R : List (AV × AV)} (r : RPS h nx w F U s A B X R) (i : Nat) (hi : i < U.length) (hB : i < B.length) (hu : U[i] = true) {l : List Int} {x : Int} (hl : B[i] = l ++ [x]) (l9 : l.length ≤ 900) : Rch 80 25 [.ptr w 0, .int .i64 i] h nx w U R (.tup [.int .u32 x, .bool true]) F U s A (B.set i l) := by
  intro lg hlg
  have hU := r.hU
  have hR := r.hR
  have hF := r.hF
  have hX := r.x9.n
  have hw := r.hw
  obtain ⟨t, hb⟩ := r.hb
  obtain ⟨tc, x1⟩ := (has_in r i hi).at lg hlg
  rw [hu] at x1
  have c2 : (i : Int) < 24 := by omega
  have c3 : i < 24 := by omega
  have hui : U[i]? = some true := by rw [List.getElem?_eq_getElem hi, hu]
  have iR : i < R.length := by omega
  have iF : i < F.length := by omega
  have st := (r_st r i hi hu iR).2
  have rb := r.rB i iR hB hui
  rw [hl] at rb
  obtain ⟨bb, tt, rr, hst, hbn, hK, _⟩ := cut_or rb
  have nbp : bb ≠ w := fun e => r.nw ⟨i, iR, hui, .inr (by rw [hst, e]; rfl)⟩
  rw [hst] at st
  have l8 := fun lg => ld_at hb hw st lg
  have l2 := fun lg => ld_at hK hbn (o := l.length) (v := .int .u32 x) (by rw [List.getElem?_append_right (by rw [u32s_len]; exact Nat.le_refl _), u32s_len, Nat.sub_self]; rfl) lg
  have w1 : IntKind.i64.wrap (((l.length + 1 : Nat) : Int) - 1) = (l.length : Int) := by rw [IntKind.wrap_i64]; omega
  have w2' : IntKind.i64.wrap ((l.length : Int) + 1 - 1) = (l.length : Int) := by rw [IntKind.wrap_i64]; omega
  have w3 : IntKind.i64.wrap (l.length : Int) = (l.length : Int) := by rw [IntKind.wrap_i64]; omega
  have c4 : ((((l.length + 1 : Nat) : Int)) == 0) = false := by
    have : ¬ (((l.length + 1 : Nat) : Int)) = 0 := by omega
    simpa using this
  have c5 : (((l.length : Int) + 1) == 0) = false := by
    have : ¬ ((l.length : Int) + 1) = 0 := by omega
    simpa using this
  have c6 : (l.length : Int) < (l.length : Int) + 1 := by omega
  obtain ⟨H1, hH1⟩ : ∃ H1, H1 = h.set nx (some ⟨23, 1, true, false, []⟩) := ⟨_, rfl⟩
  have k1 : ∀ b, b < nx → H1.blk b = h.blk b := fun b hb => by rw [hH1, Mem.blk_set_ne _ _ _ _ (by omega)]
  have l8' := fun lg => ld_at (show H1.blk w = _ from (k1 w hw).trans hb) (show w < nx + 1 by omega) st lg
  have o1 : OR (.slc nx 0 0 (some 0)) H1 (nx + 1) [] := by rw [hH1]; exact or_new h nx
  have rk : OR R[i].2 H1 (nx + 1) (l ++ [x]) := rb.keep (by omega) fun q hq => k1 q (rb.lt hq)
  obtain ⟨b', t', r', hst', hbn', hK', cutx⟩ := cut_or rk
  rw [hst] at hst' cutx
  cases hst'
  have rb1 : SV (.slc bb 0 l.length none) H1 (nx + 1) l := .inl (OR.rv (.inr (.inr ⟨bb, t', .int .u32 x :: r', rfl, hbn', hK'⟩)))
  obtain ⟨s2, h2, nx2, tc2, wr2, e2, n2, o2, k2, lo2, m2, w2⟩ := cat_sv o1 rb1 (by simp; omega) (nx + 1)
  rw [List.nil_append] at o2
  have low2 : ∀ q, bid s2 = some q → nx ≤ q := fun q hq => by
    rcases lo2 q hq with h | h
    · cases h; exact Nat.le_refl _
    · omega
  have f2 : ∀ q, q < nx → h2.blk q = h.blk q := fun q hq => by rw [k2 q (by omega) (fun h => by cases h; omega), k1 q hq]
  have hb2 : h2.blk w = some ⟨t, 217, true, false, rcells X s⟩ := (f2 w hw).trans hb
  have fr := r.fr i (by omega) hi iF iR
  rw [hu] at fr
  have ex : X[i].set 8 s2 = rf true F[i] (R[i].1, s2) := by rw [fr]; rfl
  have s1 := fun lg => st_at (n := 1) hb2 (show w < nx2 by omega) (o := i * 9 + 8) s2 (by rw [o2.one.1]; rfl) (by rw [o2.one.1]; simp only [List.all_cons, List.all_nil, o2.one.2]; rfl) (by rw [r.x9.len]; omega) lg
  rw [o2.one.1, rw_fld r.x9 s (by omega) (by omega), ex] at s1
  obtain ⟨H5, hH5⟩ : ∃ H5, H5 = h2.set w (some ⟨t, 217, true, false, rcells (X.set i (rf true F[i] (R[i].1, s2))) s⟩) := ⟨_, rfl⟩
  obtain ⟨S, ow, k5⟩ := r.newB iR iF hui (show nx ≤ nx2 by omega) f2 o2 low2 hH5
  rw [← hH5] at s1
  have hH1' := hH1.symm
  have ne2 : bid (AV.slc nx 0 0 (some 0)) ≠ some bb := fun e => by cases e; omega
  rw [xF_fr T25]
  simp (maxSteps := 4000000) [↓step_none, ↓step_t, ↓step_f, ↓step_nt, ↓step_nf, ↓op_load, ↓op_store, ↓op_slice, ↓op_app, ↓P_skip, ↓P_exit, ↓P_ret, ↓P_seq, ↓P_cond, ↓P_blk, ↓P_reg, ↓P_draw, ↓P_nil, ↓P_cons, condP_t, condP_f, dum_ab, stepR, want_none, want_some, opRun, ev_t, ev_c, put_none, put_some, resAll, res_tmp, res_cell, oneOf, minI, maxI, min2A, max2A, mn2, mx2, mx3, rdBlk, wrBlk, newBlk, partA, abin, ibin, isShift, AV.cells, AV.one, lay, sub, fillA, lenA, toN, allApart, apartFrom, Nat.testBit, Mem.blk_set_same, Mem.blk_set_ne, Mem.set_set, bit_zero, bit_self, lowBits_or, lowBits_zero, len_setT, sl_same, sl_ne, len_frame, sl_frame,↓op_len, lenOp_slc, lenOp_nils, ↓Post.some, ↓Post_bind, ↓Post_ret, ↓Post_draw, ↓PostL_nil, ↓PostL_cons, Post_fail, ofOpt_some, ofOpt_none, eA_b, eA_i, eA_s, eA_nn, eA_np, eA_pn, eA_lnn, eA_lnp, eA_lpn, eA_i2, eA_i3, blt_dec, Nat.add_assoc, keeps_refl, keeps_at, keeps_up, new_one, and_pow, bit_hi, lowBits_pow, ble_dec, fr_refl, fr_at, fr_up, fr_p, dum_ab, F25, reps, x1, c2, c3, l8, l2, c4, c5, c6, w1, w2', w3, hH1', l8', cutx, e2, s1]
  have nxw : bid (AV.slc nx 0 0 (some 0)) ≠ some w := fun e => by cases e; omega
  rw [bit_hi (show w < nx + 1 by omega), bit_hi (show bb < nx + 1 by omega)]
  exact ⟨⟨and_pow (by omega), and_pow (by omega)⟩, by omega, ⟨_, _, S, ow⟩, fun b h1 h2 h3 => ⟨or_z (low_z (w2 b fun e => by cases e; omega)) (low_z (bit_and h1)), k5 b h1 h3⟩⟩
theorem RPS.newA {h H5 : Mem} {nx nx4 w : Nat} {F : List Fr} {U : List Bool} {s : Int} {A B : List (List Int)} {X : List (List AV)} {R : List (AV × AV)} (r : RPS h nx w F U s A B X R) {i : Nat} (hi : i < R.length) (hF : i < F.length) (hu : U[i]? = some true) {ra : AV} {a : List Int} (hn : nx ≤ nx4)
    (k5 : ∀ q, q ≠ w → q < nx → H5.blk q = h.blk q) (o5 : OR ra H5 nx4 a) (lo : ∀ q, bid ra = some q → nx ≤ q) (hH : ∃ t, H5.blk w = some ⟨t, 217, true, false, rcells (X.set i (rf true F[i] (ra, R[i].2))) s⟩) :
    RPS H5 nx4 w F U s (A.set i a) B (X.set i (rf true F[i] (ra, R[i].2))) (R.set i (ra, R[i].2)) ∧ (∀ q, ROwn U (R.set i (ra, R[i].2)) q → ROwn U R q ∨ nx ≤ q) := by
  have hU := r.hU
  have hR := r.hR
  have hA := r.hA
  have hB := r.hB
  have hw := r.hw
  have own : ∀ q, bid R[i].2 = some q → q ≠ w := fun q hq e => r.nw ⟨i, hi, hu, by rw [e] at hq; exact .inr hq⟩
  have hiU : i < U.length := by omega
  have eu : U[i] = true := by rw [List.getElem?_eq_getElem hiU] at hu; exact Option.some.inj hu
  have S := r.row (h' := H5) (nx' := nx4) (s' := s) (i := i) hi true F[i] a (B[i]'(by omega)) ra R[i].2 hn hH
    (fun _ => o5)
    (fun _ => (r.rB i hi (by omega) hu).keep hn fun q hq => k5 q (own q hq) ((r.rB i hi (by omega) hu).lt hq))
    (fun q h1 h2 _ => k5 q h2 h1) (fun _ q hq => .inr (lo q hq)) (fun _ q hq => .inl ⟨hu, hq⟩) (fun _ q hq hq' => by have := lo q hq; have := (r.rB i hi (by omega) hu).lt hq'; omega)
  have eU : U.set i true = U := by
    have := set_same U i hiU
    rwa [eu] at this
  rw [set_same F i hF, set_same B i (by omega), eU] at S
  refine ⟨S, fun q ⟨j, h1, h2, h3⟩ => ?_⟩
  have h1' : j < R.length := by rwa [List.length_set] at h1
  by_cases c : j = i
  · subst c
    simp only [List.getElem_set_self] at h3
    rcases h3 with h3 | h3
    · exact .inr (lo q h3)
    · exact .inl ⟨j, h1', h2, .inr h3⟩
  · simp only [List.getElem_set_ne (Ne.symm c)] at h3
    exact .inl ⟨j, h1', h2, h3⟩
set_option maxHeartbeats 8000000 in
theorem rslot_yes {h : Mem} {nx w : Nat} {F : List Fr} {U : List Bool} {s : Int} {A B : List (List Int)} {X : List (List AV)} {R : List (AV × AV)} (r : RPS h nx w F U s A B X R) (i : Nat) (hi : i < U.length) (hA : i < A.length) (hu : U[i] = true) (k : Nat) (hk : k < A[i].length) (l9 : A[i].length ≤ 900) (v : Int) : Rch 80 26 [.ptr w 0, .int .i64 i, .int .i64 k, .int .u32 v] h nx w U R (.bool true) F U s (A.set i (A[i].set k v)) B := by
  intro lg hlg
  have hU := r.hU
  have hR := r.hR
  have hF := r.hF
  have hX := r.x9.n
  have hw := r.hw
  obtain ⟨t, hb⟩ := r.hb
  obtain ⟨tc, x1⟩ := (has_in r i hi).at lg hlg
  rw [hu] at x1
  have c2 : (i : Int) < 24 := by omega
  have c3 : i < 24 := by omega
  have hui : U[i]? = some true := by rw [List.getElem?_eq_getElem hi, hu]
  have iR : i < R.length := by omega
  have iF : i < F.length := by omega
  have st := (r_st r i hi hu iR).1
  have l7 := fun lg => ld_at hb hw st lg
  have ra := r.rA i iR hA hui
  have lx := ra.lenOp
  have c4 : ¬ (A[i].length : Int) ≤ (k : Int) := by omega
  have c5 : (k : Int) < (A[i].length : Int) := by omega
  obtain ⟨H1, hH1⟩ : ∃ H1, H1 = h.set nx (some ⟨23, 1, true, false, []⟩) := ⟨_, rfl⟩
  have k1 : ∀ b, b < nx → H1.blk b = h.blk b := fun b hb => by rw [hH1, Mem.blk_set_ne _ _ _ _ (by omega)]
  have l7' := fun lg => ld_at (show H1.blk w = _ from (k1 w hw).trans hb) (show w < nx + 1 by omega) st lg
  have o1 : OR (.slc nx 0 0 (some 0)) H1 (nx + 1) [] := by rw [hH1]; exact or_new h nx
  have ra1 : SV R[i].1 H1 (nx + 1) A[i] := .inl (ra.keep (show nx ≤ nx + 1 by omega) fun q hq => k1 q (ra.lt hq)).rv
  obtain ⟨s2, h2, nx2, tc2, wr2, e2, n2, o2, k2, lo2, m2, w2⟩ := cat_sv o1 ra1 (by simp; omega) (nx + 1)
  rw [List.nil_append] at o2
  have low2 : ∀ q, bid s2 = some q → nx ≤ q := fun q hq => by
    rcases lo2 q hq with h | h
    · cases h; exact Nat.le_refl _
    · omega
  have f2 : ∀ q, q < nx → h2.blk q = h.blk q := fun q hq => by rw [k2 q (by omega) (fun h => by cases h; omega), k1 q hq]
  have hb2 : h2.blk w = some ⟨t, 217, true, false, rcells X s⟩ := (f2 w hw).trans hb
  have fr := r.fr i (by omega) hi iF iR
  rw [hu] at fr
  obtain ⟨b2, t2, r2, rfl, hbn2, hK2⟩ := o2.grow (fun e => by rw [e] at hk; cases hk)
  have b2n : nx ≤ b2 := low2 b2 rfl
  have ex : X[i].set 7 (.slc b2 0 A[i].length none) = rf true F[i] (.slc b2 0 A[i].length none, R[i].2) := by rw [fr]; rfl
  have s1 := fun lg => st_at (n := 1) hb2 (show w < nx2 by omega) (o := i * 9 + 7) (.slc b2 0 A[i].length none) rfl rfl (by rw [r.x9.len]; omega) lg
  simp only [AV.cells] at s1
  rw [rw_fld r.x9 s (by omega) (by omega), ex] at s1
  obtain ⟨H3, hH3⟩ : ∃ H3, H3 = h2.set w (some ⟨t, 217, true, false, rcells (X.set i (rf true F[i] (.slc b2 0 A[i].length none, R[i].2))) s⟩) := ⟨_, rfl⟩
  rw [← hH3] at s1
  have hbw3 : H3.blk w = some ⟨t, 217, true, false, rcells (X.set i (rf true F[i] (.slc b2 0 A[i].length none, R[i].2))) s⟩ := by rw [hH3, Mem.blk_set_same]
  have k3 : ∀ q, q ≠ w → H3.blk q = h2.blk q := fun q hq => by rw [hH3, Mem.blk_set_ne _ _ _ _ hq]
  have hK3 : H3.blk b2 = some ⟨t2, 1, true, true, u32s A[i] ++ r2⟩ := (k3 b2 (by omega)).trans hK2
  have st3 : (rcells (X.set i (rf true F[i] (.slc b2 0 A[i].length none, R[i].2))) s)[i * 9 + 7]? = some (.slc b2 0 A[i].length none) := by
    rw [r_fld (r.x9.set i _ rfl) s (i := i) (by rw [List.length_set]; omega) (by omega), List.getElem_set_self]; rfl
  have l73 := fun lg => ld_at hbw3 (show w < nx2 by omega) st3 lg
  have s4 := fun lg => st_at (n := 1) hK3 hbn2 (o := k) (.int .u32 v) rfl rfl (by simp [u32s_len]; omega) lg
  simp only [AV.cells, set_u32 _ k v hk] at s4
  obtain ⟨H5, hH5⟩ : ∃ H5, H5 = H3.set b2 (some ⟨t2, 1, true, true, u32s (A[i].set k v) ++ r2⟩) := ⟨_, rfl⟩
  rw [← hH5] at s4
  have k5 : ∀ q, q ≠ w → q < nx → H5.blk q = h.blk q := fun q h1 h2 => by rw [hH5, Mem.blk_set_ne _ _ _ _ (by omega), k3 q h1, f2 q h2]
  have o5 : OR (.slc b2 0 A[i].length none) H5 nx2 (A[i].set k v) := .inr (.inr ⟨b2, t2, r2, by rw [List.length_set], hbn2, by rw [hH5, Mem.blk_set_same]⟩)
  obtain ⟨S, ow⟩ := r.newA iR iF hui (show nx ≤ nx2 by omega) k5 o5 low2 ⟨t, by rw [hH5, Mem.blk_set_ne _ _ _ _ (by omega)]; exact hbw3⟩
  have hH1' := hH1.symm
  generalize hL : A[i].length = L at *
  have c6 : ¬ (k : Int) < 0 := by omega
  rw [xF_fr T26]
  simp (maxSteps := 4000000) [↓step_none, ↓step_t, ↓step_f, ↓step_nt, ↓step_nf, ↓op_load, ↓op_store, ↓op_slice, ↓op_app, ↓P_skip, ↓P_exit, ↓P_ret, ↓P_seq, ↓P_cond, ↓P_blk, ↓P_reg, ↓P_draw, ↓P_nil, ↓P_cons, condP_t, condP_f, dum_ab, stepR, want_none, want_some, opRun, ev_t, ev_c, put_none, put_some, resAll, res_tmp, res_cell, oneOf, minI, maxI, min2A, max2A, mn2, mx2, mx3, rdBlk, wrBlk, newBlk, partA, abin, ibin, isShift, AV.cells, AV.one, lay, sub, fillA, lenA, toN, allApart, apartFrom, Nat.testBit, Mem.blk_set_same, Mem.blk_set_ne, Mem.set_set, bit_zero, bit_self, lowBits_or, lowBits_zero, len_setT, sl_same, sl_ne, len_frame, sl_frame,↓op_len, lenOp_slc, lenOp_nils, ↓Post.some, ↓Post_bind, ↓Post_ret, ↓Post_draw, ↓PostL_nil, ↓PostL_cons, Post_fail, ofOpt_some, ofOpt_none, eA_b, eA_i, eA_s, eA_nn, eA_np, eA_pn, eA_lnn, eA_lnp, eA_lpn, eA_i2, eA_i3, blt_dec, Nat.add_assoc, keeps_refl, keeps_at, keeps_up, new_one, and_pow, bit_hi, lowBits_pow, ble_dec, fr_refl, fr_at, fr_up, fr_p, dum_ab, F26, reps, x1, c2, c3, l7, lx, c4, c5, c6, hk, hH1', l7', e2, s1, l73, s4]
  rw [bit_hi (show w < nx + 1 by omega)]
  exact ⟨and_pow (by omega), by omega, ⟨_, _, S, ow⟩, fun b h1 h2 h3 => ⟨or_z (or_z (low_z (w2 b fun e => by cases e; omega)) (low_z (bit_and h1))) (bit_and (by omega)), k5 b h1 h3⟩⟩
end Go.Proofs.YtobcboiemibkkaaT
