/- Frame: the reference's pool: Push where it acts. -/
import Derived.Test.YtobcboiemibkkaaRef4
namespace Go.Proofs.YtobcboiemibkkaaT
open Go Go.Proofs.YtobcboiemibkkaaE Go.Proofs.YtobcboiemibkkaaB
set_option linter.unusedSimpArgs false
set_option linter.unusedVariables false
attribute [local congr] Post_cg PostL_cg condP_cg

theorem OR.one {s : AV} {h : Mem} {nx : Nat} {l : List Int} (g : OR s h nx l) : s.cells = [s] ∧ s.one = true := by
  rcases g with ⟨rfl, rfl⟩ | ⟨c, rfl, rfl, hc, _⟩ | ⟨c, t, r, rfl, hc, _⟩ <;> exact ⟨rfl, rfl⟩
/-- A place's row is another one, new; the pool's block has it. -/
theorem RPS.newB {h h4 H5 : Mem} {nx nx4 w : Nat} {F : List Fr} {U : List Bool} {s : Int} {A B : List (List Int)} {X : List (List AV)} {R : List (AV × AV)} (r : RPS h nx w F U s A B X R) {i : Nat} (hi : i < R.length) (hF : i < F.length) (hu : U[i]? = some true) {rb : AV} {b : List Int} (hn : nx ≤ nx4)
    (k4 : ∀ q, q < nx → h4.blk q = h.blk q) (o4 : OR rb h4 nx4 b) (lo : ∀ q, bid rb = some q → nx ≤ q) {t : TypeId} (hH : H5 = h4.set w (some ⟨t, 217, true, false, rcells (X.set i (rf true F[i] (R[i].1, rb))) s⟩)) :
    RPS H5 nx4 w F U s A (B.set i b) (X.set i (rf true F[i] (R[i].1, rb))) (R.set i (R[i].1, rb)) ∧ (∀ q, ROwn U (R.set i (R[i].1, rb)) q → ROwn U R q ∨ nx ≤ q) ∧ ∀ q, q ≠ w → q < nx → H5.blk q = h.blk q := by
  have hU := r.hU
  have hR := r.hR
  have hA := r.hA
  have hB := r.hB
  have hw := r.hw
  have k5 : ∀ q, q ≠ w → q < nx → H5.blk q = h.blk q := fun q h1 h2 => by rw [hH, Mem.blk_set_ne _ _ _ _ h1, k4 q h2]
  have own : ∀ q, bid R[i].1 = some q → q ≠ w := fun q hq e => r.nw ⟨i, hi, hu, by rw [e] at hq; exact .inl hq⟩
  have hiU : i < U.length := by omega
  have eu : U[i] = true := by rw [List.getElem?_eq_getElem hiU] at hu; exact Option.some.inj hu
  have S := r.row (h' := H5) (nx' := nx4) (s' := s) (i := i) hi true F[i] (A[i]'(by omega)) b R[i].1 rb hn ⟨t, by rw [hH]; exact Mem.blk_set_same ..⟩
    (fun _ => (r.rA i hi (by omega) hu).keep hn fun q hq => k5 q (own q hq) ((r.rA i hi (by omega) hu).lt hq))
    (fun _ => o4.keep (Nat.le_refl _) fun q hq => by rw [hH, Mem.blk_set_ne _ _ _ _ (by have := lo q hq; omega)])
    (fun q h1 h2 _ => k5 q h2 h1) (fun _ q hq => .inl ⟨hu, hq⟩) (fun _ q hq => .inr (lo q hq)) (fun _ q hq hq' => by have := lo q hq'; have := (r.rA i hi (by omega) hu).lt hq; omega)
  have eU : U.set i true = U := by
    have := set_same U i hiU
    rwa [eu] at this
  rw [set_same F i hF, set_same A i (by omega), eU] at S
  refine ⟨S, fun q ⟨j, h1, h2, h3⟩ => ?_, k5⟩
  have h1' : j < R.length := by rwa [List.length_set] at h1
  by_cases c : j = i
  · subst c
    simp only [List.getElem_set_self] at h3
    rcases h3 with h3 | h3
    · exact .inl ⟨j, h1', h2, .inl h3⟩
    · exact .inr (lo q h3)
  · simp only [List.getElem_set_ne (Ne.symm c)] at h3
    exact .inl ⟨j, h1', h2, h3⟩
set_option maxHeartbeats 8000000 in
theorem rpush_yes {h : Mem} {nx w : Nat} {F : List Fr} {U : List Bool} {s : Int} {A B : List (List Int)} {X : List (List AV)} {R : List (AV × AV)} (r : RPS h nx w F U s A B X R) (i : Nat) (hi : i < U.length) (hB : i < B.length) (hu : U[i] = true) (v : Int) (hl : B[i].length < 8) : Rch 80 24 [.ptr w 0, .int .i64 i, .int .u32 v] h nx w U R (.bool true) F U s A (B.set i (B[i] ++ [v])) := by
  intro lg hlg
  have hU := r.hU
  have hR := r.hR
  have hF := r.hF
  have hX := r.x9.n
  have hw := r.hw
  obtain ⟨t, hb⟩ := r.hb
  obtain ⟨tc, x1⟩ := (has_in r i hi).at lg hlg
  rw [hu] at x1
  have c2 : (i : Int) < 24 := by omega
  have c3 : i < 24 := by omega
  have c8 : ¬ (8 : Int) ≤ (B[i].length : Int) := by omega
  have hui : U[i]? = some true := by rw [List.getElem?_eq_getElem hi, hu]
  have iR : i < R.length := by omega
  have iF : i < F.length := by omega
  have st := (r_st r i hi hu iR).2
  have l8 := fun lg => ld_at hb hw st lg
  have rb := r.rB i iR hB hui
  have lx := rb.lenOp
  obtain ⟨H1, hH1⟩ : ∃ H1, H1 = h.set nx (some ⟨23, 1, true, false, []⟩) := ⟨_, rfl⟩
  have k1 : ∀ b, b < nx → H1.blk b = h.blk b := fun b hb => by rw [hH1, Mem.blk_set_ne _ _ _ _ (by omega)]
  have l8' := fun lg => ld_at (show H1.blk w = _ from (k1 w hw).trans hb) (show w < nx + 1 by omega) st lg
  have o1 : OR (.slc nx 0 0 (some 0)) H1 (nx + 1) [] := by rw [hH1]; exact or_new h nx
  have rb1 : SV R[i].2 H1 (nx + 1) B[i] := .inl (rb.keep (show nx ≤ nx + 1 by omega) fun q hq => k1 q (rb.lt hq)).rv
  obtain ⟨s2, h2, nx2, tc2, wr2, e2, n2, o2, k2, lo2, m2, w2⟩ := cat_sv o1 rb1 (by simp; omega) (nx + 1)
  rw [List.nil_append] at o2
  have low2 : ∀ q, bid s2 = some q → nx ≤ q := fun q hq => by
    rcases lo2 q hq with h | h
    · cases h; exact Nat.le_refl _
    · omega
  have f2 : ∀ q, q < nx → h2.blk q = h.blk q := fun q hq => by rw [k2 q (by omega) (fun h => by cases h; omega), k1 q hq]
  obtain ⟨H3, hH3⟩ : ∃ H3, H3 = h2.set nx2 (some ⟨23, 1, true, false, u32s [v]⟩) := ⟨_, rfl⟩
  have k3 : ∀ b, b < nx2 → H3.blk b = h2.blk b := fun b hb => by rw [hH3, Mem.blk_set_ne _ _ _ _ (by omega)]
  have o3 : OR s2 H3 (nx2 + 1) B[i] := o2.keep (by omega) fun b hb => k3 b (o2.lt hb)
  have gx : RV 1 [v].length (.slc nx2 0 [v].length (some 1)) H3 0 (nx2 + 1) (u32s [v]) := rv_lit (by omega) (by rw [hH3, Mem.blk_set_same]) _
  obtain ⟨s4, h4, nx4, tc4, wr4, e4, n4, o4, k4, lo4, m4, w4⟩ := cat_or o3 gx (by simp; omega) (nx2 + 1)
  have low4 : ∀ q, bid s4 = some q → nx ≤ q := fun q hq => by
    rcases lo4 q hq with h | h
    · exact low2 q h
    · omega
  have f4 : ∀ q, q < nx → h4.blk q = h.blk q := fun q hq => by rw [k4 q (by omega) (fun h => by have := low2 q h; omega), k3 q (by omega), f2 q hq]
  have hb4 : h4.blk w = some ⟨t, 217, true, false, rcells X s⟩ := (f4 w hw).trans hb
  have fr := r.fr i (by omega) hi iF iR
  rw [hu] at fr
  have ex : X[i].set 8 s4 = rf true F[i] (R[i].1, s4) := by rw [fr]; rfl
  have s1 := fun lg => st_at (n := 1) hb4 (show w < nx4 by omega) (o := i * 9 + 8) s4 (by rw [o4.one.1]; rfl) (by rw [o4.one.1]; simp only [List.all_cons, List.all_nil, o4.one.2]; rfl) (by rw [r.x9.len]; omega) lg
  rw [o4.one.1, rw_fld r.x9 s (by omega) (by omega), ex] at s1
  obtain ⟨H5, hH5⟩ : ∃ H5, H5 = h4.set w (some ⟨t, 217, true, false, rcells (X.set i (rf true F[i] (R[i].1, s4))) s⟩) := ⟨_, rfl⟩
  obtain ⟨S, ow, k5⟩ := r.newB iR iF hui (show nx ≤ nx4 by omega) f4 o4 low4 hH5
  rw [← hH5] at s1
  have hH3' := hH3.symm
  have hH1' := hH1.symm
  simp only [u32s, List.map_cons, List.map_nil, List.length_singleton] at e4 hH3'
  rw [xF_fr T24]
  simp (maxSteps := 4000000) [↓step_none, ↓step_t, ↓step_f, ↓step_nt, ↓step_nf, ↓op_load, ↓op_store, ↓op_slice, ↓op_app, ↓P_skip, ↓P_exit, ↓P_ret, ↓P_seq, ↓P_cond, ↓P_blk, ↓P_reg, ↓P_draw, ↓P_nil, ↓P_cons, condP_t, condP_f, dum_ab, stepR, want_none, want_some, opRun, ev_t, ev_c, put_none, put_some, resAll, res_tmp, res_cell, oneOf, minI, maxI, min2A, max2A, mn2, mx2, mx3, rdBlk, wrBlk, newBlk, partA, abin, ibin, isShift, AV.cells, AV.one, lay, sub, fillA, lenA, toN, allApart, apartFrom, Nat.testBit, Mem.blk_set_same, Mem.blk_set_ne, Mem.set_set, bit_zero, bit_self, lowBits_or, lowBits_zero, len_setT, sl_same, sl_ne, len_frame, sl_frame,↓op_len, lenOp_slc, lenOp_nils, ↓Post.some, ↓Post_bind, ↓Post_ret, ↓Post_draw, ↓PostL_nil, ↓PostL_cons, Post_fail, ofOpt_some, ofOpt_none, eA_b, eA_i, eA_s, eA_nn, eA_np, eA_pn, eA_lnn, eA_lnp, eA_lpn, eA_i2, eA_i3, blt_dec, Nat.add_assoc, keeps_refl, keeps_at, keeps_up, new_one, and_pow, bit_hi, lowBits_pow, ble_dec, fr_refl, fr_at, fr_up, fr_p, dum_ab, F24, reps, x1, c2, c3, l8, lx, c8, hH1', l8', e2, hH3', e4, s1]
  have nb2 : bid R[i].2 ≠ some nx2 := fun e => by have := rb.lt e; omega
  have ne2 : bid (AV.slc nx 0 0 (some 0)) ≠ some nx2 := fun e => by cases e; omega
  rw [bit_hi (show w < nx + 1 by omega)]
  refine ⟨⟨and_pow (by omega), and_pow (by omega), and_pow (by omega), or_z (w2 nx2 ne2) (new_up (Nat.le_refl _)), or_z (m2 nx2 ne2 nb2) (new_up (Nat.le_refl _))⟩, by omega, ⟨_, _, S, ow⟩, fun b h1 h2 h3 => ⟨or_z (low_z (w2 b fun e => by cases e; omega)) (or_z (low_z (w4 b fun e => by have := low2 b e; omega)) (low_z (bit_and h1))), k5 b h1 h3⟩⟩
end Go.Proofs.YtobcboiemibkkaaT
