/- Frame: the pool's calls: Push, Pop, Slot. -/
import Derived.Test.YtobcboiemibkkaaOps
namespace Go.Proofs.YtobcboiemibkkaaT
open Go Go.Proofs.YtobcboiemibkkaaE Go.Proofs.YtobcboiemibkkaaB
set_option linter.unusedSimpArgs false
set_option linter.unusedVariables false
attribute [local congr] Post_cg PostL_cg condP_cg

/-- One frame is another, with rows of its own. -/
theorem PS.row {h h' : Mem} {nx nx' p : Nat} {F : List Fr} {U U' : List Bool} {s s' : Int} {A B : List (List Int)} (ps : PS h nx p F U s A B) {i : Nat} (hi : i < F.length) {f : Fr} {a b : List Int} (hn : nx ≤ nx') (hU' : U'.length = 24)
    (hb' : ∃ t, h'.blk p = some ⟨t, 217, true, false, pcells (F.set i f) U' s'⟩) (ra : OR f.sl h' nx' a) (rb : OR f.st h' nx' b)
    (fr : ∀ b, b < nx → b ≠ p → bid F[i].sl ≠ some b → bid F[i].st ≠ some b → h'.blk b = h.blk b)
    (na : ∀ b, bid f.sl = some b → bid F[i].sl = some b ∨ nx ≤ b) (nb : ∀ b, bid f.st = some b → bid F[i].st = some b ∨ nx ≤ b) (nc : ∀ b, bid f.sl = some b → bid f.st ≠ some b) :
    PS h' nx' p (F.set i f) U' s' (A.set i a) (B.set i b) := by
  have hA := ps.hA
  have hB := ps.hB
  have hF := ps.hF
  have g : ∀ j (h1 : j < (F.set i f).length), j ≠ i → ∃ h2 : j < F.length, (F.set i f)[j] = F[j] := fun j h1 c => by
    have h2 : j < F.length := by rwa [List.length_set] at h1
    exact ⟨h2, List.getElem_set_ne (Ne.symm c) _⟩
  have gi : ∀ (h1 : i < (F.set i f).length), (F.set i f)[i] = f := fun h1 => List.getElem_set_self _
  have lA : ∀ j (h1 : j < F.length) b, bid F[j].sl = some b → b < nx := fun j h1 b e => (ps.rA j h1 (by omega)).lt e
  have lB : ∀ j (h1 : j < F.length) b, bid F[j].st = some b → b < nx := fun j h1 b e => (ps.rB j h1 (by omega)).lt e
  have hp := ps.hp
  have np : ∀ b, Own (F.set i f) b → b ≠ p := fun b ho => by
    rcases own_set hi ho with h | h | h
    · exact ps.np b h
    · rcases na b h with h | h
      · exact ps.np b ⟨i, hi, .inl h⟩
      · omega
    · rcases nb b h with h | h
      · exact ps.np b ⟨i, hi, .inr h⟩
      · omega
  refine ⟨by rw [List.length_set]; exact hF, hU', by rw [List.length_set]; exact hA, by rw [List.length_set]; exact hB, hb', fun j h1 h2 => ?_, fun j h1 h2 => ?_, by omega, np, fun j k h1 h2 q ne e => ?_, fun j k h1 h2 q ne e => ?_, fun j k h1 h2 q e => ?_⟩
  · by_cases c : j = i
    · subst c
      rw [gi h1]
      simp only [List.getElem_set_self]
      exact ra
    · obtain ⟨h3, e⟩ := g j h1 c
      rw [e]
      simp only [List.getElem_set_ne (Ne.symm c)]
      exact (ps.rA j h3 (by omega)).keep hn fun b hb => fr b (lA j h3 b hb) (ps.np b ⟨j, h3, .inl hb⟩) (ps.dA j i h3 hi b c hb) (ps.dC j i h3 hi b hb)
  · by_cases c : j = i
    · subst c
      rw [gi h1]
      simp only [List.getElem_set_self]
      exact rb
    · obtain ⟨h3, e⟩ := g j h1 c
      rw [e]
      simp only [List.getElem_set_ne (Ne.symm c)]
      exact (ps.rB j h3 (by omega)).keep hn fun b hb => fr b (lB j h3 b hb) (ps.np b ⟨j, h3, .inr hb⟩) (fun h => ps.dC i j hi h3 b h hb) (ps.dB j i h3 hi b c hb)
  · by_cases cj : j = i
    · subst cj
      rw [gi h1] at e
      obtain ⟨h3, e3⟩ := g k h2 (Ne.symm ne)
      rw [e3]
      intro e4
      rcases na q e with h | h
      · exact ps.dA j k hi h3 q ne h e4
      · have := lA k h3 q e4; omega
    · obtain ⟨h3, e3⟩ := g j h1 cj
      rw [e3] at e
      by_cases ck : k = i
      · subst ck
        rw [gi h2]
        intro e4
        rcases na q e4 with h | h
        · exact ps.dA j k h3 hi q ne e h
        · have := lA j h3 q e; omega
      · obtain ⟨h4, e4⟩ := g k h2 ck
        rw [e4]
        exact ps.dA j k h3 h4 q ne e
  · by_cases cj : j = i
    · subst cj
      rw [gi h1] at e
      obtain ⟨h3, e3⟩ := g k h2 (Ne.symm ne)
      rw [e3]
      intro e4
      rcases nb q e with h | h
      · exact ps.dB j k hi h3 q ne h e4
      · have := lB k h3 q e4; omega
    · obtain ⟨h3, e3⟩ := g j h1 cj
      rw [e3] at e
      by_cases ck : k = i
      · subst ck
        rw [gi h2]
        intro e4
        rcases nb q e4 with h | h
        · exact ps.dB j k h3 hi q ne e h
        · have := lB j h3 q e; omega
      · obtain ⟨h4, e4⟩ := g k h2 ck
        rw [e4]
        exact ps.dB j k h3 h4 q ne e
  · by_cases cj : j = i
    · subst cj
      rw [gi h1] at e
      by_cases ck : k = j
      · subst ck
        rw [gi h2]
        exact nc q e
      · obtain ⟨h3, e3⟩ := g k h2 ck
        rw [e3]
        intro e4
        rcases na q e with h | h
        · exact ps.dC j k hi h3 q h e4
        · have := lB k h3 q e4; omega
    · obtain ⟨h3, e3⟩ := g j h1 cj
      rw [e3] at e
      by_cases ck : k = i
      · subst ck
        rw [gi h2]
        intro e4
        rcases nb q e4 with h | h
        · exact ps.dC j k h3 hi q e h
        · have := lA j h3 q e; omega
      · obtain ⟨h4, e4⟩ := g k h2 ck
        rw [e4]
        exact ps.dC j k h3 h4 q e
theorem low_z {lg m x : Nat} (h : m &&& 2 ^ x = 0) : lowBits lg m &&& 2 ^ x = 0 := by
  apply Nat.eq_of_testBit_eq; intro i
  rw [Nat.testBit_and, lowBits_test, Nat.zero_testBit]
  have := congrArg (fun k => Nat.testBit k i) h
  simp only [Nat.testBit_and, Nat.zero_testBit] at this
  cases a : m.testBit i <;> cases b : (2 ^ x).testBit i <;> simp_all
theorem set_same {α : Type} (l : List α) (i : Nat) (h : i < l.length) : l.set i l[i] = l := by
  apply List.ext_getElem?
  intro j
  by_cases c : i = j
  · subst c; rw [List.getElem?_set_self h, List.getElem?_eq_getElem h]
  · rw [List.getElem?_set_ne c]
set_option maxHeartbeats 4000000 in
theorem push_yes {h : Mem} {nx p : Nat} {F : List Fr} {U : List Bool} {s : Int} {A B : List (List Int)} (ps : PS h nx p F U s A B) (i : Nat) (hi : i < U.length) (hf : i < F.length) (hA : i < A.length) (hB : i < B.length) (hu : U[i] = true) (w : Int) (hl : B[i].length < 8) :
    ∃ st, Pch 80 17 [.ptr p 0, .int .i64 i, .int .u32 w] h nx p F (.bool true) (F.set i { F[i] with st := st }) U s A (B.set i (B[i] ++ [w])) := by
  obtain ⟨t, hb⟩ := ps.hb
  have hU := ps.hU
  have hp := ps.hp
  have l1 := fun lg => ld_at hb ps.hp (o := i * 8 + 7) (v := F[i].st) (by rw [p_fld ps.hF hU s hf (by omega)]; rfl) lg
  have rb := ps.rB i hf hB
  have ra := ps.rA i hf hA
  have hH : (h.set nx (some ⟨23, 1, true, false, u32s [w]⟩)).blk nx = some ⟨23, 1, true, false, u32s [w]⟩ := Mem.blk_set_same ..
  have nst : ∀ b, bid F[i].st = some b → b < nx := fun b e => rb.lt e
  have rb' : OR F[i].st (h.set nx (some ⟨23, 1, true, false, u32s [w]⟩)) (nx + 1) B[i] := rb.keep (by omega) fun b e => Mem.blk_set_ne _ _ _ _ (by have := nst b e; omega)
  have gx : RV 1 [w].length (.slc nx 0 [w].length (some 1)) (h.set nx (some ⟨23, 1, true, false, u32s [w]⟩)) 0 (nx + 1) (u32s [w]) := rv_lit (by omega) hH _
  obtain ⟨s', h', nx', tc', wr', e, e1, e2, e3, e4, e5, e6⟩ := cat_or rb' gx (by simp; omega) (nx + 1)
  refine ⟨s', fun lg hlg => ?_⟩
  obtain ⟨tc, x1⟩ := (is_in ps i hi).at lg hlg
  rw [hu] at x1
  have ps' : p ≠ nx := by omega
  have pst : bid F[i].st ≠ some p := fun e => ps.np p ⟨i, hf, .inr e⟩ rfl
  have hb' : h'.blk p = some ⟨t, 217, true, false, pcells F U s⟩ := by rw [e3 p (by omega) pst, Mem.blk_set_ne _ _ _ _ ps', hb]
  obtain ⟨b', n', rfl⟩ : ∃ b n, s' = .slc b 0 n none := by
    rcases e2 with ⟨_, h0⟩ | ⟨_, _, h0, _⟩ | ⟨b, t, r, rfl, _⟩
    · simp at h0
    · simp at h0
    · exact ⟨_, _, rfl⟩
  have s1 := fun lg => st_at (n := 1) hb' (show p < nx' by omega) (o := i * 8 + 7) (.slc b' 0 n' none) rfl rfl (by rw [plen ps.hF hU]; omega) lg
  simp only [AV.cells, w_fld ps.hF hU s hf (j := 7) (by omega) (.slc b' 0 n' none) { F[i] with st := .slc b' 0 n' none } rfl] at s1
  have c1 : (i : Int) < 24 := by omega
  have c2 : i < 24 := by omega
  have ll := rb.lenOp
  have c3 : ¬ (8 : Int) ≤ (B[i].length : Int) := by omega
  simp only [u32s, List.map_cons, List.map_nil, List.length_singleton] at e
  rw [xF_fr T17]
  simp (maxSteps := 4000000) [↓step_none, ↓step_t, ↓step_f, ↓step_nt, ↓step_nf, ↓op_load, ↓op_store, ↓op_slice, ↓op_app, ↓P_skip, ↓P_exit, ↓P_ret, ↓P_seq, ↓P_cond, ↓P_blk, ↓P_reg, ↓P_draw, ↓P_nil, ↓P_cons, condP_t, condP_f, dum_ab, stepR, want_none, want_some, opRun, ev_t, ev_c, put_none, put_some, resAll, res_tmp, res_cell, oneOf, minI, maxI, min2A, max2A, mn2, mx2, mx3, rdBlk, wrBlk, newBlk, partA, abin, ibin, isShift, AV.cells, AV.one, lay, sub, fillA, lenA, toN, allApart, apartFrom, Nat.testBit, Mem.blk_set_same, Mem.blk_set_ne, Mem.set_set, bit_zero, bit_self, lowBits_or, lowBits_zero, len_setT, sl_same, sl_ne, len_frame, sl_frame,↓op_len, lenOp_slc, lenOp_nils, ↓Post.some, ↓Post_bind, ↓Post_ret, ↓Post_draw, ↓PostL_nil, ↓PostL_cons, Post_fail, ofOpt_some, ofOpt_none, eA_b, eA_i, eA_s, eA_nn, eA_np, eA_pn, eA_lnn, eA_lnp, eA_lpn, eA_i2, eA_i3, blt_dec, Nat.add_assoc, keeps_refl, keeps_at, keeps_up, new_one, and_pow, bit_hi, lowBits_pow, ble_dec, fr_refl, fr_at, fr_up, fr_p, dum_ab, F17, reps, c1, c2, x1, l1, ll, c3, e, s1]
  have hne : ∀ q, bid F[i].st = some q → q ≠ p := fun q hq => ps.np q ⟨i, hf, .inr hq⟩
  have hfr : ∀ b, b < nx → b ≠ p → bid F[i].st ≠ some b → (h'.set p (some ⟨t, 217, true, false, pcells (F.set i { F[i] with st := .slc b' 0 n' none }) U s⟩)).blk b = h.blk b := fun b hb hbp hst => by
    rw [Mem.blk_set_ne _ _ _ _ hbp, e3 b (by omega) hst, Mem.blk_set_ne _ _ _ _ (by omega)]
  have nb : ∀ b, bid (AV.slc b' 0 n' none) = some b → bid F[i].st = some b ∨ nx ≤ b := fun b hb => by
    rcases e4 b hb with h | h
    · exact .inl h
    · exact .inr (by omega)
  have nbp : ∀ b, bid (AV.slc b' 0 n' none) = some b → b ≠ p := fun b hb => by
    rcases nb b hb with h | h
    · exact hne b h
    · omega
  generalize hH2 : h'.set p (some ⟨t, 217, true, false, pcells (F.set i { F[i] with st := .slc b' 0 n' none }) U s⟩) = H2 at *
  have hb2 : H2.blk p = some ⟨t, 217, true, false, pcells (F.set i { F[i] with st := .slc b' 0 n' none }) U s⟩ := by rw [← hH2, Mem.blk_set_same]
  have ra2 : OR F[i].sl H2 nx' A[i] := ra.keep (by omega) fun b hb => hfr b (ra.lt hb) (ps.np b ⟨i, hf, .inl hb⟩) (ps.dC i i hf hf b hb)
  have rb2 : OR (.slc b' 0 n' none) H2 nx' (B[i] ++ [w]) := e2.keep (Nat.le_refl _) fun b hb => by rw [← hH2, Mem.blk_set_ne _ _ _ _ (nbp b hb)]
  have fin := ps.row hf (f := { F[i] with st := .slc b' 0 n' none }) (show nx ≤ nx' by omega) hU ⟨t, hb2⟩ ra2 rb2 (fun b h1 h2 _ h4 => hfr b h1 h2 h4) (fun b hb => .inl hb) nb (fun b h1 h2 => by
    rcases nb b h2 with h | h
    · exact ps.dC i i hf hf b h1 h
    · have := ra.lt h1; omega)
  rw [set_same A i hA] at fin
  refine ⟨bit_and (Ne.symm ps'), by omega, fin, fun b ho => ?_, fun b hbp ho => ⟨or_z (low_z (e6 b fun h => ho ⟨i, hf, .inr h⟩)) (low_z (bit_and hbp)), fun hlt => hfr b hlt hbp fun h => ho ⟨i, hf, .inr h⟩⟩⟩
  rcases own_set hf ho with h | h | h
  · exact .inl h
  · exact .inl ⟨i, hf, .inl h⟩
  · rcases nb b h with h | h
    · exact .inl ⟨i, hf, .inr h⟩
    · exact .inr h
/-- The last one is cut off. -/
theorem cut_or {s : AV} {h : Mem} {nx : Nat} {l : List Int} {x : Int} (g : OR s h nx (l ++ [x])) : ∃ b t r, s = .slc b 0 (l.length + 1) none ∧ b < nx ∧ h.blk b = some ⟨t, 1, true, true, u32s l ++ (.int .u32 x :: r)⟩ ∧
    ∀ lg, sliceA 1 s none (some (.int .i64 l.length)) none h nx lg = some ⟨.slc b 0 l.length none, h, nx, bit lg b, 0⟩ := by
  rcases g with ⟨_, h0⟩ | ⟨_, _, h0, _⟩ | ⟨b, t, r, rfl, hb, hK⟩
  · simp at h0
  · simp at h0
  · have e : u32s (l ++ [x]) ++ r = u32s l ++ (.int .u32 x :: r) := by rw [u32s_app, List.append_assoc]; rfl
    rw [e] at hK
    refine ⟨b, t, r, by simp, hb, hK, fun lg => ?_⟩
    have e2 : (l ++ [x]).length = l.length + 1 := by simp
    have e3 : bnd (l.length + 1) ((u32s l ++ (.int .u32 x :: r)).length / 1) (some (.int .i64 (l.length : Nat))) = some l.length := by
      have : l.length ≤ (u32s l ++ (.int .u32 x :: r)).length / 1 := by simp [u32s_len]
      exact toNle_nat this
    have e4 : bnd 0 l.length none = some 0 := rfl
    rw [e2]
    have b1 : Nat.blt 0 1 = true := rfl
    have b2 : Nat.beq 1 1 = true := rfl
    simp only [sliceA, A.bind, rdBlk, blt_of hb, hK, b1, b2, Bool.and_self, e3, e4, A.ret, Nat.or_zero, Nat.zero_mul, Nat.add_zero, Nat.sub_zero]
set_option maxHeartbeats 4000000 in
theorem pop_yes {h : Mem} {nx p : Nat} {F : List Fr} {U : List Bool} {s : Int} {A B : List (List Int)} (ps : PS h nx p F U s A B) (i : Nat) (hi : i < U.length) (hf : i < F.length) (hA : i < A.length) (hB : i < B.length) (hu : U[i] = true) {l : List Int} {x : Int} (hl : B[i] = l ++ [x]) (l9 : l.length ≤ 1000) :
    ∃ st, Pch 80 16 [.ptr p 0, .int .i64 i] h nx p F (.tup [.int .u32 x, .bool true]) (F.set i { F[i] with st := st }) U s A (B.set i l) := by
  obtain ⟨t, hb⟩ := ps.hb
  have hU := ps.hU
  have hp := ps.hp
  have l1 := fun lg => ld_at hb ps.hp (o := i * 8 + 7) (v := F[i].st) (by rw [p_fld ps.hF hU s hf (by omega)]; rfl) lg
  have rb := ps.rB i hf hB
  have ra := ps.rA i hf hA
  rw [hl] at rb
  obtain ⟨bb, tt, rr, hst, hbn, hK, cutx⟩ := cut_or rb
  rw [hst] at cutx
  have nbp : bb ≠ p := ps.np bb ⟨i, hf, .inr (by rw [hst]; rfl)⟩
  refine ⟨.slc bb 0 l.length none, fun lg hlg => ?_⟩
  obtain ⟨tc, x1⟩ := (is_in ps i hi).at lg hlg
  rw [hu] at x1
  have s1 := fun lg => st_at (n := 1) hb ps.hp (o := i * 8 + 7) (.slc bb 0 l.length none) rfl rfl (by rw [plen ps.hF hU]; omega) lg
  simp only [AV.cells, w_fld ps.hF hU s hf (j := 7) (by omega) (.slc bb 0 l.length none) { F[i] with st := .slc bb 0 l.length none } rfl] at s1
  have c1 : (i : Int) < 24 := by omega
  have c2 : i < 24 := by omega
  have l2 := fun lg => ld_at hK hbn (o := l.length) (v := .int .u32 x) (by rw [List.getElem?_append_right (by rw [u32s_len]; exact Nat.le_refl _), u32s_len, Nat.sub_self]; rfl) lg
  have w1 : IntKind.i64.wrap (((l.length + 1 : Nat) : Int) - 1) = (l.length : Int) := by rw [IntKind.wrap_i64]; omega
  have w2 : IntKind.i64.wrap ((l.length : Int) + 1 - 1) = (l.length : Int) := by rw [IntKind.wrap_i64]; omega
  have w3 : IntKind.i64.wrap (l.length : Int) = (l.length : Int) := by rw [IntKind.wrap_i64]; omega
  have c4 : ((((l.length + 1 : Nat) : Int)) == 0) = false := by
    have : ¬ (((l.length + 1 : Nat) : Int)) = 0 := by omega
    simpa using this
  have c5 : (((l.length : Int) + 1) == 0) = false := by
    have : ¬ ((l.length : Int) + 1) = 0 := by omega
    simpa using this
  have c6 : (l.length : Int) < (l.length : Int) + 1 := by omega
  rw [hst] at l1
  rw [xF_fr T16]
  simp (maxSteps := 4000000) [↓step_none, ↓step_t, ↓step_f, ↓step_nt, ↓step_nf, ↓op_load, ↓op_store, ↓op_slice, ↓op_app, ↓P_skip, ↓P_exit, ↓P_ret, ↓P_seq, ↓P_cond, ↓P_blk, ↓P_reg, ↓P_draw, ↓P_nil, ↓P_cons, condP_t, condP_f, dum_ab, stepR, want_none, want_some, opRun, ev_t, ev_c, put_none, put_some, resAll, res_tmp, res_cell, oneOf, minI, maxI, min2A, max2A, mn2, mx2, mx3, rdBlk, wrBlk, newBlk, partA, abin, ibin, isShift, AV.cells, AV.one, lay, sub, fillA, lenA, toN, allApart, apartFrom, Nat.testBit, Mem.blk_set_same, Mem.blk_set_ne, Mem.set_set, bit_zero, bit_self, lowBits_or, lowBits_zero, len_setT, sl_same, sl_ne, len_frame, sl_frame,↓op_len, lenOp_slc, lenOp_nils, ↓Post.some, ↓Post_bind, ↓Post_ret, ↓Post_draw, ↓PostL_nil, ↓PostL_cons, Post_fail, ofOpt_some, ofOpt_none, eA_b, eA_i, eA_s, eA_nn, eA_np, eA_pn, eA_lnn, eA_lnp, eA_lpn, eA_i2, eA_i3, blt_dec, Nat.add_assoc, keeps_refl, keeps_at, keeps_up, new_one, and_pow, bit_hi, lowBits_pow, ble_dec, fr_refl, fr_at, fr_up, fr_p, dum_ab, F16, c1, c2, x1, l1, l2, c4, c5, c6, w1, w2, w3, cutx, s1]
  have rb2' : OR (.slc bb 0 l.length none) h nx l := .inr (.inr ⟨bb, tt, .int .u32 x :: rr, rfl, hbn, hK⟩)
  generalize hH2 : h.set p (some ⟨t, 217, true, false, pcells (F.set i { F[i] with st := .slc bb 0 l.length none }) U s⟩) = H2 at *
  have hb2 : H2.blk p = some ⟨t, 217, true, false, pcells (F.set i { F[i] with st := .slc bb 0 l.length none }) U s⟩ := by rw [← hH2, Mem.blk_set_same]
  have hfr : ∀ b, b ≠ p → H2.blk b = h.blk b := fun b hbp => by rw [← hH2, Mem.blk_set_ne _ _ _ _ hbp]
  have ra2 : OR F[i].sl H2 nx A[i] := ra.keep (Nat.le_refl _) fun b hb => hfr b (ps.np b ⟨i, hf, .inl hb⟩)
  have rb2 : OR (.slc bb 0 l.length none) H2 nx l := rb2'.keep (Nat.le_refl _) fun b hb => by cases hb; exact hfr bb nbp
  have fin := ps.row hf (f := { F[i] with st := .slc bb 0 l.length none }) (Nat.le_refl nx) hU ⟨t, hb2⟩ ra2 rb2 (fun b h1 h2 _ h4 => hfr b h2) (fun b hb => .inl hb) (fun b hb => .inl (by rw [hst]; exact hb)) (fun b h1 h2 => ps.dC i i hf hf b h1 (by rw [hst]; exact h2))
  rw [set_same A i hA] at fin
  refine ⟨fin, fun b ho => ?_, fun b hbp ho => ⟨low_z (bit_and hbp), fun hlt => hfr b hbp⟩⟩
  rcases own_set hf ho with h | h | h
  · exact .inl h
  · exact .inl ⟨i, hf, .inl h⟩
  · exact .inl ⟨i, hf, .inr (by rw [hst]; exact h)⟩
theorem pop_no {h : Mem} {nx p : Nat} {i : Int} (x : Rd 30 29 [.ptr p 0, .int .i64 i] h nx (.bool false)) : Rd 80 16 [.ptr p 0, .int .i64 i] h nx (.tup [.int .u32 0, .bool false]) := by
  intro lg hlg
  obtain ⟨tc, x1⟩ := x.at lg hlg
  rw [xF_fr T16]
  simp (maxSteps := 4000000) [↓step_none, ↓step_t, ↓step_f, ↓step_nt, ↓step_nf, ↓op_load, ↓op_store, ↓op_slice, ↓op_app, ↓P_skip, ↓P_exit, ↓P_ret, ↓P_seq, ↓P_cond, ↓P_blk, ↓P_reg, ↓P_draw, ↓P_nil, ↓P_cons, condP_t, condP_f, dum_ab, stepR, want_none, want_some, opRun, ev_t, ev_c, put_none, put_some, resAll, res_tmp, res_cell, oneOf, minI, maxI, min2A, max2A, mn2, mx2, mx3, rdBlk, wrBlk, newBlk, partA, abin, ibin, isShift, AV.cells, AV.one, lay, sub, fillA, lenA, toN, allApart, apartFrom, Nat.testBit, Mem.blk_set_same, Mem.blk_set_ne, Mem.set_set, bit_zero, bit_self, lowBits_or, lowBits_zero, len_setT, sl_same, sl_ne, len_frame, sl_frame,↓op_len, lenOp_slc, lenOp_nils, ↓Post.some, ↓Post_bind, ↓Post_ret, ↓Post_draw, ↓PostL_nil, ↓PostL_cons, Post_fail, ofOpt_some, ofOpt_none, eA_b, eA_i, eA_s, eA_nn, eA_np, eA_pn, eA_lnn, eA_lnp, eA_lpn, eA_i2, eA_i3, blt_dec, Nat.add_assoc, keeps_refl, keeps_at, keeps_up, new_one, and_pow, bit_hi, lowBits_pow, ble_dec, fr_refl, fr_at, fr_up, fr_p, dum_ab, F16, x1]
theorem pop_nil {h : Mem} {nx p : Nat} {F : List Fr} {U : List Bool} {s : Int} {A B : List (List Int)} (ps : PS h nx p F U s A B) (i : Nat) (hi : i < U.length) (hf : i < F.length) (hB : i < B.length) (hu : U[i] = true) (hl : B[i] = []) : Rd 80 16 [.ptr p 0, .int .i64 i] h nx (.tup [.int .u32 0, .bool false]) := by
  intro lg hlg
  obtain ⟨t, hb⟩ := ps.hb
  have hU := ps.hU
  have l1 := fun lg => ld_at hb ps.hp (o := i * 8 + 7) (v := F[i].st) (by rw [p_fld ps.hF hU s hf (by omega)]; rfl) lg
  obtain ⟨tc, x1⟩ := (is_in ps i hi).at lg hlg
  rw [hu] at x1
  have ll := (ps.rB i hf hB).lenOp
  rw [hl] at ll
  have c1 : (i : Int) < 24 := by omega
  have c2 : i < 24 := by omega
  rw [xF_fr T16]
  simp (maxSteps := 4000000) [↓step_none, ↓step_t, ↓step_f, ↓step_nt, ↓step_nf, ↓op_load, ↓op_store, ↓op_slice, ↓op_app, ↓P_skip, ↓P_exit, ↓P_ret, ↓P_seq, ↓P_cond, ↓P_blk, ↓P_reg, ↓P_draw, ↓P_nil, ↓P_cons, condP_t, condP_f, dum_ab, stepR, want_none, want_some, opRun, ev_t, ev_c, put_none, put_some, resAll, res_tmp, res_cell, oneOf, minI, maxI, min2A, max2A, mn2, mx2, mx3, rdBlk, wrBlk, newBlk, partA, abin, ibin, isShift, AV.cells, AV.one, lay, sub, fillA, lenA, toN, allApart, apartFrom, Nat.testBit, Mem.blk_set_same, Mem.blk_set_ne, Mem.set_set, bit_zero, bit_self, lowBits_or, lowBits_zero, len_setT, sl_same, sl_ne, len_frame, sl_frame,↓op_len, lenOp_slc, lenOp_nils, ↓Post.some, ↓Post_bind, ↓Post_ret, ↓Post_draw, ↓PostL_nil, ↓PostL_cons, Post_fail, ofOpt_some, ofOpt_none, eA_b, eA_i, eA_s, eA_nn, eA_np, eA_pn, eA_lnn, eA_lnp, eA_lpn, eA_i2, eA_i3, blt_dec, Nat.add_assoc, keeps_refl, keeps_at, keeps_up, new_one, and_pow, bit_hi, lowBits_pow, ble_dec, fr_refl, fr_at, fr_up, fr_p, dum_ab, F16, c1, c2, x1, l1, ll]
theorem push_no {h : Mem} {nx p : Nat} {i : Int} (x : Rd 30 29 [.ptr p 0, .int .i64 i] h nx (.bool false)) (w : Int) : Rd 80 17 [.ptr p 0, .int .i64 i, .int .u32 w] h nx (.bool false) := by
  intro lg hlg
  obtain ⟨tc, x1⟩ := x.at lg hlg
  rw [xF_fr T17]
  simp (maxSteps := 4000000) [↓step_none, ↓step_t, ↓step_f, ↓step_nt, ↓step_nf, ↓op_load, ↓op_store, ↓op_slice, ↓op_app, ↓P_skip, ↓P_exit, ↓P_ret, ↓P_seq, ↓P_cond, ↓P_blk, ↓P_reg, ↓P_draw, ↓P_nil, ↓P_cons, condP_t, condP_f, dum_ab, stepR, want_none, want_some, opRun, ev_t, ev_c, put_none, put_some, resAll, res_tmp, res_cell, oneOf, minI, maxI, min2A, max2A, mn2, mx2, mx3, rdBlk, wrBlk, newBlk, partA, abin, ibin, isShift, AV.cells, AV.one, lay, sub, fillA, lenA, toN, allApart, apartFrom, Nat.testBit, Mem.blk_set_same, Mem.blk_set_ne, Mem.set_set, bit_zero, bit_self, lowBits_or, lowBits_zero, len_setT, sl_same, sl_ne, len_frame, sl_frame,↓op_len, lenOp_slc, lenOp_nils, ↓Post.some, ↓Post_bind, ↓Post_ret, ↓Post_draw, ↓PostL_nil, ↓PostL_cons, Post_fail, ofOpt_some, ofOpt_none, eA_b, eA_i, eA_s, eA_nn, eA_np, eA_pn, eA_lnn, eA_lnp, eA_lpn, eA_i2, eA_i3, blt_dec, Nat.add_assoc, keeps_refl, keeps_at, keeps_up, new_one, and_pow, bit_hi, lowBits_pow, ble_dec, fr_refl, fr_at, fr_up, fr_p, dum_ab, F17, x1]
theorem push_full {h : Mem} {nx p : Nat} {F : List Fr} {U : List Bool} {s : Int} {A B : List (List Int)} (ps : PS h nx p F U s A B) (i : Nat) (hi : i < U.length) (hf : i < F.length) (hB : i < B.length) (hu : U[i] = true) (w : Int) (hl : 8 ≤ B[i].length) : Rd 80 17 [.ptr p 0, .int .i64 i, .int .u32 w] h nx (.bool false) := by
  intro lg hlg
  obtain ⟨t, hb⟩ := ps.hb
  have hU := ps.hU
  have l1 := fun lg => ld_at hb ps.hp (o := i * 8 + 7) (v := F[i].st) (by rw [p_fld ps.hF hU s hf (by omega)]; rfl) lg
  obtain ⟨tc, x1⟩ := (is_in ps i hi).at lg hlg
  rw [hu] at x1
  have ll := (ps.rB i hf hB).lenOp
  have c3 : (8 : Int) ≤ (B[i].length : Int) := by omega
  have c1 : (i : Int) < 24 := by omega
  have c2 : i < 24 := by omega
  rw [xF_fr T17]
  simp (maxSteps := 4000000) [↓step_none, ↓step_t, ↓step_f, ↓step_nt, ↓step_nf, ↓op_load, ↓op_store, ↓op_slice, ↓op_app, ↓P_skip, ↓P_exit, ↓P_ret, ↓P_seq, ↓P_cond, ↓P_blk, ↓P_reg, ↓P_draw, ↓P_nil, ↓P_cons, condP_t, condP_f, dum_ab, stepR, want_none, want_some, opRun, ev_t, ev_c, put_none, put_some, resAll, res_tmp, res_cell, oneOf, minI, maxI, min2A, max2A, mn2, mx2, mx3, rdBlk, wrBlk, newBlk, partA, abin, ibin, isShift, AV.cells, AV.one, lay, sub, fillA, lenA, toN, allApart, apartFrom, Nat.testBit, Mem.blk_set_same, Mem.blk_set_ne, Mem.set_set, bit_zero, bit_self, lowBits_or, lowBits_zero, len_setT, sl_same, sl_ne, len_frame, sl_frame,↓op_len, lenOp_slc, lenOp_nils, ↓Post.some, ↓Post_bind, ↓Post_ret, ↓Post_draw, ↓PostL_nil, ↓PostL_cons, Post_fail, ofOpt_some, ofOpt_none, eA_b, eA_i, eA_s, eA_nn, eA_np, eA_pn, eA_lnn, eA_lnp, eA_lpn, eA_i2, eA_i3, blt_dec, Nat.add_assoc, keeps_refl, keeps_at, keeps_up, new_one, and_pow, bit_hi, lowBits_pow, ble_dec, fr_refl, fr_at, fr_up, fr_p, dum_ab, F17, c1, c2, x1, l1, ll, c3, hl]

/-! ### Slot -/
theorem set_u32 (l : List Int) (k : Nat) (w : Int) (h : k < l.length) (r : List AV) : lay (u32s l ++ r) k [.int .u32 w] = u32s (l.set k w) ++ r := by
  rw [lay_app _ _ _ _ (by rw [u32s_len]; simp; omega), lay_one _ _ _ (by rw [u32s_len]; exact h)]
  unfold u32s
  rw [List.map_set]
theorem OR.grow {s : AV} {h : Mem} {nx : Nat} {l : List Int} (g : OR s h nx l) (hl : l ≠ []) : ∃ b t r, s = .slc b 0 l.length none ∧ b < nx ∧ h.blk b = some ⟨t, 1, true, true, u32s l ++ r⟩ := by
  rcases g with ⟨_, h0⟩ | ⟨_, _, h0, _⟩ | g
  · exact absurd h0 hl
  · exact absurd h0 hl
  · exact g
set_option maxHeartbeats 4000000 in
theorem slot_yes {h : Mem} {nx p : Nat} {F : List Fr} {U : List Bool} {s : Int} {A B : List (List Int)} (ps : PS h nx p F U s A B) (i : Nat) (hi : i < U.length) (hf : i < F.length) (hA : i < A.length) (hB : i < B.length) (hu : U[i] = true) (k : Nat) (hk : k < A[i].length) (l9 : A[i].length ≤ 1000) (w : Int) :
    Pch 80 20 [.ptr p 0, .int .i64 i, .int .i64 k, .int .u32 w] h nx p F (.bool true) F U s (A.set i (A[i].set k w)) B := by
  intro lg hlg
  obtain ⟨t, hb⟩ := ps.hb
  have hU := ps.hU
  have hp := ps.hp
  have l1 := fun lg => ld_at hb ps.hp (o := i * 8 + 6) (v := F[i].sl) (by rw [p_fld ps.hF hU s hf (by omega)]; rfl) lg
  have rb := ps.rB i hf hB
  have ra := ps.rA i hf hA
  obtain ⟨bb, tt, rr, hst, hbn, hK⟩ := ra.grow (by intro h; rw [h] at hk; cases hk)
  have nbp : bb ≠ p := ps.np bb ⟨i, hf, .inl (by rw [hst]; rfl)⟩
  obtain ⟨tc, x1⟩ := (is_in ps i hi).at lg hlg
  rw [hu] at x1
  have s1 := fun lg => st_at (n := 1) hK hbn (o := k) (.int .u32 w) rfl rfl (by simp only [List.length_append, u32s_len]; omega) lg
  simp only [AV.cells, set_u32 _ k w hk] at s1
  have c1 : (i : Int) < 24 := by omega
  have c2 : i < 24 := by omega
  have ll := ra.lenOp
  have c3 : ¬ (k : Int) < 0 := by omega
  have c4 : ¬ (A[i].length : Int) ≤ (k : Int) := by omega
  have c5 : (k : Int) < (A[i].length : Int) := by omega
  rw [hst] at l1 ll
  rw [xF_fr T20]
  generalize hLn : A[i].length = Ln at *
  simp (maxSteps := 4000000) [↓step_none, ↓step_t, ↓step_f, ↓step_nt, ↓step_nf, ↓op_load, ↓op_store, ↓op_slice, ↓op_app, ↓P_skip, ↓P_exit, ↓P_ret, ↓P_seq, ↓P_cond, ↓P_blk, ↓P_reg, ↓P_draw, ↓P_nil, ↓P_cons, condP_t, condP_f, dum_ab, stepR, want_none, want_some, opRun, ev_t, ev_c, put_none, put_some, resAll, res_tmp, res_cell, oneOf, minI, maxI, min2A, max2A, mn2, mx2, mx3, rdBlk, wrBlk, newBlk, partA, abin, ibin, isShift, AV.cells, AV.one, lay, sub, fillA, lenA, toN, allApart, apartFrom, Nat.testBit, Mem.blk_set_same, Mem.blk_set_ne, Mem.set_set, bit_zero, bit_self, lowBits_or, lowBits_zero, len_setT, sl_same, sl_ne, len_frame, sl_frame,↓op_len, lenOp_slc, lenOp_nils, ↓Post.some, ↓Post_bind, ↓Post_ret, ↓Post_draw, ↓PostL_nil, ↓PostL_cons, Post_fail, ofOpt_some, ofOpt_none, eA_b, eA_i, eA_s, eA_nn, eA_np, eA_pn, eA_lnn, eA_lnp, eA_lpn, eA_i2, eA_i3, blt_dec, Nat.add_assoc, keeps_refl, keeps_at, keeps_up, new_one, and_pow, bit_hi, lowBits_pow, ble_dec, fr_refl, fr_at, fr_up, fr_p, dum_ab, F20, c1, c2, c3, c4, c5, hk, x1, l1, ll, s1]
  generalize hH2 : h.set bb (some ⟨tt, 1, true, true, u32s (A[i].set k w) ++ rr⟩) = H2 at *
  have hfr : ∀ b, b ≠ bb → H2.blk b = h.blk b := fun b hbp => by rw [← hH2, Mem.blk_set_ne _ _ _ _ hbp]
  have hb2 : H2.blk p = some ⟨t, 217, true, false, pcells (F.set i F[i]) U s⟩ := by rw [set_same F i hf, hfr p (Ne.symm nbp), hb]
  have ra2 : OR F[i].sl H2 nx (A[i].set k w) := .inr (.inr ⟨bb, tt, rr, by rw [hst, List.length_set, hLn], hbn, by rw [← hH2, Mem.blk_set_same]⟩)
  have rb2 : OR F[i].st H2 nx B[i] := rb.keep (Nat.le_refl _) fun b hb => hfr b (fun e => ps.dC i i hf hf bb (by rw [hst]; rfl) (by rw [← e]; exact hb))
  have fin := ps.row hf (f := F[i]) (Nat.le_refl nx) hU ⟨t, hb2⟩ ra2 rb2 (fun b h1 h2 h3 _ => hfr b (fun e => h3 (by rw [hst, e]; rfl))) (fun b hb => .inl hb) (fun b hb => .inl hb) (fun b h1 => ps.dC i i hf hf b h1)
  rw [set_same F i hf, set_same B i hB] at fin
  refine ⟨fin, fun b ho => .inl ho, fun b hbp ho => ⟨bit_and (fun e => ho ⟨i, hf, .inl (by rw [hst, e]; rfl)⟩), fun hlt => hfr b (fun e => ho ⟨i, hf, .inl (by rw [hst, e]; rfl)⟩)⟩⟩
theorem slot_no {h : Mem} {nx p : Nat} {i : Int} (x : Rd 30 29 [.ptr p 0, .int .i64 i] h nx (.bool false)) (k w : Int) : Rd 80 20 [.ptr p 0, .int .i64 i, .int .i64 k, .int .u32 w] h nx (.bool false) := by
  intro lg hlg
  obtain ⟨tc, x1⟩ := x.at lg hlg
  rw [xF_fr T20]
  simp (maxSteps := 4000000) [↓step_none, ↓step_t, ↓step_f, ↓step_nt, ↓step_nf, ↓op_load, ↓op_store, ↓op_slice, ↓op_app, ↓P_skip, ↓P_exit, ↓P_ret, ↓P_seq, ↓P_cond, ↓P_blk, ↓P_reg, ↓P_draw, ↓P_nil, ↓P_cons, condP_t, condP_f, dum_ab, stepR, want_none, want_some, opRun, ev_t, ev_c, put_none, put_some, resAll, res_tmp, res_cell, oneOf, minI, maxI, min2A, max2A, mn2, mx2, mx3, rdBlk, wrBlk, newBlk, partA, abin, ibin, isShift, AV.cells, AV.one, lay, sub, fillA, lenA, toN, allApart, apartFrom, Nat.testBit, Mem.blk_set_same, Mem.blk_set_ne, Mem.set_set, bit_zero, bit_self, lowBits_or, lowBits_zero, len_setT, sl_same, sl_ne, len_frame, sl_frame,↓op_len, lenOp_slc, lenOp_nils, ↓Post.some, ↓Post_bind, ↓Post_ret, ↓Post_draw, ↓PostL_nil, ↓PostL_cons, Post_fail, ofOpt_some, ofOpt_none, eA_b, eA_i, eA_s, eA_nn, eA_np, eA_pn, eA_lnn, eA_lnp, eA_lpn, eA_i2, eA_i3, blt_dec, Nat.add_assoc, keeps_refl, keeps_at, keeps_up, new_one, and_pow, bit_hi, lowBits_pow, ble_dec, fr_refl, fr_at, fr_up, fr_p, dum_ab, F20, x1]
theorem slot_out {h : Mem} {nx p : Nat} {F : List Fr} {U : List Bool} {s : Int} {A B : List (List Int)} (ps : PS h nx p F U s A B) (i : Nat) (hi : i < U.length) (hf : i < F.length) (hA : i < A.length) (hu : U[i] = true) (k w : Int) (hk : k < 0 ∨ (A[i].length : Int) ≤ k) : Rd 80 20 [.ptr p 0, .int .i64 i, .int .i64 k, .int .u32 w] h nx (.bool false) := by
  intro lg hlg
  obtain ⟨t, hb⟩ := ps.hb
  have hU := ps.hU
  have l1 := fun lg => ld_at hb ps.hp (o := i * 8 + 6) (v := F[i].sl) (by rw [p_fld ps.hF hU s hf (by omega)]; rfl) lg
  obtain ⟨tc, x1⟩ := (is_in ps i hi).at lg hlg
  rw [hu] at x1
  have ll := (ps.rA i hf hA).lenOp
  have c1 : (i : Int) < 24 := by omega
  have c2 : i < 24 := by omega
  generalize hLn : A[i].length = Ln at *
  rw [xF_fr T20]
  by_cases c : k < 0
  · simp (maxSteps := 4000000) [↓step_none, ↓step_t, ↓step_f, ↓step_nt, ↓step_nf, ↓op_load, ↓op_store, ↓op_slice, ↓op_app, ↓P_skip, ↓P_exit, ↓P_ret, ↓P_seq, ↓P_cond, ↓P_blk, ↓P_reg, ↓P_draw, ↓P_nil, ↓P_cons, condP_t, condP_f, dum_ab, stepR, want_none, want_some, opRun, ev_t, ev_c, put_none, put_some, resAll, res_tmp, res_cell, oneOf, minI, maxI, min2A, max2A, mn2, mx2, mx3, rdBlk, wrBlk, newBlk, partA, abin, ibin, isShift, AV.cells, AV.one, lay, sub, fillA, lenA, toN, allApart, apartFrom, Nat.testBit, Mem.blk_set_same, Mem.blk_set_ne, Mem.set_set, bit_zero, bit_self, lowBits_or, lowBits_zero, len_setT, sl_same, sl_ne, len_frame, sl_frame,↓op_len, lenOp_slc, lenOp_nils, ↓Post.some, ↓Post_bind, ↓Post_ret, ↓Post_draw, ↓PostL_nil, ↓PostL_cons, Post_fail, ofOpt_some, ofOpt_none, eA_b, eA_i, eA_s, eA_nn, eA_np, eA_pn, eA_lnn, eA_lnp, eA_lpn, eA_i2, eA_i3, blt_dec, Nat.add_assoc, keeps_refl, keeps_at, keeps_up, new_one, and_pow, bit_hi, lowBits_pow, ble_dec, fr_refl, fr_at, fr_up, fr_p, dum_ab, F20, c1, c2, x1, c]
  · have c3 : (Ln : Int) ≤ k := by omega
    simp (maxSteps := 4000000) [↓step_none, ↓step_t, ↓step_f, ↓step_nt, ↓step_nf, ↓op_load, ↓op_store, ↓op_slice, ↓op_app, ↓P_skip, ↓P_exit, ↓P_ret, ↓P_seq, ↓P_cond, ↓P_blk, ↓P_reg, ↓P_draw, ↓P_nil, ↓P_cons, condP_t, condP_f, dum_ab, stepR, want_none, want_some, opRun, ev_t, ev_c, put_none, put_some, resAll, res_tmp, res_cell, oneOf, minI, maxI, min2A, max2A, mn2, mx2, mx3, rdBlk, wrBlk, newBlk, partA, abin, ibin, isShift, AV.cells, AV.one, lay, sub, fillA, lenA, toN, allApart, apartFrom, Nat.testBit, Mem.blk_set_same, Mem.blk_set_ne, Mem.set_set, bit_zero, bit_self, lowBits_or, lowBits_zero, len_setT, sl_same, sl_ne, len_frame, sl_frame,↓op_len, lenOp_slc, lenOp_nils, ↓Post.some, ↓Post_bind, ↓Post_ret, ↓Post_draw, ↓PostL_nil, ↓PostL_cons, Post_fail, ofOpt_some, ofOpt_none, eA_b, eA_i, eA_s, eA_nn, eA_np, eA_pn, eA_lnn, eA_lnp, eA_lpn, eA_i2, eA_i3, blt_dec, Nat.add_assoc, keeps_refl, keeps_at, keeps_up, new_one, and_pow, bit_hi, lowBits_pow, ble_dec, fr_refl, fr_at, fr_up, fr_p, dum_ab, F20, c1, c2, x1, l1, ll, c, c3]
end Go.Proofs.YtobcboiemibkkaaT
