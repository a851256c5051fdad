/- Code: Bytes. -/
import Derived.Test.YtlbjdkhpabpmiaaFn
namespace Go.Proofs.YtlbjdkhpabpmiaaT
open Go Go.Proofs.YtlbjdkhpabpmiaaE Go.Proofs.YtlbjdkhpabpmiaaB
set_option linter.unusedSimpArgs false
set_option linter.unusedVariables false
attribute [local congr] Post_cg PostL_cg condP_cg

theorem flat2 {α : Type} {sz : Nat} : ∀ {l : List (List α)}, (∀ x ∈ l, x.length = sz) → l.flatten.length = l.length * sz
  | [], _ => by simp
  | x :: l, h => by
    rw [List.flatten_cons, List.length_append, flat2 (l := l) (fun y hy => h y (List.mem_cons_of_mem _ hy)), h x (by simp), List.length_cons, Nat.add_mul]
    omega
def iv (o : Int × Int) : List AV := [.int .i64 o.1, .int .i64 o.2]
def ivs (l : List (Int × Int)) : List (List AV) := l.map iv
def bys (l : List (Int × Int)) : List Int := (l.map fun o => [o.1, o.2]).flatten
theorem bys_len (l : List (Int × Int)) : (bys l).length = 2 * l.length := by
  unfold bys
  rw [flat2 (sz := 2)]
  · rw [List.length_map]; omega
  · intro x hx
    obtain ⟨o, _, rfl⟩ := List.mem_map.1 hx
    rfl
theorem bys_app (l m : List (Int × Int)) : bys (l ++ m) = bys l ++ bys m := by unfold bys; simp
theorem bys_take (l : List (Int × Int)) (j : Nat) (h : j < l.length) : bys (l.take (j + 1)) = bys (l.take j) ++ [l[j].1, l[j].2] := by
  rw [List.take_add_one, List.getElem?_eq_getElem h, Option.toList_some, bys_app]
  rfl
def Ok8 (l : List (Int × Int)) : Prop := ∀ o ∈ l, 0 ≤ o.1 ∧ o.1 < 256 ∧ 0 ≤ o.2 ∧ o.2 < 256
theorem bys_ok {l : List (Int × Int)} (h : Ok8 l) : ∀ x ∈ bys l, 0 ≤ x ∧ x < 256 := by
  intro x hx
  unfold bys at hx
  obtain ⟨y, hy, hx⟩ := List.mem_flatten.1 hx
  obtain ⟨o, ho, rfl⟩ := List.mem_map.1 hy
  have := h o ho
  simp only [List.mem_cons, List.mem_nil_iff, or_false] at hx
  rcases hx with rfl | rfl <;> omega
theorem bys_at : ∀ (l : List (Int × Int)) (i : Nat) (h : i < l.length), (bys l)[2 * i]? = some l[i].1 ∧ (bys l)[2 * i + 1]? = some l[i].2
  | o :: l, 0, _ => ⟨rfl, rfl⟩
  | o :: l, i + 1, h => by
    have := bys_at l i (by simpa using h)
    rw [show 2 * (i + 1) = 2 * i + 2 by omega, show 2 * i + 2 + 1 = 2 * i + 1 + 2 by omega]
    exact this
def ByI (v : AV) (l : List (Int × Int)) (h0 : Mem) (base : Nat) (m : Nat) (ts : List AV) (h : Mem) (nx tc wr : Nat) : Prop := ∃ (j : Nat) (u : AV), m = l.length - j ∧ j ≤ l.length ∧ ts.length = 24 ∧ sl ts 6 = v ∧ sl ts 7 = .int .i64 l.length ∧ sl ts 8 = .int .i64 j ∧ sl ts 3 = u ∧ OR u h nx (bys (l.take j)) ∧ (∀ b, bid u = some b → base ≤ b) ∧ base ≤ nx ∧ ∀ b, b < base → h.blk b = h0.blk b
def ByR (l : List (Int × Int)) (h0 : Mem) (base : Nat) (e : Ex) (ts : List AV) (h : Mem) (nx tc wr : Nat) : Prop := e = .exit 0 ∧ ∃ u, ts.length = 24 ∧ sl ts 3 = u ∧ OR u h nx (bys l) ∧ (∀ b, bid u = some b → base ≤ b) ∧ base ≤ nx ∧ ∀ b, b < base → h.blk b = h0.blk b
set_option maxHeartbeats 4000000 in
theorem by_round (v : AV) (l : List (Int × Int)) (hl : l.length ≤ 100) (h8 : Ok8 l) (h0 : Mem) (base : Nat) (r : SRow 2 v h0 base (ivs l)) (lg : Nat) (hlg : lg ≤ base) (m : Nat) (ts : List AV) (h : Mem) (nx tc wr : Nat) (hi : ByI v l h0 base m ts h nx tc wr) :
    Post (xC T 40 L14_0b ts h nx lg) fun v' h' nx' tc' wr' => Round (ByI v l h0 base) (ByR l h0 base) m v' h' nx' (tc ||| tc') (wr ||| wr') := by
  obtain ⟨j, u, rfl, hj, hlen, g6, g7, g8, g3, ru, lu, hbn, kp⟩ := hi
  by_cases c1 : j < l.length
  · have c1' : (j : Int) < (l.length : Int) := by omega
    have ci : IntKind.i64.wrap ((j : Int) + 1) = ((j + 1 : Nat) : Int) := by rw [IntKind.wrap_i64]; omega
    have hjv : j < (ivs l).length := by unfold ivs; rwa [List.length_map]
    obtain ⟨b, c, K, e, hb, hK, hs, hs'⟩ := SRow.at r hjv
    have e2 : (ivs l).length = l.length := by unfold ivs; rw [List.length_map]
    have e1 : (ivs l)[j] = [.int .i64 l[j].1, .int .i64 l[j].2] := get_of (by unfold ivs; rw [List.getElem?_map, List.getElem?_eq_getElem c1]; rfl) hjv
    rw [e1] at hs
    rw [e2] at e
    subst e
    have hm := h8 _ (List.getElem_mem c1)
    obtain ⟨p1, p2, p3, p4⟩ := hm
    have ht := bys_take l j c1
    generalize hq0 : l[j].1 = q0 at *
    generalize hq1 : l[j].2 = q1 at *
    have hK' : h.blk b = some K := (kp b hb).trans hK
    have hbx : b < nx := by omega
    have w0 : IntKind.u8.wrap q0 = q0 := by rw [IntKind.wrap_u8]; omega
    have w1 : IntKind.u8.wrap q1 = q1 := by rw [IntKind.wrap_u8]; omega
    have l2 := fun lg => ld_sub hK' hbx hs lg
    have ru1 := ru.keep (h' := (h.set nx (some ⟨47, 2, true, false, [.int .i64 q0, .int .i64 q1]⟩)).set (nx + 1) (some ⟨5, 1, true, false, u8s [q0, q1]⟩)) (nx' := nx + 2) (by omega) fun b hb => by have := ru.lt hb; rw [Mem.blk_set_ne _ _ _ _ (by omega), Mem.blk_set_ne _ _ _ _ (by omega)]
    have gx : RV 1 [q0, q1].length (.slc (nx + 1) 0 [q0, q1].length (some 2)) ((h.set nx (some ⟨47, 2, true, false, [.int .i64 q0, .int .i64 q1]⟩)).set (nx + 1) (some ⟨5, 1, true, false, u8s [q0, q1]⟩)) 0 (nx + 2) (u8s [q0, q1]) := rv_lit (by omega) (Mem.blk_set_same ..) _
    obtain ⟨u', h', nx', tc', wr', a, a1, a2, a3, a4, a5, a6⟩ := cat_or ru1 gx (by rw [bys_len, List.length_take]; simp; omega) lg
    simp only [u8s, List.map_cons, List.map_nil, List.length_cons, List.length_nil, Nat.zero_add, Nat.reduceAdd] at a
    have s1 : ∀ lg, stA 2 (.ptr nx 0) (.agg [.int .i64 q0, .int .i64 q1]) (h.set nx (some ⟨47, 2, true, false, [.int .i64 0, .int .i64 0]⟩)) (nx + 1) lg = some ⟨.tup [], h.set nx (some ⟨47, 2, true, false, [.int .i64 q0, .int .i64 q1]⟩), nx + 1, bit lg nx, bit lg nx⟩ := fun lg => by
      have := st_at (n := 2) (o := 0) (Mem.blk_set_same h nx (some ⟨47, 2, true, false, [.int .i64 0, .int .i64 0]⟩)) (show nx < nx + 1 by omega) (.agg [.int .i64 q0, .int .i64 q1]) rfl rfl (Nat.le_refl _) lg
      rw [Mem.set_set] at this
      exact this
    have d0 : ∀ lg, ldA none (.ptr nx 0) (h.set nx (some ⟨47, 2, true, false, [.int .i64 q0, .int .i64 q1]⟩)) (nx + 1) lg = _ := fun lg => ld_at (Mem.blk_set_same ..) (by omega) rfl lg
    have d1 : ∀ lg, ldA none (.ptr nx 1) (h.set nx (some ⟨47, 2, true, false, [.int .i64 q0, .int .i64 q1]⟩)) (nx + 1) lg = _ := fun lg => ld_at (Mem.blk_set_same ..) (by omega) rfl lg
    simp (maxSteps := 4000000) [↓step_none, ↓step_t, ↓step_f, ↓step_nt, ↓step_nf, ↓op_load, ↓op_store, ↓op_slice, ↓op_app, ↓P_skip, ↓P_exit, ↓P_ret, ↓P_seq, ↓P_cond, ↓P_blk, ↓P_reg, ↓P_draw, ↓P_nil, ↓P_cons, condP_t, condP_f, dum_ab, stepR, want_none, want_some, opRun, ev_t, ev_c, put_none, put_some, resAll, res_tmp, res_cell, oneOf, minI, maxI, min2A, max2A, mn2, mx2, mx3, rdBlk, wrBlk, newBlk, partA, abin, ibin, isShift, AV.cells, AV.one, lay, sub, fillA, lenA, toN, allApart, apartFrom, Nat.testBit, Mem.blk_set_same, Mem.blk_set_ne, Mem.set_set, bit_zero, bit_self, lowBits_or, lowBits_zero, len_setT, sl_same, sl_ne, len_frame, sl_frame,↓op_len, lenOp_slc, lenOp_nils, ↓Post.some, ↓Post_bind, ↓Post_ret, ↓Post_draw, ↓PostL_nil, ↓PostL_cons, Post_fail, ofOpt_some, ofOpt_none, eA_b, eA_i, eA_s, eA_nn, eA_np, eA_pn, eA_lnn, eA_lnp, eA_lpn, eA_i2, eA_i3, blt_dec, Nat.add_assoc, keeps_refl, keeps_at, keeps_up, new_one, and_pow, bit_hi, lowBits_pow, ble_dec, fr_refl, fr_at, fr_up, fr_p, dum_ab, L14_0b, reps, hlen, g6, g7, g8, g3, c1, c1', hbx, l2, w0, w1, s1, d0, d1, a, ci]
    refine Round.nor (m' := l.length - (j + 1)) (by omega) ⟨j + 1, u', rfl, by omega, by simp [len_setT, sl_same, sl_ne, hlen], by simp [len_setT, sl_same, sl_ne, hlen, g6], by simp [len_setT, sl_same, sl_ne, hlen, g7], by simp [len_setT, sl_same, sl_ne, hlen], by simp [len_setT, sl_same, sl_ne, hlen], by rw [ht]; exact a2, fun b hb => ?_, by omega, fun b hb => ?_⟩
    · rcases a4 b hb with h | h
      · exact lu b h
      · omega
    · rw [a3 b (by omega) (fun h => by have := lu b h; omega), Mem.blk_set_ne _ _ _ _ (by omega), Mem.blk_set_ne _ _ _ _ (by omega), kp b hb]
  · have c1' : ¬ (j : Int) < (l.length : Int) := by omega
    have e : l.take j = l := List.take_of_length_le (by omega)
    rw [e] at ru
    simp (maxSteps := 4000000) [↓P_skip, ↓P_exit, ↓P_ret, ↓P_seq, ↓P_cond, ↓P_blk, ↓P_reg, ↓P_draw, ↓P_nil, ↓P_cons, condP_t, condP_f, dum_ab, stepR, want_none, want_some, opRun, ev_t, ev_c, put_none, put_some, resAll, res_tmp, res_cell, oneOf, minI, maxI, min2A, max2A, mn2, mx2, mx3, rdBlk, wrBlk, newBlk, partA, abin, ibin, isShift, AV.cells, AV.one, lay, sub, fillA, lenA, toN, allApart, apartFrom, Nat.testBit, Mem.blk_set_same, Mem.blk_set_ne, Mem.set_set, bit_zero, bit_self, lowBits_or, lowBits_zero, len_setT, sl_same, sl_ne, len_frame, sl_frame,↓op_len, lenOp_slc, lenOp_nils, ↓Post.some, ↓Post_bind, ↓Post_ret, ↓Post_draw, ↓PostL_nil, ↓PostL_cons, Post_fail, ofOpt_some, ofOpt_none, eA_b, eA_i, eA_s, eA_nn, eA_np, eA_pn, eA_lnn, eA_lnp, eA_lpn, eA_i2, eA_i3, blt_dec, Nat.add_assoc, keeps_refl, keeps_at, keeps_up, new_one, and_pow, bit_hi, lowBits_pow, ble_dec, fr_refl, fr_at, fr_up, fr_p, dum_ab, L14_0b, hlen, g7, g8, c1']
    exact Round.exit (R := ByR l h0 base) ⟨rfl, u, by simp [len_setT, sl_same, sl_ne, hlen], by simp [len_setT, sl_same, sl_ne, hlen, g3], ru, lu, hbn, kp⟩
theorem bytes_of {v : AV} {l : List (Int × Int)} (hl : l.length ≤ 100) (h8 : Ok8 l) {h : Mem} {nx : Nat} (r : SRow 2 v h nx (ivs l)) (lg : Nat) (hlg : lg ≤ nx) : ∃ v' h' nx' tc wr, (∀ k, xF T (k + 200) 14 [v] h nx lg = some ⟨v', h', nx', tc, wr⟩) ∧ nx ≤ nx' ∧ RV 1 (bys l).length v' h' 0 nx' (u8s (bys l)) ∧ ∀ b, b < nx → h'.blk b = h.blk b := by
  have key : Post (xF T 200 14 [v] h nx lg) fun v' h' nx' tc wr => nx ≤ nx' ∧ RV 1 (bys l).length v' h' 0 nx' (u8s (bys l)) ∧ ∀ b, b < nx → h'.blk b = h.blk b := by
    have lv := r.lenOp
    have e2 : (ivs l).length = l.length := by unfold ivs; rw [List.length_map]
    rw [e2] at lv
    rw [xF_fr T14]
    simp (maxSteps := 4000000) [↓step_none, ↓step_t, ↓step_f, ↓step_nt, ↓step_nf, ↓op_load, ↓op_store, ↓op_slice, ↓op_app, ↓P_skip, ↓P_exit, ↓P_ret, ↓P_seq, ↓P_cond, ↓P_blk, ↓P_reg, ↓P_draw, ↓P_nil, ↓P_cons, condP_t, condP_f, dum_ab, stepR, want_none, want_some, opRun, ev_t, ev_c, put_none, put_some, resAll, res_tmp, res_cell, oneOf, minI, maxI, min2A, max2A, mn2, mx2, mx3, rdBlk, wrBlk, newBlk, partA, abin, ibin, isShift, AV.cells, AV.one, lay, sub, fillA, lenA, toN, allApart, apartFrom, Nat.testBit, Mem.blk_set_same, Mem.blk_set_ne, Mem.set_set, bit_zero, bit_self, lowBits_or, lowBits_zero, len_setT, sl_same, sl_ne, len_frame, sl_frame,↓op_len, lenOp_slc, lenOp_nils, ↓Post.some, ↓Post_bind, ↓Post_ret, ↓Post_draw, ↓PostL_nil, ↓PostL_cons, Post_fail, ofOpt_some, ofOpt_none, eA_b, eA_i, eA_s, eA_nn, eA_np, eA_pn, eA_lnn, eA_lnp, eA_lpn, eA_i2, eA_i3, blt_dec, Nat.add_assoc, keeps_refl, keeps_at, keeps_up, new_one, and_pow, bit_hi, lowBits_pow, ble_dec, fr_refl, fr_at, fr_up, fr_p, dum_ab, F14, lv]
    refine Post.loop (by_round v l hl h8 h nx r lg hlg) l.length ⟨0, .nils, rfl, by omega, by simp [len_setT, sl_same, sl_ne, len_frame], by simp [len_setT, sl_same, sl_ne, len_frame, sl_frame], by simp [len_setT, sl_same, sl_ne, len_frame, sl_frame], by simp [len_setT, sl_same, sl_ne, len_frame, sl_frame], by simp [len_setT, sl_same, sl_ne, len_frame, sl_frame], .inl ⟨rfl, rfl⟩, (fun b hb => by cases hb), Nat.le_refl _, fun b _ => rfl⟩ (by omega) ?_
    rintro e ts2 h2 nx2 tc2 wr2 ⟨rfl, u, hlen, g3, ru, lu, n2, k2⟩
    obtain ⟨v', tc', x3, r3, d3, m3, f3⟩ := clip_or ru lg
    simp (maxSteps := 4000000) [↓P_skip, ↓P_exit, ↓P_ret, ↓P_seq, ↓P_cond, ↓P_blk, ↓P_reg, ↓P_draw, ↓P_nil, ↓P_cons, condP_t, condP_f, dum_ab, stepR, want_none, want_some, opRun, ev_t, ev_c, put_none, put_some, resAll, res_tmp, res_cell, oneOf, minI, maxI, min2A, max2A, mn2, mx2, mx3, rdBlk, wrBlk, newBlk, partA, abin, ibin, isShift, AV.cells, AV.one, lay, sub, fillA, lenA, toN, allApart, apartFrom, Nat.testBit, Mem.blk_set_same, Mem.blk_set_ne, Mem.set_set, bit_zero, bit_self, lowBits_or, lowBits_zero, len_setT, sl_same, sl_ne, len_frame, sl_frame,↓op_len, lenOp_slc, lenOp_nils, ↓Post.some, ↓Post_bind, ↓Post_ret, ↓Post_draw, ↓PostL_nil, ↓PostL_cons, Post_fail, ofOpt_some, ofOpt_none, eA_b, eA_i, eA_s, eA_nn, eA_np, eA_pn, eA_lnn, eA_lnp, eA_lpn, eA_i2, eA_i3, blt_dec, Nat.add_assoc, keeps_refl, keeps_at, keeps_up, new_one, and_pow, bit_hi, lowBits_pow, ble_dec, fr_refl, fr_at, fr_up, fr_p, dum_ab, hlen, g3, x3]
    exact ⟨n2, r3, k2⟩
  obtain ⟨v', h', nx', tc, wr, e, e1, e2, e3⟩ := key.inv
  exact ⟨v', h', nx', tc, wr, fun k => xF_mono T (Nat.le_add_left ..) e, e1, e2, e3⟩
end Go.Proofs.YtlbjdkhpabpmiaaT
