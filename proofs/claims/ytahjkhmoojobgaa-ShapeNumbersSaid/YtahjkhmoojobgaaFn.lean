/- Shape: numbers in rows; a class's chain. -/
import Derived.Test.YtahjkhmoojobgaaT
import Derived.Test.YtahjkhmoojobgaaB
import Derived.Test.YtahjkhmoojobgaaE33
namespace Go.Proofs.YtahjkhmoojobgaaT
open Go Go.Proofs.YtahjkhmoojobgaaE Go.Proofs.YtahjkhmoojobgaaB
set_option linter.unusedSimpArgs false
set_option linter.unusedVariables false
attribute [local congr] Post_cg PostL_cg condP_cg

abbrev Rd (d f : Nat) (args : List AV) (h : Mem) (nx : Nat) (v : AV) : Prop := RdC T d f args h nx v
abbrev Nw (d f : Nat) (args : List AV) (h : Mem) (nx : Nat) (Q : AV → Mem → Nat → Prop) : Prop := NwC T d f args h nx Q
def i64s (l : List Int) : List (List AV) := l.map fun x => [.int .i64 x]
theorem i64s_len (l : List Int) : (i64s l).length = l.length := by unfold i64s; rw [List.length_map]
theorem i64s_app (l : List Int) (x : Int) : i64s (l ++ [x]) = i64s l ++ [[.int .i64 x]] := by unfold i64s; rw [List.map_append]; rfl
theorem i64s_at {l : List Int} {i : Nat} (h : i < (i64s l).length) : (i64s l)[i] = [.int .i64 (l[i]'(by rw [i64s_len] at h; exact h))] := List.getElem_map (h := h) ..
/-- A bind; a class. -/
def bnds (l : List (Int × Int)) : List (List AV) := l.map fun x => [.int .i64 x.1, .int .i64 x.2]
theorem bnds_len (l : List (Int × Int)) : (bnds l).length = l.length := by unfold bnds; rw [List.length_map]
structure C where
  name : ByteArray
  sup : Int
  fld : Int
  bv : AV
  B : List (Int × Int)
def C.cs (c : C) : List AV := [.str c.name, .int .i64 c.sup, .int .i64 c.fld, c.bv]
def css (L : List C) : List (List AV) := L.map C.cs
theorem css_len (L : List C) : (css L).length = L.length := by unfold css; rw [List.length_map]
theorem css_at {L : List C} {i : Nat} (h : i < (css L).length) : (css L)[i] = (L[i]'(by rw [css_len] at h; exact h)).cs := List.getElem_map (h := h) ..
def big : Nat := 9223372036854775807
structure CR (v : AV) (h : Mem) (nx : Nat) (L : List C) : Prop where
  r : RD 4 v h nx (css L)
  n : L.length ≤ big
  b : ∀ c ∈ L, RD 2 c.bv h nx (bnds c.B) ∧ c.B.length ≤ big ∧ c.name.size ≤ big
theorem CR.keeps {v : AV} {h h' : Mem} {nx nx' : Nat} {L : List C} (g : CR v h nx L) (hn : nx ≤ nx') (e : ∀ b, b < nx → h'.blk b = h.blk b) : CR v h' nx' L :=
  ⟨g.r.keeps hn e, g.n, fun c hc => ⟨(g.b c hc).1.keeps hn e, (g.b c hc).2⟩⟩
theorem CR.lenOp {v : AV} {h : Mem} {nx : Nat} {L : List C} (g : CR v h nx L) : lenOp v = A.ret (.int .i64 L.length) := by rw [g.r.lenOp, css_len]
theorem CR.el {v : AV} {h : Mem} {nx : Nat} {L : List C} (g : CR v h nx L) {i : Nat} (hi : i < L.length) : ∃ b o, El v (i : Int) 4 h nx L[i].cs b o := by
  obtain ⟨b, o, e⟩ := g.r.el (i := i) (by rw [css_len]; exact hi)
  rw [css_at] at e
  exact ⟨b, o, e⟩

/-! ### Chain -/
def chainN (L : List C) : Nat → Int → List Int
  | 0, _ => []
  | k + 1, i => if h : 0 ≤ i ∧ i < L.length then i :: chainN L k (L[i.toNat]'(by omega)).sup else []
theorem chainN_len (L : List C) : ∀ k i, (chainN L k i).length ≤ k
  | 0, _ => Nat.le_refl _
  | k + 1, i => by
    unfold chainN
    split
    · rw [List.length_cons]; have := chainN_len L k (L[i.toNat]'(by omega)).sup; omega
    · exact Nat.zero_le _
def chain (L : List C) (i : Int) : List Int := chainN L 8 i
def ChI (nt : Nat) (v : AV) (L : List C) (tot : List Int) (h0 : Mem) (nx0 : Nat) (m : Nat) (ts : List AV) (h : Mem) (nx tc wr : Nat) : Prop := ∃ (acc : List Int) (i : Int) (s : AV),
  m = 8 - acc.length ∧ acc.length ≤ 8 ∧ ts.length = nt ∧ sl ts 0 = v ∧ sl ts 1 = .int .i64 i ∧ sl ts 5 = s ∧ OW 1 s h nx (i64s acc) ∧ (∀ b, bid s = some b → nx0 ≤ b) ∧ nx0 ≤ nx ∧ (∀ q, q < nx0 → h.blk q = h0.blk q) ∧ acc ++ chainN L (8 - acc.length) i = tot ∧ ∀ q, q < nx0 → wr &&& 2 ^ q = 0
def ChR (nt : Nat) (tot : List Int) (h0 : Mem) (nx0 : Nat) (e : Ex) (ts : List AV) (h : Mem) (nx tc wr : Nat) : Prop := e = .exit 0 ∧ ∃ s, ts.length = nt ∧ sl ts 5 = s ∧ OW 1 s h nx (i64s tot) ∧ (∀ b, bid s = some b → nx0 ≤ b) ∧ nx0 ≤ nx ∧ (∀ q, q < nx0 → h.blk q = h0.blk q) ∧ ∀ q, q < nx0 → wr &&& 2 ^ q = 0
theorem wr_or {a b q : Nat} (h : a &&& 2 ^ q = 0) (g : b &&& 2 ^ q = 0) : (a ||| b) &&& 2 ^ q = 0 := by rw [Nat.and_or_distrib_right, h, g]; rfl
set_option maxHeartbeats 8000000 in
theorem ch_round {nt : Nat} {body : AC} (hB : body = L15_0b ∧ nt = 30 ∨ body = L23_0b ∧ nt = 29) {v : AV} {L : List C} {h0 : Mem} {nx0 : Nat} (g : CR v h0 nx0 L) (tot : List Int) (lg : Nat) (hlg : lg ≤ nx0) (m : Nat) (ts : List AV) (h : Mem) (nx tc wr : Nat) (hi : ChI nt v L tot h0 nx0 m ts h nx tc wr) :
    Post (xC T 60 body ts h nx lg) fun v' h' nx' tc' wr' => Round (ChI nt v L tot h0 nx0) (ChR nt tot h0 nx0) m v' h' nx' (tc ||| tc') (wr ||| wr') := by
  obtain ⟨acc, i, s, rfl, ha, hlen, g0, g1, g5, ow, sf, hn, hk, et, hw⟩ := hi
  have gc := g.keeps hn hk
  have lv := gc.lenOp
  have ls := ow.lenOp
  rw [i64s_len] at ls
  by_cases c : (0 ≤ i ∧ i < L.length) ∧ acc.length < 8
  · obtain ⟨⟨c1, c2⟩, c3⟩ := c
    obtain ⟨k, rfl⟩ : ∃ k : Nat, i = k := ⟨i.toNat, by omega⟩
    have ck : k < L.length := by omega
    have c3' : (acc.length : Int) < 8 := by omega
    obtain ⟨s', h', nx', tc', wr', e, n1, ow', k1, d1, t1, w1⟩ := OW.push (sz := 1) (by decide) 3 8 ow [.int .i64 (k : Int)] rfl (fun n hn => fits_few (by rw [i64s_len] at hn; omega) (by omega)) rfl 3 1 lg
    have k1' : ∀ q, q < nx0 → h'.blk q = h.blk q := fun q hq => k1 q (by omega) fun e => by have := sf q e; omega
    obtain ⟨b, o, el⟩ := (gc.keeps (nx' := nx') (by omega) fun q hq => rfl).el ck
    have gc' := g.keeps (nx' := nx') (h' := h') (by omega) fun q hq => (k1' q hq).trans (hk q hq)
    obtain ⟨b, o, el⟩ := gc'.el ck
    have l1 := el.one 1 _ rfl
    have et' : (acc ++ [(k : Int)]) ++ chainN L (8 - (acc ++ [(k : Int)]).length) L[k].sup = tot := by
      rw [← et, List.append_assoc]
      congr 1
      obtain ⟨j, hj⟩ : ∃ j, 8 - acc.length = j + 1 := ⟨7 - acc.length, by omega⟩
      rw [hj, List.length_append, List.length_singleton, show 8 - (acc.length + 1) = j by omega]
      rw [chainN, dif_pos ⟨c1, c2⟩]
      rfl
    have fin : ∀ (ts' : List AV) (tc2 : Nat), ts'.length = nt → sl ts' 0 = v → sl ts' 1 = .int .i64 L[k].sup → sl ts' 5 = s' → Round (ChI nt v L tot h0 nx0) (ChR nt tot h0 nx0) (8 - acc.length) (.nor, ts') h' nx' tc2 (wr ||| wr') := fun ts' tc2 a0 a1 a2 a3 =>
      Round.nor (m' := 8 - (acc ++ [(k : Int)]).length) (by rw [List.length_append, List.length_singleton]; omega) ⟨acc ++ [(k : Int)], _, s', rfl, by rw [List.length_append, List.length_singleton]; omega, a0, a1, a2, a3, by rw [i64s_app]; exact ow', fun b hb => by rcases d1 b hb with h | h; exact sf b h; omega, by omega, fun q hq => (k1' q hq).trans (hk q hq), et', fun q hq => wr_or (hw q hq) (w1 q fun e => by have := sf q e; omega)⟩
    rcases hB with ⟨rfl, rfl⟩ | ⟨rfl, rfl⟩
    · simp (maxSteps := 4000000) [↓step_none, ↓step_t, ↓step_f, ↓step_nt, ↓step_nf, ↓op_load, ↓op_store, ↓op_slice, ↓op_app, ↓op_islc, ↓P_skip, ↓P_exit, ↓P_ret, ↓P_seq, ↓P_cond, ↓P_blk, ↓P_reg, ↓P_draw, ↓P_nil, ↓P_cons, condP_t, condP_f, dum_ab, stepR, want_none, want_some, opRun, ev_t, ev_c, put_none, put_some, resAll, res_tmp, res_cell, oneOf, minI, maxI, min2A, max2A, mn2, mx2, mx3, rdBlk, wrBlk, newBlk, partA, abin, ibin, isShift, AV.cells, AV.one, lay, sub, fillA, lenA, toN, allApart, apartFrom, Nat.testBit, Mem.blk_set_same, Mem.blk_set_ne, Mem.set_set, bit_zero, bit_self, lowBits_or, lowBits_zero, len_setT, sl_same, sl_ne, len_frame, sl_frame,↓op_len, lenOp_slc, lenOp_nils, ↓Post.some, ↓Post_bind, ↓Post_ret, ↓Post_draw, ↓PostL_nil, ↓PostL_cons, Post_fail, ofOpt_some, ofOpt_none, eA_b, eA_i, eA_s, eA_nn, eA_np, eA_pn, eA_lnn, eA_lnp, eA_lpn, eA_i2, eA_i3, blt_dec, Nat.add_assoc, keeps_refl, keeps_at, keeps_up, new_one, and_pow, bit_hi, lowBits_pow, ble_dec, fr_refl, fr_at, fr_up, fr_p, dum_ab, reps, L15_0b, hlen, g0, g1, g5, lv, ls, c1, c2, c3, c3', ck, e, el.pl, l1, C.cs]
      refine fin _ _ ?_ ?_ ?_ ?_ <;> simp [len_setT, sl_same, sl_ne, hlen, g0]
    · simp (maxSteps := 4000000) [↓step_none, ↓step_t, ↓step_f, ↓step_nt, ↓step_nf, ↓op_load, ↓op_store, ↓op_slice, ↓op_app, ↓op_islc, ↓P_skip, ↓P_exit, ↓P_ret, ↓P_seq, ↓P_cond, ↓P_blk, ↓P_reg, ↓P_draw, ↓P_nil, ↓P_cons, condP_t, condP_f, dum_ab, stepR, want_none, want_some, opRun, ev_t, ev_c, put_none, put_some, resAll, res_tmp, res_cell, oneOf, minI, maxI, min2A, max2A, mn2, mx2, mx3, rdBlk, wrBlk, newBlk, partA, abin, ibin, isShift, AV.cells, AV.one, lay, sub, fillA, lenA, toN, allApart, apartFrom, Nat.testBit, Mem.blk_set_same, Mem.blk_set_ne, Mem.set_set, bit_zero, bit_self, lowBits_or, lowBits_zero, len_setT, sl_same, sl_ne, len_frame, sl_frame,↓op_len, lenOp_slc, lenOp_nils, ↓Post.some, ↓Post_bind, ↓Post_ret, ↓Post_draw, ↓PostL_nil, ↓PostL_cons, Post_fail, ofOpt_some, ofOpt_none, eA_b, eA_i, eA_s, eA_nn, eA_np, eA_pn, eA_lnn, eA_lnp, eA_lpn, eA_i2, eA_i3, blt_dec, Nat.add_assoc, keeps_refl, keeps_at, keeps_up, new_one, and_pow, bit_hi, lowBits_pow, ble_dec, fr_refl, fr_at, fr_up, fr_p, dum_ab, reps, L23_0b, hlen, g0, g1, g5, lv, ls, c1, c2, c3, c3', ck, e, el.pl, l1, C.cs]
      refine fin _ _ ?_ ?_ ?_ ?_ <;> simp [len_setT, sl_same, sl_ne, hlen, g0]
  · have et' : acc = tot := by
      rw [← et]
      cases hj : 8 - acc.length with
      | zero => rw [chainN, List.append_nil]
      | succ j => rw [chainN, dif_neg (fun x => c ⟨x, by omega⟩), List.append_nil]
    subst et'
    have fin : ∀ mm ts' tc2, ts'.length = nt → sl ts' 5 = s → Round (ChI nt v L acc h0 nx0) (ChR nt acc h0 nx0) mm (.exit 0, ts') h nx tc2 wr := fun mm ts' tc2 a b => Round.exit (R := ChR nt acc h0 nx0) ⟨rfl, s, a, b, ow, sf, hn, hk, hw⟩
    by_cases c1 : 0 ≤ i
    · by_cases c2 : i < L.length
      · have c3 : acc.length = 8 := by
          have : ¬ acc.length < 8 := fun x => c ⟨⟨c1, c2⟩, x⟩
          omega
        rw [c3] at ls
        rcases hB with ⟨rfl, rfl⟩ | ⟨rfl, rfl⟩
        · simp (maxSteps := 4000000) [↓step_none, ↓step_t, ↓step_f, ↓step_nt, ↓step_nf, ↓op_load, ↓op_store, ↓op_slice, ↓op_app, ↓op_islc, ↓P_skip, ↓P_exit, ↓P_ret, ↓P_seq, ↓P_cond, ↓P_blk, ↓P_reg, ↓P_draw, ↓P_nil, ↓P_cons, condP_t, condP_f, dum_ab, stepR, want_none, want_some, opRun, ev_t, ev_c, put_none, put_some, resAll, res_tmp, res_cell, oneOf, minI, maxI, min2A, max2A, mn2, mx2, mx3, rdBlk, wrBlk, newBlk, partA, abin, ibin, isShift, AV.cells, AV.one, lay, sub, fillA, lenA, toN, allApart, apartFrom, Nat.testBit, Mem.blk_set_same, Mem.blk_set_ne, Mem.set_set, bit_zero, bit_self, lowBits_or, lowBits_zero, len_setT, sl_same, sl_ne, len_frame, sl_frame,↓op_len, lenOp_slc, lenOp_nils, ↓Post.some, ↓Post_bind, ↓Post_ret, ↓Post_draw, ↓PostL_nil, ↓PostL_cons, Post_fail, ofOpt_some, ofOpt_none, eA_b, eA_i, eA_s, eA_nn, eA_np, eA_pn, eA_lnn, eA_lnp, eA_lpn, eA_i2, eA_i3, blt_dec, Nat.add_assoc, keeps_refl, keeps_at, keeps_up, new_one, and_pow, bit_hi, lowBits_pow, ble_dec, fr_refl, fr_at, fr_up, fr_p, dum_ab, reps, L15_0b, hlen, g0, g1, g5, lv, ls, c1, c2, c3]
          refine fin _ _ _ ?_ ?_ <;> simp [len_setT, sl_same, sl_ne, hlen, g5]
        · simp (maxSteps := 4000000) [↓step_none, ↓step_t, ↓step_f, ↓step_nt, ↓step_nf, ↓op_load, ↓op_store, ↓op_slice, ↓op_app, ↓op_islc, ↓P_skip, ↓P_exit, ↓P_ret, ↓P_seq, ↓P_cond, ↓P_blk, ↓P_reg, ↓P_draw, ↓P_nil, ↓P_cons, condP_t, condP_f, dum_ab, stepR, want_none, want_some, opRun, ev_t, ev_c, put_none, put_some, resAll, res_tmp, res_cell, oneOf, minI, maxI, min2A, max2A, mn2, mx2, mx3, rdBlk, wrBlk, newBlk, partA, abin, ibin, isShift, AV.cells, AV.one, lay, sub, fillA, lenA, toN, allApart, apartFrom, Nat.testBit, Mem.blk_set_same, Mem.blk_set_ne, Mem.set_set, bit_zero, bit_self, lowBits_or, lowBits_zero, len_setT, sl_same, sl_ne, len_frame, sl_frame,↓op_len, lenOp_slc, lenOp_nils, ↓Post.some, ↓Post_bind, ↓Post_ret, ↓Post_draw, ↓PostL_nil, ↓PostL_cons, Post_fail, ofOpt_some, ofOpt_none, eA_b, eA_i, eA_s, eA_nn, eA_np, eA_pn, eA_lnn, eA_lnp, eA_lpn, eA_i2, eA_i3, blt_dec, Nat.add_assoc, keeps_refl, keeps_at, keeps_up, new_one, and_pow, bit_hi, lowBits_pow, ble_dec, fr_refl, fr_at, fr_up, fr_p, dum_ab, reps, L23_0b, hlen, g0, g1, g5, lv, ls, c1, c2, c3]
          refine fin _ _ _ ?_ ?_ <;> simp [len_setT, sl_same, sl_ne, hlen, g5]
      · rcases hB with ⟨rfl, rfl⟩ | ⟨rfl, rfl⟩
        · simp (maxSteps := 4000000) [↓step_none, ↓step_t, ↓step_f, ↓step_nt, ↓step_nf, ↓op_load, ↓op_store, ↓op_slice, ↓op_app, ↓op_islc, ↓P_skip, ↓P_exit, ↓P_ret, ↓P_seq, ↓P_cond, ↓P_blk, ↓P_reg, ↓P_draw, ↓P_nil, ↓P_cons, condP_t, condP_f, dum_ab, stepR, want_none, want_some, opRun, ev_t, ev_c, put_none, put_some, resAll, res_tmp, res_cell, oneOf, minI, maxI, min2A, max2A, mn2, mx2, mx3, rdBlk, wrBlk, newBlk, partA, abin, ibin, isShift, AV.cells, AV.one, lay, sub, fillA, lenA, toN, allApart, apartFrom, Nat.testBit, Mem.blk_set_same, Mem.blk_set_ne, Mem.set_set, bit_zero, bit_self, lowBits_or, lowBits_zero, len_setT, sl_same, sl_ne, len_frame, sl_frame,↓op_len, lenOp_slc, lenOp_nils, ↓Post.some, ↓Post_bind, ↓Post_ret, ↓Post_draw, ↓PostL_nil, ↓PostL_cons, Post_fail, ofOpt_some, ofOpt_none, eA_b, eA_i, eA_s, eA_nn, eA_np, eA_pn, eA_lnn, eA_lnp, eA_lpn, eA_i2, eA_i3, blt_dec, Nat.add_assoc, keeps_refl, keeps_at, keeps_up, new_one, and_pow, bit_hi, lowBits_pow, ble_dec, fr_refl, fr_at, fr_up, fr_p, dum_ab, reps, L15_0b, hlen, g0, g1, g5, lv, ls, c1, c2]
          refine fin _ _ _ ?_ ?_ <;> simp [len_setT, sl_same, sl_ne, hlen, g5]
        · simp (maxSteps := 4000000) [↓step_none, ↓step_t, ↓step_f, ↓step_nt, ↓step_nf, ↓op_load, ↓op_store, ↓op_slice, ↓op_app, ↓op_islc, ↓P_skip, ↓P_exit, ↓P_ret, ↓P_seq, ↓P_cond, ↓P_blk, ↓P_reg, ↓P_draw, ↓P_nil, ↓P_cons, condP_t, condP_f, dum_ab, stepR, want_none, want_some, opRun, ev_t, ev_c, put_none, put_some, resAll, res_tmp, res_cell, oneOf, minI, maxI, min2A, max2A, mn2, mx2, mx3, rdBlk, wrBlk, newBlk, partA, abin, ibin, isShift, AV.cells, AV.one, lay, sub, fillA, lenA, toN, allApart, apartFrom, Nat.testBit, Mem.blk_set_same, Mem.blk_set_ne, Mem.set_set, bit_zero, bit_self, lowBits_or, lowBits_zero, len_setT, sl_same, sl_ne, len_frame, sl_frame,↓op_len, lenOp_slc, lenOp_nils, ↓Post.some, ↓Post_bind, ↓Post_ret, ↓Post_draw, ↓PostL_nil, ↓PostL_cons, Post_fail, ofOpt_some, ofOpt_none, eA_b, eA_i, eA_s, eA_nn, eA_np, eA_pn, eA_lnn, eA_lnp, eA_lpn, eA_i2, eA_i3, blt_dec, Nat.add_assoc, keeps_refl, keeps_at, keeps_up, new_one, and_pow, bit_hi, lowBits_pow, ble_dec, fr_refl, fr_at, fr_up, fr_p, dum_ab, reps, L23_0b, hlen, g0, g1, g5, lv, ls, c1, c2]
          refine fin _ _ _ ?_ ?_ <;> simp [len_setT, sl_same, sl_ne, hlen, g5]
    · rcases hB with ⟨rfl, rfl⟩ | ⟨rfl, rfl⟩
      · simp (maxSteps := 4000000) [↓step_none, ↓step_t, ↓step_f, ↓step_nt, ↓step_nf, ↓op_load, ↓op_store, ↓op_slice, ↓op_app, ↓op_islc, ↓P_skip, ↓P_exit, ↓P_ret, ↓P_seq, ↓P_cond, ↓P_blk, ↓P_reg, ↓P_draw, ↓P_nil, ↓P_cons, condP_t, condP_f, dum_ab, stepR, want_none, want_some, opRun, ev_t, ev_c, put_none, put_some, resAll, res_tmp, res_cell, oneOf, minI, maxI, min2A, max2A, mn2, mx2, mx3, rdBlk, wrBlk, newBlk, partA, abin, ibin, isShift, AV.cells, AV.one, lay, sub, fillA, lenA, toN, allApart, apartFrom, Nat.testBit, Mem.blk_set_same, Mem.blk_set_ne, Mem.set_set, bit_zero, bit_self, lowBits_or, lowBits_zero, len_setT, sl_same, sl_ne, len_frame, sl_frame,↓op_len, lenOp_slc, lenOp_nils, ↓Post.some, ↓Post_bind, ↓Post_ret, ↓Post_draw, ↓PostL_nil, ↓PostL_cons, Post_fail, ofOpt_some, ofOpt_none, eA_b, eA_i, eA_s, eA_nn, eA_np, eA_pn, eA_lnn, eA_lnp, eA_lpn, eA_i2, eA_i3, blt_dec, Nat.add_assoc, keeps_refl, keeps_at, keeps_up, new_one, and_pow, bit_hi, lowBits_pow, ble_dec, fr_refl, fr_at, fr_up, fr_p, dum_ab, reps, L15_0b, hlen, g0, g1, g5, lv, ls, c1]
        refine fin _ _ _ ?_ ?_ <;> simp [len_setT, sl_same, sl_ne, hlen, g5]
      · simp (maxSteps := 4000000) [↓step_none, ↓step_t, ↓step_f, ↓step_nt, ↓step_nf, ↓op_load, ↓op_store, ↓op_slice, ↓op_app, ↓op_islc, ↓P_skip, ↓P_exit, ↓P_ret, ↓P_seq, ↓P_cond, ↓P_blk, ↓P_reg, ↓P_draw, ↓P_nil, ↓P_cons, condP_t, condP_f, dum_ab, stepR, want_none, want_some, opRun, ev_t, ev_c, put_none, put_some, resAll, res_tmp, res_cell, oneOf, minI, maxI, min2A, max2A, mn2, mx2, mx3, rdBlk, wrBlk, newBlk, partA, abin, ibin, isShift, AV.cells, AV.one, lay, sub, fillA, lenA, toN, allApart, apartFrom, Nat.testBit, Mem.blk_set_same, Mem.blk_set_ne, Mem.set_set, bit_zero, bit_self, lowBits_or, lowBits_zero, len_setT, sl_same, sl_ne, len_frame, sl_frame,↓op_len, lenOp_slc, lenOp_nils, ↓Post.some, ↓Post_bind, ↓Post_ret, ↓Post_draw, ↓PostL_nil, ↓PostL_cons, Post_fail, ofOpt_some, ofOpt_none, eA_b, eA_i, eA_s, eA_nn, eA_np, eA_pn, eA_lnn, eA_lnp, eA_lpn, eA_i2, eA_i3, blt_dec, Nat.add_assoc, keeps_refl, keeps_at, keeps_up, new_one, and_pow, bit_hi, lowBits_pow, ble_dec, fr_refl, fr_at, fr_up, fr_p, dum_ab, reps, L23_0b, hlen, g0, g1, g5, lv, ls, c1]
        refine fin _ _ _ ?_ ?_ <;> simp [len_setT, sl_same, sl_ne, hlen, g5]
/-- A row is clipped. -/
theorem clip_ok {s : AV} {h : Mem} {nx : Nat} {l : List Int} (g : OW 1 s h nx (i64s l)) : ∃ y, RD 1 y h nx (i64s l) ∧ bid y = bid s ∧ RdC T 30 29 [s] h nx y := by
  have ls := g.lenOp
  rw [i64s_len] at ls
  rcases g with ⟨rfl, e⟩ | ⟨b, rfl, e, hb, K, hK⟩ | ⟨b, t, r, rfl, hb, hs, hK⟩ | ⟨b, t, z, g, rfl, hb, hs, hK⟩
  rotate_left 3
  · rw [i64s_len] at ls ⊢
    refine ⟨.slc b 0 l.length (some l.length), RD.lit (by rw [i64s_len]) hs hb hK, rfl, fun lg hlg => ?_⟩
    have b1 : bnd l.length l.length (some (.int .i64 (l.length : Nat))) = some l.length := asI_at _ _ (Nat.le_refl _) _
    have b3 : bnd 0 l.length none = some 0 := rfl
    have e0 : sliceA 1 (.slc b 0 l.length (some l.length)) none (some (.int .i64 (l.length : Nat))) (some (.int .i64 (l.length : Nat))) h nx lg = some ⟨.slc b 0 l.length (some l.length), h, nx, 0, 0⟩ := by
      simp only [sliceA, b1, b3, A.ret, Nat.zero_mul, Nat.add_zero, Nat.sub_zero]
    rw [xF_fr T29]
    simp (maxSteps := 4000000) [↓step_none, ↓step_t, ↓step_f, ↓step_nt, ↓step_nf, ↓op_load, ↓op_store, ↓op_slice, ↓op_app, ↓op_islc, ↓P_skip, ↓P_exit, ↓P_ret, ↓P_seq, ↓P_cond, ↓P_blk, ↓P_reg, ↓P_draw, ↓P_nil, ↓P_cons, condP_t, condP_f, dum_ab, stepR, want_none, want_some, opRun, ev_t, ev_c, put_none, put_some, resAll, res_tmp, res_cell, oneOf, minI, maxI, min2A, max2A, mn2, mx2, mx3, rdBlk, wrBlk, newBlk, partA, abin, ibin, isShift, AV.cells, AV.one, lay, sub, fillA, lenA, toN, allApart, apartFrom, Nat.testBit, Mem.blk_set_same, Mem.blk_set_ne, Mem.set_set, bit_zero, bit_self, lowBits_or, lowBits_zero, len_setT, sl_same, sl_ne, len_frame, sl_frame,↓op_len, lenOp_slc, lenOp_nils, ↓Post.some, ↓Post_bind, ↓Post_ret, ↓Post_draw, ↓PostL_nil, ↓PostL_cons, Post_fail, ofOpt_some, ofOpt_none, eA_b, eA_i, eA_s, eA_nn, eA_np, eA_pn, eA_lnn, eA_lnp, eA_lpn, eA_i2, eA_i3, blt_dec, Nat.add_assoc, keeps_refl, keeps_at, keeps_up, new_one, and_pow, bit_hi, lowBits_pow, ble_dec, fr_refl, fr_at, fr_up, fr_p, dum_ab, reps, F29, ls, i64s_len, e0]
  · refine ⟨.nils, .inl ⟨rfl, e⟩, rfl, fun lg hlg => ?_⟩
    have e0 : sliceA 1 .nils none (some (.int .i64 0)) (some (.int .i64 0)) h nx lg = some ⟨.nils, h, nx, 0, 0⟩ := rfl
    rw [xF_fr T29]
    simp (maxSteps := 4000000) [↓step_none, ↓step_t, ↓step_f, ↓step_nt, ↓step_nf, ↓op_load, ↓op_store, ↓op_slice, ↓op_app, ↓op_islc, ↓P_skip, ↓P_exit, ↓P_ret, ↓P_seq, ↓P_cond, ↓P_blk, ↓P_reg, ↓P_draw, ↓P_nil, ↓P_cons, condP_t, condP_f, dum_ab, stepR, want_none, want_some, opRun, ev_t, ev_c, put_none, put_some, resAll, res_tmp, res_cell, oneOf, minI, maxI, min2A, max2A, mn2, mx2, mx3, rdBlk, wrBlk, newBlk, partA, abin, ibin, isShift, AV.cells, AV.one, lay, sub, fillA, lenA, toN, allApart, apartFrom, Nat.testBit, Mem.blk_set_same, Mem.blk_set_ne, Mem.set_set, bit_zero, bit_self, lowBits_or, lowBits_zero, len_setT, sl_same, sl_ne, len_frame, sl_frame,↓op_len, lenOp_slc, lenOp_nils, ↓Post.some, ↓Post_bind, ↓Post_ret, ↓Post_draw, ↓PostL_nil, ↓PostL_cons, Post_fail, ofOpt_some, ofOpt_none, eA_b, eA_i, eA_s, eA_nn, eA_np, eA_pn, eA_lnn, eA_lnp, eA_lpn, eA_i2, eA_i3, blt_dec, Nat.add_assoc, keeps_refl, keeps_at, keeps_up, new_one, and_pow, bit_hi, lowBits_pow, ble_dec, fr_refl, fr_at, fr_up, fr_p, dum_ab, reps, F29, e0]
  · refine ⟨.slc b 0 0 (some 0), by rw [e]; exact .inr ⟨b, 0, _, rfl, hb, (fun _ h => nomatch h), .inl ⟨0, rfl, Nat.le_refl _, .inl rfl⟩⟩, rfl, fun lg hlg => ?_⟩
    have e0 : sliceA 1 (.slc b 0 0 (some 0)) none (some (.int .i64 0)) (some (.int .i64 0)) h nx lg = some ⟨.slc b 0 0 (some 0), h, nx, 0, 0⟩ := rfl
    rw [xF_fr T29]
    simp (maxSteps := 4000000) [↓step_none, ↓step_t, ↓step_f, ↓step_nt, ↓step_nf, ↓op_load, ↓op_store, ↓op_slice, ↓op_app, ↓op_islc, ↓P_skip, ↓P_exit, ↓P_ret, ↓P_seq, ↓P_cond, ↓P_blk, ↓P_reg, ↓P_draw, ↓P_nil, ↓P_cons, condP_t, condP_f, dum_ab, stepR, want_none, want_some, opRun, ev_t, ev_c, put_none, put_some, resAll, res_tmp, res_cell, oneOf, minI, maxI, min2A, max2A, mn2, mx2, mx3, rdBlk, wrBlk, newBlk, partA, abin, ibin, isShift, AV.cells, AV.one, lay, sub, fillA, lenA, toN, allApart, apartFrom, Nat.testBit, Mem.blk_set_same, Mem.blk_set_ne, Mem.set_set, bit_zero, bit_self, lowBits_or, lowBits_zero, len_setT, sl_same, sl_ne, len_frame, sl_frame,↓op_len, lenOp_slc, lenOp_nils, ↓Post.some, ↓Post_bind, ↓Post_ret, ↓Post_draw, ↓PostL_nil, ↓PostL_cons, Post_fail, ofOpt_some, ofOpt_none, eA_b, eA_i, eA_s, eA_nn, eA_np, eA_pn, eA_lnn, eA_lnp, eA_lpn, eA_i2, eA_i3, blt_dec, Nat.add_assoc, keeps_refl, keeps_at, keeps_up, new_one, and_pow, bit_hi, lowBits_pow, ble_dec, fr_refl, fr_at, fr_up, fr_p, dum_ab, reps, F29, e0]
  · have fl := flat_len hs
    rw [i64s_len] at fl ls
    refine ⟨.slc b 0 l.length (some l.length), .inr ⟨b, 0, _, by rw [i64s_len], hb, hs, .inl ⟨_, rfl, by rw [i64s_len]; exact Nat.le_refl _, .inr ⟨_, hK, ?_⟩⟩⟩, rfl, fun lg hlg => ?_⟩
    · unfold sub
      rw [Nat.ble_eq_true_of_le (by rw [List.length_append, fl, i64s_len]; omega)]
      simp only [List.drop_zero, Option.some.injEq]
      rw [i64s_len, List.take_append_of_le_length (by omega), List.take_of_length_le (by omega)]
    · have b1 : bnd 0 (((i64s l).flatten ++ r).length - 0) (some (.int .i64 (l.length : Nat))) = some l.length := asI_at _ _ (by rw [List.length_append, fl]; omega) _
      have b2 : bnd (i64s l).length l.length (some (.int .i64 (l.length : Nat))) = some l.length := asI_at _ _ (Nat.le_refl _) _
      have b3 : bnd 0 l.length none = some 0 := rfl
      rw [i64s_len] at b2
      rw [Nat.sub_zero] at b1
      have e0 : sliceA 1 (.slc b 0 l.length none) none (some (.int .i64 (l.length : Nat))) (some (.int .i64 (l.length : Nat))) h nx lg = some ⟨.slc b 0 l.length (some l.length), h, nx, bit lg b, 0⟩ := by
        have c0 : (true && Nat.blt 0 1 && Nat.beq 1 1) = true := rfl
        simp only [sliceA, A.bind, rdBlk, blt_of hb, hK, c0, Nat.div_one, b1, b2, b3, A.ret, Nat.or_zero, Nat.zero_mul, Nat.add_zero, Nat.sub_zero]
      rw [xF_fr T29]
      simp (maxSteps := 4000000) [↓step_none, ↓step_t, ↓step_f, ↓step_nt, ↓step_nf, ↓op_load, ↓op_store, ↓op_slice, ↓op_app, ↓op_islc, ↓P_skip, ↓P_exit, ↓P_ret, ↓P_seq, ↓P_cond, ↓P_blk, ↓P_reg, ↓P_draw, ↓P_nil, ↓P_cons, condP_t, condP_f, dum_ab, stepR, want_none, want_some, opRun, ev_t, ev_c, put_none, put_some, resAll, res_tmp, res_cell, oneOf, minI, maxI, min2A, max2A, mn2, mx2, mx3, rdBlk, wrBlk, newBlk, partA, abin, ibin, isShift, AV.cells, AV.one, lay, sub, fillA, lenA, toN, allApart, apartFrom, Nat.testBit, Mem.blk_set_same, Mem.blk_set_ne, Mem.set_set, bit_zero, bit_self, lowBits_or, lowBits_zero, len_setT, sl_same, sl_ne, len_frame, sl_frame,↓op_len, lenOp_slc, lenOp_nils, ↓Post.some, ↓Post_bind, ↓Post_ret, ↓Post_draw, ↓PostL_nil, ↓PostL_cons, Post_fail, ofOpt_some, ofOpt_none, eA_b, eA_i, eA_s, eA_nn, eA_np, eA_pn, eA_lnn, eA_lnp, eA_lpn, eA_i2, eA_i3, blt_dec, Nat.add_assoc, keeps_refl, keeps_at, keeps_up, new_one, and_pow, bit_hi, lowBits_pow, ble_dec, fr_refl, fr_at, fr_up, fr_p, dum_ab, reps, F29, ls, i64s_len, e0]
theorem chain_nw {v : AV} {L : List C} {h : Mem} {nx : Nat} (g : CR v h nx L) (i : Int) : NwC T 120 15 [v, .int .i64 i] h nx fun r h' nx' => RD 1 r h' nx' (i64s (chain L i)) ∧ ∀ b, bid r = some b → nx ≤ b := by
  intro lg hlg
  rw [xF_fr T15]
  simp (maxSteps := 4000000) [↓step_none, ↓step_t, ↓step_f, ↓step_nt, ↓step_nf, ↓op_load, ↓op_store, ↓op_slice, ↓op_app, ↓op_islc, ↓P_skip, ↓P_exit, ↓P_ret, ↓P_seq, ↓P_cond, ↓P_blk, ↓P_reg, ↓P_draw, ↓P_nil, ↓P_cons, condP_t, condP_f, dum_ab, stepR, want_none, want_some, opRun, ev_t, ev_c, put_none, put_some, resAll, res_tmp, res_cell, oneOf, minI, maxI, min2A, max2A, mn2, mx2, mx3, rdBlk, wrBlk, newBlk, partA, abin, ibin, isShift, AV.cells, AV.one, lay, sub, fillA, lenA, toN, allApart, apartFrom, Nat.testBit, Mem.blk_set_same, Mem.blk_set_ne, Mem.set_set, bit_zero, bit_self, lowBits_or, lowBits_zero, len_setT, sl_same, sl_ne, len_frame, sl_frame,↓op_len, lenOp_slc, lenOp_nils, ↓Post.some, ↓Post_bind, ↓Post_ret, ↓Post_draw, ↓PostL_nil, ↓PostL_cons, Post_fail, ofOpt_some, ofOpt_none, eA_b, eA_i, eA_s, eA_nn, eA_np, eA_pn, eA_lnn, eA_lnp, eA_lpn, eA_i2, eA_i3, blt_dec, Nat.add_assoc, keeps_refl, keeps_at, keeps_up, new_one, and_pow, bit_hi, lowBits_pow, ble_dec, fr_refl, fr_at, fr_up, fr_p, dum_ab, reps, F15, L15_0]
  refine Post.loop (ch_round (.inl ⟨rfl, rfl⟩) g (chain L i) lg hlg) 8 ⟨[], i, .nils, rfl, by decide, by simp [len_setT, sl_same, sl_ne, len_frame], by simp [len_setT, sl_same, sl_ne, sl_frame], by simp [len_setT, sl_same, sl_ne, sl_frame], by simp [len_setT, sl_same, sl_ne, len_frame], OW.nil .., (fun b hb => by cases hb), Nat.le_refl _, fun _ _ => rfl, rfl, fun q _ => Nat.zero_and _⟩ (by omega) ?_
  rintro e ts' h' nx' tc wr ⟨rfl, s, hlen, g5, ow, sf, hn, hk, hw⟩
  obtain ⟨y, ry, by1, cl⟩ := clip_ok ow
  simp (maxSteps := 4000000) [↓step_none, ↓step_t, ↓step_f, ↓step_nt, ↓step_nf, ↓op_load, ↓op_store, ↓op_slice, ↓op_app, ↓op_islc, ↓P_skip, ↓P_exit, ↓P_ret, ↓P_seq, ↓P_cond, ↓P_blk, ↓P_reg, ↓P_draw, ↓P_nil, ↓P_cons, condP_t, condP_f, dum_ab, stepR, want_none, want_some, opRun, ev_t, ev_c, put_none, put_some, resAll, res_tmp, res_cell, oneOf, minI, maxI, min2A, max2A, mn2, mx2, mx3, rdBlk, wrBlk, newBlk, partA, abin, ibin, isShift, AV.cells, AV.one, lay, sub, fillA, lenA, toN, allApart, apartFrom, Nat.testBit, Mem.blk_set_same, Mem.blk_set_ne, Mem.set_set, bit_zero, bit_self, lowBits_or, lowBits_zero, len_setT, sl_same, sl_ne, len_frame, sl_frame,↓op_len, lenOp_slc, lenOp_nils, ↓Post.some, ↓Post_bind, ↓Post_ret, ↓Post_draw, ↓PostL_nil, ↓PostL_cons, Post_fail, ofOpt_some, ofOpt_none, eA_b, eA_i, eA_s, eA_nn, eA_np, eA_pn, eA_lnn, eA_lnp, eA_lpn, eA_i2, eA_i3, blt_dec, Nat.add_assoc, keeps_refl, keeps_at, keeps_up, new_one, and_pow, bit_hi, lowBits_pow, ble_dec, fr_refl, fr_at, fr_up, fr_p, dum_ab, reps, hlen, g5]
  refine cl.post (by omega) (by omega) fun tc2 => ?_
  simp (maxSteps := 4000000) [↓step_none, ↓step_t, ↓step_f, ↓step_nt, ↓step_nf, ↓op_load, ↓op_store, ↓op_slice, ↓op_app, ↓op_islc, ↓P_skip, ↓P_exit, ↓P_ret, ↓P_seq, ↓P_cond, ↓P_blk, ↓P_reg, ↓P_draw, ↓P_nil, ↓P_cons, condP_t, condP_f, dum_ab, stepR, want_none, want_some, opRun, ev_t, ev_c, put_none, put_some, resAll, res_tmp, res_cell, oneOf, minI, maxI, min2A, max2A, mn2, mx2, mx3, rdBlk, wrBlk, newBlk, partA, abin, ibin, isShift, AV.cells, AV.one, lay, sub, fillA, lenA, toN, allApart, apartFrom, Nat.testBit, Mem.blk_set_same, Mem.blk_set_ne, Mem.set_set, bit_zero, bit_self, lowBits_or, lowBits_zero, len_setT, sl_same, sl_ne, len_frame, sl_frame,↓op_len, lenOp_slc, lenOp_nils, ↓Post.some, ↓Post_bind, ↓Post_ret, ↓Post_draw, ↓PostL_nil, ↓PostL_cons, Post_fail, ofOpt_some, ofOpt_none, eA_b, eA_i, eA_s, eA_nn, eA_np, eA_pn, eA_lnn, eA_lnp, eA_lpn, eA_i2, eA_i3, blt_dec, Nat.add_assoc, keeps_refl, keeps_at, keeps_up, new_one, and_pow, bit_hi, lowBits_pow, ble_dec, fr_refl, fr_at, fr_up, fr_p, dum_ab, reps, hlen, g5]
  exact ⟨⟨ry, fun b hb => sf b (by1 ▸ hb)⟩, hn, hk, hw⟩
theorem rchain_nw {v : AV} {L : List C} {h : Mem} {nx : Nat} (g : CR v h nx L) (i : Int) : NwC T 120 23 [v, .int .i64 i] h nx fun r h' nx' => RD 1 r h' nx' (i64s (chain L i)) ∧ ∀ b, bid r = some b → nx ≤ b := by
  intro lg hlg
  rw [xF_fr T23]
  simp (maxSteps := 4000000) [↓step_none, ↓step_t, ↓step_f, ↓step_nt, ↓step_nf, ↓op_load, ↓op_store, ↓op_slice, ↓op_app, ↓op_islc, ↓P_skip, ↓P_exit, ↓P_ret, ↓P_seq, ↓P_cond, ↓P_blk, ↓P_reg, ↓P_draw, ↓P_nil, ↓P_cons, condP_t, condP_f, dum_ab, stepR, want_none, want_some, opRun, ev_t, ev_c, put_none, put_some, resAll, res_tmp, res_cell, oneOf, minI, maxI, min2A, max2A, mn2, mx2, mx3, rdBlk, wrBlk, newBlk, partA, abin, ibin, isShift, AV.cells, AV.one, lay, sub, fillA, lenA, toN, allApart, apartFrom, Nat.testBit, Mem.blk_set_same, Mem.blk_set_ne, Mem.set_set, bit_zero, bit_self, lowBits_or, lowBits_zero, len_setT, sl_same, sl_ne, len_frame, sl_frame,↓op_len, lenOp_slc, lenOp_nils, ↓Post.some, ↓Post_bind, ↓Post_ret, ↓Post_draw, ↓PostL_nil, ↓PostL_cons, Post_fail, ofOpt_some, ofOpt_none, eA_b, eA_i, eA_s, eA_nn, eA_np, eA_pn, eA_lnn, eA_lnp, eA_lpn, eA_i2, eA_i3, blt_dec, Nat.add_assoc, keeps_refl, keeps_at, keeps_up, new_one, and_pow, bit_hi, lowBits_pow, ble_dec, fr_refl, fr_at, fr_up, fr_p, dum_ab, reps, F23, L23_0]
  refine Post.loop (ch_round (.inr ⟨rfl, rfl⟩) g (chain L i) lg hlg) 8 ⟨[], i, .nils, rfl, by decide, by simp [len_setT, sl_same, sl_ne, len_frame], by simp [len_setT, sl_same, sl_ne, sl_frame], by simp [len_setT, sl_same, sl_ne, sl_frame], by simp [len_setT, sl_same, sl_ne, len_frame], OW.nil .., (fun b hb => by cases hb), Nat.le_refl _, fun _ _ => rfl, rfl, fun q _ => Nat.zero_and _⟩ (by omega) ?_
  rintro e ts' h' nx' tc wr ⟨rfl, s, hlen, g5, ow, sf, hn, hk, hw⟩
  simp (maxSteps := 4000000) [↓step_none, ↓step_t, ↓step_f, ↓step_nt, ↓step_nf, ↓op_load, ↓op_store, ↓op_slice, ↓op_app, ↓op_islc, ↓P_skip, ↓P_exit, ↓P_ret, ↓P_seq, ↓P_cond, ↓P_blk, ↓P_reg, ↓P_draw, ↓P_nil, ↓P_cons, condP_t, condP_f, dum_ab, stepR, want_none, want_some, opRun, ev_t, ev_c, put_none, put_some, resAll, res_tmp, res_cell, oneOf, minI, maxI, min2A, max2A, mn2, mx2, mx3, rdBlk, wrBlk, newBlk, partA, abin, ibin, isShift, AV.cells, AV.one, lay, sub, fillA, lenA, toN, allApart, apartFrom, Nat.testBit, Mem.blk_set_same, Mem.blk_set_ne, Mem.set_set, bit_zero, bit_self, lowBits_or, lowBits_zero, len_setT, sl_same, sl_ne, len_frame, sl_frame,↓op_len, lenOp_slc, lenOp_nils, ↓Post.some, ↓Post_bind, ↓Post_ret, ↓Post_draw, ↓PostL_nil, ↓PostL_cons, Post_fail, ofOpt_some, ofOpt_none, eA_b, eA_i, eA_s, eA_nn, eA_np, eA_pn, eA_lnn, eA_lnp, eA_lpn, eA_i2, eA_i3, blt_dec, Nat.add_assoc, keeps_refl, keeps_at, keeps_up, new_one, and_pow, bit_hi, lowBits_pow, ble_dec, fr_refl, fr_at, fr_up, fr_p, dum_ab, reps, hlen, g5]
  exact ⟨⟨ow.rd (by decide), sf⟩, hn, hk, hw⟩
theorem depth_nw {v : AV} {L : List C} {h : Mem} {nx : Nat} (g : CR v h nx L) (i : Int) : NwC T 160 16 [v, .int .i64 i] h nx fun r h' nx' => r = .int .i64 (chain L i).length := by
  intro lg hlg
  rw [xF_fr T16]
  simp (maxSteps := 4000000) [↓step_none, ↓step_t, ↓step_f, ↓step_nt, ↓step_nf, ↓op_load, ↓op_store, ↓op_slice, ↓op_app, ↓op_islc, ↓P_skip, ↓P_exit, ↓P_ret, ↓P_seq, ↓P_cond, ↓P_blk, ↓P_reg, ↓P_draw, ↓P_nil, ↓P_cons, condP_t, condP_f, dum_ab, stepR, want_none, want_some, opRun, ev_t, ev_c, put_none, put_some, resAll, res_tmp, res_cell, oneOf, minI, maxI, min2A, max2A, mn2, mx2, mx3, rdBlk, wrBlk, newBlk, partA, abin, ibin, isShift, AV.cells, AV.one, lay, sub, fillA, lenA, toN, allApart, apartFrom, Nat.testBit, Mem.blk_set_same, Mem.blk_set_ne, Mem.set_set, bit_zero, bit_self, lowBits_or, lowBits_zero, len_setT, sl_same, sl_ne, len_frame, sl_frame,↓op_len, lenOp_slc, lenOp_nils, ↓Post.some, ↓Post_bind, ↓Post_ret, ↓Post_draw, ↓PostL_nil, ↓PostL_cons, Post_fail, ofOpt_some, ofOpt_none, eA_b, eA_i, eA_s, eA_nn, eA_np, eA_pn, eA_lnn, eA_lnp, eA_lpn, eA_i2, eA_i3, blt_dec, Nat.add_assoc, keeps_refl, keeps_at, keeps_up, new_one, and_pow, bit_hi, lowBits_pow, ble_dec, fr_refl, fr_at, fr_up, fr_p, dum_ab, reps, F16]
  refine (chain_nw g i).post (by omega) hlg ?_
  rintro v h' nx' tc wr ⟨r, sf⟩ hn hk hw
  have ls := r.lenOp
  rw [i64s_len] at ls
  simp (maxSteps := 4000000) [↓step_none, ↓step_t, ↓step_f, ↓step_nt, ↓step_nf, ↓op_load, ↓op_store, ↓op_slice, ↓op_app, ↓op_islc, ↓P_skip, ↓P_exit, ↓P_ret, ↓P_seq, ↓P_cond, ↓P_blk, ↓P_reg, ↓P_draw, ↓P_nil, ↓P_cons, condP_t, condP_f, dum_ab, stepR, want_none, want_some, opRun, ev_t, ev_c, put_none, put_some, resAll, res_tmp, res_cell, oneOf, minI, maxI, min2A, max2A, mn2, mx2, mx3, rdBlk, wrBlk, newBlk, partA, abin, ibin, isShift, AV.cells, AV.one, lay, sub, fillA, lenA, toN, allApart, apartFrom, Nat.testBit, Mem.blk_set_same, Mem.blk_set_ne, Mem.set_set, bit_zero, bit_self, lowBits_or, lowBits_zero, len_setT, sl_same, sl_ne, len_frame, sl_frame,↓op_len, lenOp_slc, lenOp_nils, ↓Post.some, ↓Post_bind, ↓Post_ret, ↓Post_draw, ↓PostL_nil, ↓PostL_cons, Post_fail, ofOpt_some, ofOpt_none, eA_b, eA_i, eA_s, eA_nn, eA_np, eA_pn, eA_lnn, eA_lnp, eA_lpn, eA_i2, eA_i3, blt_dec, Nat.add_assoc, keeps_refl, keeps_at, keeps_up, new_one, and_pow, bit_hi, lowBits_pow, ble_dec, fr_refl, fr_at, fr_up, fr_p, dum_ab, reps, ls]
  exact ⟨hn, hk, hw⟩
/-! ### Contains -/
def IxI (v : AV) (l : List Int) (x : Int) (h0 : Mem) (nx0 : Nat) (m : Nat) (ts : List AV) (h : Mem) (nx tc wr : Nat) : Prop := ∃ j : Nat, m = l.length - j ∧ j ≤ l.length ∧ ts.length = 19 ∧ sl ts 0 = v ∧ sl ts 1 = .int .i64 x ∧ sl ts 7 = .int .i64 l.length ∧ sl ts 8 = .int .i64 j ∧ (∀ y ∈ l.take j, y ≠ x) ∧ h = h0 ∧ nx = nx0 ∧ wr = 0
def IxR (v : AV) (l : List Int) (x : Int) (h0 : Mem) (nx0 : Nat) (e : Ex) (ts : List AV) (h : Mem) (nx tc wr : Nat) : Prop := ts.length = 19 ∧ h = h0 ∧ nx = nx0 ∧ wr = 0 ∧ ((e = .exit 0 ∧ x ∉ l) ∨ (e = .ret ∧ x ∈ l ∧ ∃ j : Nat, sl ts 4 = .int .i64 j))
theorem take_more {α : Type} {l : List α} {j : Nat} (h : j < l.length) {P : α → Prop} (a : ∀ y ∈ l.take j, P y) (b : P l[j]) : ∀ y ∈ l.take (j + 1), P y := fun y hy => by
  rw [List.take_succ_eq_append_getElem h] at hy
  rcases List.mem_append.1 hy with hy | hy
  · exact a y hy
  · rw [List.mem_singleton.1 hy]; exact b
set_option maxHeartbeats 4000000 in
theorem ix_round {v : AV} {l : List Int} {h0 : Mem} {nx0 : Nat} (g : RD 1 v h0 nx0 (i64s l)) (hl : l.length ≤ big) (x : Int) (lg : Nat) (m : Nat) (ts : List AV) (h : Mem) (nx tc wr : Nat) (hi : IxI v l x h0 nx0 m ts h nx tc wr) :
    Post (xC T 60 L40_0b ts h nx lg) fun v' h' nx' tc' wr' => Round (IxI v l x h0 nx0) (IxR v l x h0 nx0) m v' h' nx' (tc ||| tc') (wr ||| wr') := by
  obtain ⟨j, rfl, hj, hlen, g0, g1, g7, g8, ha, rfl, rfl, rfl⟩ := hi
  by_cases c : j < l.length
  · obtain ⟨b, o, el⟩ := g.el (i := j) (by rw [i64s_len]; exact c)
    rw [i64s_at] at el
    have e0 := el.fst rfl lg
    have p0 := el.pl
    have ci : IntKind.i64.wrap ((j : Int) + 1) = ((j + 1 : Nat) : Int) := by rw [IntKind.wrap_i64]; unfold big at hl; omega
    by_cases d : x = l[j]
    · have d' : (x == l[j]) = true := by rw [d]; exact beq_self_eq_true _
      simp (maxSteps := 4000000) [↓step_none, ↓step_t, ↓step_f, ↓step_nt, ↓step_nf, ↓op_load, ↓op_store, ↓op_slice, ↓op_app, ↓op_islc, ↓P_skip, ↓P_exit, ↓P_ret, ↓P_seq, ↓P_cond, ↓P_blk, ↓P_reg, ↓P_draw, ↓P_nil, ↓P_cons, condP_t, condP_f, dum_ab, stepR, want_none, want_some, opRun, ev_t, ev_c, put_none, put_some, resAll, res_tmp, res_cell, oneOf, minI, maxI, min2A, max2A, mn2, mx2, mx3, rdBlk, wrBlk, newBlk, partA, abin, ibin, isShift, AV.cells, AV.one, lay, sub, fillA, lenA, toN, allApart, apartFrom, Nat.testBit, Mem.blk_set_same, Mem.blk_set_ne, Mem.set_set, bit_zero, bit_self, lowBits_or, lowBits_zero, len_setT, sl_same, sl_ne, len_frame, sl_frame,↓op_len, lenOp_slc, lenOp_nils, ↓Post.some, ↓Post_bind, ↓Post_ret, ↓Post_draw, ↓PostL_nil, ↓PostL_cons, Post_fail, ofOpt_some, ofOpt_none, eA_b, eA_i, eA_s, eA_nn, eA_np, eA_pn, eA_lnn, eA_lnp, eA_lpn, eA_i2, eA_i3, blt_dec, Nat.add_assoc, keeps_refl, keeps_at, keeps_up, new_one, and_pow, bit_hi, lowBits_pow, ble_dec, fr_refl, fr_at, fr_up, fr_p, dum_ab, L40_0b, hlen, g0, g1, g7, g8, c, e0, p0, d']
      refine Round.ret (R := IxR v l x h nx) ⟨?_, rfl, rfl, rfl, .inr ⟨rfl, ?_, j, ?_⟩⟩
      · simp [len_setT, sl_same, sl_ne, hlen]
      · rw [d]; exact List.getElem_mem c
      · simp [len_setT, sl_same, sl_ne, hlen]
    · have d' : (x == l[j]) = false := beq_eq_false_iff_ne.2 d
      simp (maxSteps := 4000000) [↓step_none, ↓step_t, ↓step_f, ↓step_nt, ↓step_nf, ↓op_load, ↓op_store, ↓op_slice, ↓op_app, ↓op_islc, ↓P_skip, ↓P_exit, ↓P_ret, ↓P_seq, ↓P_cond, ↓P_blk, ↓P_reg, ↓P_draw, ↓P_nil, ↓P_cons, condP_t, condP_f, dum_ab, stepR, want_none, want_some, opRun, ev_t, ev_c, put_none, put_some, resAll, res_tmp, res_cell, oneOf, minI, maxI, min2A, max2A, mn2, mx2, mx3, rdBlk, wrBlk, newBlk, partA, abin, ibin, isShift, AV.cells, AV.one, lay, sub, fillA, lenA, toN, allApart, apartFrom, Nat.testBit, Mem.blk_set_same, Mem.blk_set_ne, Mem.set_set, bit_zero, bit_self, lowBits_or, lowBits_zero, len_setT, sl_same, sl_ne, len_frame, sl_frame,↓op_len, lenOp_slc, lenOp_nils, ↓Post.some, ↓Post_bind, ↓Post_ret, ↓Post_draw, ↓PostL_nil, ↓PostL_cons, Post_fail, ofOpt_some, ofOpt_none, eA_b, eA_i, eA_s, eA_nn, eA_np, eA_pn, eA_lnn, eA_lnp, eA_lpn, eA_i2, eA_i3, blt_dec, Nat.add_assoc, keeps_refl, keeps_at, keeps_up, new_one, and_pow, bit_hi, lowBits_pow, ble_dec, fr_refl, fr_at, fr_up, fr_p, dum_ab, L40_0b, hlen, g0, g1, g7, g8, c, e0, p0, d', ci]
      refine Round.nor (m' := l.length - (j + 1)) (by omega) ⟨j + 1, rfl, by omega, ?_, ?_, ?_, ?_, ?_, take_more c ha (Ne.symm d), rfl, rfl, rfl⟩ <;> simp [len_setT, sl_same, sl_ne, hlen, g0, g1, g7]
  · simp (maxSteps := 4000000) [↓step_none, ↓step_t, ↓step_f, ↓step_nt, ↓step_nf, ↓op_load, ↓op_store, ↓op_slice, ↓op_app, ↓op_islc, ↓P_skip, ↓P_exit, ↓P_ret, ↓P_seq, ↓P_cond, ↓P_blk, ↓P_reg, ↓P_draw, ↓P_nil, ↓P_cons, condP_t, condP_f, dum_ab, stepR, want_none, want_some, opRun, ev_t, ev_c, put_none, put_some, resAll, res_tmp, res_cell, oneOf, minI, maxI, min2A, max2A, mn2, mx2, mx3, rdBlk, wrBlk, newBlk, partA, abin, ibin, isShift, AV.cells, AV.one, lay, sub, fillA, lenA, toN, allApart, apartFrom, Nat.testBit, Mem.blk_set_same, Mem.blk_set_ne, Mem.set_set, bit_zero, bit_self, lowBits_or, lowBits_zero, len_setT, sl_same, sl_ne, len_frame, sl_frame,↓op_len, lenOp_slc, lenOp_nils, ↓Post.some, ↓Post_bind, ↓Post_ret, ↓Post_draw, ↓PostL_nil, ↓PostL_cons, Post_fail, ofOpt_some, ofOpt_none, eA_b, eA_i, eA_s, eA_nn, eA_np, eA_pn, eA_lnn, eA_lnp, eA_lpn, eA_i2, eA_i3, blt_dec, Nat.add_assoc, keeps_refl, keeps_at, keeps_up, new_one, and_pow, bit_hi, lowBits_pow, ble_dec, fr_refl, fr_at, fr_up, fr_p, dum_ab, L40_0b, hlen, g0, g1, g7, g8, c]
    refine Round.exit (R := IxR v l x h nx) ⟨?_, rfl, rfl, rfl, .inl ⟨rfl, ?_⟩⟩
    · simp [len_setT, sl_same, sl_ne, hlen]
    · intro hx
      rw [List.take_of_length_le (by omega)] at ha
      exact ha x hx rfl
theorem contains_rd {v : AV} {l : List Int} {h : Mem} {nx : Nat} (g : RD 1 v h nx (i64s l)) (hl : l.length ≤ big) (x : Int) : RdC T (l.length + 110) 30 [v, .int .i64 x] h nx (.bool (decide (x ∈ l))) := by
  intro lg hlg
  have ls := g.lenOp
  rw [i64s_len] at ls
  have key : Post (xF T (l.length + 90) 40 [v, .int .i64 x] h nx lg) fun v' h' nx' tc wr => h' = h ∧ nx' = nx ∧ wr = 0 ∧ ((v' = .int .i64 (-1) ∧ x ∉ l) ∨ (x ∈ l ∧ ∃ j : Nat, v' = .int .i64 j)) := by
    rw [xF_fr T40]
    simp (maxSteps := 4000000) [↓step_none, ↓step_t, ↓step_f, ↓step_nt, ↓step_nf, ↓op_load, ↓op_store, ↓op_slice, ↓op_app, ↓op_islc, ↓P_skip, ↓P_exit, ↓P_ret, ↓P_seq, ↓P_cond, ↓P_blk, ↓P_reg, ↓P_draw, ↓P_nil, ↓P_cons, condP_t, condP_f, dum_ab, stepR, want_none, want_some, opRun, ev_t, ev_c, put_none, put_some, resAll, res_tmp, res_cell, oneOf, minI, maxI, min2A, max2A, mn2, mx2, mx3, rdBlk, wrBlk, newBlk, partA, abin, ibin, isShift, AV.cells, AV.one, lay, sub, fillA, lenA, toN, allApart, apartFrom, Nat.testBit, Mem.blk_set_same, Mem.blk_set_ne, Mem.set_set, bit_zero, bit_self, lowBits_or, lowBits_zero, len_setT, sl_same, sl_ne, len_frame, sl_frame,↓op_len, lenOp_slc, lenOp_nils, ↓Post.some, ↓Post_bind, ↓Post_ret, ↓Post_draw, ↓PostL_nil, ↓PostL_cons, Post_fail, ofOpt_some, ofOpt_none, eA_b, eA_i, eA_s, eA_nn, eA_np, eA_pn, eA_lnn, eA_lnp, eA_lpn, eA_i2, eA_i3, blt_dec, Nat.add_assoc, keeps_refl, keeps_at, keeps_up, new_one, and_pow, bit_hi, lowBits_pow, ble_dec, fr_refl, fr_at, fr_up, fr_p, dum_ab, reps, F40, L40_0, ls]
    refine Post.loop (ix_round g hl x lg) (l.length - 0) ⟨0, rfl, by omega, ?_, ?_, ?_, ?_, ?_, by simp, rfl, rfl, rfl⟩ (by omega) ?_
    · simp [len_setT, sl_same, sl_ne, len_frame]
    · simp [len_setT, sl_same, sl_ne, sl_frame, len_frame]
    · simp [len_setT, sl_same, sl_ne, sl_frame, len_frame]
    · simp [len_setT, sl_same, sl_ne, sl_frame, len_frame]
    · simp [len_setT, sl_same, sl_ne, sl_frame, len_frame]
    rintro e ts' h' nx' tc wr ⟨hlen, rfl, rfl, rfl, ⟨rfl, hx⟩ | ⟨rfl, hx, j, g4⟩⟩
    · simp (maxSteps := 4000000) [↓step_none, ↓step_t, ↓step_f, ↓step_nt, ↓step_nf, ↓op_load, ↓op_store, ↓op_slice, ↓op_app, ↓P_skip, ↓P_exit, ↓P_ret, ↓P_seq, ↓P_cond, ↓P_blk, ↓P_reg, ↓P_draw, ↓P_nil, ↓P_cons, condP_t, condP_f, dum_ab, stepR, want_none, want_some, opRun, ev_t, ev_c, put_none, put_some, resAll, res_tmp, res_cell, oneOf, minI, maxI, min2A, max2A, mn2, mx2, mx3, rdBlk, wrBlk, newBlk, partA, abin, ibin, isShift, AV.cells, AV.one, lay, sub, fillA, lenA, toN, allApart, apartFrom, Nat.testBit, Mem.blk_set_same, Mem.blk_set_ne, Mem.set_set, bit_zero, bit_self, lowBits_or, lowBits_zero, len_setT, sl_same, sl_ne, len_frame, sl_frame,↓op_len, lenOp_slc, lenOp_nils, ↓Post.some, ↓Post_bind, ↓Post_ret, ↓Post_draw, ↓PostL_nil, ↓PostL_cons, Post_fail, ofOpt_some, ofOpt_none, eA_b, eA_i, eA_s, eA_nn, eA_np, eA_pn, eA_lnn, eA_lnp, eA_lpn, eA_i2, eA_i3, blt_dec, Nat.add_assoc, keeps_refl, keeps_at, keeps_up, new_one, and_pow, bit_hi, lowBits_pow, ble_dec, fr_refl, fr_at, fr_up, fr_p, dum_ab, hlen]
      exact hx
    · simp (maxSteps := 4000000) [↓step_none, ↓step_t, ↓step_f, ↓step_nt, ↓step_nf, ↓op_load, ↓op_store, ↓op_slice, ↓op_app, ↓P_skip, ↓P_exit, ↓P_ret, ↓P_seq, ↓P_cond, ↓P_blk, ↓P_reg, ↓P_draw, ↓P_nil, ↓P_cons, condP_t, condP_f, dum_ab, stepR, want_none, want_some, opRun, ev_t, ev_c, put_none, put_some, resAll, res_tmp, res_cell, oneOf, minI, maxI, min2A, max2A, mn2, mx2, mx3, rdBlk, wrBlk, newBlk, partA, abin, ibin, isShift, AV.cells, AV.one, lay, sub, fillA, lenA, toN, allApart, apartFrom, Nat.testBit, Mem.blk_set_same, Mem.blk_set_ne, Mem.set_set, bit_zero, bit_self, lowBits_or, lowBits_zero, len_setT, sl_same, sl_ne, len_frame, sl_frame,↓op_len, lenOp_slc, lenOp_nils, ↓Post.some, ↓Post_bind, ↓Post_ret, ↓Post_draw, ↓PostL_nil, ↓PostL_cons, Post_fail, ofOpt_some, ofOpt_none, eA_b, eA_i, eA_s, eA_nn, eA_np, eA_pn, eA_lnn, eA_lnp, eA_lpn, eA_i2, eA_i3, blt_dec, Nat.add_assoc, keeps_refl, keeps_at, keeps_up, new_one, and_pow, bit_hi, lowBits_pow, ble_dec, fr_refl, fr_at, fr_up, fr_p, dum_ab, hlen, g4]
      exact ⟨hx, j, rfl⟩
  rw [xF_fr T30]
  simp (maxSteps := 4000000) [↓step_none, ↓step_t, ↓step_f, ↓step_nt, ↓step_nf, ↓op_load, ↓op_store, ↓op_slice, ↓op_app, ↓op_islc, ↓P_skip, ↓P_exit, ↓P_ret, ↓P_seq, ↓P_cond, ↓P_blk, ↓P_reg, ↓P_draw, ↓P_nil, ↓P_cons, condP_t, condP_f, dum_ab, stepR, want_none, want_some, opRun, ev_t, ev_c, put_none, put_some, resAll, res_tmp, res_cell, oneOf, minI, maxI, min2A, max2A, mn2, mx2, mx3, rdBlk, wrBlk, newBlk, partA, abin, ibin, isShift, AV.cells, AV.one, lay, sub, fillA, lenA, toN, allApart, apartFrom, Nat.testBit, Mem.blk_set_same, Mem.blk_set_ne, Mem.set_set, bit_zero, bit_self, lowBits_or, lowBits_zero, len_setT, sl_same, sl_ne, len_frame, sl_frame,↓op_len, lenOp_slc, lenOp_nils, ↓Post.some, ↓Post_bind, ↓Post_ret, ↓Post_draw, ↓PostL_nil, ↓PostL_cons, Post_fail, ofOpt_some, ofOpt_none, eA_b, eA_i, eA_s, eA_nn, eA_np, eA_pn, eA_lnn, eA_lnp, eA_lpn, eA_i2, eA_i3, blt_dec, Nat.add_assoc, keeps_refl, keeps_at, keeps_up, new_one, and_pow, bit_hi, lowBits_pow, ble_dec, fr_refl, fr_at, fr_up, fr_p, dum_ab, reps, F30]
  refine Post.mono (Post_up (by omega) key) ?_
  rintro v' h' nx' tc wr ⟨rfl, rfl, rfl, ⟨rfl, hx⟩ | ⟨hx, j, rfl⟩⟩
  · simp (maxSteps := 4000000) [↓step_none, ↓step_t, ↓step_f, ↓step_nt, ↓step_nf, ↓op_load, ↓op_store, ↓op_slice, ↓op_app, ↓P_skip, ↓P_exit, ↓P_ret, ↓P_seq, ↓P_cond, ↓P_blk, ↓P_reg, ↓P_draw, ↓P_nil, ↓P_cons, condP_t, condP_f, dum_ab, stepR, want_none, want_some, opRun, ev_t, ev_c, put_none, put_some, resAll, res_tmp, res_cell, oneOf, minI, maxI, min2A, max2A, mn2, mx2, mx3, rdBlk, wrBlk, newBlk, partA, abin, ibin, isShift, AV.cells, AV.one, lay, sub, fillA, lenA, toN, allApart, apartFrom, Nat.testBit, Mem.blk_set_same, Mem.blk_set_ne, Mem.set_set, bit_zero, bit_self, lowBits_or, lowBits_zero, len_setT, sl_same, sl_ne, len_frame, sl_frame,↓op_len, lenOp_slc, lenOp_nils, ↓Post.some, ↓Post_bind, ↓Post_ret, ↓Post_draw, ↓PostL_nil, ↓PostL_cons, Post_fail, ofOpt_some, ofOpt_none, eA_b, eA_i, eA_s, eA_nn, eA_np, eA_pn, eA_lnn, eA_lnp, eA_lpn, eA_i2, eA_i3, blt_dec, Nat.add_assoc, keeps_refl, keeps_at, keeps_up, new_one, and_pow, bit_hi, lowBits_pow, ble_dec, fr_refl, fr_at, fr_up, fr_p, dum_ab, hx]
  · simp (maxSteps := 4000000) [↓step_none, ↓step_t, ↓step_f, ↓step_nt, ↓step_nf, ↓op_load, ↓op_store, ↓op_slice, ↓op_app, ↓P_skip, ↓P_exit, ↓P_ret, ↓P_seq, ↓P_cond, ↓P_blk, ↓P_reg, ↓P_draw, ↓P_nil, ↓P_cons, condP_t, condP_f, dum_ab, stepR, want_none, want_some, opRun, ev_t, ev_c, put_none, put_some, resAll, res_tmp, res_cell, oneOf, minI, maxI, min2A, max2A, mn2, mx2, mx3, rdBlk, wrBlk, newBlk, partA, abin, ibin, isShift, AV.cells, AV.one, lay, sub, fillA, lenA, toN, allApart, apartFrom, Nat.testBit, Mem.blk_set_same, Mem.blk_set_ne, Mem.set_set, bit_zero, bit_self, lowBits_or, lowBits_zero, len_setT, sl_same, sl_ne, len_frame, sl_frame,↓op_len, lenOp_slc, lenOp_nils, ↓Post.some, ↓Post_bind, ↓Post_ret, ↓Post_draw, ↓PostL_nil, ↓PostL_cons, Post_fail, ofOpt_some, ofOpt_none, eA_b, eA_i, eA_s, eA_nn, eA_np, eA_pn, eA_lnn, eA_lnp, eA_lpn, eA_i2, eA_i3, blt_dec, Nat.add_assoc, keeps_refl, keeps_at, keeps_up, new_one, and_pow, bit_hi, lowBits_pow, ble_dec, fr_refl, fr_at, fr_up, fr_p, dum_ab, hx]
theorem is_nw {v : AV} {L : List C} {h : Mem} {nx : Nat} (g : CR v h nx L) (i k : Int) : NwC T 160 18 [v, .int .i64 i, .int .i64 k] h nx fun r h' nx' => r = .bool (decide (k ∈ chain L i)) := by
  intro lg hlg
  have cl : (chain L i).length ≤ 8 := chainN_len L 8 i
  rw [xF_fr T18]
  simp (maxSteps := 4000000) [↓step_none, ↓step_t, ↓step_f, ↓step_nt, ↓step_nf, ↓op_load, ↓op_store, ↓op_slice, ↓op_app, ↓op_islc, ↓P_skip, ↓P_exit, ↓P_ret, ↓P_seq, ↓P_cond, ↓P_blk, ↓P_reg, ↓P_draw, ↓P_nil, ↓P_cons, condP_t, condP_f, dum_ab, stepR, want_none, want_some, opRun, ev_t, ev_c, put_none, put_some, resAll, res_tmp, res_cell, oneOf, minI, maxI, min2A, max2A, mn2, mx2, mx3, rdBlk, wrBlk, newBlk, partA, abin, ibin, isShift, AV.cells, AV.one, lay, sub, fillA, lenA, toN, allApart, apartFrom, Nat.testBit, Mem.blk_set_same, Mem.blk_set_ne, Mem.set_set, bit_zero, bit_self, lowBits_or, lowBits_zero, len_setT, sl_same, sl_ne, len_frame, sl_frame,↓op_len, lenOp_slc, lenOp_nils, ↓Post.some, ↓Post_bind, ↓Post_ret, ↓Post_draw, ↓PostL_nil, ↓PostL_cons, Post_fail, ofOpt_some, ofOpt_none, eA_b, eA_i, eA_s, eA_nn, eA_np, eA_pn, eA_lnn, eA_lnp, eA_lpn, eA_i2, eA_i3, blt_dec, Nat.add_assoc, keeps_refl, keeps_at, keeps_up, new_one, and_pow, bit_hi, lowBits_pow, ble_dec, fr_refl, fr_at, fr_up, fr_p, dum_ab, reps, F18]
  refine (chain_nw g i).post (by omega) hlg ?_
  rintro v h' nx' tc wr ⟨r, sf⟩ hn hk hw
  simp (maxSteps := 4000000) [↓step_none, ↓step_t, ↓step_f, ↓step_nt, ↓step_nf, ↓op_load, ↓op_store, ↓op_slice, ↓op_app, ↓op_islc, ↓P_skip, ↓P_exit, ↓P_ret, ↓P_seq, ↓P_cond, ↓P_blk, ↓P_reg, ↓P_draw, ↓P_nil, ↓P_cons, condP_t, condP_f, dum_ab, stepR, want_none, want_some, opRun, ev_t, ev_c, put_none, put_some, resAll, res_tmp, res_cell, oneOf, minI, maxI, min2A, max2A, mn2, mx2, mx3, rdBlk, wrBlk, newBlk, partA, abin, ibin, isShift, AV.cells, AV.one, lay, sub, fillA, lenA, toN, allApart, apartFrom, Nat.testBit, Mem.blk_set_same, Mem.blk_set_ne, Mem.set_set, bit_zero, bit_self, lowBits_or, lowBits_zero, len_setT, sl_same, sl_ne, len_frame, sl_frame,↓op_len, lenOp_slc, lenOp_nils, ↓Post.some, ↓Post_bind, ↓Post_ret, ↓Post_draw, ↓PostL_nil, ↓PostL_cons, Post_fail, ofOpt_some, ofOpt_none, eA_b, eA_i, eA_s, eA_nn, eA_np, eA_pn, eA_lnn, eA_lnp, eA_lpn, eA_i2, eA_i3, blt_dec, Nat.add_assoc, keeps_refl, keeps_at, keeps_up, new_one, and_pow, bit_hi, lowBits_pow, ble_dec, fr_refl, fr_at, fr_up, fr_p, dum_ab, reps]
  refine (contains_rd r (by unfold big; omega) k).post (by omega) (by omega) fun tc2 => ?_
  simp (maxSteps := 4000000) [↓step_none, ↓step_t, ↓step_f, ↓step_nt, ↓step_nf, ↓op_load, ↓op_store, ↓op_slice, ↓op_app, ↓op_islc, ↓P_skip, ↓P_exit, ↓P_ret, ↓P_seq, ↓P_cond, ↓P_blk, ↓P_reg, ↓P_draw, ↓P_nil, ↓P_cons, condP_t, condP_f, dum_ab, stepR, want_none, want_some, opRun, ev_t, ev_c, put_none, put_some, resAll, res_tmp, res_cell, oneOf, minI, maxI, min2A, max2A, mn2, mx2, mx3, rdBlk, wrBlk, newBlk, partA, abin, ibin, isShift, AV.cells, AV.one, lay, sub, fillA, lenA, toN, allApart, apartFrom, Nat.testBit, Mem.blk_set_same, Mem.blk_set_ne, Mem.set_set, bit_zero, bit_self, lowBits_or, lowBits_zero, len_setT, sl_same, sl_ne, len_frame, sl_frame,↓op_len, lenOp_slc, lenOp_nils, ↓Post.some, ↓Post_bind, ↓Post_ret, ↓Post_draw, ↓PostL_nil, ↓PostL_cons, Post_fail, ofOpt_some, ofOpt_none, eA_b, eA_i, eA_s, eA_nn, eA_np, eA_pn, eA_lnn, eA_lnp, eA_lpn, eA_i2, eA_i3, blt_dec, Nat.add_assoc, keeps_refl, keeps_at, keeps_up, new_one, and_pow, bit_hi, lowBits_pow, ble_dec, fr_refl, fr_at, fr_up, fr_p, dum_ab, reps]
  exact ⟨hn, hk, hw⟩
/-! ### Same -/
def SmI (u v : AV) (l : List Int) (h0 : Mem) (nx0 : Nat) (m : Nat) (ts : List AV) (h : Mem) (nx tc wr : Nat) : Prop := ∃ j : Nat, m = l.length - j ∧ j ≤ l.length ∧ ts.length = 26 ∧ sl ts 0 = u ∧ sl ts 1 = v ∧ sl ts 5 = .int .i64 j ∧ h = h0 ∧ nx = nx0 ∧ wr = 0
def SmR (h0 : Mem) (nx0 : Nat) (e : Ex) (ts : List AV) (h : Mem) (nx tc wr : Nat) : Prop := e = .exit 0 ∧ ts.length = 26 ∧ h = h0 ∧ nx = nx0 ∧ wr = 0
set_option maxHeartbeats 4000000 in
theorem sm_round {u v : AV} {l : List Int} {h0 : Mem} {nx0 : Nat} (g : RD 1 u h0 nx0 (i64s l)) (f : RD 1 v h0 nx0 (i64s l)) (hl : l.length ≤ big) (lg : Nat) (m : Nat) (ts : List AV) (h : Mem) (nx tc wr : Nat) (hi : SmI u v l h0 nx0 m ts h nx tc wr) :
    Post (xC T 60 L17_0b ts h nx lg) fun v' h' nx' tc' wr' => Round (SmI u v l h0 nx0) (SmR h0 nx0) m v' h' nx' (tc ||| tc') (wr ||| wr') := by
  obtain ⟨j, rfl, hj, hlen, g0, g1, g5, rfl, rfl, rfl⟩ := hi
  have ls := g.lenOp
  rw [i64s_len] at ls
  by_cases c : j < l.length
  · obtain ⟨b, o, el⟩ := g.el (i := j) (by rw [i64s_len]; exact c)
    obtain ⟨b', o', el'⟩ := f.el (i := j) (by rw [i64s_len]; exact c)
    rw [i64s_at] at el el'
    have e0 := fun lg => el.fst rfl lg
    have e0' := fun lg => el'.fst rfl lg
    have p0 := el.pl
    have p0' := el'.pl
    have ci : IntKind.i64.wrap ((j : Int) + 1) = ((j + 1 : Nat) : Int) := by rw [IntKind.wrap_i64]; unfold big at hl; omega
    have d' : (l[j] != l[j]) = false := by simp
    simp (maxSteps := 4000000) [↓step_none, ↓step_t, ↓step_f, ↓step_nt, ↓step_nf, ↓op_load, ↓op_store, ↓op_slice, ↓op_app, ↓op_islc, ↓P_skip, ↓P_exit, ↓P_ret, ↓P_seq, ↓P_cond, ↓P_blk, ↓P_reg, ↓P_draw, ↓P_nil, ↓P_cons, condP_t, condP_f, dum_ab, stepR, want_none, want_some, opRun, ev_t, ev_c, put_none, put_some, resAll, res_tmp, res_cell, oneOf, minI, maxI, min2A, max2A, mn2, mx2, mx3, rdBlk, wrBlk, newBlk, partA, abin, ibin, isShift, AV.cells, AV.one, lay, sub, fillA, lenA, toN, allApart, apartFrom, Nat.testBit, Mem.blk_set_same, Mem.blk_set_ne, Mem.set_set, bit_zero, bit_self, lowBits_or, lowBits_zero, len_setT, sl_same, sl_ne, len_frame, sl_frame,↓op_len, lenOp_slc, lenOp_nils, ↓Post.some, ↓Post_bind, ↓Post_ret, ↓Post_draw, ↓PostL_nil, ↓PostL_cons, Post_fail, ofOpt_some, ofOpt_none, eA_b, eA_i, eA_s, eA_nn, eA_np, eA_pn, eA_lnn, eA_lnp, eA_lpn, eA_i2, eA_i3, blt_dec, Nat.add_assoc, keeps_refl, keeps_at, keeps_up, new_one, and_pow, bit_hi, lowBits_pow, ble_dec, fr_refl, fr_at, fr_up, fr_p, dum_ab, L17_0b, hlen, g0, g1, g5, c, ls, e0, p0, e0', p0', d', ci]
    refine Round.nor (m' := l.length - (j + 1)) (by omega) ⟨j + 1, rfl, by omega, ?_, ?_, ?_, ?_, rfl, rfl, rfl⟩ <;> simp [len_setT, sl_same, sl_ne, hlen, g0, g1]
  · simp (maxSteps := 4000000) [↓step_none, ↓step_t, ↓step_f, ↓step_nt, ↓step_nf, ↓op_load, ↓op_store, ↓op_slice, ↓op_app, ↓op_islc, ↓P_skip, ↓P_exit, ↓P_ret, ↓P_seq, ↓P_cond, ↓P_blk, ↓P_reg, ↓P_draw, ↓P_nil, ↓P_cons, condP_t, condP_f, dum_ab, stepR, want_none, want_some, opRun, ev_t, ev_c, put_none, put_some, resAll, res_tmp, res_cell, oneOf, minI, maxI, min2A, max2A, mn2, mx2, mx3, rdBlk, wrBlk, newBlk, partA, abin, ibin, isShift, AV.cells, AV.one, lay, sub, fillA, lenA, toN, allApart, apartFrom, Nat.testBit, Mem.blk_set_same, Mem.blk_set_ne, Mem.set_set, bit_zero, bit_self, lowBits_or, lowBits_zero, len_setT, sl_same, sl_ne, len_frame, sl_frame,↓op_len, lenOp_slc, lenOp_nils, ↓Post.some, ↓Post_bind, ↓Post_ret, ↓Post_draw, ↓PostL_nil, ↓PostL_cons, Post_fail, ofOpt_some, ofOpt_none, eA_b, eA_i, eA_s, eA_nn, eA_np, eA_pn, eA_lnn, eA_lnp, eA_lpn, eA_i2, eA_i3, blt_dec, Nat.add_assoc, keeps_refl, keeps_at, keeps_up, new_one, and_pow, bit_hi, lowBits_pow, ble_dec, fr_refl, fr_at, fr_up, fr_p, dum_ab, L17_0b, hlen, g0, g1, g5, ls, c]
    refine Round.exit (R := SmR h nx) ⟨rfl, ?_, rfl, rfl, rfl⟩
    simp [len_setT, sl_same, sl_ne, hlen]
theorem same_rd {u v : AV} {l : List Int} {h : Mem} {nx : Nat} (g : RD 1 u h nx (i64s l)) (f : RD 1 v h nx (i64s l)) (hl : l.length ≤ big) : RdC T (l.length + 90) 17 [u, v] h nx (.bool true) := by
  intro lg hlg
  have ls := g.lenOp
  have ls' := f.lenOp
  rw [i64s_len] at ls ls'
  have d' : ((l.length : Int) != (l.length : Int)) = false := by simp
  rw [xF_fr T17]
  simp (maxSteps := 4000000) [↓step_none, ↓step_t, ↓step_f, ↓step_nt, ↓step_nf, ↓op_load, ↓op_store, ↓op_slice, ↓op_app, ↓op_islc, ↓P_skip, ↓P_exit, ↓P_ret, ↓P_seq, ↓P_cond, ↓P_blk, ↓P_reg, ↓P_draw, ↓P_nil, ↓P_cons, condP_t, condP_f, dum_ab, stepR, want_none, want_some, opRun, ev_t, ev_c, put_none, put_some, resAll, res_tmp, res_cell, oneOf, minI, maxI, min2A, max2A, mn2, mx2, mx3, rdBlk, wrBlk, newBlk, partA, abin, ibin, isShift, AV.cells, AV.one, lay, sub, fillA, lenA, toN, allApart, apartFrom, Nat.testBit, Mem.blk_set_same, Mem.blk_set_ne, Mem.set_set, bit_zero, bit_self, lowBits_or, lowBits_zero, len_setT, sl_same, sl_ne, len_frame, sl_frame,↓op_len, lenOp_slc, lenOp_nils, ↓Post.some, ↓Post_bind, ↓Post_ret, ↓Post_draw, ↓PostL_nil, ↓PostL_cons, Post_fail, ofOpt_some, ofOpt_none, eA_b, eA_i, eA_s, eA_nn, eA_np, eA_pn, eA_lnn, eA_lnp, eA_lpn, eA_i2, eA_i3, blt_dec, Nat.add_assoc, keeps_refl, keeps_at, keeps_up, new_one, and_pow, bit_hi, lowBits_pow, ble_dec, fr_refl, fr_at, fr_up, fr_p, dum_ab, reps, F17, L17_0, ls, ls', d']
  refine Post.loop (sm_round g f hl lg) (l.length - 0) ⟨0, rfl, by omega, ?_, ?_, ?_, ?_, rfl, rfl, rfl⟩ (by omega) ?_
  · simp [len_setT, sl_same, sl_ne, len_frame]
  · simp [len_setT, sl_same, sl_ne, sl_frame, len_frame]
  · simp [len_setT, sl_same, sl_ne, sl_frame, len_frame]
  · simp [len_setT, sl_same, sl_ne, sl_frame, len_frame]
  rintro e ts' h' nx' tc wr ⟨rfl, hlen, rfl, rfl, rfl⟩
  simp (maxSteps := 4000000) [↓step_none, ↓step_t, ↓step_f, ↓step_nt, ↓step_nf, ↓op_load, ↓op_store, ↓op_slice, ↓op_app, ↓P_skip, ↓P_exit, ↓P_ret, ↓P_seq, ↓P_cond, ↓P_blk, ↓P_reg, ↓P_draw, ↓P_nil, ↓P_cons, condP_t, condP_f, dum_ab, stepR, want_none, want_some, opRun, ev_t, ev_c, put_none, put_some, resAll, res_tmp, res_cell, oneOf, minI, maxI, min2A, max2A, mn2, mx2, mx3, rdBlk, wrBlk, newBlk, partA, abin, ibin, isShift, AV.cells, AV.one, lay, sub, fillA, lenA, toN, allApart, apartFrom, Nat.testBit, Mem.blk_set_same, Mem.blk_set_ne, Mem.set_set, bit_zero, bit_self, lowBits_or, lowBits_zero, len_setT, sl_same, sl_ne, len_frame, sl_frame,↓op_len, lenOp_slc, lenOp_nils, ↓Post.some, ↓Post_bind, ↓Post_ret, ↓Post_draw, ↓PostL_nil, ↓PostL_cons, Post_fail, ofOpt_some, ofOpt_none, eA_b, eA_i, eA_s, eA_nn, eA_np, eA_pn, eA_lnn, eA_lnp, eA_lpn, eA_i2, eA_i3, blt_dec, Nat.add_assoc, keeps_refl, keeps_at, keeps_up, new_one, and_pow, bit_hi, lowBits_pow, ble_dec, fr_refl, fr_at, fr_up, fr_p, dum_ab, hlen]
end Go.Proofs.YtahjkhmoojobgaaT
