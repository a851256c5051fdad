/- Mill: the ring that it has. -/
import Derived.Test.YtmgilbjhgpcjgaaRRef
import Derived.Test.YtmgilbjhgpcjgaaRIn
namespace Go.Proofs.YtmgilbjhgpcjgaaT
open Go Go.Proofs.YtmgilbjhgpcjgaaE Go.Proofs.YtmgilbjhgpcjgaaB
set_option linter.unusedSimpArgs false
set_option linter.unusedVariables false
attribute [local congr] Post_cg PostL_cg condP_cg

theorem within_ex (x lo hi : Int) (h1 : -100000 ≤ lo) (h2 : lo ≤ hi) (h3 : hi ≤ 100000) : ∃ r, lo ≤ r ∧ r ≤ hi ∧ ∀ (n : Nat) (h : Mem) (nx lg : Nat), xF T (n + 20) 10 [.int .i64 x, .int .i64 lo, .int .i64 hi] h nx lg = some ⟨.int .i64 r, h, nx, 0, 0⟩ := by
  have w1 : IntKind.i64.wrap (hi - lo) = hi - lo := by rw [IntKind.wrap_i64]; omega
  have w2 : IntKind.i64.wrap (hi - lo + 1) = hi - lo + 1 := by rw [IntKind.wrap_i64]; omega
  have w0 : ¬ hi - lo + 1 = 0 := by omega
  have t1 := Int.tmod_lt_of_pos x (show (0 : Int) < hi - lo + 1 by omega)
  have t2 : -(hi - lo + 1) < x.tmod (hi - lo + 1) := by
    have := Int.lt_tmod_of_pos x (show (0 : Int) < hi - lo + 1 by omega)
    omega
  have w3 : IntKind.i64.wrap (x.tmod (hi - lo + 1)) = x.tmod (hi - lo + 1) := by rw [IntKind.wrap_i64]; omega
  by_cases c : lo ≤ x ∧ x ≤ hi
  · obtain ⟨c1, c2⟩ := c
    refine ⟨x, c1, c2, fun n h nx lg => ?_⟩
    rw [xF_fr T10]; apply eq_of_Post
    simp [↓P_skip, ↓P_exit, ↓P_ret, ↓P_seq, ↓P_cond, ↓P_blk, ↓P_reg, ↓P_draw, ↓P_nil, ↓P_cons, condP_t, condP_f, dum_ab, stepR, want_none, want_some, opRun, ev_t, ev_c, put_none, put_some, resAll, res_tmp, res_cell, oneOf, minI, maxI, min2A, max2A, mn2, mx2, mx3, rdBlk, wrBlk, newBlk, partA, abin, ibin, isShift, AV.cells, AV.one, lay, sub, fillA, lenA, toN, allApart, apartFrom, Nat.testBit, Mem.blk_set_same, Mem.blk_set_ne, Mem.set_set, bit_zero, bit_self, lowBits_or, lowBits_zero, len_setT, sl_same, sl_ne, len_frame, sl_frame,↓op_len, lenOp_slc, lenOp_nils, ↓Post.some, ↓Post_bind, ↓Post_ret, ↓Post_draw, ↓PostL_nil, ↓PostL_cons, Post_fail, ofOpt_some, ofOpt_none, eA_b, eA_i, eA_s, eA_nn, eA_np, eA_pn, eA_lnn, eA_lnp, eA_lpn, eA_i2, eA_i3, blt_dec, Nat.add_assoc, keeps_refl, keeps_at, keeps_up, new_one, and_pow, bit_hi, lowBits_pow, ble_dec, fr_refl, fr_at, fr_up, fr_p, dum_ab, F10, c1, c2]
  · generalize hm : x.tmod (hi - lo + 1) = m at *
    by_cases c3 : m < 0
    · have w4 : IntKind.i64.wrap (m + hi) = m + hi := by rw [IntKind.wrap_i64]; omega
      have w5 : IntKind.i64.wrap (m + hi - lo) = m + hi - lo := by rw [IntKind.wrap_i64]; omega
      have w6 : IntKind.i64.wrap (m + hi - lo + 1) = m + hi - lo + 1 := by rw [IntKind.wrap_i64]; omega
      have w7 : IntKind.i64.wrap (lo + (m + hi - lo + 1)) = lo + (m + hi - lo + 1) := by rw [IntKind.wrap_i64]; omega
      refine ⟨lo + (m + hi - lo + 1), by omega, by omega, fun n h nx lg => ?_⟩
      rw [xF_fr T10]; apply eq_of_Post
      by_cases c1 : lo ≤ x
      · have c2 : ¬ x ≤ hi := fun e => c ⟨c1, e⟩
        simp [↓P_skip, ↓P_exit, ↓P_ret, ↓P_seq, ↓P_cond, ↓P_blk, ↓P_reg, ↓P_draw, ↓P_nil, ↓P_cons, condP_t, condP_f, dum_ab, stepR, want_none, want_some, opRun, ev_t, ev_c, put_none, put_some, resAll, res_tmp, res_cell, oneOf, minI, maxI, min2A, max2A, mn2, mx2, mx3, rdBlk, wrBlk, newBlk, partA, abin, ibin, isShift, AV.cells, AV.one, lay, sub, fillA, lenA, toN, allApart, apartFrom, Nat.testBit, Mem.blk_set_same, Mem.blk_set_ne, Mem.set_set, bit_zero, bit_self, lowBits_or, lowBits_zero, len_setT, sl_same, sl_ne, len_frame, sl_frame,↓op_len, lenOp_slc, lenOp_nils, ↓Post.some, ↓Post_bind, ↓Post_ret, ↓Post_draw, ↓PostL_nil, ↓PostL_cons, Post_fail, ofOpt_some, ofOpt_none, eA_b, eA_i, eA_s, eA_nn, eA_np, eA_pn, eA_lnn, eA_lnp, eA_lpn, eA_i2, eA_i3, blt_dec, Nat.add_assoc, keeps_refl, keeps_at, keeps_up, new_one, and_pow, bit_hi, lowBits_pow, ble_dec, fr_refl, fr_at, fr_up, fr_p, dum_ab, F10, c1, c2, w0, w1, w2, w3, w4, w5, w6, w7, hm, c3]
      · simp [↓P_skip, ↓P_exit, ↓P_ret, ↓P_seq, ↓P_cond, ↓P_blk, ↓P_reg, ↓P_draw, ↓P_nil, ↓P_cons, condP_t, condP_f, dum_ab, stepR, want_none, want_some, opRun, ev_t, ev_c, put_none, put_some, resAll, res_tmp, res_cell, oneOf, minI, maxI, min2A, max2A, mn2, mx2, mx3, rdBlk, wrBlk, newBlk, partA, abin, ibin, isShift, AV.cells, AV.one, lay, sub, fillA, lenA, toN, allApart, apartFrom, Nat.testBit, Mem.blk_set_same, Mem.blk_set_ne, Mem.set_set, bit_zero, bit_self, lowBits_or, lowBits_zero, len_setT, sl_same, sl_ne, len_frame, sl_frame,↓op_len, lenOp_slc, lenOp_nils, ↓Post.some, ↓Post_bind, ↓Post_ret, ↓Post_draw, ↓PostL_nil, ↓PostL_cons, Post_fail, ofOpt_some, ofOpt_none, eA_b, eA_i, eA_s, eA_nn, eA_np, eA_pn, eA_lnn, eA_lnp, eA_lpn, eA_i2, eA_i3, blt_dec, Nat.add_assoc, keeps_refl, keeps_at, keeps_up, new_one, and_pow, bit_hi, lowBits_pow, ble_dec, fr_refl, fr_at, fr_up, fr_p, dum_ab, F10, c1, w0, w1, w2, w3, w4, w5, w6, w7, hm, c3]
    · have w7 : IntKind.i64.wrap (lo + m) = lo + m := by rw [IntKind.wrap_i64]; omega
      refine ⟨lo + m, by omega, by omega, fun n h nx lg => ?_⟩
      rw [xF_fr T10]; apply eq_of_Post
      by_cases c1 : lo ≤ x
      · have c2 : ¬ x ≤ hi := fun e => c ⟨c1, e⟩
        simp [↓P_skip, ↓P_exit, ↓P_ret, ↓P_seq, ↓P_cond, ↓P_blk, ↓P_reg, ↓P_draw, ↓P_nil, ↓P_cons, condP_t, condP_f, dum_ab, stepR, want_none, want_some, opRun, ev_t, ev_c, put_none, put_some, resAll, res_tmp, res_cell, oneOf, minI, maxI, min2A, max2A, mn2, mx2, mx3, rdBlk, wrBlk, newBlk, partA, abin, ibin, isShift, AV.cells, AV.one, lay, sub, fillA, lenA, toN, allApart, apartFrom, Nat.testBit, Mem.blk_set_same, Mem.blk_set_ne, Mem.set_set, bit_zero, bit_self, lowBits_or, lowBits_zero, len_setT, sl_same, sl_ne, len_frame, sl_frame,↓op_len, lenOp_slc, lenOp_nils, ↓Post.some, ↓Post_bind, ↓Post_ret, ↓Post_draw, ↓PostL_nil, ↓PostL_cons, Post_fail, ofOpt_some, ofOpt_none, eA_b, eA_i, eA_s, eA_nn, eA_np, eA_pn, eA_lnn, eA_lnp, eA_lpn, eA_i2, eA_i3, blt_dec, Nat.add_assoc, keeps_refl, keeps_at, keeps_up, new_one, and_pow, bit_hi, lowBits_pow, ble_dec, fr_refl, fr_at, fr_up, fr_p, dum_ab, F10, c1, c2, w0, w1, w2, w3, w7, hm, c3]
      · simp [↓P_skip, ↓P_exit, ↓P_ret, ↓P_seq, ↓P_cond, ↓P_blk, ↓P_reg, ↓P_draw, ↓P_nil, ↓P_cons, condP_t, condP_f, dum_ab, stepR, want_none, want_some, opRun, ev_t, ev_c, put_none, put_some, resAll, res_tmp, res_cell, oneOf, minI, maxI, min2A, max2A, mn2, mx2, mx3, rdBlk, wrBlk, newBlk, partA, abin, ibin, isShift, AV.cells, AV.one, lay, sub, fillA, lenA, toN, allApart, apartFrom, Nat.testBit, Mem.blk_set_same, Mem.blk_set_ne, Mem.set_set, bit_zero, bit_self, lowBits_or, lowBits_zero, len_setT, sl_same, sl_ne, len_frame, sl_frame,↓op_len, lenOp_slc, lenOp_nils, ↓Post.some, ↓Post_bind, ↓Post_ret, ↓Post_draw, ↓PostL_nil, ↓PostL_cons, Post_fail, ofOpt_some, ofOpt_none, eA_b, eA_i, eA_s, eA_nn, eA_np, eA_pn, eA_lnn, eA_lnp, eA_lpn, eA_i2, eA_i3, blt_dec, Nat.add_assoc, keeps_refl, keeps_at, keeps_up, new_one, and_pow, bit_hi, lowBits_pow, ble_dec, fr_refl, fr_at, fr_up, fr_p, dum_ab, F10, c1, w0, w1, w2, w3, w7, hm, c3]

def lits (n : Nat) : List Int := (List.range n).map fun (i : Nat) => (i : Int)
theorem lits_len (n : Nat) : (lits n).length = n := by unfold lits; simp
theorem lits_succ (n : Nat) : lits (n + 1) = lits n ++ [(n : Int)] := by unfold lits; rw [List.range_succ]; simp
theorem gxX {n : Nat} {i : Nat} (h : i < n) : gx (newX n) (i : Int) = ((i : Int) + 1).tmod n := by
  unfold gx newX
  rw [List.getD_eq_getElem?_getD, List.getElem?_map, Int.toNat_natCast, List.getElem?_range h]
  rfl
theorem gxY {n : Nat} {i : Nat} (h : i < n) : gx (newY n) (i : Int) = ((i : Int) + n - 1).tmod n := by
  unfold gx newY
  rw [List.getD_eq_getElem?_getD, List.getElem?_map, Int.toNat_natCast, List.getElem?_range h]
  rfl
theorem new_link (n : Nat) (hn : 1 ≤ n) : Link (newX n) (newY n) (lits n) := by
  have lX : (newX n).length = n := by unfold newX; simp
  have lY : (newY n).length = n := by unfold newY; simp
  refine ⟨by rw [lX, lY], ?_, fun i hi => ?_, fun i h0 h1 hi => ?_, ?_⟩
  · unfold lits
    exact List.pairwise_map.2 (List.nodup_range.imp fun h e => h (by omega))
  · unfold lits at hi
    rw [List.mem_map] at hi
    obtain ⟨j, hj, rfl⟩ := hi
    rw [List.mem_range] at hj
    omega
  · exfalso
    apply hi
    unfold lits
    rw [List.mem_map]
    exact ⟨i.toNat, by rw [List.mem_range]; omega, by omega⟩
  · obtain ⟨k, rfl⟩ : ∃ k, n = k + 1 := ⟨n - 1, by omega⟩
    have e0 : lits (k + 1) = 0 :: (List.range k).map fun i => ((i + 1 : Nat) : Int) := by
      unfold lits
      rw [List.range_succ_eq_map]
      simp [Function.comp_def]
    rw [e0]
    show path _ _ (_ :: _ ++ [_])
    rw [← e0]
    refine path_of fun i h => ?_
    rw [List.length_append, lits_len] at h
    simp only [List.length_cons, List.length_nil] at h
    have g1 : (lits (k + 1) ++ [0])[i]'(by rw [List.length_append, lits_len]; simp; omega) = (i : Int) := by
      rw [List.getElem_append_left (by rw [lits_len]; omega)]
      unfold lits
      simp
    by_cases c : i = k
    · subst c
      have g2 : (lits (i + 1) ++ [0])[i + 1]'(by rw [List.length_append, lits_len]; simp) = 0 := by
        rw [List.getElem_append_right (by rw [lits_len]; omega)]
        simp [lits_len]
      rw [g1, g2]
      refine ⟨?_, ?_⟩
      · rw [gxX (by omega)]
        simp [Int.tmod_self]
      · rw [show (0 : Int) = ((0 : Nat) : Int) from rfl, gxY (by omega)]
        rw [Int.tmod_eq_of_lt (by omega) (by omega)]
        omega
    · have g2 : (lits (k + 1) ++ [0])[i + 1]'(by rw [List.length_append, lits_len]; simp; omega) = ((i + 1 : Nat) : Int) := by
        rw [List.getElem_append_left (by rw [lits_len]; omega)]
        unfold lits
        simp
      rw [g1, g2]
      refine ⟨?_, ?_⟩
      · rw [gxX (by omega), Int.tmod_eq_of_lt (by omega) (by omega)]
        omega
      · rw [gxY (by omega)]
        rw [show (((i + 1 : Nat) : Int) + ((k + 1 : Nat) : Int) - 1) = (i : Int) + ((k + 1 : Nat) : Int) by omega, Int.tmod_eq_emod_of_nonneg (by omega), Int.add_emod_right, ← Int.tmod_eq_emod_of_nonneg (by omega), Int.tmod_eq_of_lt (by omega) (by omega)]
theorem new_at (n : Nat) (hn : 1 ≤ n ∧ n ≤ 4096) (h : Mem) (nx lg : Nat) (hlg : lg ≤ nx) : ∃ h' tc wr, (∀ k, xF T (k + 4400) 26 [.int .i64 n] h nx lg = some ⟨.ptr (nx + 2) 0, h', nx + 3, tc, wr⟩) ∧ Rg h' (nx + 3) (nx + 2) nx (nx + 1) (newX n) (newY n) n ∧ Keeps nx h h' := by
  obtain ⟨v, h', nx', tc, wr, e, rfl, rfl, r, kp⟩ := (new_run n hn h nx lg hlg).inv
  exact ⟨h', tc, wr, fun k => xF_mono T (Nat.le_add_left ..) e, r, kp⟩

theorem Link.inn {X Y L : List Int} (k : Link X Y L) (i : Int) : inR X i = true ↔ i ∈ L := by
  constructor
  · intro h
    obtain ⟨c1, c2⟩ := inR_in h
    by_cases c : i ∈ L
    · exact c
    · have := k.off i c1 c2 c
      unfold gx at this
      unfold inR at h
      rw [this] at h
      simp at h
  · intro h
    obtain ⟨u, v, rfl, hu⟩ := mem_split h
    obtain ⟨a, b, d⟩ := k.apart
    have e := k.ends.1.1
    unfold gx at e
    unfold inR
    simp only [b.1, b.2, e, decide_true, Bool.and_self]
theorem Link.inF {X Y L : List Int} (k : Link X Y L) {i : Int} (h : i ∉ L) : inR X i = false := by
  cases c : inR X i with
  | false => rfl
  | true => exact absurd ((k.inn i).1 c) h
theorem Link.valid {X Y L : List Int} (k : Link X Y L) : Valid X Y := by
  intro i h
  obtain ⟨u, v, rfl, hu⟩ := mem_split ((k.inn i).1 h)
  exact k.ends
theorem Link.nextI {X Y u v : List Int} {i : Int} (k : Link X Y (u ++ i :: v)) : nextO X i = (v ++ u).headD i := by
  unfold nextO
  rw [(k.inn i).2 (by simp)]
  exact k.next.1
theorem Link.nextN {X Y L : List Int} (k : Link X Y L) {i : Int} (h : i ∉ L) : nextO X i = -1 := by
  unfold nextO
  rw [k.inF h]
  rfl
theorem Link.from {X Y u v : List Int} {i : Int} (k : Link X Y (u ++ i :: v)) {h : Mem} {nx p bn bp : Nat} {c : Int} (r : Rg h nx p bn bp X Y c) (hl : (u ++ i :: v).length ≤ 100) : Mk 300 30 [.ptr p 0, .int .i64 i] h nx (i :: (v ++ u)) := by
  refine from_in r i (v ++ u) ?_ ((k.inn i).2 (by simp)) k.next.1 k.next.2
  simp only [List.length_append, List.length_cons] at hl ⊢
  omega
theorem Link.fromN {X Y L : List Int} (k : Link X Y L) {i : Int} (hi : i ∉ L) {h : Mem} {nx p bn bp : Nat} {c : Int} (r : Rg h nx p bn bp X Y c) : Mk 300 30 [.ptr p 0, .int .i64 i] h nx [] := from_out r i (k.inF hi)

/-- A ring alone. -/
structure K (h : Mem) (nx p bn bp : Nat) (X Y L : List Int) (n : Nat) : Prop where
  r : Rg h nx p bn bp X Y L.length
  k : Link X Y L
  len : X.length = n
theorem K.keep {h h' : Mem} {nx nx' p bn bp : Nat} {X Y L : List Int} {n : Nat} (j : K h nx p bn bp X Y L n) (hn : nx ≤ nx') (e : Keeps nx h h') : K h' nx' p bn bp X Y L n := ⟨j.r.keep hn e, j.k, j.len⟩
theorem K.le {h : Mem} {nx p bn bp : Nat} {X Y L : List Int} {n : Nat} (j : K h nx p bn bp X Y L n) : L.length ≤ n := by
  have h2 : ∀ x ∈ L, x ∈ lits n := by
    intro x hx
    obtain ⟨a, b⟩ := j.k.dom x hx
    unfold lits
    rw [List.mem_map]
    exact ⟨x.toNat, by rw [List.mem_range]; have := j.len; omega, by omega⟩
  have := List.Nodup.length_le_of_subset j.k.nd h2
  rw [lits_len] at this
  exact this
theorem Ch.up {c d f : Nat} {args : List AV} {h : Mem} {nx p bn bp : Nat} {v : AV} {X Y : List Int} {k : Int} (s : Ch c f args h nx p bn bp v X Y k) (hd : c ≤ d) : Ch d f args h nx p bn bp v X Y k := by
  intro lg hl
  obtain ⟨v', h', nx', tc, wr, e, q⟩ := (s lg hl).inv
  exact Post.of (xF_mono T hd e) q
theorem K.out {h : Mem} {nx p bn bp : Nat} {X Y L : List Int} {n : Nat} (j : K h nx p bn bp X Y L n) (hn : n ≤ 60) (i : Int) : ∃ b X' Y' L', Ch 60 34 [.ptr p 0, .int .i64 i] h nx p bn bp (.bool b) X' Y' L'.length ∧ Link X' Y' L' ∧ X'.length = n ∧ ((b = false ∧ L' = L ∧ i ∉ L) ∨ (b = true ∧ ∃ u v, L = u ++ i :: v ∧ L' = u ++ v ∧ X' = outX X Y i.toNat ∧ Y' = outY X Y i.toNat)) := by
  have hL := j.le
  by_cases c : i ∈ L
  · obtain ⟨u, v, e, hu⟩ := mem_split c
    have k := j.k
    rw [e] at k
    have ln : L.length = (u ++ v).length + 1 := by rw [e]; simp [Nat.add_assoc]
    have ch := out_ch j.r j.k.valid (by omega) i ((j.k.inn i).2 c)
    rw [show (L.length : Int) - 1 = ((u ++ v).length : Int) by omega] at ch
    exact ⟨true, _, _, u ++ v, ch, k.out, by rw [← j.len]; unfold outX; simp, .inr ⟨rfl, u, v, e, rfl, rfl, rfl⟩⟩
  · exact ⟨false, X, Y, L, (rd_ch j.r (out_no j.r i (j.k.inF c))).up (by omega), j.k, j.len, .inl ⟨rfl, rfl, c⟩⟩
end Go.Proofs.YtmgilbjhgpcjgaaT
