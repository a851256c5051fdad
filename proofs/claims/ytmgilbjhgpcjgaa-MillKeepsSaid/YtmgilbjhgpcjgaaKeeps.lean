/- Mill: MillKeeps. -/
import Derived.Test.YtmgilbjhgpcjgaaOrder
namespace Go.Proofs.YtmgilbjhgpcjgaaT
open Go Go.Proofs.YtmgilbjhgpcjgaaE Go.Proofs.YtmgilbjhgpcjgaaB
set_option linter.unusedSimpArgs false
set_option linter.unusedVariables false
attribute [local congr] Post_cg PostL_cg condP_cg

theorem ML.total {h : Mem} {nx p r bn bp bc : Nat} {X Y : List Int} {S : Nat → List Int} {n : Nat} (j : ML h nx p r bn bp bc X Y S n) : (S 0).length + (S 1).length + (S 2).length + (S 3).length = n := by
  have h1 := j.k.le
  have h2 : (lits n).length ≤ (LS S).length := by
    refine List.Nodup.length_le_of_subset ?_ fun x hx => ?_
    · unfold lits
      exact List.pairwise_map.2 (List.nodup_range.imp fun h e => h (by omega))
    · obtain ⟨a, b⟩ := mem_lits.1 hx
      exact j.all x a b
  rw [lits_len] at h2
  unfold LS at h1 h2
  simp only [List.length_append] at h1 h2
  omega
/-- Who is given. -/
def Giv (G : List Bool) (S0 : List Int) (k : Nat) : Prop := G.length = 32 ∧ ∀ c : Nat, c < k → G[c]? = some (decide ((c : Int) ∉ S0))
def gb (G : List Bool) : Blk := ⟨30, 32, true, false, G.map .bool⟩
theorem gb_at {G : List Bool} {S0 : List Int} {k c : Nat} (g : Giv G S0 k) (hc : c < k) (hk : k ≤ 26) : ∃ h : c < (G.map AV.bool).length, (G.map AV.bool)[c] = .bool (decide ((c : Int) ∉ S0)) := by
  have h1 : c < G.length := by have := g.1; omega
  refine ⟨by rw [List.length_map]; exact h1, ?_⟩
  rw [List.getElem_map]
  have := g.2 c hc
  rw [List.getElem?_eq_getElem h1] at this
  rw [Option.some.inj this]
theorem Giv.set {G : List Bool} {S0 S1 : List Int} {k c : Nat} {b : Bool} (g : Giv G S0 k) (hk : k ≤ 26) (hc : c < k) (h1 : b = true ↔ (c : Int) ∉ S1) (h2 : ∀ x : Int, x ≠ c → (x ∈ S1 ↔ x ∈ S0)) : Giv (G.set c b) S1 k := by
  refine ⟨by rw [List.length_set]; exact g.1, fun d hd => ?_⟩
  by_cases e : c = d
  · subst e
    rw [List.getElem?_set_self (by have := g.1; omega)]
    cases b with
    | true => rw [decide_eq_true (h1.1 rfl)]
    | false =>
      have : ¬ ((c : Int) ∉ S1) := fun h => by have := h1.2 h; cases this
      rw [decide_eq_false this]
  · rw [List.getElem?_set_ne e, g.2 d hd]
    have := h2 d (by omega)
    congr 1
    rw [decide_eq_decide]
    exact not_congr this.symm
theorem map_set (G : List Bool) (c : Nat) (b : Bool) (h : c < G.length) : lay (G.map AV.bool) c [.bool b] = (G.set c b).map AV.bool := by
  rw [lay_one _ _ _ (by rw [List.length_map]; exact h), List.map_set]

/-! ### The sum of counts -/
def SuI (S : Nat → List Int) (k : Nat) (p g : Nat) (v : AV) (i : Nat) (h0 : Mem) (nx0 : Nat) (m : Nat) (ts : List AV) (h : Mem) (nx tc wr : Nat) : Prop := ∃ c : Nat, m = 4 - c ∧ c ≤ 4 ∧ ts.length = 126 ∧ sl ts 1 = v ∧ sl ts 5 = .int .i64 k ∧ sl ts 6 = .ptr p 0 ∧ sl ts 7 = .ptr g 0 ∧ sl ts 8 = .int .i64 i ∧ sl ts 13 = .int .i64 c ∧ sl ts 12 = .int .i64 (match c with | 0 => 0 | 1 => ((S 0).length : Int) | 2 => ((S 0).length : Int) + (S 1).length | 3 => ((S 0).length : Int) + (S 1).length + (S 2).length | _ => (k : Int)) ∧ h = h0 ∧ nx = nx0
def SuR (k : Nat) (p g : Nat) (v : AV) (i : Nat) (h0 : Mem) (nx0 : Nat) (e : Ex) (ts : List AV) (h : Mem) (nx tc wr : Nat) : Prop := e = .exit 5 ∧ ts.length = 126 ∧ sl ts 1 = v ∧ sl ts 5 = .int .i64 k ∧ sl ts 6 = .ptr p 0 ∧ sl ts 7 = .ptr g 0 ∧ sl ts 8 = .int .i64 i ∧ sl ts 12 = .int .i64 k ∧ h = h0 ∧ nx = nx0
set_option maxHeartbeats 8000000 in
theorem su_round {h0 : Mem} {nx0 p r bn bp bc : Nat} {X Y : List Int} {S : Nat → List Int} {k : Nat} (j : ML h0 nx0 p r bn bp bc X Y S k) (hk : k ≤ 26) (g : Nat) (v : AV) (i : Nat) (m : Nat) (ts : List AV) (h : Mem) (nx tc wr : Nat) (hi : SuI S k p g v i h0 nx0 m ts h nx tc wr) :
    Post (xC T 100 L5_1b ts h nx 0) fun v' h' nx' tc' wr' => Round (SuI S k p g v i h0 nx0) (SuR k p g v i h0 nx0) m v' h' nx' (tc ||| tc') (wr ||| wr') := by
  obtain ⟨c, rfl, hc, hlen, g1, g5, g6, g7, g8, g13, g12, rfl, rfl⟩ := hi
  have tot := j.total
  by_cases c4 : c = 4
  · subst c4
    simp (maxSteps := 4000000) [↓P_skip, ↓P_exit, ↓P_ret, ↓P_seq, ↓P_cond, ↓P_blk, ↓P_reg, ↓P_draw, ↓P_nil, ↓P_cons, condP_t, condP_f, dum_ab, stepR, want_none, want_some, opRun, ev_t, ev_c, put_none, put_some, resAll, res_tmp, res_cell, oneOf, minI, maxI, min2A, max2A, mn2, mx2, mx3, rdBlk, wrBlk, newBlk, partA, abin, ibin, isShift, AV.cells, AV.one, lay, sub, fillA, lenA, toN, allApart, apartFrom, Nat.testBit, Mem.blk_set_same, Mem.blk_set_ne, Mem.set_set, bit_zero, bit_self, lowBits_or, lowBits_zero, len_setT, sl_same, sl_ne, len_frame, sl_frame,↓op_len, lenOp_slc, lenOp_nils, ↓Post.some, ↓Post_bind, ↓Post_ret, ↓Post_draw, ↓PostL_nil, ↓PostL_cons, Post_fail, ofOpt_some, ofOpt_none, eA_b, eA_i, eA_s, eA_nn, eA_np, eA_pn, eA_lnn, eA_lnp, eA_lpn, eA_i2, eA_i3, blt_dec, Nat.add_assoc, keeps_refl, keeps_at, keeps_up, new_one, and_pow, bit_hi, lowBits_pow, ble_dec, fr_refl, fr_at, fr_up, fr_p, dum_ab, L5_1b, hlen, g1, g5, g6, g7, g8, g13, g12]
    exact Round.exit (R := SuR k p g v i h nx) ⟨rfl, by simp [len_setT, sl_same, sl_ne, hlen], by simp [len_setT, sl_same, sl_ne, hlen, g1], by simp [len_setT, sl_same, sl_ne, hlen, g5], by simp [len_setT, sl_same, sl_ne, hlen, g6], by simp [len_setT, sl_same, sl_ne, hlen, g7], by simp [len_setT, sl_same, sl_ne, hlen, g8], by simp [len_setT, sl_same, sl_ne, hlen, g12], rfl, rfl⟩
  · obtain ⟨tc1, x1⟩ := (count_rd j (c : Int)).at 0 (by omega)
    have w1 : IntKind.i64.wrap ((S 0).length : Int) = ((S 0).length : Int) := by rw [IntKind.wrap_i64]; omega
    have w2 : IntKind.i64.wrap (((S 0).length : Int) + (S 1).length) = ((S 0).length : Int) + (S 1).length := by rw [IntKind.wrap_i64]; omega
    have w3 : IntKind.i64.wrap (((S 0).length : Int) + (S 1).length + (S 2).length) = ((S 0).length : Int) + (S 1).length + (S 2).length := by rw [IntKind.wrap_i64]; omega
    have w4 : IntKind.i64.wrap (((S 0).length : Int) + (S 1).length + (S 2).length + (S 3).length) = (k : Int) := by rw [IntKind.wrap_i64]; omega
    obtain rfl | rfl | rfl | rfl : c = 0 ∨ c = 1 ∨ c = 2 ∨ c = 3 := by omega
    all_goals
      simp only [show ((0 : Nat) : Int) = 0 from rfl, show ((1 : Nat) : Int) = 1 from rfl, show ((2 : Nat) : Int) = 2 from rfl, show ((3 : Nat) : Int) = 3 from rfl] at g13 x1 g12
      unfold cntS at x1
      simp only [show ¬ ((1 : Int) = 0) by omega, show ¬ ((2 : Int) = 0) by omega, show ¬ ((3 : Int) = 0) by omega, show ¬ ((2 : Int) = 1) by omega, show ¬ ((3 : Int) = 1) by omega, show ¬ ((3 : Int) = 2) by omega, if_true, if_false] at x1
      simp (maxSteps := 4000000) [↓P_skip, ↓P_exit, ↓P_ret, ↓P_seq, ↓P_cond, ↓P_blk, ↓P_reg, ↓P_draw, ↓P_nil, ↓P_cons, condP_t, condP_f, dum_ab, stepR, want_none, want_some, opRun, ev_t, ev_c, put_none, put_some, resAll, res_tmp, res_cell, oneOf, minI, maxI, min2A, max2A, mn2, mx2, mx3, rdBlk, wrBlk, newBlk, partA, abin, ibin, isShift, AV.cells, AV.one, lay, sub, fillA, lenA, toN, allApart, apartFrom, Nat.testBit, Mem.blk_set_same, Mem.blk_set_ne, Mem.set_set, bit_zero, bit_self, lowBits_or, lowBits_zero, len_setT, sl_same, sl_ne, len_frame, sl_frame,↓op_len, lenOp_slc, lenOp_nils, ↓Post.some, ↓Post_bind, ↓Post_ret, ↓Post_draw, ↓PostL_nil, ↓PostL_cons, Post_fail, ofOpt_some, ofOpt_none, eA_b, eA_i, eA_s, eA_nn, eA_np, eA_pn, eA_lnn, eA_lnp, eA_lpn, eA_i2, eA_i3, blt_dec, Nat.add_assoc, keeps_refl, keeps_at, keeps_up, new_one, and_pow, bit_hi, lowBits_pow, ble_dec, fr_refl, fr_at, fr_up, fr_p, dum_ab, L5_1b, hlen, g1, g5, g6, g7, g8, g13, g12, x1, w1, w2, w3, w4, wl1, wl2, wl3, wl4]
      first | exact Round.nor (m' := 3) (by omega) ⟨1, rfl, by omega, by simp [len_setT, sl_same, sl_ne, hlen], by simp [len_setT, sl_same, sl_ne, hlen, g1], by simp [len_setT, sl_same, sl_ne, hlen, g5], by simp [len_setT, sl_same, sl_ne, hlen, g6], by simp [len_setT, sl_same, sl_ne, hlen, g7], by simp [len_setT, sl_same, sl_ne, hlen, g8], by simp [len_setT, sl_same, sl_ne, hlen], by simp [len_setT, sl_same, sl_ne, hlen], rfl, rfl⟩ | exact Round.nor (m' := 2) (by omega) ⟨2, rfl, by omega, by simp [len_setT, sl_same, sl_ne, hlen], by simp [len_setT, sl_same, sl_ne, hlen, g1], by simp [len_setT, sl_same, sl_ne, hlen, g5], by simp [len_setT, sl_same, sl_ne, hlen, g6], by simp [len_setT, sl_same, sl_ne, hlen, g7], by simp [len_setT, sl_same, sl_ne, hlen, g8], by simp [len_setT, sl_same, sl_ne, hlen], by simp [len_setT, sl_same, sl_ne, hlen], rfl, rfl⟩ | exact Round.nor (m' := 1) (by omega) ⟨3, rfl, by omega, by simp [len_setT, sl_same, sl_ne, hlen], by simp [len_setT, sl_same, sl_ne, hlen, g1], by simp [len_setT, sl_same, sl_ne, hlen, g5], by simp [len_setT, sl_same, sl_ne, hlen, g6], by simp [len_setT, sl_same, sl_ne, hlen, g7], by simp [len_setT, sl_same, sl_ne, hlen, g8], by simp [len_setT, sl_same, sl_ne, hlen], by simp [len_setT, sl_same, sl_ne, hlen], rfl, rfl⟩ | exact Round.nor (m' := 0) (by omega) ⟨4, rfl, by omega, by simp [len_setT, sl_same, sl_ne, hlen], by simp [len_setT, sl_same, sl_ne, hlen, g1], by simp [len_setT, sl_same, sl_ne, hlen, g5], by simp [len_setT, sl_same, sl_ne, hlen, g6], by simp [len_setT, sl_same, sl_ne, hlen, g7], by simp [len_setT, sl_same, sl_ne, hlen, g8], by simp [len_setT, sl_same, sl_ne, hlen], by simp [len_setT, sl_same, sl_ne, hlen], rfl, rfl⟩

/-! ### Each cell -/
def EaI (k : Nat) (p g : Nat) (v : AV) (i : Nat) (h0 : Mem) (nx0 : Nat) (m : Nat) (ts : List AV) (h : Mem) (nx tc wr : Nat) : Prop := ∃ c : Nat, m = k - c ∧ c ≤ k ∧ ts.length = 126 ∧ sl ts 1 = v ∧ sl ts 5 = .int .i64 k ∧ sl ts 6 = .ptr p 0 ∧ sl ts 7 = .ptr g 0 ∧ sl ts 8 = .int .i64 i ∧ sl ts 12 = .int .i64 k ∧ sl ts 14 = .int .i64 c ∧ h = h0 ∧ nx = nx0
def EaR (k : Nat) (p g : Nat) (v : AV) (i : Nat) (h0 : Mem) (nx0 : Nat) (e : Ex) (ts : List AV) (h : Mem) (nx tc wr : Nat) : Prop := e = .exit 7 ∧ ts.length = 126 ∧ sl ts 1 = v ∧ sl ts 5 = .int .i64 k ∧ sl ts 6 = .ptr p 0 ∧ sl ts 7 = .ptr g 0 ∧ sl ts 8 = .int .i64 i ∧ sl ts 12 = .int .i64 k ∧ h = h0 ∧ nx = nx0
theorem col_zero {S : Nat → List Int} {i : Int} : (colS S i == 0) = decide (i ∈ S 0) := by
  unfold colS
  by_cases c : i ∈ S 0
  · rw [if_pos c, decide_eq_true c]; rfl
  · rw [if_neg c, decide_eq_false c]
    split
    · rfl
    · split
      · rfl
      · split <;> rfl
set_option maxHeartbeats 8000000 in
theorem ea_round {h0 : Mem} {nx0 p r bn bp bc : Nat} {X Y : List Int} {S : Nat → List Int} {k : Nat} (j : ML h0 nx0 p r bn bp bc X Y S k) (hk : k ≤ 26) (g : Nat) (hg : g < nx0) (G : List Bool) (hG : h0.blk g = some (gb G)) (gv : Giv G (S 0) k) (v : AV) (i : Nat) (m : Nat) (ts : List AV) (h : Mem) (nx tc wr : Nat) (hi : EaI k p g v i h0 nx0 m ts h nx tc wr) :
    Post (xC T 100 L5_0b ts h nx 0) fun v' h' nx' tc' wr' => Round (EaI k p g v i h0 nx0) (EaR k p g v i h0 nx0) m v' h' nx' (tc ||| tc') (wr ||| wr') := by
  obtain ⟨c, rfl, hc, hlen, g1, g5, g6, g7, g8, g12, g14, rfl, rfl⟩ := hi
  by_cases c1 : c < k
  · have c1' : (c : Int) < (k : Int) := by omega
    have ci : IntKind.i64.wrap ((c : Int) + 1) = ((c + 1 : Nat) : Int) := by rw [IntKind.wrap_i64]; omega
    obtain ⟨tc1, x1⟩ := (color_rd j (c : Int)).at nx (Nat.le_refl _)
    obtain ⟨b1, b2⟩ := gb_at gv c1 hk
    have c32 : (c : Int) < 32 := by omega
    have c32' : c < 32 := by omega
    have cz := col_zero (S := S) (i := (c : Int))
    unfold gb at hG
    have ne : ((colS S (c : Int) == 0) == !(colS S (c : Int) == 0)) = false := by cases (colS S (c : Int) == 0) <;> rfl
    have b3 : (G.map AV.bool)[c] = .bool (!(colS S (c : Int) == 0)) := by
      rw [b2, cz]
      congr 1
      by_cases q : (c : Int) ∈ S 0
      · rw [decide_eq_true q, decide_eq_false (fun h => h q)]; rfl
      · rw [decide_eq_false q, decide_eq_true q]; rfl
    have b4 : (G.map AV.bool)[c]? = some (.bool (!(colS S (c : Int) == 0))) := by rw [List.getElem?_eq_getElem b1, b3]
    generalize hcs : colS S (c : Int) = cs at *
    generalize G.map AV.bool = GC at *
    simp (maxSteps := 4000000) [↓P_skip, ↓P_exit, ↓P_ret, ↓P_seq, ↓P_cond, ↓P_blk, ↓P_reg, ↓P_draw, ↓P_nil, ↓P_cons, condP_t, condP_f, dum_ab, stepR, want_none, want_some, opRun, ev_t, ev_c, put_none, put_some, resAll, res_tmp, res_cell, oneOf, minI, maxI, min2A, max2A, mn2, mx2, mx3, rdBlk, wrBlk, newBlk, partA, abin, ibin, isShift, AV.cells, AV.one, lay, sub, fillA, lenA, toN, allApart, apartFrom, Nat.testBit, Mem.blk_set_same, Mem.blk_set_ne, Mem.set_set, bit_zero, bit_self, lowBits_or, lowBits_zero, len_setT, sl_same, sl_ne, len_frame, sl_frame,↓op_len, lenOp_slc, lenOp_nils, ↓Post.some, ↓Post_bind, ↓Post_ret, ↓Post_draw, ↓PostL_nil, ↓PostL_cons, Post_fail, ofOpt_some, ofOpt_none, eA_b, eA_i, eA_s, eA_nn, eA_np, eA_pn, eA_lnn, eA_lnp, eA_lpn, eA_i2, eA_i3, blt_dec, Nat.add_assoc, keeps_refl, keeps_at, keeps_up, new_one, and_pow, bit_hi, lowBits_pow, ble_dec, fr_refl, fr_at, fr_up, fr_p, dum_ab, L5_0b, hlen, g1, g5, g6, g7, g8, g12, g14, c1, c1', c32, c32', x1, hG, hg, b1, b3, ci]
    exact Round.nor (m' := k - (c + 1)) (by omega) ⟨c + 1, rfl, by omega, by simp [len_setT, sl_same, sl_ne, hlen], by simp [len_setT, sl_same, sl_ne, hlen, g1], by simp [len_setT, sl_same, sl_ne, hlen, g5], by simp [len_setT, sl_same, sl_ne, hlen, g6], by simp [len_setT, sl_same, sl_ne, hlen, g7], by simp [len_setT, sl_same, sl_ne, hlen, g8], by simp [len_setT, sl_same, sl_ne, hlen, g12], by simp [len_setT, sl_same, sl_ne, hlen], rfl, rfl⟩
  · have c1' : ¬ (c : Int) < (k : Int) := by omega
    simp (maxSteps := 4000000) [↓P_skip, ↓P_exit, ↓P_ret, ↓P_seq, ↓P_cond, ↓P_blk, ↓P_reg, ↓P_draw, ↓P_nil, ↓P_cons, condP_t, condP_f, dum_ab, stepR, want_none, want_some, opRun, ev_t, ev_c, put_none, put_some, resAll, res_tmp, res_cell, oneOf, minI, maxI, min2A, max2A, mn2, mx2, mx3, rdBlk, wrBlk, newBlk, partA, abin, ibin, isShift, AV.cells, AV.one, lay, sub, fillA, lenA, toN, allApart, apartFrom, Nat.testBit, Mem.blk_set_same, Mem.blk_set_ne, Mem.set_set, bit_zero, bit_self, lowBits_or, lowBits_zero, len_setT, sl_same, sl_ne, len_frame, sl_frame,↓op_len, lenOp_slc, lenOp_nils, ↓Post.some, ↓Post_bind, ↓Post_ret, ↓Post_draw, ↓PostL_nil, ↓PostL_cons, Post_fail, ofOpt_some, ofOpt_none, eA_b, eA_i, eA_s, eA_nn, eA_np, eA_pn, eA_lnn, eA_lnp, eA_lpn, eA_i2, eA_i3, blt_dec, Nat.add_assoc, keeps_refl, keeps_at, keeps_up, new_one, and_pow, bit_hi, lowBits_pow, ble_dec, fr_refl, fr_at, fr_up, fr_p, dum_ab, L5_0b, hlen, g1, g5, g6, g7, g8, g12, g14, c1']
    exact Round.exit (R := EaR k p g v i h nx) ⟨rfl, by simp [len_setT, sl_same, sl_ne, hlen], by simp [len_setT, sl_same, sl_ne, hlen, g1], by simp [len_setT, sl_same, sl_ne, hlen, g5], by simp [len_setT, sl_same, sl_ne, hlen, g6], by simp [len_setT, sl_same, sl_ne, hlen, g7], by simp [len_setT, sl_same, sl_ne, hlen, g8], by simp [len_setT, sl_same, sl_ne, hlen, g12], rfl, rfl⟩

/-! ### What is freed -/
def FgI (k : Nat) (D S0 : List Int) (u v : AV) (p g i : Nat) (h0 : Mem) (nx0 : Nat) (m : Nat) (ts : List AV) (h : Mem) (nx tc wr : Nat) : Prop := ∃ (j : Nat) (G : List Bool), m = D.length - j ∧ j ≤ D.length ∧ ts.length = 126 ∧ sl ts 1 = v ∧ sl ts 5 = .int .i64 k ∧ sl ts 6 = .ptr p 0 ∧ sl ts 7 = .ptr g 0 ∧ sl ts 8 = .int .i64 i ∧ sl ts 78 = u ∧ sl ts 79 = .int .i64 D.length ∧ sl ts 80 = .int .i64 j ∧ nx = nx0 ∧ h.blk g = some (gb G) ∧ Giv G (S0 ++ D.take j) k ∧ ∀ x, x ≠ g → h.blk x = h0.blk x
def FgR (k : Nat) (D S0 : List Int) (v : AV) (p g i : Nat) (h0 : Mem) (nx0 : Nat) (e : Ex) (ts : List AV) (h : Mem) (nx tc wr : Nat) : Prop := e = .exit 3 ∧ ∃ G : List Bool, ts.length = 126 ∧ sl ts 1 = v ∧ sl ts 5 = .int .i64 k ∧ sl ts 6 = .ptr p 0 ∧ sl ts 7 = .ptr g 0 ∧ sl ts 8 = .int .i64 i ∧ nx = nx0 ∧ h.blk g = some (gb G) ∧ Giv G (S0 ++ D) k ∧ ∀ x, x ≠ g → h.blk x = h0.blk x
set_option maxHeartbeats 8000000 in
theorem fg_round (k : Nat) (hk : k ≤ 26) (D S0 : List Int) (hD : D.length ≤ 60) (nd : (S0 ++ D).Nodup) (hm : ∀ x ∈ D, 0 ≤ x ∧ x < k) (u v : AV) (p g i lo : Nat) (h0 : Mem) (nx0 : Nat) (ru : RI u h0 lo nx0 D) (hg : g < lo) (hlo : lo ≤ nx0) (m : Nat) (ts : List AV) (h : Mem) (nx tc wr : Nat) (hi : FgI k D S0 u v p g i h0 nx0 m ts h nx tc wr) :
    Post (xC T 100 L5_2b ts h nx 0) fun v' h' nx' tc' wr' => Round (FgI k D S0 u v p g i h0 nx0) (FgR k D S0 v p g i h0 nx0) m v' h' nx' (tc ||| tc') (wr ||| wr') := by
  obtain ⟨j, G, rfl, hj, hlen, g1, g5, g6, g7, g8, g78, g79, g80, rfl, hG, gv, f⟩ := hi
  by_cases c1 : j < D.length
  · have c1' : (j : Int) < (D.length : Int) := by omega
    have ci : IntKind.i64.wrap ((j : Int) + 1) = ((j + 1 : Nat) : Int) := by rw [IntKind.wrap_i64]; omega
    have ru1 : RI u h lo nx D := ru.keep (Nat.le_refl _) fun b hb hb2 => f b (by omega)
    obtain ⟨bu, o, cu, Ku, x, rfl, hb1, hb2, hK, hx, hc⟩ := RV.at1 (Row.rv ru1) c1
    rw [ints_at c1] at hx
    cases hx
    obtain ⟨m1, m2⟩ := hm _ (List.getElem_mem c1)
    obtain ⟨w, hw⟩ : ∃ w : Nat, D[j] = w := ⟨D[j].toNat, by omega⟩
    have hwk : w < k := by omega
    have notin : (w : Int) ∉ S0 ++ D.take j := by
      rw [← hw]
      rw [List.nodup_append] at nd
      obtain ⟨_, n2, n3⟩ := nd
      rw [List.mem_append]
      rintro (h | h)
      · exact n3 _ h _ (List.getElem_mem c1) rfl
      · obtain ⟨q, hq, e⟩ := List.mem_iff_getElem.1 h
        rw [List.length_take] at hq
        rw [List.getElem_take] at e
        have := (List.getElem_inj (i := q) (j := j) (h₀ := by omega) (h₁ := c1) n2).1 e
        omega
    obtain ⟨b1, b2⟩ := gb_at gv hwk hk
    rw [decide_eq_true notin] at b2
    have gl := gv.1
    have gv' : Giv (G.set w false) (S0 ++ D.take (j + 1)) k := gv.set hk hwk (by
      rw [List.take_succ_eq_append_getElem c1, hw]
      simp) (fun x hx => by
      rw [List.take_succ_eq_append_getElem c1, hw]
      simp [hx])
    have m1' : ¬ (w : Int) < 0 := by omega
    have m2' : ¬ (k : Int) ≤ (w : Int) := by omega
    have c32 : (w : Int) < 32 := by omega
    have c32' : w < 32 := by omega
    have hgn : g < nx := by omega
    have hl : lay (G.map AV.bool) w [.bool false] = (G.set w false).map AV.bool := map_set G w false (by omega)
    have ml : (G.map AV.bool).length = 32 := by rw [List.length_map]; exact gl
    unfold gb at hG
    have wl : w + 1 ≤ 32 := by omega
    rw [hw] at hc
    have ll : (lay (G.map AV.bool) w [.bool false]).length = 32 := by rw [hl, List.length_map, List.length_set]; exact gl
    generalize hGC : G.map AV.bool = GC at *
    simp (maxSteps := 4000000) [↓P_skip, ↓P_exit, ↓P_ret, ↓P_seq, ↓P_cond, ↓P_blk, ↓P_reg, ↓P_draw, ↓P_nil, ↓P_cons, condP_t, condP_f, dum_ab, stepR, want_none, want_some, opRun, ev_t, ev_c, put_none, put_some, resAll, res_tmp, res_cell, oneOf, minI, maxI, min2A, max2A, mn2, mx2, mx3, rdBlk, wrBlk, newBlk, partA, abin, ibin, isShift, AV.cells, AV.one, sub, fillA, lenA, toN, allApart, apartFrom, Nat.testBit, Mem.blk_set_same, Mem.blk_set_ne, Mem.set_set, bit_zero, bit_self, lowBits_or, lowBits_zero, len_setT, sl_same, sl_ne, len_frame, sl_frame,↓op_len, lenOp_slc, lenOp_nils, ↓Post.some, ↓Post_bind, ↓Post_ret, ↓Post_draw, ↓PostL_nil, ↓PostL_cons, Post_fail, ofOpt_some, ofOpt_none, eA_b, eA_i, eA_s, eA_nn, eA_np, eA_pn, eA_lnn, eA_lnp, eA_lpn, eA_i2, eA_i3, blt_dec, Nat.add_assoc, keeps_refl, keeps_at, keeps_up, new_one, and_pow, bit_hi, lowBits_pow, ble_dec, fr_refl, fr_at, fr_up, fr_p, dum_ab, L5_2b, hlen, g1, g5, g6, g7, g8, g78, g79, g80, c1, c1', hb2, hK, hc, m1', m2', c32, c32', hG, hgn, b1, b2, ml, wl, ll, ci]
    exact Round.nor (m' := D.length - (j + 1)) (by omega) ⟨j + 1, G.set w false, rfl, by omega, by simp [len_setT, sl_same, sl_ne, hlen], by simp [len_setT, sl_same, sl_ne, hlen, g1], by simp [len_setT, sl_same, sl_ne, hlen, g5], by simp [len_setT, sl_same, sl_ne, hlen, g6], by simp [len_setT, sl_same, sl_ne, hlen, g7], by simp [len_setT, sl_same, sl_ne, hlen, g8], by simp [len_setT, sl_same, sl_ne, hlen, g78], by simp [len_setT, sl_same, sl_ne, hlen, g79], by simp [len_setT, sl_same, sl_ne, hlen], rfl, by rw [Mem.blk_set_same, hl]; rfl, gv', fun x hx => by rw [Mem.blk_set_ne _ _ _ _ hx]; exact f x hx⟩
  · have c1' : ¬ (j : Int) < (D.length : Int) := by omega
    have : j = D.length := by omega
    subst this
    rw [List.take_length] at gv
    simp (maxSteps := 4000000) [↓P_skip, ↓P_exit, ↓P_ret, ↓P_seq, ↓P_cond, ↓P_blk, ↓P_reg, ↓P_draw, ↓P_nil, ↓P_cons, condP_t, condP_f, dum_ab, stepR, want_none, want_some, opRun, ev_t, ev_c, put_none, put_some, resAll, res_tmp, res_cell, oneOf, minI, maxI, min2A, max2A, mn2, mx2, mx3, rdBlk, wrBlk, newBlk, partA, abin, ibin, isShift, AV.cells, AV.one, lay, sub, fillA, lenA, toN, allApart, apartFrom, Nat.testBit, Mem.blk_set_same, Mem.blk_set_ne, Mem.set_set, bit_zero, bit_self, lowBits_or, lowBits_zero, len_setT, sl_same, sl_ne, len_frame, sl_frame,↓op_len, lenOp_slc, lenOp_nils, ↓Post.some, ↓Post_bind, ↓Post_ret, ↓Post_draw, ↓PostL_nil, ↓PostL_cons, Post_fail, ofOpt_some, ofOpt_none, eA_b, eA_i, eA_s, eA_nn, eA_np, eA_pn, eA_lnn, eA_lnp, eA_lpn, eA_i2, eA_i3, blt_dec, Nat.add_assoc, keeps_refl, keeps_at, keeps_up, new_one, and_pow, bit_hi, lowBits_pow, ble_dec, fr_refl, fr_at, fr_up, fr_p, dum_ab, L5_2b, hlen, g1, g5, g6, g7, g8, g78, g79, g80, c1']
    exact Round.exit (R := FgR k D S0 v p g i h0 nx) ⟨rfl, G, by simp [len_setT, sl_same, sl_ne, hlen], by simp [len_setT, sl_same, sl_ne, hlen, g1], by simp [len_setT, sl_same, sl_ne, hlen, g5], by simp [len_setT, sl_same, sl_ne, hlen, g6], by simp [len_setT, sl_same, sl_ne, hlen, g7], by simp [len_setT, sl_same, sl_ne, hlen, g8], rfl, hG, gv, f⟩

/-! ### MillKeeps -/
structure KS (h : Mem) (nx base p r bn bp bc g : Nat) (X Y : List Int) (S : Nat → List Int) (k : Nat) (G : List Bool) : Prop where
  j : ML h nx p r bn bp bc X Y S k
  hG : h.blk g = some (gb G)
  gv : Giv G (S 0) k
  gn : g < nx
  ne : g ≠ p ∧ g ≠ r ∧ g ≠ bn ∧ g ≠ bp ∧ g ≠ bc
  ge : base ≤ p ∧ base ≤ r ∧ base ≤ bn ∧ base ≤ bp ∧ base ≤ bc ∧ base ≤ g
theorem shadeS_0 (S : Nat → List Int) (x : Int) : shadeS S x 0 = S 0 := by unfold shadeS mv; simp
theorem take2_0 (S : Nat → List Int) : takeS S 2 1 0 = S 0 := by
  unfold takeS
  cases S 2 with
  | nil => rfl
  | cons i t => unfold mv; simp
theorem flip_0 (S : Nat → List Int) : flipS S 0 = S 0 ++ flipL S := by
  unfold flipS flipL
  by_cases c : S 2 = []
  · rw [if_pos c, if_pos c]; exact (flip_at S).1
  · rw [if_neg c, if_neg c]; simp
theorem nd03 {h : Mem} {nx p r bn bp bc : Nat} {X Y : List Int} {S : Nat → List Int} {n : Nat} (j : ML h nx p r bn bp bc X Y S n) : (S 0 ++ flipL S).Nodup ∧ ∀ x ∈ flipL S, 0 ≤ x ∧ x < n := by
  have nd := j.k.k.nd
  unfold flipL
  by_cases c : S 2 = []
  · rw [if_pos c]
    refine ⟨?_, fun x hx => j.pos (k := 3) (by omega) hx⟩
    have sub : (S 0 ++ S 3).Sublist (LS S) := by
      unfold LS
      exact List.Sublist.append (List.Sublist.refl _) ((List.sublist_append_right _ _).trans (List.sublist_append_right _ _))
    exact sub.nodup nd
  · rw [if_neg c, List.append_nil]
    exact ⟨j.nd (k := 0) (by omega), fun x hx => by cases hx⟩
def KpI (k : Nat) (v : AV) (h0 : Mem) (base : Nat) (m : Nat) (ts : List AV) (h : Mem) (nx tc wr : Nat) : Prop := ∃ (i p r bn bp bc g : Nat) (X Y : List Int) (S : Nat → List Int) (G : List Bool), m = 120 - i ∧ i ≤ 120 ∧ ts.length = 126 ∧ sl ts 1 = v ∧ sl ts 5 = .int .i64 k ∧ sl ts 6 = .ptr p 0 ∧ sl ts 7 = .ptr g 0 ∧ sl ts 8 = .int .i64 i ∧ base ≤ nx ∧ KS h nx base p r bn bp bc g X Y S k G ∧ Keeps base h0 h
def KpR (k : Nat) (h0 : Mem) (base : Nat) (e : Ex) (ts : List AV) (h : Mem) (nx tc wr : Nat) : Prop := e = .exit 0 ∧ ts.length = 126 ∧ base ≤ nx ∧ Keeps base h0 h
set_option maxRecDepth 4000 in
set_option maxHeartbeats 32000000 in
theorem kp_round (k : Nat) (hk : 1 ≤ k ∧ k ≤ 26) (v : AV) (l : List (List AV)) (h0 : Mem) (base : Nat) (hr : SRow 2 v h0 base l) (hl : ∀ x ∈ l, ∃ a b : Int, x = [.int .i64 a, .int .i64 b]) (m : Nat) (ts : List AV) (h : Mem) (nx tc wr : Nat) (hi : KpI k v h0 base m ts h nx tc wr) :
    Post (xC T 1000 L5_3b ts h nx 0) fun v' h' nx' tc' wr' => Round (KpI k v h0 base) (KpR k h0 base) m v' h' nx' (tc ||| tc') (wr ||| wr') := by
  obtain ⟨i, p, r, bn, bp, bc, g, X, Y, S, G, rfl, hi, hlen, g1, g5, g6, g7, g8, hbn, s, kp⟩ := hi
  have hk' : k ≤ 26 := hk.2
  by_cases c1 : i < l.length
  · have c1' : (i : Int) < (l.length : Int) := by omega
    by_cases c2 : i < 120
    · have c2' : (i : Int) < 120 := by omega
      obtain ⟨bb, c, K, rfl, hb, hK, hs, hs'⟩ := hr.at c1
      obtain ⟨kk, ii, hx⟩ := hl _ (List.getElem_mem c1)
      rw [hx] at hs hs'
      obtain ⟨hs1, _⟩ := sub_inv hs
      have k0 := get_of (hs' 0 _ rfl)
      have k1 := get_of (hs' 1 _ rfl)
      have t0 : i * 2 < K.cells.length := by omega
      have t1 : i * 2 + 1 < K.cells.length := by omega
      have hK' : h.blk bb = some K := (kp bb hb).trans hK
      have hbx : bb < nx := by omega
      simp only [Nat.add_zero] at k0
      have ci : IntKind.i64.wrap ((i : Int) + 1) = ((i + 1 : Nat) : Int) := by rw [IntKind.wrap_i64]; omega
      have wk : IntKind.i64.wrap ((k : Int) - 1) = (k : Int) - 1 := by rw [IntKind.wrap_i64]; omega
      obtain ⟨q, q0, q1, wq⟩ := within_ex kk 0 6 (by omega) (by omega) (by omega)
      obtain ⟨x, x0, x1, wx⟩ := within_ex ii 0 ((k : Int) - 1) (by omega) (by omega) (by omega)
      obtain ⟨⟨e1, e2, e3, e4, e5⟩, ⟨b1, b2, b3, b4, b5, b6⟩⟩ := And.intro s.ne s.ge
      have done : ∀ {ts' h3 nx3 tc3 wr3 X' Y' S' G'}, ts'.length = 126 → sl ts' 1 = .slc bb 0 l.length c → sl ts' 5 = .int .i64 k → sl ts' 6 = .ptr p 0 → sl ts' 7 = .ptr g 0 → sl ts' 8 = .int .i64 ((i + 1 : Nat) : Int) → base ≤ nx3 → KS h3 nx3 base p r bn bp bc g X' Y' S' k G' → Keeps base h0 h3 → Round (KpI k (.slc bb 0 l.length c) h0 base) (KpR k h0 base) (120 - i) (.nor, ts') h3 nx3 tc3 wr3 :=
        fun a b c d e f gg u w => Round.nor (m' := 120 - (i + 1)) (by omega) ⟨i + 1, p, r, bn, bp, bc, g, _, _, _, _, rfl, by omega, a, b, c, d, e, f, gg, u, w⟩
      by_cases c3 : q = 3 ∨ q = 4
      · have two : ∃ bo h1 tc1 wr1 X1 Y1 S1, (∀ n, xF T (n + 280) 12 [.ptr p 0, .int .i64 x] h nx 0 = some ⟨.bool bo, h1, nx, tc1, wr1⟩) ∧ ML h1 nx p r bn bp bc X1 Y1 S1 k ∧ S1 0 = S 0 ∧ ∀ x, x ≠ p → x ≠ r → x ≠ bn → x ≠ bp → x ≠ bc → h1.blk x = h.blk x ∧ wr1 &&& 2 ^ x = 0 := by
          by_cases cc : colS S x = 3
          · obtain ⟨h1, tc1, wr1, X1, Y1, y1, j1, f1⟩ := (shade_yes s.j (by omega) x cc).at 0 (by omega)
            exact ⟨true, h1, tc1, wr1, X1, Y1, _, y1, j1, shadeS_0 S x, f1⟩
          · obtain ⟨h1, tc1, wr1, X1, Y1, y1, j1, f1⟩ := (shade_no s.j x cc).at 0 (by omega)
            exact ⟨false, h1, tc1, wr1, X1, Y1, _, y1, j1, rfl, f1⟩
        obtain ⟨bo, h1, tc1, wr1, X1, Y1, S1, y1, j1, hS1, f1⟩ := two
        have s1 : KS h1 nx base p r bn bp bc g X1 Y1 S1 k G := ⟨j1, (f1 g e1 e2 e3 e4 e5).1.trans s.hG, by rw [hS1]; exact s.gv, s.gn, s.ne, s.ge⟩
        have kp1 : Keeps base h0 h1 := fun b hb => by rw [(f1 b (by omega) (by omega) (by omega) (by omega) (by omega)).1, kp b hb]
        rcases c3 with rfl | rfl
        all_goals
          simp (maxSteps := 4000000) [↓P_skip, ↓P_exit, ↓P_ret, ↓P_seq, ↓P_cond, ↓P_blk, ↓P_reg, ↓P_draw, ↓P_nil, ↓P_cons, condP_t, condP_f, dum_ab, stepR, want_none, want_some, opRun, ev_t, ev_c, put_none, put_some, resAll, res_tmp, res_cell, oneOf, minI, maxI, min2A, max2A, mn2, mx2, mx3, rdBlk, wrBlk, newBlk, partA, abin, ibin, isShift, AV.cells, AV.one, lay, sub, fillA, lenA, toN, allApart, apartFrom, Nat.testBit, Mem.blk_set_same, Mem.blk_set_ne, Mem.set_set, bit_zero, bit_self, lowBits_or, lowBits_zero, len_setT, sl_same, sl_ne, len_frame, sl_frame,↓op_len, lenOp_slc, lenOp_nils, ↓Post.some, ↓Post_bind, ↓Post_ret, ↓Post_draw, ↓PostL_nil, ↓PostL_cons, Post_fail, ofOpt_some, ofOpt_none, eA_b, eA_i, eA_s, eA_nn, eA_np, eA_pn, eA_lnn, eA_lnp, eA_lpn, eA_i2, eA_i3, blt_dec, Nat.add_assoc, keeps_refl, keeps_at, keeps_up, new_one, and_pow, bit_hi, lowBits_pow, ble_dec, fr_refl, fr_at, fr_up, fr_p, dum_ab, L5_3b, hlen, g1, g5, g6, g7, g8, c1, c1', c2', hbx, hK', k0, k1, t0, t1, wq, wk, wx, y1]
          refine Post.loop (su_round s1.j hk' g (.slc bb 0 l.length c) i) 4 ⟨0, rfl, by omega, by simp [len_setT, sl_same, sl_ne, hlen], by simp [len_setT, sl_same, sl_ne, hlen, g1], by simp [len_setT, sl_same, sl_ne, hlen, g5], by simp [len_setT, sl_same, sl_ne, hlen, g6], by simp [len_setT, sl_same, sl_ne, hlen, g7], by simp [len_setT, sl_same, sl_ne, hlen, g8], by simp [len_setT, sl_same, sl_ne, hlen], by simp [len_setT, sl_same, sl_ne, hlen], rfl, rfl⟩ (by omega) ?_
          rintro e tsA hA nxA tcA wrA ⟨rfl, la, a1, a5, a6, a7, a8, a12, rfl, rfl⟩
          simp (maxSteps := 4000000) [↓P_skip, ↓P_exit, ↓P_ret, ↓P_seq, ↓P_cond, ↓P_blk, ↓P_reg, ↓P_draw, ↓P_nil, ↓P_cons, condP_t, condP_f, dum_ab, stepR, want_none, want_some, opRun, ev_t, ev_c, put_none, put_some, resAll, res_tmp, res_cell, oneOf, minI, maxI, min2A, max2A, mn2, mx2, mx3, rdBlk, wrBlk, newBlk, partA, abin, ibin, isShift, AV.cells, AV.one, lay, sub, fillA, lenA, toN, allApart, apartFrom, Nat.testBit, Mem.blk_set_same, Mem.blk_set_ne, Mem.set_set, bit_zero, bit_self, lowBits_or, lowBits_zero, len_setT, sl_same, sl_ne, len_frame, sl_frame,↓op_len, lenOp_slc, lenOp_nils, ↓Post.some, ↓Post_bind, ↓Post_ret, ↓Post_draw, ↓PostL_nil, ↓PostL_cons, Post_fail, ofOpt_some, ofOpt_none, eA_b, eA_i, eA_s, eA_nn, eA_np, eA_pn, eA_lnn, eA_lnp, eA_lpn, eA_i2, eA_i3, blt_dec, Nat.add_assoc, keeps_refl, keeps_at, keeps_up, new_one, and_pow, bit_hi, lowBits_pow, ble_dec, fr_refl, fr_at, fr_up, fr_p, dum_ab, la, a1, a5, a6, a7, a8, a12]
          refine Post.loop (ea_round s1.j hk' g s1.gn _ s1.hG s1.gv (.slc bb 0 l.length c) i) k ⟨0, rfl, by omega, by simp [len_setT, sl_same, sl_ne, la], by simp [len_setT, sl_same, sl_ne, la, a1], by simp [len_setT, sl_same, sl_ne, la, a5], by simp [len_setT, sl_same, sl_ne, la, a6], by simp [len_setT, sl_same, sl_ne, la, a7], by simp [len_setT, sl_same, sl_ne, la, a8], by simp [len_setT, sl_same, sl_ne, la, a12], by simp [len_setT, sl_same, sl_ne, la], rfl, rfl⟩ (by omega) ?_
          rintro e tsB hB nxB tcB wrB ⟨rfl, lb, b1', b5', b6', b7', b8', b12', rfl, rfl⟩
          simp (maxSteps := 4000000) [↓P_skip, ↓P_exit, ↓P_ret, ↓P_seq, ↓P_cond, ↓P_blk, ↓P_reg, ↓P_draw, ↓P_nil, ↓P_cons, condP_t, condP_f, dum_ab, stepR, want_none, want_some, opRun, ev_t, ev_c, put_none, put_some, resAll, res_tmp, res_cell, oneOf, minI, maxI, min2A, max2A, mn2, mx2, mx3, rdBlk, wrBlk, newBlk, partA, abin, ibin, isShift, AV.cells, AV.one, lay, sub, fillA, lenA, toN, allApart, apartFrom, Nat.testBit, Mem.blk_set_same, Mem.blk_set_ne, Mem.set_set, bit_zero, bit_self, lowBits_or, lowBits_zero, len_setT, sl_same, sl_ne, len_frame, sl_frame,↓op_len, lenOp_slc, lenOp_nils, ↓Post.some, ↓Post_bind, ↓Post_ret, ↓Post_draw, ↓PostL_nil, ↓PostL_cons, Post_fail, ofOpt_some, ofOpt_none, eA_b, eA_i, eA_s, eA_nn, eA_np, eA_pn, eA_lnn, eA_lnp, eA_lpn, eA_i2, eA_i3, blt_dec, Nat.add_assoc, keeps_refl, keeps_at, keeps_up, new_one, and_pow, bit_hi, lowBits_pow, ble_dec, fr_refl, fr_at, fr_up, fr_p, dum_ab, lb, b1', b5', b6', b7', b8', b12', ci]
          exact done (by simp [len_setT, sl_same, sl_ne, lb]) (by simp [len_setT, sl_same, sl_ne, lb, b1']) (by simp [len_setT, sl_same, sl_ne, lb, b5']) (by simp [len_setT, sl_same, sl_ne, lb, b6']) (by simp [len_setT, sl_same, sl_ne, lb, b7']) (by simp [len_setT, sl_same, sl_ne, lb]) hbn s1 kp1
      · obtain ⟨c3a, c3b⟩ := not_or.1 c3
        have d3 : (q == 3) = false := by simpa using c3a
        have d4 : (q == 4) = false := by simpa using c3b
        by_cases c5 : q = 5
        · subst c5
          obtain ⟨h1, tc1, wr1, X1, Y1, y1, j1, f1⟩ := (scan_ch s.j (by omega)).at 0 (by omega)
          have s1 : KS h1 nx base p r bn bp bc g X1 Y1 _ k G := ⟨j1, (f1 g e1 e2 e3 e4 e5).1.trans s.hG, by rw [take2_0]; exact s.gv, s.gn, s.ne, s.ge⟩
          have kp1 : Keeps base h0 h1 := fun b hb => by rw [(f1 b (by omega) (by omega) (by omega) (by omega) (by omega)).1, kp b hb]
          simp (maxSteps := 4000000) [↓P_skip, ↓P_exit, ↓P_ret, ↓P_seq, ↓P_cond, ↓P_blk, ↓P_reg, ↓P_draw, ↓P_nil, ↓P_cons, condP_t, condP_f, dum_ab, stepR, want_none, want_some, opRun, ev_t, ev_c, put_none, put_some, resAll, res_tmp, res_cell, oneOf, minI, maxI, min2A, max2A, mn2, mx2, mx3, rdBlk, wrBlk, newBlk, partA, abin, ibin, isShift, AV.cells, AV.one, lay, sub, fillA, lenA, toN, allApart, apartFrom, Nat.testBit, Mem.blk_set_same, Mem.blk_set_ne, Mem.set_set, bit_zero, bit_self, lowBits_or, lowBits_zero, len_setT, sl_same, sl_ne, len_frame, sl_frame,↓op_len, lenOp_slc, lenOp_nils, ↓Post.some, ↓Post_bind, ↓Post_ret, ↓Post_draw, ↓PostL_nil, ↓PostL_cons, Post_fail, ofOpt_some, ofOpt_none, eA_b, eA_i, eA_s, eA_nn, eA_np, eA_pn, eA_lnn, eA_lnp, eA_lpn, eA_i2, eA_i3, blt_dec, Nat.add_assoc, keeps_refl, keeps_at, keeps_up, new_one, and_pow, bit_hi, lowBits_pow, ble_dec, fr_refl, fr_at, fr_up, fr_p, dum_ab, L5_3b, hlen, g1, g5, g6, g7, g8, c1, c1', c2', hbx, hK', k0, k1, t0, t1, wq, y1]
          refine Post.loop (su_round s1.j hk' g (.slc bb 0 l.length c) i) 4 ⟨0, rfl, by omega, by simp [len_setT, sl_same, sl_ne, hlen], by simp [len_setT, sl_same, sl_ne, hlen, g1], by simp [len_setT, sl_same, sl_ne, hlen, g5], by simp [len_setT, sl_same, sl_ne, hlen, g6], by simp [len_setT, sl_same, sl_ne, hlen, g7], by simp [len_setT, sl_same, sl_ne, hlen, g8], by simp [len_setT, sl_same, sl_ne, hlen], by simp [len_setT, sl_same, sl_ne, hlen], rfl, rfl⟩ (by omega) ?_
          rintro e tsA hA nxA tcA wrA ⟨rfl, la, a1, a5, a6, a7, a8, a12, rfl, rfl⟩
          simp (maxSteps := 4000000) [↓P_skip, ↓P_exit, ↓P_ret, ↓P_seq, ↓P_cond, ↓P_blk, ↓P_reg, ↓P_draw, ↓P_nil, ↓P_cons, condP_t, condP_f, dum_ab, stepR, want_none, want_some, opRun, ev_t, ev_c, put_none, put_some, resAll, res_tmp, res_cell, oneOf, minI, maxI, min2A, max2A, mn2, mx2, mx3, rdBlk, wrBlk, newBlk, partA, abin, ibin, isShift, AV.cells, AV.one, lay, sub, fillA, lenA, toN, allApart, apartFrom, Nat.testBit, Mem.blk_set_same, Mem.blk_set_ne, Mem.set_set, bit_zero, bit_self, lowBits_or, lowBits_zero, len_setT, sl_same, sl_ne, len_frame, sl_frame,↓op_len, lenOp_slc, lenOp_nils, ↓Post.some, ↓Post_bind, ↓Post_ret, ↓Post_draw, ↓PostL_nil, ↓PostL_cons, Post_fail, ofOpt_some, ofOpt_none, eA_b, eA_i, eA_s, eA_nn, eA_np, eA_pn, eA_lnn, eA_lnp, eA_lpn, eA_i2, eA_i3, blt_dec, Nat.add_assoc, keeps_refl, keeps_at, keeps_up, new_one, and_pow, bit_hi, lowBits_pow, ble_dec, fr_refl, fr_at, fr_up, fr_p, dum_ab, la, a1, a5, a6, a7, a8, a12]
          refine Post.loop (ea_round s1.j hk' g s1.gn _ s1.hG s1.gv (.slc bb 0 l.length c) i) k ⟨0, rfl, by omega, by simp [len_setT, sl_same, sl_ne, la], by simp [len_setT, sl_same, sl_ne, la, a1], by simp [len_setT, sl_same, sl_ne, la, a5], by simp [len_setT, sl_same, sl_ne, la, a6], by simp [len_setT, sl_same, sl_ne, la, a7], by simp [len_setT, sl_same, sl_ne, la, a8], by simp [len_setT, sl_same, sl_ne, la, a12], by simp [len_setT, sl_same, sl_ne, la], rfl, rfl⟩ (by omega) ?_
          rintro e tsB hB nxB tcB wrB ⟨rfl, lb, b1', b5', b6', b7', b8', b12', rfl, rfl⟩
          simp (maxSteps := 4000000) [↓P_skip, ↓P_exit, ↓P_ret, ↓P_seq, ↓P_cond, ↓P_blk, ↓P_reg, ↓P_draw, ↓P_nil, ↓P_cons, condP_t, condP_f, dum_ab, stepR, want_none, want_some, opRun, ev_t, ev_c, put_none, put_some, resAll, res_tmp, res_cell, oneOf, minI, maxI, min2A, max2A, mn2, mx2, mx3, rdBlk, wrBlk, newBlk, partA, abin, ibin, isShift, AV.cells, AV.one, lay, sub, fillA, lenA, toN, allApart, apartFrom, Nat.testBit, Mem.blk_set_same, Mem.blk_set_ne, Mem.set_set, bit_zero, bit_self, lowBits_or, lowBits_zero, len_setT, sl_same, sl_ne, len_frame, sl_frame,↓op_len, lenOp_slc, lenOp_nils, ↓Post.some, ↓Post_bind, ↓Post_ret, ↓Post_draw, ↓PostL_nil, ↓PostL_cons, Post_fail, ofOpt_some, ofOpt_none, eA_b, eA_i, eA_s, eA_nn, eA_np, eA_pn, eA_lnn, eA_lnp, eA_lpn, eA_i2, eA_i3, blt_dec, Nat.add_assoc, keeps_refl, keeps_at, keeps_up, new_one, and_pow, bit_hi, lowBits_pow, ble_dec, fr_refl, fr_at, fr_up, fr_p, dum_ab, lb, b1', b5', b6', b7', b8', b12', ci]
          exact done (by simp [len_setT, sl_same, sl_ne, lb]) (by simp [len_setT, sl_same, sl_ne, lb, b1']) (by simp [len_setT, sl_same, sl_ne, lb, b5']) (by simp [len_setT, sl_same, sl_ne, lb, b6']) (by simp [len_setT, sl_same, sl_ne, lb, b7']) (by simp [len_setT, sl_same, sl_ne, lb]) hbn s1 kp1
        · have d5 : (q == 5) = false := by simpa using c5
          by_cases c6 : q = 6
          · subst c6
            obtain ⟨v1, h1, nx1, tc1, wr1, X1, Y1, y1, n1, r1, j1, f1⟩ := flip_at0 s.j (by omega)
            obtain ⟨nd, hm⟩ := nd03 s.j
            have l1 : lenOp v1 = A.ret (.int .i64 (flipL S).length) := r1.len
            have gn := s.gn
            have hG1 : h1.blk g = some (gb G) := (f1 g gn e1 e2 e3 e4 e5).trans s.hG
            have lD : (flipL S).length ≤ 60 := by
              have := s.j.small (c := 3) (by omega)
              unfold flipL
              split
              · omega
              · simp
            simp (maxSteps := 4000000) [↓step_none, ↓P_skip, ↓P_exit, ↓P_ret, ↓P_seq, ↓P_cond, ↓P_blk, ↓P_reg, ↓P_draw, ↓P_nil, ↓P_cons, condP_t, condP_f, dum_ab, stepR, want_none, want_some, opRun, ev_t, ev_c, put_none, put_some, resAll, res_tmp, res_cell, oneOf, minI, maxI, min2A, max2A, mn2, mx2, mx3, rdBlk, wrBlk, newBlk, partA, abin, ibin, isShift, AV.cells, AV.one, lay, sub, fillA, lenA, toN, allApart, apartFrom, Nat.testBit, Mem.blk_set_same, Mem.blk_set_ne, Mem.set_set, bit_zero, bit_self, lowBits_or, lowBits_zero, len_setT, sl_same, sl_ne, len_frame, sl_frame,↓op_len, lenOp_slc, lenOp_nils, ↓Post.some, ↓Post_bind, ↓Post_ret, ↓Post_draw, ↓PostL_nil, ↓PostL_cons, Post_fail, ofOpt_some, ofOpt_none, eA_b, eA_i, eA_s, eA_nn, eA_np, eA_pn, eA_lnn, eA_lnp, eA_lpn, eA_i2, eA_i3, blt_dec, Nat.add_assoc, keeps_refl, keeps_at, keeps_up, new_one, and_pow, bit_hi, lowBits_pow, ble_dec, fr_refl, fr_at, fr_up, fr_p, dum_ab, L5_3b, hlen, g1, g5, g6, g7, g8, c1, c1', c2', hbx, hK', k0, k1, t0, t1, wq, y1, l1]
            refine Post.loop (fg_round k hk' (flipL S) (S 0) lD nd hm v1 (.slc bb 0 l.length c) p g i nx h1 nx1 r1 gn n1) (flipL S).length ⟨0, G, rfl, by omega, by simp [len_setT, sl_same, sl_ne, hlen], by simp [len_setT, sl_same, sl_ne, hlen, g1], by simp [len_setT, sl_same, sl_ne, hlen, g5], by simp [len_setT, sl_same, sl_ne, hlen, g6], by simp [len_setT, sl_same, sl_ne, hlen, g7], by simp [len_setT, sl_same, sl_ne, hlen, g8], by simp [len_setT, sl_same, sl_ne, hlen], by simp [len_setT, sl_same, sl_ne, hlen], by simp [len_setT, sl_same, sl_ne, hlen], rfl, hG1, by rw [List.take_zero, List.append_nil]; exact s.gv, fun x hx => rfl⟩ (by omega) ?_
            rintro e tsF hF nxF tcF wrF ⟨rfl, GF, hlF, f1', f5, f6, f7, f8, rfl, hGF, gvF, fF⟩
            have jF : ML hF nxF p r bn bp bc X1 Y1 (flipS S) k := j1.at5 (Nat.le_refl _) (fF p (Ne.symm e1)) (fF r (Ne.symm e2)) (fF bn (Ne.symm e3)) (fF bp (Ne.symm e4)) (fF bc (Ne.symm e5))
            have s1 : KS hF nxF base p r bn bp bc g X1 Y1 (flipS S) k GF := ⟨jF, hGF, by rw [flip_0]; exact gvF, by omega, s.ne, s.ge⟩
            have kp1 : Keeps base h0 hF := fun b hb => by rw [fF b (by omega), f1 b (by omega) (by omega) (by omega) (by omega) (by omega) (by omega), kp b hb]
            have hbn' : base ≤ nxF := by omega
            simp (maxSteps := 4000000) [↓P_skip, ↓P_exit, ↓P_ret, ↓P_seq, ↓P_cond, ↓P_blk, ↓P_reg, ↓P_draw, ↓P_nil, ↓P_cons, condP_t, condP_f, dum_ab, stepR, want_none, want_some, opRun, ev_t, ev_c, put_none, put_some, resAll, res_tmp, res_cell, oneOf, minI, maxI, min2A, max2A, mn2, mx2, mx3, rdBlk, wrBlk, newBlk, partA, abin, ibin, isShift, AV.cells, AV.one, lay, sub, fillA, lenA, toN, allApart, apartFrom, Nat.testBit, Mem.blk_set_same, Mem.blk_set_ne, Mem.set_set, bit_zero, bit_self, lowBits_or, lowBits_zero, len_setT, sl_same, sl_ne, len_frame, sl_frame,↓op_len, lenOp_slc, lenOp_nils, ↓Post.some, ↓Post_bind, ↓Post_ret, ↓Post_draw, ↓PostL_nil, ↓PostL_cons, Post_fail, ofOpt_some, ofOpt_none, eA_b, eA_i, eA_s, eA_nn, eA_np, eA_pn, eA_lnn, eA_lnp, eA_lpn, eA_i2, eA_i3, blt_dec, Nat.add_assoc, keeps_refl, keeps_at, keeps_up, new_one, and_pow, bit_hi, lowBits_pow, ble_dec, fr_refl, fr_at, fr_up, fr_p, dum_ab, hlF, f1', f5, f6, f7, f8]
            refine Post.loop (su_round s1.j hk' g (.slc bb 0 l.length c) i) 4 ⟨0, rfl, by omega, by simp [len_setT, sl_same, sl_ne, hlF], by simp [len_setT, sl_same, sl_ne, hlF, f1'], by simp [len_setT, sl_same, sl_ne, hlF, f5], by simp [len_setT, sl_same, sl_ne, hlF, f6], by simp [len_setT, sl_same, sl_ne, hlF, f7], by simp [len_setT, sl_same, sl_ne, hlF, f8], by simp [len_setT, sl_same, sl_ne, hlF], by simp [len_setT, sl_same, sl_ne, hlF], rfl, rfl⟩ (by omega) ?_
            rintro e tsA hA nxA tcA wrA ⟨rfl, la, a1, a5, a6, a7, a8, a12, rfl, rfl⟩
            simp (maxSteps := 4000000) [↓P_skip, ↓P_exit, ↓P_ret, ↓P_seq, ↓P_cond, ↓P_blk, ↓P_reg, ↓P_draw, ↓P_nil, ↓P_cons, condP_t, condP_f, dum_ab, stepR, want_none, want_some, opRun, ev_t, ev_c, put_none, put_some, resAll, res_tmp, res_cell, oneOf, minI, maxI, min2A, max2A, mn2, mx2, mx3, rdBlk, wrBlk, newBlk, partA, abin, ibin, isShift, AV.cells, AV.one, lay, sub, fillA, lenA, toN, allApart, apartFrom, Nat.testBit, Mem.blk_set_same, Mem.blk_set_ne, Mem.set_set, bit_zero, bit_self, lowBits_or, lowBits_zero, len_setT, sl_same, sl_ne, len_frame, sl_frame,↓op_len, lenOp_slc, lenOp_nils, ↓Post.some, ↓Post_bind, ↓Post_ret, ↓Post_draw, ↓PostL_nil, ↓PostL_cons, Post_fail, ofOpt_some, ofOpt_none, eA_b, eA_i, eA_s, eA_nn, eA_np, eA_pn, eA_lnn, eA_lnp, eA_lpn, eA_i2, eA_i3, blt_dec, Nat.add_assoc, keeps_refl, keeps_at, keeps_up, new_one, and_pow, bit_hi, lowBits_pow, ble_dec, fr_refl, fr_at, fr_up, fr_p, dum_ab, la, a1, a5, a6, a7, a8, a12]
            refine Post.loop (ea_round s1.j hk' g s1.gn _ s1.hG s1.gv (.slc bb 0 l.length c) i) k ⟨0, rfl, by omega, by simp [len_setT, sl_same, sl_ne, la], by simp [len_setT, sl_same, sl_ne, la, a1], by simp [len_setT, sl_same, sl_ne, la, a5], by simp [len_setT, sl_same, sl_ne, la, a6], by simp [len_setT, sl_same, sl_ne, la, a7], by simp [len_setT, sl_same, sl_ne, la, a8], by simp [len_setT, sl_same, sl_ne, la, a12], by simp [len_setT, sl_same, sl_ne, la], rfl, rfl⟩ (by omega) ?_
            rintro e tsB hB nxB tcB wrB ⟨rfl, lb, b1', b5', b6', b7', b8', b12', rfl, rfl⟩
            simp (maxSteps := 4000000) [↓P_skip, ↓P_exit, ↓P_ret, ↓P_seq, ↓P_cond, ↓P_blk, ↓P_reg, ↓P_draw, ↓P_nil, ↓P_cons, condP_t, condP_f, dum_ab, stepR, want_none, want_some, opRun, ev_t, ev_c, put_none, put_some, resAll, res_tmp, res_cell, oneOf, minI, maxI, min2A, max2A, mn2, mx2, mx3, rdBlk, wrBlk, newBlk, partA, abin, ibin, isShift, AV.cells, AV.one, lay, sub, fillA, lenA, toN, allApart, apartFrom, Nat.testBit, Mem.blk_set_same, Mem.blk_set_ne, Mem.set_set, bit_zero, bit_self, lowBits_or, lowBits_zero, len_setT, sl_same, sl_ne, len_frame, sl_frame,↓op_len, lenOp_slc, lenOp_nils, ↓Post.some, ↓Post_bind, ↓Post_ret, ↓Post_draw, ↓PostL_nil, ↓PostL_cons, Post_fail, ofOpt_some, ofOpt_none, eA_b, eA_i, eA_s, eA_nn, eA_np, eA_pn, eA_lnn, eA_lnp, eA_lpn, eA_i2, eA_i3, blt_dec, Nat.add_assoc, keeps_refl, keeps_at, keeps_up, new_one, and_pow, bit_hi, lowBits_pow, ble_dec, fr_refl, fr_at, fr_up, fr_p, dum_ab, lb, b1', b5', b6', b7', b8', b12', ci]
            exact done (by simp [len_setT, sl_same, sl_ne, lb]) (by simp [len_setT, sl_same, sl_ne, lb, b1']) (by simp [len_setT, sl_same, sl_ne, lb, b5']) (by simp [len_setT, sl_same, sl_ne, lb, b6']) (by simp [len_setT, sl_same, sl_ne, lb, b7']) (by simp [len_setT, sl_same, sl_ne, lb]) hbn' s1 kp1
          · have d6 : (q == 6) = false := by simpa using c6
            obtain ⟨h1, tc1, wr1, X1, Y1, y1, j1, f1⟩ := (alloc_ch s.j (by omega)).at 0 (by omega)
            have hG1 : h1.blk g = some (gb G) := (f1 g e1 e2 e3 e4 e5).1.trans s.hG
            cases hS : S 0 with
            | nil =>
              have u1 : takeI S 0 = -1 := by unfold takeI; rw [hS]; rfl
              have u2 : takeS S 0 1 = S := by unfold takeS; rw [hS]
              rw [u1] at y1
              rw [u2] at j1
              have s1 : KS h1 nx base p r bn bp bc g X1 Y1 S k G := ⟨j1, hG1, s.gv, s.gn, s.ne, s.ge⟩
              have kp1 : Keeps base h0 h1 := fun b hb => by rw [(f1 b (by omega) (by omega) (by omega) (by omega) (by omega)).1, kp b hb]
              simp (maxSteps := 4000000) [↓P_skip, ↓P_exit, ↓P_ret, ↓P_seq, ↓P_cond, ↓P_blk, ↓P_reg, ↓P_draw, ↓P_nil, ↓P_cons, condP_t, condP_f, dum_ab, stepR, want_none, want_some, opRun, ev_t, ev_c, put_none, put_some, resAll, res_tmp, res_cell, oneOf, minI, maxI, min2A, max2A, mn2, mx2, mx3, rdBlk, wrBlk, newBlk, partA, abin, ibin, isShift, AV.cells, AV.one, lay, sub, fillA, lenA, toN, allApart, apartFrom, Nat.testBit, Mem.blk_set_same, Mem.blk_set_ne, Mem.set_set, bit_zero, bit_self, lowBits_or, lowBits_zero, len_setT, sl_same, sl_ne, len_frame, sl_frame,↓op_len, lenOp_slc, lenOp_nils, ↓Post.some, ↓Post_bind, ↓Post_ret, ↓Post_draw, ↓PostL_nil, ↓PostL_cons, Post_fail, ofOpt_some, ofOpt_none, eA_b, eA_i, eA_s, eA_nn, eA_np, eA_pn, eA_lnn, eA_lnp, eA_lpn, eA_i2, eA_i3, blt_dec, Nat.add_assoc, keeps_refl, keeps_at, keeps_up, new_one, and_pow, bit_hi, lowBits_pow, ble_dec, fr_refl, fr_at, fr_up, fr_p, dum_ab, L5_3b, hlen, g1, g5, g6, g7, g8, c1, c1', c2', hbx, hK', k0, k1, t0, t1, wq, d3, d4, d5, d6, y1]
              refine Post.loop (su_round s1.j hk' g (.slc bb 0 l.length c) i) 4 ⟨0, rfl, by omega, by simp [len_setT, sl_same, sl_ne, hlen], by simp [len_setT, sl_same, sl_ne, hlen, g1], by simp [len_setT, sl_same, sl_ne, hlen, g5], by simp [len_setT, sl_same, sl_ne, hlen, g6], by simp [len_setT, sl_same, sl_ne, hlen, g7], by simp [len_setT, sl_same, sl_ne, hlen, g8], by simp [len_setT, sl_same, sl_ne, hlen], by simp [len_setT, sl_same, sl_ne, hlen], rfl, rfl⟩ (by omega) ?_
              rintro e tsA hA nxA tcA wrA ⟨rfl, la, a1, a5, a6, a7, a8, a12, rfl, rfl⟩
              simp (maxSteps := 4000000) [↓P_skip, ↓P_exit, ↓P_ret, ↓P_seq, ↓P_cond, ↓P_blk, ↓P_reg, ↓P_draw, ↓P_nil, ↓P_cons, condP_t, condP_f, dum_ab, stepR, want_none, want_some, opRun, ev_t, ev_c, put_none, put_some, resAll, res_tmp, res_cell, oneOf, minI, maxI, min2A, max2A, mn2, mx2, mx3, rdBlk, wrBlk, newBlk, partA, abin, ibin, isShift, AV.cells, AV.one, lay, sub, fillA, lenA, toN, allApart, apartFrom, Nat.testBit, Mem.blk_set_same, Mem.blk_set_ne, Mem.set_set, bit_zero, bit_self, lowBits_or, lowBits_zero, len_setT, sl_same, sl_ne, len_frame, sl_frame,↓op_len, lenOp_slc, lenOp_nils, ↓Post.some, ↓Post_bind, ↓Post_ret, ↓Post_draw, ↓PostL_nil, ↓PostL_cons, Post_fail, ofOpt_some, ofOpt_none, eA_b, eA_i, eA_s, eA_nn, eA_np, eA_pn, eA_lnn, eA_lnp, eA_lpn, eA_i2, eA_i3, blt_dec, Nat.add_assoc, keeps_refl, keeps_at, keeps_up, new_one, and_pow, bit_hi, lowBits_pow, ble_dec, fr_refl, fr_at, fr_up, fr_p, dum_ab, la, a1, a5, a6, a7, a8, a12]
              refine Post.loop (ea_round s1.j hk' g s1.gn _ s1.hG s1.gv (.slc bb 0 l.length c) i) k ⟨0, rfl, by omega, by simp [len_setT, sl_same, sl_ne, la], by simp [len_setT, sl_same, sl_ne, la, a1], by simp [len_setT, sl_same, sl_ne, la, a5], by simp [len_setT, sl_same, sl_ne, la, a6], by simp [len_setT, sl_same, sl_ne, la, a7], by simp [len_setT, sl_same, sl_ne, la, a8], by simp [len_setT, sl_same, sl_ne, la, a12], by simp [len_setT, sl_same, sl_ne, la], rfl, rfl⟩ (by omega) ?_
              rintro e tsB hB nxB tcB wrB ⟨rfl, lb, b1', b5', b6', b7', b8', b12', rfl, rfl⟩
              simp (maxSteps := 4000000) [↓P_skip, ↓P_exit, ↓P_ret, ↓P_seq, ↓P_cond, ↓P_blk, ↓P_reg, ↓P_draw, ↓P_nil, ↓P_cons, condP_t, condP_f, dum_ab, stepR, want_none, want_some, opRun, ev_t, ev_c, put_none, put_some, resAll, res_tmp, res_cell, oneOf, minI, maxI, min2A, max2A, mn2, mx2, mx3, rdBlk, wrBlk, newBlk, partA, abin, ibin, isShift, AV.cells, AV.one, lay, sub, fillA, lenA, toN, allApart, apartFrom, Nat.testBit, Mem.blk_set_same, Mem.blk_set_ne, Mem.set_set, bit_zero, bit_self, lowBits_or, lowBits_zero, len_setT, sl_same, sl_ne, len_frame, sl_frame,↓op_len, lenOp_slc, lenOp_nils, ↓Post.some, ↓Post_bind, ↓Post_ret, ↓Post_draw, ↓PostL_nil, ↓PostL_cons, Post_fail, ofOpt_some, ofOpt_none, eA_b, eA_i, eA_s, eA_nn, eA_np, eA_pn, eA_lnn, eA_lnp, eA_lpn, eA_i2, eA_i3, blt_dec, Nat.add_assoc, keeps_refl, keeps_at, keeps_up, new_one, and_pow, bit_hi, lowBits_pow, ble_dec, fr_refl, fr_at, fr_up, fr_p, dum_ab, lb, b1', b5', b6', b7', b8', b12', ci]
              exact done (by simp [len_setT, sl_same, sl_ne, lb]) (by simp [len_setT, sl_same, sl_ne, lb, b1']) (by simp [len_setT, sl_same, sl_ne, lb, b5']) (by simp [len_setT, sl_same, sl_ne, lb, b6']) (by simp [len_setT, sl_same, sl_ne, lb, b7']) (by simp [len_setT, sl_same, sl_ne, lb]) hbn s1 kp1
            | cons i0 t =>
              have u1 : takeI S 0 = i0 := by unfold takeI; rw [hS]; rfl
              have u2 : takeS S 0 1 = mv S 0 1 t i0 := by unfold takeS; rw [hS]
              have u3 : takeS S 0 1 0 = t := by rw [u2]; unfold mv; simp
              have nd0 := s.j.nd (k := 0) (by omega)
              rw [hS] at nd0
              have nin := (List.nodup_cons.1 nd0).1
              have u4 : colS (takeS S 0 1) i0 = 1 := by
                unfold colS
                rw [if_neg (by rw [u3]; exact nin), if_pos (by rw [u2]; unfold mv; simp)]
              obtain ⟨p0, p1⟩ := s.j.pos (k := 0) (by omega) (x := i0) (by rw [hS]; simp)
              obtain ⟨w, rfl⟩ : ∃ w : Nat, i0 = w := ⟨i0.toNat, by omega⟩
              have hwk : w < k := by omega
              obtain ⟨_, y2⟩ := (color_rd j1 (w : Int)).at 0 (by omega)
              rw [u4] at y2
              rw [u1] at y1
              obtain ⟨z1, z2⟩ := gb_at s.gv hwk hk'
              rw [decide_eq_false (fun h => h (by rw [hS]; simp))] at z2
              have gl := s.gv.1
              have gn := s.gn
              have hl' : lay (G.map AV.bool) w [.bool true] = (G.set w true).map AV.bool := map_set G w true (by omega)
              have ml : (G.map AV.bool).length = 32 := by rw [List.length_map]; exact gl
              have ll : (lay (G.map AV.bool) w [.bool true]).length = 32 := by rw [hl', List.length_map, List.length_set]; exact gl
              have wl : w + 1 ≤ 32 := by omega
              have c32 : (w : Int) < 32 := by omega
              have c32' : w < 32 := by omega
              have m1' : (0 : Int) ≤ (w : Int) := by omega
              have m2' : ¬ (k : Int) ≤ (w : Int) := by omega
              have gv' : Giv (G.set w true) t k := s.gv.set hk' hwk (by simp [nin]) (fun x hx => by rw [hS]; simp [hx])
              have s1 : KS (h1.set g (some (gb (G.set w true)))) nx base p r bn bp bc g X1 Y1 (takeS S 0 1) k (G.set w true) := ⟨j1.at5 (Nat.le_refl _) (Mem.blk_set_ne _ _ _ _ (Ne.symm e1)) (Mem.blk_set_ne _ _ _ _ (Ne.symm e2)) (Mem.blk_set_ne _ _ _ _ (Ne.symm e3)) (Mem.blk_set_ne _ _ _ _ (Ne.symm e4)) (Mem.blk_set_ne _ _ _ _ (Ne.symm e5)), Mem.blk_set_same .., by rw [u3]; exact gv', gn, s.ne, s.ge⟩
              have kp1 : Keeps base h0 (h1.set g (some (gb (G.set w true)))) := fun b hb => by rw [Mem.blk_set_ne _ _ _ _ (by omega), (f1 b (by omega) (by omega) (by omega) (by omega) (by omega)).1, kp b hb]
              have hset : h1.set g (some ⟨30, 32, true, false, lay (G.map AV.bool) w [.bool true]⟩) = h1.set g (some (gb (G.set w true))) := by rw [hl']; rfl
              unfold gb at hG1
              generalize hGC : G.map AV.bool = GC at *
              simp (maxSteps := 4000000) [↓P_skip, ↓P_exit, ↓P_ret, ↓P_seq, ↓P_cond, ↓P_blk, ↓P_reg, ↓P_draw, ↓P_nil, ↓P_cons, condP_t, condP_f, dum_ab, stepR, want_none, want_some, opRun, ev_t, ev_c, put_none, put_some, resAll, res_tmp, res_cell, oneOf, minI, maxI, min2A, max2A, mn2, mx2, mx3, rdBlk, wrBlk, newBlk, partA, abin, ibin, isShift, AV.cells, AV.one, sub, fillA, lenA, toN, allApart, apartFrom, Nat.testBit, Mem.blk_set_same, Mem.blk_set_ne, Mem.set_set, bit_zero, bit_self, lowBits_or, lowBits_zero, len_setT, sl_same, sl_ne, len_frame, sl_frame,↓op_len, lenOp_slc, lenOp_nils, ↓Post.some, ↓Post_bind, ↓Post_ret, ↓Post_draw, ↓PostL_nil, ↓PostL_cons, Post_fail, ofOpt_some, ofOpt_none, eA_b, eA_i, eA_s, eA_nn, eA_np, eA_pn, eA_lnn, eA_lnp, eA_lpn, eA_i2, eA_i3, blt_dec, Nat.add_assoc, keeps_refl, keeps_at, keeps_up, new_one, and_pow, bit_hi, lowBits_pow, ble_dec, fr_refl, fr_at, fr_up, fr_p, dum_ab, L5_3b, hlen, g1, g5, g6, g7, g8, c1, c1', c2', hbx, hK', k0, k1, t0, t1, wq, d3, d4, d5, d6, y1, y2, m1', m2', c32, c32', hG1, gn, z1, z2, ml, wl, ll, hset]
              refine Post.loop (su_round s1.j hk' g (.slc bb 0 l.length c) i) 4 ⟨0, rfl, by omega, by simp [len_setT, sl_same, sl_ne, hlen], by simp [len_setT, sl_same, sl_ne, hlen, g1], by simp [len_setT, sl_same, sl_ne, hlen, g5], by simp [len_setT, sl_same, sl_ne, hlen, g6], by simp [len_setT, sl_same, sl_ne, hlen, g7], by simp [len_setT, sl_same, sl_ne, hlen, g8], by simp [len_setT, sl_same, sl_ne, hlen], by simp [len_setT, sl_same, sl_ne, hlen], rfl, rfl⟩ (by omega) ?_
              rintro e tsA hA nxA tcA wrA ⟨rfl, la, a1, a5, a6, a7, a8, a12, rfl, rfl⟩
              simp (maxSteps := 4000000) [↓P_skip, ↓P_exit, ↓P_ret, ↓P_seq, ↓P_cond, ↓P_blk, ↓P_reg, ↓P_draw, ↓P_nil, ↓P_cons, condP_t, condP_f, dum_ab, stepR, want_none, want_some, opRun, ev_t, ev_c, put_none, put_some, resAll, res_tmp, res_cell, oneOf, minI, maxI, min2A, max2A, mn2, mx2, mx3, rdBlk, wrBlk, newBlk, partA, abin, ibin, isShift, AV.cells, AV.one, lay, sub, fillA, lenA, toN, allApart, apartFrom, Nat.testBit, Mem.blk_set_same, Mem.blk_set_ne, Mem.set_set, bit_zero, bit_self, lowBits_or, lowBits_zero, len_setT, sl_same, sl_ne, len_frame, sl_frame,↓op_len, lenOp_slc, lenOp_nils, ↓Post.some, ↓Post_bind, ↓Post_ret, ↓Post_draw, ↓PostL_nil, ↓PostL_cons, Post_fail, ofOpt_some, ofOpt_none, eA_b, eA_i, eA_s, eA_nn, eA_np, eA_pn, eA_lnn, eA_lnp, eA_lpn, eA_i2, eA_i3, blt_dec, Nat.add_assoc, keeps_refl, keeps_at, keeps_up, new_one, and_pow, bit_hi, lowBits_pow, ble_dec, fr_refl, fr_at, fr_up, fr_p, dum_ab, la, a1, a5, a6, a7, a8, a12]
              refine Post.loop (ea_round s1.j hk' g s1.gn _ s1.hG s1.gv (.slc bb 0 l.length c) i) k ⟨0, rfl, by omega, by simp [len_setT, sl_same, sl_ne, la], by simp [len_setT, sl_same, sl_ne, la, a1], by simp [len_setT, sl_same, sl_ne, la, a5], by simp [len_setT, sl_same, sl_ne, la, a6], by simp [len_setT, sl_same, sl_ne, la, a7], by simp [len_setT, sl_same, sl_ne, la, a8], by simp [len_setT, sl_same, sl_ne, la, a12], by simp [len_setT, sl_same, sl_ne, la], rfl, rfl⟩ (by omega) ?_
              rintro e tsB hB nxB tcB wrB ⟨rfl, lb, b1', b5', b6', b7', b8', b12', rfl, rfl⟩
              simp (maxSteps := 4000000) [↓P_skip, ↓P_exit, ↓P_ret, ↓P_seq, ↓P_cond, ↓P_blk, ↓P_reg, ↓P_draw, ↓P_nil, ↓P_cons, condP_t, condP_f, dum_ab, stepR, want_none, want_some, opRun, ev_t, ev_c, put_none, put_some, resAll, res_tmp, res_cell, oneOf, minI, maxI, min2A, max2A, mn2, mx2, mx3, rdBlk, wrBlk, newBlk, partA, abin, ibin, isShift, AV.cells, AV.one, lay, sub, fillA, lenA, toN, allApart, apartFrom, Nat.testBit, Mem.blk_set_same, Mem.blk_set_ne, Mem.set_set, bit_zero, bit_self, lowBits_or, lowBits_zero, len_setT, sl_same, sl_ne, len_frame, sl_frame,↓op_len, lenOp_slc, lenOp_nils, ↓Post.some, ↓Post_bind, ↓Post_ret, ↓Post_draw, ↓PostL_nil, ↓PostL_cons, Post_fail, ofOpt_some, ofOpt_none, eA_b, eA_i, eA_s, eA_nn, eA_np, eA_pn, eA_lnn, eA_lnp, eA_lpn, eA_i2, eA_i3, blt_dec, Nat.add_assoc, keeps_refl, keeps_at, keeps_up, new_one, and_pow, bit_hi, lowBits_pow, ble_dec, fr_refl, fr_at, fr_up, fr_p, dum_ab, lb, b1', b5', b6', b7', b8', b12', ci]
              exact done (by simp [len_setT, sl_same, sl_ne, lb]) (by simp [len_setT, sl_same, sl_ne, lb, b1']) (by simp [len_setT, sl_same, sl_ne, lb, b5']) (by simp [len_setT, sl_same, sl_ne, lb, b6']) (by simp [len_setT, sl_same, sl_ne, lb, b7']) (by simp [len_setT, sl_same, sl_ne, lb]) hbn s1 kp1
    · have c2' : ¬ (i : Int) < 120 := by omega
      obtain ⟨bb, c, K, rfl, hb, hK, _⟩ := hr.at c1
      simp [↓P_skip, ↓P_exit, ↓P_ret, ↓P_seq, ↓P_cond, ↓P_blk, ↓P_reg, ↓P_draw, ↓P_nil, ↓P_cons, condP_t, condP_f, dum_ab, stepR, want_none, want_some, opRun, ev_t, ev_c, put_none, put_some, resAll, res_tmp, res_cell, oneOf, minI, maxI, min2A, max2A, mn2, mx2, mx3, rdBlk, wrBlk, newBlk, partA, abin, ibin, isShift, AV.cells, AV.one, lay, sub, fillA, lenA, toN, allApart, apartFrom, Nat.testBit, Mem.blk_set_same, Mem.blk_set_ne, Mem.set_set, bit_zero, bit_self, lowBits_or, lowBits_zero, len_setT, sl_same, sl_ne, len_frame, sl_frame,↓op_len, lenOp_slc, lenOp_nils, ↓Post.some, ↓Post_bind, ↓Post_ret, ↓Post_draw, ↓PostL_nil, ↓PostL_cons, Post_fail, ofOpt_some, ofOpt_none, eA_b, eA_i, eA_s, eA_nn, eA_np, eA_pn, eA_lnn, eA_lnp, eA_lpn, eA_i2, eA_i3, blt_dec, Nat.add_assoc, keeps_refl, keeps_at, keeps_up, new_one, and_pow, bit_hi, lowBits_pow, ble_dec, fr_refl, fr_at, fr_up, fr_p, dum_ab, L5_3b, hlen, g1, g8, c1', c2']
      exact Round.exit (R := KpR k h0 base) ⟨rfl, by simp [len_setT, sl_same, sl_ne, hlen], hbn, kp⟩
  · have c1' : ¬ (i : Int) < (l.length : Int) := by omega
    rcases hr with ⟨rfl, rfl⟩ | ⟨bb, c, rfl, _⟩
    · have c1'' : ¬ (i : Int) < 0 := by omega
      simp [↓P_skip, ↓P_exit, ↓P_ret, ↓P_seq, ↓P_cond, ↓P_blk, ↓P_reg, ↓P_draw, ↓P_nil, ↓P_cons, condP_t, condP_f, dum_ab, stepR, want_none, want_some, opRun, ev_t, ev_c, put_none, put_some, resAll, res_tmp, res_cell, oneOf, minI, maxI, min2A, max2A, mn2, mx2, mx3, rdBlk, wrBlk, newBlk, partA, abin, ibin, isShift, AV.cells, AV.one, lay, sub, fillA, lenA, toN, allApart, apartFrom, Nat.testBit, Mem.blk_set_same, Mem.blk_set_ne, Mem.set_set, bit_zero, bit_self, lowBits_or, lowBits_zero, len_setT, sl_same, sl_ne, len_frame, sl_frame,↓op_len, lenOp_slc, lenOp_nils, ↓Post.some, ↓Post_bind, ↓Post_ret, ↓Post_draw, ↓PostL_nil, ↓PostL_cons, Post_fail, ofOpt_some, ofOpt_none, eA_b, eA_i, eA_s, eA_nn, eA_np, eA_pn, eA_lnn, eA_lnp, eA_lpn, eA_i2, eA_i3, blt_dec, Nat.add_assoc, keeps_refl, keeps_at, keeps_up, new_one, and_pow, bit_hi, lowBits_pow, ble_dec, fr_refl, fr_at, fr_up, fr_p, dum_ab, L5_3b, hlen, g1, g8, c1'']
      exact Round.exit (R := KpR k h0 base) ⟨rfl, by simp [len_setT, sl_same, sl_ne, hlen], hbn, kp⟩
    · simp [↓P_skip, ↓P_exit, ↓P_ret, ↓P_seq, ↓P_cond, ↓P_blk, ↓P_reg, ↓P_draw, ↓P_nil, ↓P_cons, condP_t, condP_f, dum_ab, stepR, want_none, want_some, opRun, ev_t, ev_c, put_none, put_some, resAll, res_tmp, res_cell, oneOf, minI, maxI, min2A, max2A, mn2, mx2, mx3, rdBlk, wrBlk, newBlk, partA, abin, ibin, isShift, AV.cells, AV.one, lay, sub, fillA, lenA, toN, allApart, apartFrom, Nat.testBit, Mem.blk_set_same, Mem.blk_set_ne, Mem.set_set, bit_zero, bit_self, lowBits_or, lowBits_zero, len_setT, sl_same, sl_ne, len_frame, sl_frame,↓op_len, lenOp_slc, lenOp_nils, ↓Post.some, ↓Post_bind, ↓Post_ret, ↓Post_draw, ↓PostL_nil, ↓PostL_cons, Post_fail, ofOpt_some, ofOpt_none, eA_b, eA_i, eA_s, eA_nn, eA_np, eA_pn, eA_lnn, eA_lnp, eA_lpn, eA_i2, eA_i3, blt_dec, Nat.add_assoc, keeps_refl, keeps_at, keeps_up, new_one, and_pow, bit_hi, lowBits_pow, ble_dec, fr_refl, fr_at, fr_up, fr_p, dum_ab, L5_3b, hlen, g1, g8, c1']
      exact Round.exit (R := KpR k h0 base) ⟨rfl, by simp [len_setT, sl_same, sl_ne, hlen], hbn, kp⟩
theorem Z0_gb : (⟨30, 32, true, false, Z0⟩ : Blk) = gb (List.replicate 32 false) := rfl
set_option maxHeartbeats 16000000 in
theorem keeps_law (a : Int) (w0 : (Lit.int .i64 a).wf = true) (l : List (List AV)) (v : AV) (y : l.length * 16 ≤ 140737488351232) (q : ∀ x ∈ l, LeavesV [.i .i64, .i .i64] x) (h0 : Mem) (base : Nat) (hr : SRow 2 v h0 base l) : Yes T 5 [.int .i64 a, v] h0 base := by
  have hl : ∀ x ∈ l, ∃ a b : Int, x = [.int .i64 a, .int .i64 b] := by
    intro x hx
    have := q x hx
    simp only [LeavesV, LeafV] at this
    obtain ⟨_, _, rfl, ⟨a, rfl, _⟩, _, _, rfl, ⟨b, rfl, _⟩, rfl⟩ := this
    exact ⟨a, b, rfl⟩
  obtain ⟨s, s1, s2, wi⟩ := within_ex a 0 20 (by omega) (by omega) (by omega)
  have ws : IntKind.i64.wrap (1 + s) = 1 + s := by rw [IntKind.wrap_i64]; omega
  obtain ⟨k, hk⟩ : ∃ k : Nat, 1 + s = k := ⟨(1 + s).toNat, by omega⟩
  rw [hk] at ws
  have hk2 : 1 ≤ k ∧ k ≤ 26 := by omega
  refine Yes.of 9000 ?_
  rw [xF_fr T5]
  obtain ⟨h1, tc1, wr1, x1, j1, kp1⟩ := mnew_at k (by omega) h0 base 0 (by omega)
  simp (maxSteps := 4000000) [↓P_skip, ↓P_exit, ↓P_ret, ↓P_seq, ↓P_cond, ↓P_blk, ↓P_reg, ↓P_draw, ↓P_nil, ↓P_cons, condP_t, condP_f, dum_ab, stepR, want_none, want_some, opRun, ev_t, ev_c, put_none, put_some, resAll, res_tmp, res_cell, oneOf, minI, maxI, min2A, max2A, mn2, mx2, mx3, rdBlk, wrBlk, newBlk, partA, abin, ibin, isShift, AV.cells, AV.one, lay, sub, fillA, lenA, toN, allApart, apartFrom, Nat.testBit, Mem.blk_set_same, Mem.blk_set_ne, Mem.set_set, bit_zero, bit_self, lowBits_or, lowBits_zero, len_setT, sl_same, sl_ne, len_frame, sl_frame,↓op_len, lenOp_slc, lenOp_nils, ↓Post.some, ↓Post_bind, ↓Post_ret, ↓Post_draw, ↓PostL_nil, ↓PostL_cons, Post_fail, ofOpt_some, ofOpt_none, eA_b, eA_i, eA_s, eA_nn, eA_np, eA_pn, eA_lnn, eA_lnp, eA_lpn, eA_i2, eA_i3, blt_dec, Nat.add_assoc, keeps_refl, keeps_at, keeps_up, new_one, and_pow, bit_hi, lowBits_pow, ble_dec, fr_refl, fr_at, fr_up, fr_p, dum_ab, F5, wi, hk, ws, x1, Z0_gb]
  have gv : Giv (List.replicate 32 false) (S0 (lits k) 0) k := by
    refine ⟨by simp, fun c hc => ?_⟩
    rw [List.getElem?_eq_getElem (by rw [List.length_replicate]; omega), List.getElem_replicate]
    have : (c : Int) ∈ S0 (lits k) 0 := mem_lits.2 ⟨by omega, by omega⟩
    rw [decide_eq_false (fun h => h this)]
  have s1 : KS (h1.set (base + 5) (some (gb (List.replicate 32 false)))) (base + 6) base (base + 4) (base + 2) base (base + 1) (base + 3) (base + 5) (newX k) (newY k) (S0 (lits k)) k (List.replicate 32 false) := ⟨j1.keep (by omega) fun b hb => Mem.blk_set_ne _ _ _ _ (by omega), Mem.blk_set_same .., gv, by omega, by omega, by omega⟩
  refine Post.loop (kp_round k hk2 v l h0 base hr hl) 120 ⟨0, base + 4, base + 2, base, base + 1, base + 3, base + 5, newX k, newY k, S0 (lits k), List.replicate 32 false, rfl, by omega, by simp [↓P_skip, ↓P_exit, ↓P_ret, ↓P_seq, ↓P_cond, ↓P_blk, ↓P_reg, ↓P_draw, ↓P_nil, ↓P_cons, condP_t, condP_f, dum_ab, stepR, want_none, want_some, opRun, ev_t, ev_c, put_none, put_some, resAll, res_tmp, res_cell, oneOf, minI, maxI, min2A, max2A, mn2, mx2, mx3, rdBlk, wrBlk, newBlk, partA, abin, ibin, isShift, AV.cells, AV.one, lay, sub, fillA, lenA, toN, allApart, apartFrom, Nat.testBit, Mem.blk_set_same, Mem.blk_set_ne, Mem.set_set, bit_zero, bit_self, lowBits_or, lowBits_zero, len_setT, sl_same, sl_ne, len_frame, sl_frame,↓op_len, lenOp_slc, lenOp_nils, ↓Post.some, ↓Post_bind, ↓Post_ret, ↓Post_draw, ↓PostL_nil, ↓PostL_cons, Post_fail, ofOpt_some, ofOpt_none, eA_b, eA_i, eA_s, eA_nn, eA_np, eA_pn, eA_lnn, eA_lnp, eA_lpn, eA_i2, eA_i3, blt_dec, Nat.add_assoc, keeps_refl, keeps_at, keeps_up], by simp [↓P_skip, ↓P_exit, ↓P_ret, ↓P_seq, ↓P_cond, ↓P_blk, ↓P_reg, ↓P_draw, ↓P_nil, ↓P_cons, condP_t, condP_f, dum_ab, stepR, want_none, want_some, opRun, ev_t, ev_c, put_none, put_some, resAll, res_tmp, res_cell, oneOf, minI, maxI, min2A, max2A, mn2, mx2, mx3, rdBlk, wrBlk, newBlk, partA, abin, ibin, isShift, AV.cells, AV.one, lay, sub, fillA, lenA, toN, allApart, apartFrom, Nat.testBit, Mem.blk_set_same, Mem.blk_set_ne, Mem.set_set, bit_zero, bit_self, lowBits_or, lowBits_zero, len_setT, sl_same, sl_ne, len_frame, sl_frame,↓op_len, lenOp_slc, lenOp_nils, ↓Post.some, ↓Post_bind, ↓Post_ret, ↓Post_draw, ↓PostL_nil, ↓PostL_cons, Post_fail, ofOpt_some, ofOpt_none, eA_b, eA_i, eA_s, eA_nn, eA_np, eA_pn, eA_lnn, eA_lnp, eA_lpn, eA_i2, eA_i3, blt_dec, Nat.add_assoc, keeps_refl, keeps_at, keeps_up], by simp [↓P_skip, ↓P_exit, ↓P_ret, ↓P_seq, ↓P_cond, ↓P_blk, ↓P_reg, ↓P_draw, ↓P_nil, ↓P_cons, condP_t, condP_f, dum_ab, stepR, want_none, want_some, opRun, ev_t, ev_c, put_none, put_some, resAll, res_tmp, res_cell, oneOf, minI, maxI, min2A, max2A, mn2, mx2, mx3, rdBlk, wrBlk, newBlk, partA, abin, ibin, isShift, AV.cells, AV.one, lay, sub, fillA, lenA, toN, allApart, apartFrom, Nat.testBit, Mem.blk_set_same, Mem.blk_set_ne, Mem.set_set, bit_zero, bit_self, lowBits_or, lowBits_zero, len_setT, sl_same, sl_ne, len_frame, sl_frame,↓op_len, lenOp_slc, lenOp_nils, ↓Post.some, ↓Post_bind, ↓Post_ret, ↓Post_draw, ↓PostL_nil, ↓PostL_cons, Post_fail, ofOpt_some, ofOpt_none, eA_b, eA_i, eA_s, eA_nn, eA_np, eA_pn, eA_lnn, eA_lnp, eA_lpn, eA_i2, eA_i3, blt_dec, Nat.add_assoc, keeps_refl, keeps_at, keeps_up], by simp [↓P_skip, ↓P_exit, ↓P_ret, ↓P_seq, ↓P_cond, ↓P_blk, ↓P_reg, ↓P_draw, ↓P_nil, ↓P_cons, condP_t, condP_f, dum_ab, stepR, want_none, want_some, opRun, ev_t, ev_c, put_none, put_some, resAll, res_tmp, res_cell, oneOf, minI, maxI, min2A, max2A, mn2, mx2, mx3, rdBlk, wrBlk, newBlk, partA, abin, ibin, isShift, AV.cells, AV.one, lay, sub, fillA, lenA, toN, allApart, apartFrom, Nat.testBit, Mem.blk_set_same, Mem.blk_set_ne, Mem.set_set, bit_zero, bit_self, lowBits_or, lowBits_zero, len_setT, sl_same, sl_ne, len_frame, sl_frame,↓op_len, lenOp_slc, lenOp_nils, ↓Post.some, ↓Post_bind, ↓Post_ret, ↓Post_draw, ↓PostL_nil, ↓PostL_cons, Post_fail, ofOpt_some, ofOpt_none, eA_b, eA_i, eA_s, eA_nn, eA_np, eA_pn, eA_lnn, eA_lnp, eA_lpn, eA_i2, eA_i3, blt_dec, Nat.add_assoc, keeps_refl, keeps_at, keeps_up], by simp [↓P_skip, ↓P_exit, ↓P_ret, ↓P_seq, ↓P_cond, ↓P_blk, ↓P_reg, ↓P_draw, ↓P_nil, ↓P_cons, condP_t, condP_f, dum_ab, stepR, want_none, want_some, opRun, ev_t, ev_c, put_none, put_some, resAll, res_tmp, res_cell, oneOf, minI, maxI, min2A, max2A, mn2, mx2, mx3, rdBlk, wrBlk, newBlk, partA, abin, ibin, isShift, AV.cells, AV.one, lay, sub, fillA, lenA, toN, allApart, apartFrom, Nat.testBit, Mem.blk_set_same, Mem.blk_set_ne, Mem.set_set, bit_zero, bit_self, lowBits_or, lowBits_zero, len_setT, sl_same, sl_ne, len_frame, sl_frame,↓op_len, lenOp_slc, lenOp_nils, ↓Post.some, ↓Post_bind, ↓Post_ret, ↓Post_draw, ↓PostL_nil, ↓PostL_cons, Post_fail, ofOpt_some, ofOpt_none, eA_b, eA_i, eA_s, eA_nn, eA_np, eA_pn, eA_lnn, eA_lnp, eA_lpn, eA_i2, eA_i3, blt_dec, Nat.add_assoc, keeps_refl, keeps_at, keeps_up], by simp [↓P_skip, ↓P_exit, ↓P_ret, ↓P_seq, ↓P_cond, ↓P_blk, ↓P_reg, ↓P_draw, ↓P_nil, ↓P_cons, condP_t, condP_f, dum_ab, stepR, want_none, want_some, opRun, ev_t, ev_c, put_none, put_some, resAll, res_tmp, res_cell, oneOf, minI, maxI, min2A, max2A, mn2, mx2, mx3, rdBlk, wrBlk, newBlk, partA, abin, ibin, isShift, AV.cells, AV.one, lay, sub, fillA, lenA, toN, allApart, apartFrom, Nat.testBit, Mem.blk_set_same, Mem.blk_set_ne, Mem.set_set, bit_zero, bit_self, lowBits_or, lowBits_zero, len_setT, sl_same, sl_ne, len_frame, sl_frame,↓op_len, lenOp_slc, lenOp_nils, ↓Post.some, ↓Post_bind, ↓Post_ret, ↓Post_draw, ↓PostL_nil, ↓PostL_cons, Post_fail, ofOpt_some, ofOpt_none, eA_b, eA_i, eA_s, eA_nn, eA_np, eA_pn, eA_lnn, eA_lnp, eA_lpn, eA_i2, eA_i3, blt_dec, Nat.add_assoc, keeps_refl, keeps_at, keeps_up], by omega, s1, fun b hb => by rw [Mem.blk_set_ne _ _ _ _ (by omega), kp1 b hb]⟩ (by omega) ?_
  rintro e ts2 h2 nx2 tc2 wr2 ⟨rfl, hlen2, hb2, kp2⟩
  obtain ⟨h11, nx11, tc11, wr11, x11, n11, k11⟩ := (known_ans h2 nx2).at
  simp (maxSteps := 4000000) [↓P_skip, ↓P_exit, ↓P_ret, ↓P_seq, ↓P_cond, ↓P_blk, ↓P_reg, ↓P_draw, ↓P_nil, ↓P_cons, condP_t, condP_f, dum_ab, stepR, want_none, want_some, opRun, ev_t, ev_c, put_none, put_some, resAll, res_tmp, res_cell, oneOf, minI, maxI, min2A, max2A, mn2, mx2, mx3, rdBlk, wrBlk, newBlk, partA, abin, ibin, isShift, AV.cells, AV.one, lay, sub, fillA, lenA, toN, allApart, apartFrom, Nat.testBit, Mem.blk_set_same, Mem.blk_set_ne, Mem.set_set, bit_zero, bit_self, lowBits_or, lowBits_zero, len_setT, sl_same, sl_ne, len_frame, sl_frame,↓op_len, lenOp_slc, lenOp_nils, ↓Post.some, ↓Post_bind, ↓Post_ret, ↓Post_draw, ↓PostL_nil, ↓PostL_cons, Post_fail, ofOpt_some, ofOpt_none, eA_b, eA_i, eA_s, eA_nn, eA_np, eA_pn, eA_lnn, eA_lnp, eA_lpn, eA_i2, eA_i3, blt_dec, Nat.add_assoc, keeps_refl, keeps_at, keeps_up, new_one, and_pow, bit_hi, lowBits_pow, ble_dec, fr_refl, fr_at, fr_up, fr_p, dum_ab, hlen2, x11]
end Go.Proofs.YtmgilbjhgpcjgaaT
