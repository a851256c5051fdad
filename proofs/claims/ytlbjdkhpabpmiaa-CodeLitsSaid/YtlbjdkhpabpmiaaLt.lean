/- The tape: literals. -/
import Derived.Test.YtlbjdkhpabpmiaaPc
namespace Go.Proofs.YtlbjdkhpabpmiaaT
open Go Go.Proofs.YtlbjdkhpabpmiaaE Go.Proofs.YtlbjdkhpabpmiaaB
set_option linter.unusedSimpArgs false
set_option linter.unusedVariables false
attribute [local congr] Post_cg PostL_cg condP_cg

/-- Marks of a call that reads a tape. -/
structure Mk (p : Nat) (s : AV) (nx0 tc wr : Nat) : Prop where
  w : ∀ q, q < nx0 → ¬ q = p → wr &&& 2 ^ q = 0
  t : ∀ q, q < nx0 → ¬ (q = p ∨ bid s = some q) → tc &&& 2 ^ q = 0
theorem Mk.z (p : Nat) (s : AV) (nx0 : Nat) : Mk p s nx0 0 0 := ⟨fun q _ _ => Nat.zero_and _, fun q _ _ => Nat.zero_and _⟩
theorem Mk.or {p : Nat} {s : AV} {nx0 tc wr tc' wr' : Nat} (a : Mk p s nx0 tc wr) (b : Mk p s nx0 tc' wr') : Mk p s nx0 (tc ||| tc') (wr ||| wr') :=
  ⟨fun q h1 h2 => wr_or (a.w q h1 h2) (b.w q h1 h2), fun q h1 h2 => wr_or (a.t q h1 h2) (b.t q h1 h2)⟩
theorem Mk.b {p : Nat} {s : AV} {nx0 b lg : Nat} (h : nx0 ≤ b) : Mk p s nx0 (bit lg b) 0 := ⟨fun q _ _ => Nat.zero_and _, fun q hq _ => bit_and (by omega)⟩
theorem Mk.bw {p : Nat} {s : AV} {nx0 b lg : Nat} (h : nx0 ≤ b) : Mk p s nx0 (bit lg b) (bit lg b) := ⟨fun q hq _ => bit_and (by omega), fun q hq _ => bit_and (by omega)⟩
theorem Mk.low {p : Nat} {s : AV} {nx0 tc wr lg : Nat} (a : Mk p s nx0 tc wr) : Mk p s nx0 (lowBits lg tc) (lowBits lg wr) := ⟨fun q h1 h2 => low_z (a.w q h1 h2), fun q h1 h2 => low_z (a.t q h1 h2)⟩
/-- What a call over a tape comes to. -/
def TpC (p : Nat) (s : AV) (d f : Nat) (args : List AV) (h : Mem) (nx : Nat) (Q : AV → Mem → Nat → Prop) : Prop := ∀ lg, lg ≤ nx → Post (xF T d f args h nx lg) fun v h' nx' tc wr => Q v h' nx' ∧ nx ≤ nx' ∧ (∀ q, q < nx → ¬ q = p → h'.blk q = h.blk q) ∧ Mk p s nx tc wr
theorem TpC.post {p : Nat} {s : AV} {d f : Nat} {args : List AV} {h : Mem} {nx : Nat} {Q : AV → Mem → Nat → Prop} (c : TpC p s d f args h nx Q) (nx0 : Nat) (h0 : nx0 ≤ nx) {n lg : Nat} (hn : d ≤ n) (hl : lg ≤ nx) {R : AV → Mem → Nat → Nat → Nat → Prop}
    (k : ∀ v h' nx' tc wr, Q v h' nx' → nx ≤ nx' → (∀ q, q < nx → ¬ q = p → h'.blk q = h.blk q) → Mk p s nx0 tc wr → (∀ q, lg ≤ q → tc &&& 2 ^ q = 0 ∧ wr &&& 2 ^ q = 0) → R v h' nx' tc wr) : Post (xF T n f args h nx lg) R :=
  Post_up hn ((Post_hi hl (c lg hl)).mono fun v h' nx' tc wr ⟨⟨a, b, c, d⟩, e⟩ => k v h' nx' tc wr a b c ⟨fun q h1 h2 => d.w q (by omega) h2, fun q h1 h2 => d.t q (by omega) h2⟩ e)
/-- A row that is made beside a tape. -/
structure Sq (p : Nat) (s : AV) (L : List Int) (h0 : Mem) (nx0 : Nat) (sz : Nat) (h : Mem) (nx : Nat) (u : AV) (M : List (List AV)) : Prop where
  tp : TP h nx p s L
  ow : OW sz u h nx M
  own : ∀ b, bid u = some b → nx0 ≤ b
  hp : p < nx0
  hs : ∀ b, bid s = some b → b < nx0
  n : nx0 ≤ nx
  k : ∀ q, q < nx0 → ¬ q = p → h.blk q = h0.blk q
theorem Sq.ofTP {p : Nat} {s : AV} {L : List Int} {h : Mem} {nx : Nat} (t : TP h nx p s L) (sz : Nat) : Sq p s L h nx sz h nx .nils [] := ⟨t, OW.nil .., (fun b hb => by cases hb), t.hp, fun b hb => t.row.lt hb, Nat.le_refl _, fun q _ _ => rfl⟩
theorem Sq.keeps {p : Nat} {s : AV} {L : List Int} {h0 : Mem} {nx0 sz : Nat} {h h' : Mem} {nx nx' : Nat} {u : AV} {M : List (List AV)} (g : Sq p s L h0 nx0 sz h nx u M) (hn : nx ≤ nx') (e : ∀ q, q < nx → h'.blk q = h.blk q) : Sq p s L h0 nx0 sz h' nx' u M :=
  ⟨g.tp.keeps hn e, g.ow.keeps hn e, g.own, g.hp, g.hs, by have := g.n; omega, fun q hq a => (e q (by have := g.n; omega)).trans (g.k q hq a)⟩
theorem Sq.new {p : Nat} {s : AV} {L : List Int} {h0 : Mem} {nx0 sz : Nat} {h : Mem} {nx : Nat} {u : AV} {M : List (List AV)} (g : Sq p s L h0 nx0 sz h nx u M) (K : Option Blk) : Sq p s L h0 nx0 sz (h.set nx K) (nx + 1) u M :=
  g.keeps (by omega) fun q hq => Mem.blk_set_ne _ _ _ _ (by omega)
/-- A call over the tape beside it. -/
theorem Sq.call {p : Nat} {s : AV} {L : List Int} {h0 : Mem} {nx0 sz : Nat} {h h' : Mem} {nx nx' : Nat} {u : AV} {M : List (List AV)} (g : Sq p s L h0 nx0 sz h nx u M) (t : TP h' nx' p s L) (hn : nx ≤ nx') (e : ∀ q, q < nx → ¬ q = p → h'.blk q = h.blk q) : Sq p s L h0 nx0 sz h' nx' u M :=
  ⟨t, g.ow.keep hn fun b hb => e b (g.ow.lt hb) (by have := g.own b hb; have := g.hp; omega), g.own, g.hp, g.hs, by have := g.n; omega, fun q hq a => (e q (by have := g.n; omega) a).trans (g.k q hq a)⟩
/-- An element is appended. -/
theorem Sq.push {p : Nat} {s : AV} {L : List Int} {h0 : Mem} {nx0 sz : Nat} {h : Mem} {nx : Nat} {u : AV} {M : List (List AV)} (g : Sq p s L h0 nx0 sz h nx u M) (hsz : 0 < sz) (ty bytes : Nat) (y : List AV) (hy : y.length = sz) (hf : ∀ k, k ≤ M.length + 1 → fits k bytes = true) (ho : y.all AV.one = true) (t z : Nat) (lg : Nat) {R : AV → Mem → Nat → Nat → Nat → Prop}
    (k : ∀ u' h' nx' tc wr, Sq p s L h0 nx0 sz h' nx' u' (M ++ [y]) → nx + 1 ≤ nx' → (∀ b, b < nx → bid u ≠ some b → h'.blk b = h.blk b) → Mk p s nx0 tc wr → R u' h' nx' tc wr) : Post (appOp ty sz bytes u (.slc nx 0 1 (some 1)) (h.set nx (some ⟨t, z, true, false, y⟩)) (nx + 1) lg) R := by
  obtain ⟨s', h', nx', tc, wr, e, n1, o1, k1, d1, t1, w1⟩ := OW.push hsz ty bytes g.ow y hy hf ho t z lg
  have hn := g.n
  have no : ∀ q, q < nx0 → bid u ≠ some q := fun q hq e => by have := g.own q e; omega
  refine Post.of e (k _ _ _ _ _ ⟨?_, o1, fun b hb => ?_, g.hp, g.hs, by omega, fun q hq a => (k1 q (by omega) (no q hq)).trans (g.k q hq a)⟩ n1 k1 ⟨fun q hq _ => w1 q (no q hq), fun q hq _ => t1 q (no q hq) (by omega)⟩)
  · refine g.tp.keep (by omega) fun q hq hx => k1 q hq fun e => ?_
    have := g.own q e
    rcases hx with rfl | hx
    · have := g.hp; omega
    · have := g.hs q hx; omega
  · rcases d1 b hb with h | h
    · exact g.own b h
    · omega
theorem Sq.cat {p : Nat} {s : AV} {L : List Int} {h0 : Mem} {nx0 sz : Nat} {h : Mem} {nx : Nat} {u : AV} {M : List (List AV)} (g : Sq p s L h0 nx0 sz h nx u M) (hsz : 0 < sz) (ty bytes : Nat) {x : AV} {Y : List (List AV)} (gx : RD sz x h nx Y) (hf : ∀ k, k ≤ M.length + Y.length → fits k bytes = true) (ho : Y.flatten.all AV.one = true) (hx : ∀ b, bid x = some b → nx0 ≤ b) (lg : Nat) {R : AV → Mem → Nat → Nat → Nat → Prop}
    (k : ∀ u' h' nx' tc wr, Sq p s L h0 nx0 sz h' nx' u' (M ++ Y) → nx ≤ nx' → (∀ b, b < nx → bid u ≠ some b → h'.blk b = h.blk b) → Mk p s nx0 tc wr → R u' h' nx' tc wr) : Post (appOp ty sz bytes u x h nx lg) R := by
  obtain ⟨s', h', nx', tc, wr, e, n1, o1, k1, d1, t1, w1⟩ := OW.cat hsz ty bytes g.ow gx hf ho lg
  have hn := g.n
  have no : ∀ q, q < nx0 → bid u ≠ some q := fun q hq e => by have := g.own q e; omega
  have nox : ∀ q, q < nx0 → bid x ≠ some q := fun q hq e => by have := hx q e; omega
  refine Post.of e (k _ _ _ _ _ ⟨?_, o1, fun b hb => ?_, g.hp, g.hs, by omega, fun q hq a => (k1 q (by omega) (no q hq)).trans (g.k q hq a)⟩ n1 k1 ⟨fun q hq _ => w1 q (no q hq), fun q hq _ => t1 q (no q hq) (nox q hq)⟩)
  · refine g.tp.keep (by omega) fun q hq hx => k1 q hq fun e => ?_
    have := g.own q e
    rcases hx with rfl | hx
    · have := g.hp; omega
    · have := g.hs q hx; omega
  · rcases d1 b hb with h | h
    · exact g.own b h
    · omega
theorem nms_tp (p : Nat) (s : AV) (h : Mem) (nx : Nat) : TpC p s 30 19 [] h nx fun r h' nx' => (r = .slc nx 0 6 (some 6) ∧ ∀ q, q < nx → h'.blk q = h.blk q) ∧ RD 1 r h' nx' [[.str ⟨⟨[103, 111]⟩⟩], [.str ⟨⟨[100, 111, 58]⟩⟩], [.str ⟨⟨[43]⟩⟩], [.str ⟨⟨[97, 116, 58, 112, 117, 116, 58]⟩⟩], [.str ⟨⟨[120]⟩⟩], [.str ⟨⟨[121, 57]⟩⟩]] := by
  intro lg hlg
  rw [xF_fr T19]
  simp (maxSteps := 4000000) (maxDischargeDepth := 6) [↓step_none, ↓step_t, ↓step_f, ↓step_nt, ↓step_nf, ↓op_load, ↓op_store, ↓op_slice, ↓op_app, ↓op_islc, ↓P_skip, ↓P_exit, ↓P_ret, ↓P_seq, ↓P_cond, ↓P_blk, ↓P_reg, ↓P_draw, ↓P_nil, ↓P_cons, condP_t, condP_f, dum_ab, stepR, want_none, want_some, opRun, ev_t, ev_c, put_none, put_some, resAll, res_tmp, res_cell, oneOf, minI, maxI, min2A, max2A, mn2, mx2, mx3, rdBlk, wrBlk, newBlk, partA, abin, ibin, isShift, AV.cells, AV.one, lay, sub, fillA, lenA, toN, allApart, apartFrom, Nat.testBit, Mem.blk_set_same, Mem.blk_set_ne, Mem.set_set, bit_zero, bit_self, lowBits_or, lowBits_zero, len_setT, sl_same, sl_ne, len_frame, sl_frame,↓op_len, lenOp_slc, lenOp_nils, ↓Post.some, ↓Post_bind, ↓Post_ret, ↓Post_draw, ↓PostL_nil, ↓PostL_cons, Post_fail, ofOpt_some, ofOpt_none, eA_b, eA_i, eA_s, eA_nn, eA_np, eA_pn, eA_lnn, eA_lnp, eA_lpn, eA_i2, eA_i3, blt_dec, Nat.add_assoc, keeps_refl, keeps_at, keeps_up, new_one, and_pow, bit_hi, lowBits_pow, ble_dec, fr_refl, fr_at, fr_up, fr_p, dum_ab, reps, F19]
  refine ⟨⟨fun q hq => Mem.blk_set_ne _ _ _ _ (by omega), RD.lit (t := 9) (z := 1) (o := true) (g := false) rfl (by simp) (by omega) (by rw [Mem.blk_set_same]; rfl)⟩, fun q hq _ => Mem.blk_set_ne _ _ _ _ (by omega), Mk.z ..⟩
/-- A pair of numbers. -/
def V2 (y : List AV) : Prop := ∃ a b : Int, y = [.int .i64 a, .int .i64 b]
theorem V2.len {y : List AV} (h : V2 y) : y.length = 2 := by obtain ⟨a, b, rfl⟩ := h; rfl
theorem V2.one {y : List AV} (h : V2 y) : y.all AV.one = true := by obtain ⟨a, b, rfl⟩ := h; rfl
theorem v2_more {M : List (List AV)} (h : ∀ y ∈ M, V2 y) (a b : Int) : ∀ y ∈ M ++ [[.int .i64 a, .int .i64 b]], V2 y := fun y hy => by
  rcases List.mem_append.1 hy with hy | hy
  · exact h y hy
  · rw [List.mem_singleton.1 hy]; exact ⟨a, b, rfl⟩
theorem fits16 {k n : Nat} (h : k ≤ n + 1) (hn : n ≤ 1000) : fits k 16 = true := fits_few (by omega) (by omega)
def LlI (js lim b0 : Nat) (p : Nat) (s : AV) (L : List Int) (cl : Int) (h0 : Mem) (nx0 : Nat) (m : Nat) (ts : List AV) (h : Mem) (nx tc wr : Nat) : Prop := ∃ (j : Nat) (u : AV) (M : List (List AV)), m = lim - j ∧ j ≤ lim ∧ ts.length = 51 ∧ sl ts 0 = .ptr p 0 ∧ sl ts 1 = .int .i64 cl ∧ sl ts 5 = u ∧ sl ts js = .int .i64 j ∧ (js = 24 → sl ts 23 = .int .i64 6) ∧ Sq p s L h0 nx0 2 h nx u M ∧ (∀ y ∈ M, V2 y) ∧ M.length = b0 + j ∧ Mk p s nx0 tc wr
def LlR (e0 : Nat) (lim b0 : Nat) (p : Nat) (s : AV) (L : List Int) (cl : Int) (h0 : Mem) (nx0 : Nat) (e : Ex) (ts : List AV) (h : Mem) (nx tc wr : Nat) : Prop := e = .exit e0 ∧ ∃ (u : AV) (M : List (List AV)), ts.length = 51 ∧ sl ts 0 = .ptr p 0 ∧ sl ts 1 = .int .i64 cl ∧ sl ts 5 = u ∧ Sq p s L h0 nx0 2 h nx u M ∧ (∀ y ∈ M, V2 y) ∧ M.length = b0 + lim ∧ Mk p s nx0 tc wr
/-- A number of the tape, beside a row. -/
theorem next_sq {p : Nat} {s : AV} {L : List Int} {h0 : Mem} {nx0 sz : Nat} {h : Mem} {nx : Nat} {u : AV} {M : List (List AV)} (g : Sq p s L h0 nx0 sz h nx u M) (n : Int) (h1 : 1 ≤ n) (h2 : n ≤ 1000000) : TpC p s 60 20 [.ptr p 0, .int .i64 n] h nx fun v h' nx' => ∃ r : Nat, v = .int .i64 r ∧ (r : Int) < n ∧ TP h' nx' p s L :=
  fun lg hlg => (next_fx g.tp n h1 h2 lg hlg).mono fun v h' nx' tc wr ⟨e, hn, hk, hw, ht⟩ => ⟨e, hn, hk, hw, ht⟩
set_option maxHeartbeats 8000000 in
theorem ll2 {p : Nat} {s : AV} {L : List Int} (cl : Int) {h0 : Mem} {nx0 : Nat} (lg : Nat) (hlg : lg ≤ nx0) (m : Nat) (ts : List AV) (h : Mem) (nx tc wr : Nat) (hi : LlI 6 4 0 p s L cl h0 nx0 m ts h nx tc wr) :
    Post (xC T 120 L34_2b ts h nx lg) fun v' h' nx' tc' wr' => Round (LlI 6 4 0 p s L cl h0 nx0) (LlR 0 4 0 p s L cl h0 nx0) m v' h' nx' (tc ||| tc') (wr ||| wr') := by
  obtain ⟨j, u, M, rfl, hj, hlen, g0, g1, g5, g6, _, g, hv, hM, mk⟩ := hi
  have hn := g.n
  have ci : IntKind.i64.wrap ((j : Int) + 1) = ((j + 1 : Nat) : Int) := by rw [IntKind.wrap_i64]; omega
  by_cases c : j < 4
  · have c' : (j : Int) < 4 := by omega
    simp (maxSteps := 4000000) (maxDischargeDepth := 6) [↓step_none, ↓step_t, ↓step_f, ↓step_nt, ↓step_nf, ↓op_load, ↓op_store, ↓op_slice, ↓op_app, ↓op_islc, ↓P_skip, ↓P_exit, ↓P_ret, ↓P_seq, ↓P_cond, ↓P_blk, ↓P_reg, ↓P_draw, ↓P_nil, ↓P_cons, condP_t, condP_f, dum_ab, stepR, want_none, want_some, opRun, ev_t, ev_c, put_none, put_some, resAll, res_tmp, res_cell, oneOf, minI, maxI, min2A, max2A, mn2, mx2, mx3, rdBlk, wrBlk, newBlk, partA, abin, ibin, isShift, AV.cells, AV.one, lay, sub, fillA, lenA, toN, allApart, apartFrom, Nat.testBit, Mem.blk_set_same, Mem.blk_set_ne, Mem.set_set, bit_zero, bit_self, lowBits_or, lowBits_zero, len_setT, sl_same, sl_ne, len_frame, sl_frame,↓op_len, lenOp_slc, lenOp_nils, ↓Post.some, ↓Post_bind, ↓Post_ret, ↓Post_draw, ↓PostL_nil, ↓PostL_cons, Post_fail, ofOpt_some, ofOpt_none, eA_b, eA_i, eA_s, eA_nn, eA_np, eA_pn, eA_lnn, eA_lnp, eA_lpn, eA_i2, eA_i3, blt_dec, Nat.add_assoc, keeps_refl, keeps_at, keeps_up, new_one, and_pow, bit_hi, lowBits_pow, ble_dec, fr_refl, fr_at, fr_up, fr_p, dum_ab, reps, L34_2b, hlen, g0, g1, g5, g6, c, c']
    refine (next_sq (g.new _) 5 (by decide) (by decide)).post nx0 (by omega) (by omega) (by omega) ?_
    rintro _ h1 nx1 tc1 wr1 ⟨r1, rfl, hr1, t1⟩ n1 k1 m1 i1
    have gg := (g.new _).call t1 n1 k1
    have hp := g.tp.hp
    obtain ⟨o, x, e, f⟩ := lit_el (b := nx) (nx := nx1) [0, 7, 1073741823, -1073741824, 100000] ((k1 nx (by omega) (by omega)).trans (Mem.blk_set_same ..)) (by omega) r1 (by simp; omega)
    simp only [List.length_cons, List.length_nil, Nat.reduceAdd] at e
    simp (maxSteps := 4000000) (maxDischargeDepth := 6) [↓step_none, ↓step_t, ↓step_f, ↓step_nt, ↓step_nf, ↓op_load, ↓op_store, ↓op_slice, ↓op_app, ↓op_islc, ↓P_skip, ↓P_exit, ↓P_ret, ↓P_seq, ↓P_cond, ↓P_blk, ↓P_reg, ↓P_draw, ↓P_nil, ↓P_cons, condP_t, condP_f, dum_ab, stepR, want_none, want_some, opRun, ev_t, ev_c, put_none, put_some, resAll, res_tmp, res_cell, oneOf, minI, maxI, min2A, max2A, mn2, mx2, mx3, rdBlk, wrBlk, newBlk, partA, abin, ibin, isShift, AV.cells, AV.one, lay, sub, fillA, lenA, toN, allApart, apartFrom, Nat.testBit, Mem.blk_set_same, Mem.blk_set_ne, Mem.set_set, bit_zero, bit_self, lowBits_or, lowBits_zero, len_setT, sl_same, sl_ne, len_frame, sl_frame,↓op_len, lenOp_slc, lenOp_nils, ↓Post.some, ↓Post_bind, ↓Post_ret, ↓Post_draw, ↓PostL_nil, ↓PostL_cons, Post_fail, ofOpt_some, ofOpt_none, eA_b, eA_i, eA_s, eA_nn, eA_np, eA_pn, eA_lnn, eA_lnp, eA_lpn, eA_i2, eA_i3, blt_dec, Nat.add_assoc, keeps_refl, keeps_at, keeps_up, new_one, and_pow, bit_hi, lowBits_pow, ble_dec, fr_refl, fr_at, fr_up, fr_p, dum_ab, reps, hlen, g5, e, f]
    refine gg.push (by decide) 41 16 [.int .i64 3, .int .i64 x] rfl (fun k hk => fits16 hk (by omega)) rfl 41 2 lg ?_
    intro u' h2 nx2 tc2 wr2 g2 n2 k2 m2
    simp (maxSteps := 4000000) (maxDischargeDepth := 6) [↓step_none, ↓step_t, ↓step_f, ↓step_nt, ↓step_nf, ↓op_load, ↓op_store, ↓op_slice, ↓op_app, ↓op_islc, ↓P_skip, ↓P_exit, ↓P_ret, ↓P_seq, ↓P_cond, ↓P_blk, ↓P_reg, ↓P_draw, ↓P_nil, ↓P_cons, condP_t, condP_f, dum_ab, stepR, want_none, want_some, opRun, ev_t, ev_c, put_none, put_some, resAll, res_tmp, res_cell, oneOf, minI, maxI, min2A, max2A, mn2, mx2, mx3, rdBlk, wrBlk, newBlk, partA, abin, ibin, isShift, AV.cells, AV.one, lay, sub, fillA, lenA, toN, allApart, apartFrom, Nat.testBit, Mem.blk_set_same, Mem.blk_set_ne, Mem.set_set, bit_zero, bit_self, lowBits_or, lowBits_zero, len_setT, sl_same, sl_ne, len_frame, sl_frame,↓op_len, lenOp_slc, lenOp_nils, ↓Post.some, ↓Post_bind, ↓Post_ret, ↓Post_draw, ↓PostL_nil, ↓PostL_cons, Post_fail, ofOpt_some, ofOpt_none, eA_b, eA_i, eA_s, eA_nn, eA_np, eA_pn, eA_lnn, eA_lnp, eA_lpn, eA_i2, eA_i3, blt_dec, Nat.add_assoc, keeps_refl, keeps_at, keeps_up, new_one, and_pow, bit_hi, lowBits_pow, ble_dec, fr_refl, fr_at, fr_up, fr_p, dum_ab, reps, hlen, g6, ci]
    refine Round.nor (m' := 4 - (j + 1)) (by omega) ⟨j + 1, u', _, rfl, by omega, ?_, ?_, ?_, ?_, ?_, (fun h => absurd h (by decide)), g2, v2_more hv _ _, by rw [List.length_append, hM]; rfl, ?_⟩
    any_goals simp [len_setT, sl_same, sl_ne, hlen, g0, g1]
    have := mk.or (m1.or ((Mk.b (lg := lg) (show nx0 ≤ nx by omega)).or m2))
    simpa using this
  · have c' : ¬ (j : Int) < 4 := by omega
    simp (maxSteps := 4000000) (maxDischargeDepth := 6) [↓step_none, ↓step_t, ↓step_f, ↓step_nt, ↓step_nf, ↓op_load, ↓op_store, ↓op_slice, ↓op_app, ↓op_islc, ↓P_skip, ↓P_exit, ↓P_ret, ↓P_seq, ↓P_cond, ↓P_blk, ↓P_reg, ↓P_draw, ↓P_nil, ↓P_cons, condP_t, condP_f, dum_ab, stepR, want_none, want_some, opRun, ev_t, ev_c, put_none, put_some, resAll, res_tmp, res_cell, oneOf, minI, maxI, min2A, max2A, mn2, mx2, mx3, rdBlk, wrBlk, newBlk, partA, abin, ibin, isShift, AV.cells, AV.one, lay, sub, fillA, lenA, toN, allApart, apartFrom, Nat.testBit, Mem.blk_set_same, Mem.blk_set_ne, Mem.set_set, bit_zero, bit_self, lowBits_or, lowBits_zero, len_setT, sl_same, sl_ne, len_frame, sl_frame,↓op_len, lenOp_slc, lenOp_nils, ↓Post.some, ↓Post_bind, ↓Post_ret, ↓Post_draw, ↓PostL_nil, ↓PostL_cons, Post_fail, ofOpt_some, ofOpt_none, eA_b, eA_i, eA_s, eA_nn, eA_np, eA_pn, eA_lnn, eA_lnp, eA_lpn, eA_i2, eA_i3, blt_dec, Nat.add_assoc, keeps_refl, keeps_at, keeps_up, new_one, and_pow, bit_hi, lowBits_pow, ble_dec, fr_refl, fr_at, fr_up, fr_p, dum_ab, reps, L34_2b, hlen, g0, g1, g5, g6, c, c']
    refine Round.exit (R := LlR 0 4 0 p s L cl h0 nx0) ⟨rfl, u, M, ?_, ?_, ?_, ?_, g, hv, by omega, mk⟩ <;> simp [len_setT, sl_same, sl_ne, hlen, g0, g1, g5]
set_option maxHeartbeats 8000000 in
theorem ll1 {p : Nat} {s : AV} {L : List Int} (cl : Int) {h0 : Mem} {nx0 : Nat} (lg : Nat) (hlg : lg ≤ nx0) (m : Nat) (ts : List AV) (h : Mem) (nx tc wr : Nat) (hi : LlI 24 6 4 p s L cl h0 nx0 m ts h nx tc wr) :
    Post (xC T 120 L34_1b ts h nx lg) fun v' h' nx' tc' wr' => Round (LlI 24 6 4 p s L cl h0 nx0) (LlR 2 6 4 p s L cl h0 nx0) m v' h' nx' (tc ||| tc') (wr ||| wr') := by
  obtain ⟨j, u, M, rfl, hj, hlen, g0, g1, g5, g6, g23, g, hv, hM, mk⟩ := hi
  have g23 := g23 rfl
  have hn := g.n
  have ci : IntKind.i64.wrap ((j : Int) + 1) = ((j + 1 : Nat) : Int) := by rw [IntKind.wrap_i64]; omega
  by_cases c : j < 6
  · have c' : (j : Int) < 6 := by omega
    simp (maxSteps := 4000000) (maxDischargeDepth := 6) [↓step_none, ↓step_t, ↓step_f, ↓step_nt, ↓step_nf, ↓op_load, ↓op_store, ↓op_slice, ↓op_app, ↓op_islc, ↓P_skip, ↓P_exit, ↓P_ret, ↓P_seq, ↓P_cond, ↓P_blk, ↓P_reg, ↓P_draw, ↓P_nil, ↓P_cons, condP_t, condP_f, dum_ab, stepR, want_none, want_some, opRun, ev_t, ev_c, put_none, put_some, resAll, res_tmp, res_cell, oneOf, minI, maxI, min2A, max2A, mn2, mx2, mx3, rdBlk, wrBlk, newBlk, partA, abin, ibin, isShift, AV.cells, AV.one, lay, sub, fillA, lenA, toN, allApart, apartFrom, Nat.testBit, Mem.blk_set_same, Mem.blk_set_ne, Mem.set_set, bit_zero, bit_self, lowBits_or, lowBits_zero, len_setT, sl_same, sl_ne, len_frame, sl_frame,↓op_len, lenOp_slc, lenOp_nils, ↓Post.some, ↓Post_bind, ↓Post_ret, ↓Post_draw, ↓PostL_nil, ↓PostL_cons, Post_fail, ofOpt_some, ofOpt_none, eA_b, eA_i, eA_s, eA_nn, eA_np, eA_pn, eA_lnn, eA_lnp, eA_lpn, eA_i2, eA_i3, blt_dec, Nat.add_assoc, keeps_refl, keeps_at, keeps_up, new_one, and_pow, bit_hi, lowBits_pow, ble_dec, fr_refl, fr_at, fr_up, fr_p, dum_ab, reps, L34_1b, hlen, g0, g1, g5, g6, g23, c, c']
    refine g.push (by decide) 41 16 [.int .i64 5, .int .i64 j] rfl (fun k hk => fits16 hk (by omega)) rfl 41 2 lg ?_
    intro u' h2 nx2 tc2 wr2 g2 n2 k2 m2
    simp (maxSteps := 4000000) (maxDischargeDepth := 6) [↓step_none, ↓step_t, ↓step_f, ↓step_nt, ↓step_nf, ↓op_load, ↓op_store, ↓op_slice, ↓op_app, ↓op_islc, ↓P_skip, ↓P_exit, ↓P_ret, ↓P_seq, ↓P_cond, ↓P_blk, ↓P_reg, ↓P_draw, ↓P_nil, ↓P_cons, condP_t, condP_f, dum_ab, stepR, want_none, want_some, opRun, ev_t, ev_c, put_none, put_some, resAll, res_tmp, res_cell, oneOf, minI, maxI, min2A, max2A, mn2, mx2, mx3, rdBlk, wrBlk, newBlk, partA, abin, ibin, isShift, AV.cells, AV.one, lay, sub, fillA, lenA, toN, allApart, apartFrom, Nat.testBit, Mem.blk_set_same, Mem.blk_set_ne, Mem.set_set, bit_zero, bit_self, lowBits_or, lowBits_zero, len_setT, sl_same, sl_ne, len_frame, sl_frame,↓op_len, lenOp_slc, lenOp_nils, ↓Post.some, ↓Post_bind, ↓Post_ret, ↓Post_draw, ↓PostL_nil, ↓PostL_cons, Post_fail, ofOpt_some, ofOpt_none, eA_b, eA_i, eA_s, eA_nn, eA_np, eA_pn, eA_lnn, eA_lnp, eA_lpn, eA_i2, eA_i3, blt_dec, Nat.add_assoc, keeps_refl, keeps_at, keeps_up, new_one, and_pow, bit_hi, lowBits_pow, ble_dec, fr_refl, fr_at, fr_up, fr_p, dum_ab, reps, hlen, g6, ci]
    refine Round.nor (m' := 6 - (j + 1)) (by omega) ⟨j + 1, u', _, rfl, by omega, ?_, ?_, ?_, ?_, ?_, ?_, g2, v2_more hv _ _, by rw [List.length_append, hM]; rfl, mk.or m2⟩
    all_goals simp [len_setT, sl_same, sl_ne, hlen, g0, g1, g23]
  · have c' : ¬ (j : Int) < 6 := by omega
    simp (maxSteps := 4000000) (maxDischargeDepth := 6) [↓step_none, ↓step_t, ↓step_f, ↓step_nt, ↓step_nf, ↓op_load, ↓op_store, ↓op_slice, ↓op_app, ↓op_islc, ↓P_skip, ↓P_exit, ↓P_ret, ↓P_seq, ↓P_cond, ↓P_blk, ↓P_reg, ↓P_draw, ↓P_nil, ↓P_cons, condP_t, condP_f, dum_ab, stepR, want_none, want_some, opRun, ev_t, ev_c, put_none, put_some, resAll, res_tmp, res_cell, oneOf, minI, maxI, min2A, max2A, mn2, mx2, mx3, rdBlk, wrBlk, newBlk, partA, abin, ibin, isShift, AV.cells, AV.one, lay, sub, fillA, lenA, toN, allApart, apartFrom, Nat.testBit, Mem.blk_set_same, Mem.blk_set_ne, Mem.set_set, bit_zero, bit_self, lowBits_or, lowBits_zero, len_setT, sl_same, sl_ne, len_frame, sl_frame,↓op_len, lenOp_slc, lenOp_nils, ↓Post.some, ↓Post_bind, ↓Post_ret, ↓Post_draw, ↓PostL_nil, ↓PostL_cons, Post_fail, ofOpt_some, ofOpt_none, eA_b, eA_i, eA_s, eA_nn, eA_np, eA_pn, eA_lnn, eA_lnp, eA_lpn, eA_i2, eA_i3, blt_dec, Nat.add_assoc, keeps_refl, keeps_at, keeps_up, new_one, and_pow, bit_hi, lowBits_pow, ble_dec, fr_refl, fr_at, fr_up, fr_p, dum_ab, reps, L34_1b, hlen, g0, g1, g5, g6, g23, c, c']
    refine Round.exit (R := LlR 2 6 4 p s L cl h0 nx0) ⟨rfl, u, M, ?_, ?_, ?_, ?_, g, hv, by omega, mk⟩ <;> simp [len_setT, sl_same, sl_ne, hlen, g0, g1, g5]
set_option maxHeartbeats 8000000 in
theorem ll0 {p : Nat} {s : AV} {L : List Int} {cl : Int} (hc : 3 ≤ cl) (hc2 : cl ≤ 1000) {h0 : Mem} {nx0 : Nat} (lg : Nat) (hlg : lg ≤ nx0) (m : Nat) (ts : List AV) (h : Mem) (nx tc wr : Nat) (hi : LlI 8 2 10 p s L cl h0 nx0 m ts h nx tc wr) :
    Post (xC T 120 L34_0b ts h nx lg) fun v' h' nx' tc' wr' => Round (LlI 8 2 10 p s L cl h0 nx0) (LlR 4 2 10 p s L cl h0 nx0) m v' h' nx' (tc ||| tc') (wr ||| wr') := by
  obtain ⟨j, u, M, rfl, hj, hlen, g0, g1, g5, g6, _, g, hv, hM, mk⟩ := hi
  have hn := g.n
  have ci : IntKind.i64.wrap ((j : Int) + 1) = ((j + 1 : Nat) : Int) := by rw [IntKind.wrap_i64]; omega
  have cw : IntKind.i64.wrap (cl - 2) = cl - 2 := by rw [IntKind.wrap_i64]; omega
  by_cases c : j < 2
  · have c' : (j : Int) < 2 := by omega
    simp (maxSteps := 4000000) (maxDischargeDepth := 6) [↓step_none, ↓step_t, ↓step_f, ↓step_nt, ↓step_nf, ↓op_load, ↓op_store, ↓op_slice, ↓op_app, ↓op_islc, ↓P_skip, ↓P_exit, ↓P_ret, ↓P_seq, ↓P_cond, ↓P_blk, ↓P_reg, ↓P_draw, ↓P_nil, ↓P_cons, condP_t, condP_f, dum_ab, stepR, want_none, want_some, opRun, ev_t, ev_c, put_none, put_some, resAll, res_tmp, res_cell, oneOf, minI, maxI, min2A, max2A, mn2, mx2, mx3, rdBlk, wrBlk, newBlk, partA, abin, ibin, isShift, AV.cells, AV.one, lay, sub, fillA, lenA, toN, allApart, apartFrom, Nat.testBit, Mem.blk_set_same, Mem.blk_set_ne, Mem.set_set, bit_zero, bit_self, lowBits_or, lowBits_zero, len_setT, sl_same, sl_ne, len_frame, sl_frame,↓op_len, lenOp_slc, lenOp_nils, ↓Post.some, ↓Post_bind, ↓Post_ret, ↓Post_draw, ↓PostL_nil, ↓PostL_cons, Post_fail, ofOpt_some, ofOpt_none, eA_b, eA_i, eA_s, eA_nn, eA_np, eA_pn, eA_lnn, eA_lnp, eA_lpn, eA_i2, eA_i3, blt_dec, Nat.add_assoc, keeps_refl, keeps_at, keeps_up, new_one, and_pow, bit_hi, lowBits_pow, ble_dec, fr_refl, fr_at, fr_up, fr_p, dum_ab, reps, L34_0b, hlen, g0, g1, g5, g6, c, c', cw]
    refine (next_sq g (cl - 2) (by omega) (by omega)).post nx0 (by omega) (by omega) (by omega) ?_
    rintro _ h1 nx1 tc1 wr1 ⟨r1, rfl, hr1, t1⟩ n1 k1 m1 i1
    have gg := g.call t1 n1 k1
    simp (maxSteps := 4000000) (maxDischargeDepth := 6) [↓step_none, ↓step_t, ↓step_f, ↓step_nt, ↓step_nf, ↓op_load, ↓op_store, ↓op_slice, ↓op_app, ↓op_islc, ↓P_skip, ↓P_exit, ↓P_ret, ↓P_seq, ↓P_cond, ↓P_blk, ↓P_reg, ↓P_draw, ↓P_nil, ↓P_cons, condP_t, condP_f, dum_ab, stepR, want_none, want_some, opRun, ev_t, ev_c, put_none, put_some, resAll, res_tmp, res_cell, oneOf, minI, maxI, min2A, max2A, mn2, mx2, mx3, rdBlk, wrBlk, newBlk, partA, abin, ibin, isShift, AV.cells, AV.one, lay, sub, fillA, lenA, toN, allApart, apartFrom, Nat.testBit, Mem.blk_set_same, Mem.blk_set_ne, Mem.set_set, bit_zero, bit_self, lowBits_or, lowBits_zero, len_setT, sl_same, sl_ne, len_frame, sl_frame,↓op_len, lenOp_slc, lenOp_nils, ↓Post.some, ↓Post_bind, ↓Post_ret, ↓Post_draw, ↓PostL_nil, ↓PostL_cons, Post_fail, ofOpt_some, ofOpt_none, eA_b, eA_i, eA_s, eA_nn, eA_np, eA_pn, eA_lnn, eA_lnp, eA_lpn, eA_i2, eA_i3, blt_dec, Nat.add_assoc, keeps_refl, keeps_at, keeps_up, new_one, and_pow, bit_hi, lowBits_pow, ble_dec, fr_refl, fr_at, fr_up, fr_p, dum_ab, reps, hlen, g5]
    refine gg.push (by decide) 41 16 [.int .i64 6, _] rfl (fun k hk => fits16 hk (by omega)) rfl 41 2 lg ?_
    intro u' h2 nx2 tc2 wr2 g2 n2 k2 m2
    simp (maxSteps := 4000000) (maxDischargeDepth := 6) [↓step_none, ↓step_t, ↓step_f, ↓step_nt, ↓step_nf, ↓op_load, ↓op_store, ↓op_slice, ↓op_app, ↓op_islc, ↓P_skip, ↓P_exit, ↓P_ret, ↓P_seq, ↓P_cond, ↓P_blk, ↓P_reg, ↓P_draw, ↓P_nil, ↓P_cons, condP_t, condP_f, dum_ab, stepR, want_none, want_some, opRun, ev_t, ev_c, put_none, put_some, resAll, res_tmp, res_cell, oneOf, minI, maxI, min2A, max2A, mn2, mx2, mx3, rdBlk, wrBlk, newBlk, partA, abin, ibin, isShift, AV.cells, AV.one, lay, sub, fillA, lenA, toN, allApart, apartFrom, Nat.testBit, Mem.blk_set_same, Mem.blk_set_ne, Mem.set_set, bit_zero, bit_self, lowBits_or, lowBits_zero, len_setT, sl_same, sl_ne, len_frame, sl_frame,↓op_len, lenOp_slc, lenOp_nils, ↓Post.some, ↓Post_bind, ↓Post_ret, ↓Post_draw, ↓PostL_nil, ↓PostL_cons, Post_fail, ofOpt_some, ofOpt_none, eA_b, eA_i, eA_s, eA_nn, eA_np, eA_pn, eA_lnn, eA_lnp, eA_lpn, eA_i2, eA_i3, blt_dec, Nat.add_assoc, keeps_refl, keeps_at, keeps_up, new_one, and_pow, bit_hi, lowBits_pow, ble_dec, fr_refl, fr_at, fr_up, fr_p, dum_ab, reps, hlen, g6, ci]
    refine Round.nor (m' := 2 - (j + 1)) (by omega) ⟨j + 1, u', _, rfl, by omega, ?_, ?_, ?_, ?_, ?_, (fun h => absurd h (by decide)), g2, v2_more hv _ _, by rw [List.length_append, hM]; rfl, mk.or (m1.or m2)⟩
    all_goals simp [len_setT, sl_same, sl_ne, hlen, g0, g1]
  · have c' : ¬ (j : Int) < 2 := by omega
    simp (maxSteps := 4000000) (maxDischargeDepth := 6) [↓step_none, ↓step_t, ↓step_f, ↓step_nt, ↓step_nf, ↓op_load, ↓op_store, ↓op_slice, ↓op_app, ↓op_islc, ↓P_skip, ↓P_exit, ↓P_ret, ↓P_seq, ↓P_cond, ↓P_blk, ↓P_reg, ↓P_draw, ↓P_nil, ↓P_cons, condP_t, condP_f, dum_ab, stepR, want_none, want_some, opRun, ev_t, ev_c, put_none, put_some, resAll, res_tmp, res_cell, oneOf, minI, maxI, min2A, max2A, mn2, mx2, mx3, rdBlk, wrBlk, newBlk, partA, abin, ibin, isShift, AV.cells, AV.one, lay, sub, fillA, lenA, toN, allApart, apartFrom, Nat.testBit, Mem.blk_set_same, Mem.blk_set_ne, Mem.set_set, bit_zero, bit_self, lowBits_or, lowBits_zero, len_setT, sl_same, sl_ne, len_frame, sl_frame,↓op_len, lenOp_slc, lenOp_nils, ↓Post.some, ↓Post_bind, ↓Post_ret, ↓Post_draw, ↓PostL_nil, ↓PostL_cons, Post_fail, ofOpt_some, ofOpt_none, eA_b, eA_i, eA_s, eA_nn, eA_np, eA_pn, eA_lnn, eA_lnp, eA_lpn, eA_i2, eA_i3, blt_dec, Nat.add_assoc, keeps_refl, keeps_at, keeps_up, new_one, and_pow, bit_hi, lowBits_pow, ble_dec, fr_refl, fr_at, fr_up, fr_p, dum_ab, reps, L34_0b, hlen, g0, g1, g5, g6, c, c']
    refine Round.exit (R := LlR 4 2 10 p s L cl h0 nx0) ⟨rfl, u, M, ?_, ?_, ?_, ?_, g, hv, by omega, mk⟩ <;> simp [len_setT, sl_same, sl_ne, hlen, g0, g1, g5]
set_option maxHeartbeats 8000000 in
theorem lits_tp {p : Nat} {s : AV} {L : List Int} {h : Mem} {nx : Nat} (t : TP h nx p s L) {cl : Int} (hc : 3 ≤ cl) (hc2 : cl ≤ 1000) : TpC p s 300 34 [.ptr p 0, .int .i64 cl] h nx fun v h' nx' => ∃ M, Sq p s L h nx 2 h' nx' v M ∧ (∀ y ∈ M, V2 y) ∧ M.length = 14 := by
  intro lg hlg
  rw [xF_fr T34]
  simp (maxSteps := 4000000) (maxDischargeDepth := 6) [↓step_none, ↓step_t, ↓step_f, ↓step_nt, ↓step_nf, ↓op_load, ↓op_store, ↓op_slice, ↓op_app, ↓op_islc, ↓P_skip, ↓P_exit, ↓P_ret, ↓P_seq, ↓P_cond, ↓P_blk, ↓P_reg, ↓P_draw, ↓P_nil, ↓P_cons, condP_t, condP_f, dum_ab, stepR, want_none, want_some, opRun, ev_t, ev_c, put_none, put_some, resAll, res_tmp, res_cell, oneOf, minI, maxI, min2A, max2A, mn2, mx2, mx3, rdBlk, wrBlk, newBlk, partA, abin, ibin, isShift, AV.cells, AV.one, lay, sub, fillA, lenA, toN, allApart, apartFrom, Nat.testBit, Mem.blk_set_same, Mem.blk_set_ne, Mem.set_set, bit_zero, bit_self, lowBits_or, lowBits_zero, len_setT, sl_same, sl_ne, len_frame, sl_frame,↓op_len, lenOp_slc, lenOp_nils, ↓Post.some, ↓Post_bind, ↓Post_ret, ↓Post_draw, ↓PostL_nil, ↓PostL_cons, Post_fail, ofOpt_some, ofOpt_none, eA_b, eA_i, eA_s, eA_nn, eA_np, eA_pn, eA_lnn, eA_lnp, eA_lpn, eA_i2, eA_i3, blt_dec, Nat.add_assoc, keeps_refl, keeps_at, keeps_up, new_one, and_pow, bit_hi, lowBits_pow, ble_dec, fr_refl, fr_at, fr_up, fr_p, dum_ab, reps, F34, L34_2]
  refine Post.loop (ll2 (p := p) (s := s) (L := L) (h0 := h) (nx0 := nx) cl lg hlg) 4 ⟨0, .nils, [], rfl, by omega, ?_, ?_, ?_, ?_, ?_, (fun h => absurd h (by decide)), Sq.ofTP t 2, (fun y hy => nomatch hy), rfl, Mk.z ..⟩ ?_ ?_
  any_goals simp (maxDischargeDepth := 6) [len_setT, sl_same, sl_ne, sl_frame, len_frame]
  rintro e ts1 h1 nx1 tc1 wr1 ⟨rfl, u1, M1, hlen1, a0, a1, a5, g1, v1, l1, m1⟩
  simp (maxSteps := 4000000) (maxDischargeDepth := 6) [↓step_none, ↓step_t, ↓step_f, ↓step_nt, ↓step_nf, ↓op_load, ↓op_store, ↓op_slice, ↓op_app, ↓op_islc, ↓P_skip, ↓P_exit, ↓P_ret, ↓P_seq, ↓P_cond, ↓P_blk, ↓P_reg, ↓P_draw, ↓P_nil, ↓P_cons, condP_t, condP_f, dum_ab, stepR, want_none, want_some, opRun, ev_t, ev_c, put_none, put_some, resAll, res_tmp, res_cell, oneOf, minI, maxI, min2A, max2A, mn2, mx2, mx3, rdBlk, wrBlk, newBlk, partA, abin, ibin, isShift, AV.cells, AV.one, lay, sub, fillA, lenA, toN, allApart, apartFrom, Nat.testBit, Mem.blk_set_same, Mem.blk_set_ne, Mem.set_set, bit_zero, bit_self, lowBits_or, lowBits_zero, len_setT, sl_same, sl_ne, len_frame, sl_frame,↓op_len, lenOp_slc, lenOp_nils, ↓Post.some, ↓Post_bind, ↓Post_ret, ↓Post_draw, ↓PostL_nil, ↓PostL_cons, Post_fail, ofOpt_some, ofOpt_none, eA_b, eA_i, eA_s, eA_nn, eA_np, eA_pn, eA_lnn, eA_lnp, eA_lpn, eA_i2, eA_i3, blt_dec, Nat.add_assoc, keeps_refl, keeps_at, keeps_up, new_one, and_pow, bit_hi, lowBits_pow, ble_dec, fr_refl, fr_at, fr_up, fr_p, dum_ab, reps, hlen1, L34_1]
  have n1 := g1.n
  refine (nms_tp p s h1 nx1).post nx (by omega) (by omega) (by omega) ?_
  rintro _ h2 nx2 tc2 wr2 ⟨⟨rfl, hk2⟩, _⟩ hn2 _ mk2 _
  have g2 := g1.keeps hn2 hk2
  simp (maxSteps := 4000000) (maxDischargeDepth := 6) [↓step_none, ↓step_t, ↓step_f, ↓step_nt, ↓step_nf, ↓op_load, ↓op_store, ↓op_slice, ↓op_app, ↓op_islc, ↓P_skip, ↓P_exit, ↓P_ret, ↓P_seq, ↓P_cond, ↓P_blk, ↓P_reg, ↓P_draw, ↓P_nil, ↓P_cons, condP_t, condP_f, dum_ab, stepR, want_none, want_some, opRun, ev_t, ev_c, put_none, put_some, resAll, res_tmp, res_cell, oneOf, minI, maxI, min2A, max2A, mn2, mx2, mx3, rdBlk, wrBlk, newBlk, partA, abin, ibin, isShift, AV.cells, AV.one, lay, sub, fillA, lenA, toN, allApart, apartFrom, Nat.testBit, Mem.blk_set_same, Mem.blk_set_ne, Mem.set_set, bit_zero, bit_self, lowBits_or, lowBits_zero, len_setT, sl_same, sl_ne, len_frame, sl_frame,↓op_len, lenOp_slc, lenOp_nils, ↓Post.some, ↓Post_bind, ↓Post_ret, ↓Post_draw, ↓PostL_nil, ↓PostL_cons, Post_fail, ofOpt_some, ofOpt_none, eA_b, eA_i, eA_s, eA_nn, eA_np, eA_pn, eA_lnn, eA_lnp, eA_lpn, eA_i2, eA_i3, blt_dec, Nat.add_assoc, keeps_refl, keeps_at, keeps_up, new_one, and_pow, bit_hi, lowBits_pow, ble_dec, fr_refl, fr_at, fr_up, fr_p, dum_ab, reps, hlen1, L34_1]
  refine Post.loop (ll1 (p := p) (s := s) (L := L) (h0 := h) (nx0 := nx) cl lg hlg) 6 ⟨0, u1, M1, rfl, by omega, ?_, ?_, ?_, ?_, ?_, ?_, g2, v1, by omega, Mk.z ..⟩ ?_ ?_
  any_goals simp (maxDischargeDepth := 6) [len_setT, sl_same, sl_ne, hlen1, a0, a1, a5]
  rintro e ts3 h3 nx3 tc3 wr3 ⟨rfl, u3, M3, hlen3, b0, b1, b5, g3, v3, l3, m3⟩
  simp (maxSteps := 4000000) (maxDischargeDepth := 6) [↓step_none, ↓step_t, ↓step_f, ↓step_nt, ↓step_nf, ↓op_load, ↓op_store, ↓op_slice, ↓op_app, ↓op_islc, ↓P_skip, ↓P_exit, ↓P_ret, ↓P_seq, ↓P_cond, ↓P_blk, ↓P_reg, ↓P_draw, ↓P_nil, ↓P_cons, condP_t, condP_f, dum_ab, stepR, want_none, want_some, opRun, ev_t, ev_c, put_none, put_some, resAll, res_tmp, res_cell, oneOf, minI, maxI, min2A, max2A, mn2, mx2, mx3, rdBlk, wrBlk, newBlk, partA, abin, ibin, isShift, AV.cells, AV.one, lay, sub, fillA, lenA, toN, allApart, apartFrom, Nat.testBit, Mem.blk_set_same, Mem.blk_set_ne, Mem.set_set, bit_zero, bit_self, lowBits_or, lowBits_zero, len_setT, sl_same, sl_ne, len_frame, sl_frame,↓op_len, lenOp_slc, lenOp_nils, ↓Post.some, ↓Post_bind, ↓Post_ret, ↓Post_draw, ↓PostL_nil, ↓PostL_cons, Post_fail, ofOpt_some, ofOpt_none, eA_b, eA_i, eA_s, eA_nn, eA_np, eA_pn, eA_lnn, eA_lnp, eA_lpn, eA_i2, eA_i3, blt_dec, Nat.add_assoc, keeps_refl, keeps_at, keeps_up, new_one, and_pow, bit_hi, lowBits_pow, ble_dec, fr_refl, fr_at, fr_up, fr_p, dum_ab, reps, hlen3, L34_0]
  refine Post.loop (ll0 (p := p) (s := s) (L := L) (h0 := h) (nx0 := nx) hc hc2 lg hlg) 2 ⟨0, u3, M3, rfl, by omega, ?_, ?_, ?_, ?_, ?_, (fun h => absurd h (by decide)), g3, v3, by omega, Mk.z ..⟩ ?_ ?_
  any_goals simp (maxDischargeDepth := 6) [len_setT, sl_same, sl_ne, hlen3, b0, b1, b5]
  rintro e ts4 h4 nx4 tc4 wr4 ⟨rfl, u4, M4, hlen4, c0, c1, c5, g4, v4, l4, m4⟩
  simp (maxSteps := 4000000) (maxDischargeDepth := 6) [↓step_none, ↓step_t, ↓step_f, ↓step_nt, ↓step_nf, ↓op_load, ↓op_store, ↓op_slice, ↓op_app, ↓op_islc, ↓P_skip, ↓P_exit, ↓P_ret, ↓P_seq, ↓P_cond, ↓P_blk, ↓P_reg, ↓P_draw, ↓P_nil, ↓P_cons, condP_t, condP_f, dum_ab, stepR, want_none, want_some, opRun, ev_t, ev_c, put_none, put_some, resAll, res_tmp, res_cell, oneOf, minI, maxI, min2A, max2A, mn2, mx2, mx3, rdBlk, wrBlk, newBlk, partA, abin, ibin, isShift, AV.cells, AV.one, lay, sub, fillA, lenA, toN, allApart, apartFrom, Nat.testBit, Mem.blk_set_same, Mem.blk_set_ne, Mem.set_set, bit_zero, bit_self, lowBits_or, lowBits_zero, len_setT, sl_same, sl_ne, len_frame, sl_frame,↓op_len, lenOp_slc, lenOp_nils, ↓Post.some, ↓Post_bind, ↓Post_ret, ↓Post_draw, ↓PostL_nil, ↓PostL_cons, Post_fail, ofOpt_some, ofOpt_none, eA_b, eA_i, eA_s, eA_nn, eA_np, eA_pn, eA_lnn, eA_lnp, eA_lpn, eA_i2, eA_i3, blt_dec, Nat.add_assoc, keeps_refl, keeps_at, keeps_up, new_one, and_pow, bit_hi, lowBits_pow, ble_dec, fr_refl, fr_at, fr_up, fr_p, dum_ab, reps, hlen4, c5]
  have n4 := g4.n
  have gx : RD 2 (.slc nx4 0 2 (some 2)) (h4.set nx4 (some ⟨41, 2, true, false, [.int .i64 7, .int .i64 7, .int .i64 7, .int .i64 8]⟩)) (nx4 + 1) [[.int .i64 7, .int .i64 7], [.int .i64 7, .int .i64 8]] := RD.lit (t := 41) (z := 2) (o := true) (g := false) rfl (by simp) (by omega) (by rw [Mem.blk_set_same]; rfl)
  refine (g4.new _).cat (by decide) 41 16 gx (fun k hk => fits16 (n := 15) (by simp at hk; omega) (by omega)) rfl (fun b hb => by cases hb; omega) lg ?_
  intro u5 h5 nx5 tc5 wr5 g5 n5 k5 m5
  simp (maxSteps := 4000000) (maxDischargeDepth := 6) [↓step_none, ↓step_t, ↓step_f, ↓step_nt, ↓step_nf, ↓op_load, ↓op_store, ↓op_slice, ↓op_app, ↓op_islc, ↓P_skip, ↓P_exit, ↓P_ret, ↓P_seq, ↓P_cond, ↓P_blk, ↓P_reg, ↓P_draw, ↓P_nil, ↓P_cons, condP_t, condP_f, dum_ab, stepR, want_none, want_some, opRun, ev_t, ev_c, put_none, put_some, resAll, res_tmp, res_cell, oneOf, minI, maxI, min2A, max2A, mn2, mx2, mx3, rdBlk, wrBlk, newBlk, partA, abin, ibin, isShift, AV.cells, AV.one, lay, sub, fillA, lenA, toN, allApart, apartFrom, Nat.testBit, Mem.blk_set_same, Mem.blk_set_ne, Mem.set_set, bit_zero, bit_self, lowBits_or, lowBits_zero, len_setT, sl_same, sl_ne, len_frame, sl_frame,↓op_len, lenOp_slc, lenOp_nils, ↓Post.some, ↓Post_bind, ↓Post_ret, ↓Post_draw, ↓PostL_nil, ↓PostL_cons, Post_fail, ofOpt_some, ofOpt_none, eA_b, eA_i, eA_s, eA_nn, eA_np, eA_pn, eA_lnn, eA_lnp, eA_lpn, eA_i2, eA_i3, blt_dec, Nat.add_assoc, keeps_refl, keeps_at, keeps_up, new_one, and_pow, bit_hi, lowBits_pow, ble_dec, fr_refl, fr_at, fr_up, fr_p, dum_ab, reps, hlen4]
  refine ⟨⟨_, g5, fun y hy => ?_, by rw [List.length_append]; simp; omega⟩, g5.n, g5.k, ?_⟩
  · rcases List.mem_append.1 hy with hy | hy
    · exact v4 y hy
    · simp only [List.mem_cons, List.not_mem_nil, or_false] at hy
      rcases hy with rfl | rfl <;> exact ⟨_, _, rfl⟩
  · first | exact m1.or (mk2.or (m3.or (m4.or m5))) | (simp only [Nat.or_assoc]; exact m1.or (mk2.or (m3.or (m4.or m5))))
end Go.Proofs.YtlbjdkhpabpmiaaT
