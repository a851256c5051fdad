/- The tape: a method. -/
import Derived.Test.YtlbjdkhpabpmiaaLt
namespace Go.Proofs.YtlbjdkhpabpmiaaT
open Go Go.Proofs.YtlbjdkhpabpmiaaE Go.Proofs.YtlbjdkhpabpmiaaB
set_option linter.unusedSimpArgs false
set_option linter.unusedVariables false
attribute [local congr] Post_cg PostL_cg condP_cg

/-- A method on its way: its block b, its literals u, its code c. -/
structure Ms (p : Nat) (s : AV) (L : List Int) (h0 : Mem) (nx0 : Nat) (a : Int) (b : Nat) (u : AV) (M : List (List AV)) (h : Mem) (nx : Nat) (c : AV) (l : List Int) : Prop where
  sp : Sp p s L h0 nx0 .nils h nx c l
  blk : h.blk b = some ⟨37, 4, true, false, [.int .i64 a, .int .i64 2, u, c]⟩
  bn : nx0 ≤ b
  bl : b < nx
  cb : bid c ≠ some b
  uo : OW 2 u h nx M
  un : ∀ x, bid u = some x → nx0 ≤ x
  uc : ∀ x, bid u = some x → bid c ≠ some x
  ub : bid u ≠ some b
  hp : p < nx0
  hs : ∀ x, bid s = some x → x < nx0
theorem Ms.keeps {p : Nat} {s : AV} {L : List Int} {h0 : Mem} {nx0 : Nat} {a : Int} {b : Nat} {u : AV} {M : List (List AV)} {h h' : Mem} {nx nx' : Nat} {c : AV} {l : List Int} (g : Ms p s L h0 nx0 a b u M h nx c l) (hn : nx ≤ nx') (e : ∀ q, q < nx → h'.blk q = h.blk q) : Ms p s L h0 nx0 a b u M h' nx' c l :=
  ⟨g.sp.keeps hn e, (e b g.bl).trans g.blk, g.bn, by have := g.bl; omega, g.cb, g.uo.keeps hn e, g.un, g.uc, g.ub, g.hp, g.hs⟩
/-- The code's slice changes. -/
theorem Ms.step {p : Nat} {s : AV} {L : List Int} {h0 : Mem} {nx0 : Nat} {a : Int} {b : Nat} {u : AV} {M : List (List AV)} {h h' : Mem} {nx nx' : Nat} {c : AV} {l : List Int} (g : Ms p s L h0 nx0 a b u M h nx c l) {c' : AV} {l' : List Int} (g' : Sp p s L h nx c h' nx' c' l') :
    h'.blk b = some ⟨37, 4, true, false, [.int .i64 a, .int .i64 2, u, c]⟩ ∧ Ms p s L h0 nx0 a b u M (h'.set b (some ⟨37, 4, true, false, [.int .i64 a, .int .i64 2, u, c']⟩)) nx' c' l' := by
  have hp := g.hp
  have bn := g.bn
  have bl := g.bl
  have n' := g'.n
  have own : ∀ q, bid c' = some q → bid c = some q ∨ nx ≤ q := g'.own
  have sp := g.sp.under g'
  have cb : bid c' ≠ some b := fun e => by
    rcases own b e with e | e
    · exact g.cb e
    · omega
  have kb : h'.blk b = some ⟨37, 4, true, false, [.int .i64 a, .int .i64 2, u, c]⟩ := (g'.k b bl (by omega) g.cb).trans g.blk
  refine ⟨kb, ⟨?_, Mem.blk_set_same .., bn, by omega, cb, ?_, g.un, fun x hx e => ?_, g.ub, hp, g.hs⟩⟩
  · have ht := sp.tp
    refine ⟨ht.keep (Nat.le_refl _) fun q hq hx => Mem.blk_set_ne _ _ _ _ fun e => ?_, sp.ow.keep (Nat.le_refl _) fun q hq => Mem.blk_set_ne _ _ _ _ fun e => cb (e ▸ hq), sp.ok, sp.len, sp.cp, sp.cs, sp.own, sp.n, fun q hq x y => ?_⟩
    · subst e
      rcases hx with e | e
      · omega
      · have hs := g.hs q e
        omega
    · rw [Mem.blk_set_ne _ _ _ _ (by omega)]
      exact sp.k q hq x y
  · refine (g.uo.keep (show nx ≤ nx' from n') fun x hx => ?_)
    rw [Mem.blk_set_ne _ _ _ _ (fun (e : x = b) => g.ub (e ▸ hx))]
    have := g.un x hx
    exact g'.k x (g.uo.lt hx) (by omega) (g.uc x hx)
  · rcases own x e with e | e
    · exact g.uc x hx e
    · have := g.uo.lt hx; omega
theorem Sp.mk1 {p : Nat} {s : AV} {L : List Int} {h0 : Mem} {nx0 : Nat} {h : Mem} {nx : Nat} {c : AV} {l : List Int} (g : Sp p s L h0 nx0 .nils h nx c l) {tc wr : Nat} (w : ∀ q, q < nx → ¬ XP p c q → wr &&& 2 ^ q = 0) (t : ∀ q, q < nx → ¬ YP p c s q → tc &&& 2 ^ q = 0) : Mk p s nx0 tc wr := by
  have hn := g.n
  have no : ∀ q, q < nx0 → bid c ≠ some q := fun q hq e => by
    rcases g.own q e with e | e
    · cases e
    · omega
  refine ⟨fun q hq hp => w q (by omega) fun e => ?_, fun q hq hp => t q (by omega) fun e => ?_⟩
  · rcases e with e | e
    · exact hp e
    · exact no q hq e
  · rcases e with (e | e) | e
    · exact hp (.inl e)
    · exact no q hq e
    · exact hp (.inr e)
theorem Sp.mkc {p : Nat} {s : AV} {L : List Int} {h0 : Mem} {nx0 : Nat} {h : Mem} {nx : Nat} {c : AV} {l : List Int} (g : Sp p s L h0 nx0 .nils h nx c l) {tc wr : Nat} (w : ∀ q, q < nx → ¬ bid c = some q → wr &&& 2 ^ q = 0) (t : ∀ q, q < nx → ¬ bid c = some q → tc &&& 2 ^ q = 0) : Mk p s nx0 tc wr :=
  g.mk1 (fun q hq hx => w q hq fun e => hx (.inr e)) (fun q hq hx => t q hq fun e => hx (.inl (.inr e)))
theorem Sp.mkn {p : Nat} {s : AV} {L : List Int} {h0 : Mem} {nx0 : Nat} {h : Mem} {nx : Nat} {c : AV} {l : List Int} (g : Sp p s L h0 nx0 .nils h nx c l) {tc wr : Nat} (w : ∀ q, q < nx → ¬ q = p → wr &&& 2 ^ q = 0) (t : ∀ q, q < nx → ¬ (q = p ∨ bid s = some q) → tc &&& 2 ^ q = 0) : Mk p s nx0 tc wr :=
  g.mk1 (fun q hq hx => w q hq fun e => hx (.inl e)) (fun q hq hx => t q hq fun e => hx (e.elim (fun e => .inl (.inl e)) .inr))
def MeI (p : Nat) (s : AV) (L : List Int) (h0 : Mem) (nx0 : Nat) (a cl : Int) (bl : Bool) (b8 b : Nat) (u : AV) (M : List (List AV)) (m : Nat) (ts : List AV) (h : Mem) (nx tc wr : Nat) : Prop := ∃ (c : AV) (l : List Int), m ≤ 5 ∧ ts.length = 60 ∧ sl ts 0 = .ptr p 0 ∧ sl ts 3 = .bool bl ∧ sl ts 8 = .ptr b8 0 ∧ sl ts 9 = .ptr b 0 ∧ sl ts 10 = .int .i64 m ∧ Ms p s L h0 nx0 a b u M h nx c l ∧ l.length + 12 * m ≤ 60 ∧ h.blk b8 = some ⟨37, 4, true, false, [.int .i64 0, .int .i64 0, .nils, .nils]⟩ ∧ bid c ≠ some b8 ∧ Mk p s nx0 tc wr
def MeR (p : Nat) (s : AV) (L : List Int) (h0 : Mem) (nx0 : Nat) (a cl : Int) (bl : Bool) (b8 b : Nat) (u : AV) (M : List (List AV)) (e : Ex) (ts : List AV) (h : Mem) (nx tc wr : Nat) : Prop := e = .exit 0 ∧ ∃ (c : AV) (l : List Int), ts.length = 60 ∧ sl ts 0 = .ptr p 0 ∧ sl ts 3 = .bool bl ∧ sl ts 8 = .ptr b8 0 ∧ sl ts 9 = .ptr b 0 ∧ Ms p s L h0 nx0 a b u M h nx c l ∧ l.length ≤ 60 ∧ h.blk b8 = some ⟨37, 4, true, false, [.int .i64 0, .int .i64 0, .nils, .nils]⟩ ∧ bid c ≠ some b8 ∧ Mk p s nx0 tc wr
set_option maxHeartbeats 8000000 in
theorem me_round {p : Nat} {s : AV} {L : List Int} {h0 : Mem} {nx0 : Nat} (a cl : Int) (bl : Bool) (b8 b : Nat) (hb8 : nx0 ≤ b8) (hbb : b8 < b) (u : AV) (M : List (List AV)) (lg : Nat) (hlg : lg ≤ nx0) (m : Nat) (ts : List AV) (h : Mem) (nx tc wr : Nat) (hi : MeI p s L h0 nx0 a cl bl b8 b u M m ts h nx tc wr) :
    Post (xC T 300 L21_0b ts h nx lg) fun v' h' nx' tc' wr' => Round (MeI p s L h0 nx0 a cl bl b8 b u M) (MeR p s L h0 nx0 a cl bl b8 b u M) m v' h' nx' (tc ||| tc') (wr ||| wr') := by
  obtain ⟨c, l, hm, hlen, g0, g3, g8, g9, g10, g, hl, hB, hcB, mk⟩ := hi
  have hn := g.sp.n
  have hp := g.hp
  by_cases cm : 0 < m
  · have cm' : (0 : Int) < (m : Int) := by omega
    have ci : IntKind.i64.wrap ((m : Int) - 1) = ((m - 1 : Nat) : Int) := by rw [IntKind.wrap_i64]; omega
    have l3 := fun lg => ld_at g.blk g.bl (o := 3) (v := c) rfl lg
    simp (maxSteps := 4000000) (maxDischargeDepth := 6) [↓step_none, ↓step_t, ↓step_f, ↓step_nt, ↓step_nf, ↓op_load, ↓op_store, ↓op_slice, ↓op_app, ↓op_islc, ↓P_skip, ↓P_exit, ↓P_ret, ↓P_seq, ↓P_cond, ↓P_blk, ↓P_reg, ↓P_draw, ↓P_nil, ↓P_cons, condP_t, condP_f, dum_ab, stepR, want_none, want_some, opRun, ev_t, ev_c, put_none, put_some, resAll, res_tmp, res_cell, oneOf, minI, maxI, min2A, max2A, mn2, mx2, mx3, rdBlk, wrBlk, newBlk, partA, abin, ibin, isShift, AV.cells, AV.one, lay, sub, fillA, lenA, toN, allApart, apartFrom, Nat.testBit, Mem.blk_set_same, Mem.blk_set_ne, Mem.set_set, bit_zero, bit_self, lowBits_or, lowBits_zero, len_setT, sl_same, sl_ne, len_frame, sl_frame,↓op_len, lenOp_slc, lenOp_nils, ↓Post.some, ↓Post_bind, ↓Post_ret, ↓Post_draw, ↓PostL_nil, ↓PostL_cons, Post_fail, ofOpt_some, ofOpt_none, eA_b, eA_i, eA_s, eA_nn, eA_np, eA_pn, eA_lnn, eA_lnp, eA_lpn, eA_i2, eA_i3, blt_dec, Nat.add_assoc, keeps_refl, keeps_at, keeps_up, new_one, and_pow, bit_hi, lowBits_pow, ble_dec, fr_refl, fr_at, fr_up, fr_p, dum_ab, reps, L21_0b, hlen, g0, g3, g8, g9, g10, cm, cm', l3]
    refine (piece_fx g.sp (by omega)).post (by omega) (by omega) ?_
    rintro v h1 nx1 tc1 wr1 ⟨l', g1, hl'⟩ n1 k1 w1 t1
    obtain ⟨kb, g2⟩ := g.step g1
    have hb1 : b < nx1 := by have := g.bl; omega
    have one : (AV.agg [v]).cells.all AV.one = true := by
      have := g1.ow.one.2
      simp [AV.cells, this]
    have cel : v.cells = [v] := g1.ow.one.1
    have st := fun lg => st_at kb hb1 (n := 1) (o := 3) v (by rw [cel]; rfl) (by rw [cel]; exact one) (by simp) lg
    have e1 : lay [AV.int .i64 a, AV.int .i64 2, u, c] 3 [v] = [AV.int .i64 a, AV.int .i64 2, u, v] := rfl
    rw [cel] at st
    simp only [e1] at st
    simp (maxSteps := 4000000) (maxDischargeDepth := 6) [↓step_none, ↓step_t, ↓step_f, ↓step_nt, ↓step_nf, ↓op_load, ↓op_store, ↓op_slice, ↓op_app, ↓op_islc, ↓P_skip, ↓P_exit, ↓P_ret, ↓P_seq, ↓P_cond, ↓P_blk, ↓P_reg, ↓P_draw, ↓P_nil, ↓P_cons, condP_t, condP_f, dum_ab, stepR, want_none, want_some, opRun, ev_t, ev_c, put_none, put_some, resAll, res_tmp, res_cell, oneOf, minI, maxI, min2A, max2A, mn2, mx2, mx3, rdBlk, wrBlk, newBlk, partA, abin, ibin, isShift, AV.cells, AV.one, lay, sub, fillA, lenA, toN, allApart, apartFrom, Nat.testBit, Mem.blk_set_same, Mem.blk_set_ne, Mem.set_set, bit_zero, bit_self, lowBits_or, lowBits_zero, len_setT, sl_same, sl_ne, len_frame, sl_frame,↓op_len, lenOp_slc, lenOp_nils, ↓Post.some, ↓Post_bind, ↓Post_ret, ↓Post_draw, ↓PostL_nil, ↓PostL_cons, Post_fail, ofOpt_some, ofOpt_none, eA_b, eA_i, eA_s, eA_nn, eA_np, eA_pn, eA_lnn, eA_lnp, eA_lpn, eA_i2, eA_i3, blt_dec, Nat.add_assoc, keeps_refl, keeps_at, keeps_up, new_one, and_pow, bit_hi, lowBits_pow, ble_dec, fr_refl, fr_at, fr_up, fr_p, dum_ab, reps, hlen, g9, g10, st, ci]
    have h8 : b8 < nx := by have := g.bl; omega
    refine Round.nor (m' := m - 1) (by omega) ⟨v, l', by omega, ?_, ?_, ?_, ?_, ?_, ?_, g2, by omega, ?_, ?_, ?_⟩
    any_goals simp [len_setT, sl_same, sl_ne, hlen, g0, g3, g8, g9]
    · rw [Mem.blk_set_ne _ _ _ _ (by omega)]
      exact (k1 b8 h8 fun e => by rcases e with e | e; omega; exact hcB e).trans hB
    · intro e
      rcases g1.own b8 e with e | e
      · exact hcB e
      · omega
    · have m1 : Mk p s nx0 tc1 wr1 := g.sp.mk1 w1 t1
      have := mk.or ((Mk.b (lg := lg) g.bn).or (m1.or (Mk.bw (lg := lg) g.bn)))
      rw [Nat.zero_or] at this
      exact this
  · obtain rfl : m = 0 := by omega
    simp (maxSteps := 4000000) (maxDischargeDepth := 6) [↓step_none, ↓step_t, ↓step_f, ↓step_nt, ↓step_nf, ↓op_load, ↓op_store, ↓op_slice, ↓op_app, ↓op_islc, ↓P_skip, ↓P_exit, ↓P_ret, ↓P_seq, ↓P_cond, ↓P_blk, ↓P_reg, ↓P_draw, ↓P_nil, ↓P_cons, condP_t, condP_f, dum_ab, stepR, want_none, want_some, opRun, ev_t, ev_c, put_none, put_some, resAll, res_tmp, res_cell, oneOf, minI, maxI, min2A, max2A, mn2, mx2, mx3, rdBlk, wrBlk, newBlk, partA, abin, ibin, isShift, AV.cells, AV.one, lay, sub, fillA, lenA, toN, allApart, apartFrom, Nat.testBit, Mem.blk_set_same, Mem.blk_set_ne, Mem.set_set, bit_zero, bit_self, lowBits_or, lowBits_zero, len_setT, sl_same, sl_ne, len_frame, sl_frame,↓op_len, lenOp_slc, lenOp_nils, ↓Post.some, ↓Post_bind, ↓Post_ret, ↓Post_draw, ↓PostL_nil, ↓PostL_cons, Post_fail, ofOpt_some, ofOpt_none, eA_b, eA_i, eA_s, eA_nn, eA_np, eA_pn, eA_lnn, eA_lnp, eA_lpn, eA_i2, eA_i3, blt_dec, Nat.add_assoc, keeps_refl, keeps_at, keeps_up, new_one, and_pow, bit_hi, lowBits_pow, ble_dec, fr_refl, fr_at, fr_up, fr_p, dum_ab, reps, L21_0b, hlen, g0, g3, g8, g9, g10]
    refine Round.exit (R := MeR p s L h0 nx0 a cl bl b8 b u M) ⟨rfl, c, l, ?_, ?_, ?_, ?_, ?_, g, by omega, hB, hcB, mk⟩ <;> simp [len_setT, sl_same, sl_ne, hlen, g0, g3, g8, g9]
theorem one4 {a b : Int} {u c : AV} (h : u.one = true) (hc : c.one = true) : [AV.int .i64 a, .int .i64 b, u, c].all AV.one = true := by
  simp only [List.all_cons, List.all_nil, h, hc]
  rfl
def MeS (p : Nat) (s : AV) (L : List Int) (h0 : Mem) (nx0 : Nat) (a : Int) (bl : Bool) (b8 b : Nat) (u : AV) (M : List (List AV)) (k : Nat) (ts : List AV) (h : Mem) (nx : Nat) : Prop := ∃ (c : AV) (l : List Int), ts.length = 60 ∧ sl ts 0 = .ptr p 0 ∧ sl ts 3 = .bool bl ∧ sl ts 8 = .ptr b8 0 ∧ sl ts 9 = .ptr b 0 ∧ Ms p s L h0 nx0 a b u M h nx c l ∧ l.length ≤ k ∧ h.blk b8 = some ⟨37, 4, true, false, [.int .i64 0, .int .i64 0, .nils, .nils]⟩ ∧ bid c ≠ some b8
/-- The code's slice is laid anew. -/
theorem Ms.put {p : Nat} {s : AV} {L : List Int} {h0 : Mem} {nx0 : Nat} {a : Int} {b8 b : Nat} {u : AV} {M : List (List AV)} {h h' : Mem} {nx nx' : Nat} {c : AV} {l : List Int} (g : Ms p s L h0 nx0 a b u M h nx c l) (hB : h.blk b8 = some ⟨37, 4, true, false, [.int .i64 0, .int .i64 0, .nils, .nils]⟩) (h8 : nx0 ≤ b8) (h8b : b8 < b) (hc8 : bid c ≠ some b8) {c' : AV} {l' : List Int} (g' : Sp p s L h nx c h' nx' c' l') :
    ∃ H, (∀ lg, stA 1 (.ptr b 3) c' h' nx' lg = some ⟨.tup [], H, nx', bit lg b, bit lg b⟩) ∧ Ms p s L h0 nx0 a b u M H nx' c' l' ∧ H.blk b8 = some ⟨37, 4, true, false, [.int .i64 0, .int .i64 0, .nils, .nils]⟩ ∧ bid c' ≠ some b8 := by
  obtain ⟨kb, g2⟩ := g.step g'
  have n1 := g'.n
  have hb1 : b < nx' := by have := g.bl; omega
  have hb2 : b8 < nx := by have := g.bl; omega
  have one : (AV.agg [c']).cells.all AV.one = true := by
    have := g'.ow.one.2
    simp [AV.cells, this]
  have cel : c'.cells = [c'] := g'.ow.one.1
  have hp := g.hp
  have st := fun lg => st_at kb hb1 (n := 1) (o := 3) c' (by rw [cel]; rfl) (by rw [cel]; exact one) (by simp) lg
  have e1 : lay [AV.int .i64 a, AV.int .i64 2, u, c] 3 [c'] = [AV.int .i64 a, AV.int .i64 2, u, c'] := rfl
  rw [cel] at st
  simp only [e1] at st
  refine ⟨_, st, g2, ?_, fun e => ?_⟩
  · rw [Mem.blk_set_ne _ _ _ _ (by omega)]
    exact (g'.k b8 hb2 (by omega) hc8).trans hB
  · rcases g'.own b8 e with e | e
    · exact hc8 e
    · omega
/-- A method, as a value: blocks of its own, from lo on. -/
def MV (lo : Nat) (h : Mem) (nx : Nat) (y : List AV) : Prop := ∃ (a : Int) (u : AV) (M : List (List AV)) (c : AV) (l : List Int), y = [.int .i64 a, .int .i64 2, u, c] ∧ OW 2 u h nx M ∧ (∀ z ∈ M, V2 z) ∧ M.length = 14 ∧ OW 1 c h nx (u8s l) ∧ Ok8 l ∧ l.length ≤ 100 ∧ (∀ x, bid u = some x → lo ≤ x) ∧ (∀ x, bid c = some x → lo ≤ x)
set_option maxHeartbeats 32000000 in
theorem method_tp {p : Nat} {s : AV} {L : List Int} {h : Mem} {nx : Nat} (t : TP h nx p s L) (a : Int) {cl : Int} (hc : 3 ≤ cl) (hc2 : cl ≤ 1000) (bl : Bool) : TpC p s 500 21 [.ptr p 0, .int .i64 a, .int .i64 cl, .bool bl] h nx fun v h' nx' => ∃ y, v = .agg y ∧ MV nx h' nx' y ∧ TP h' nx' p s L := by
  intro lg hlg
  have hp := t.hp
  rw [xF_fr T21]
  simp (maxSteps := 4000000) (maxDischargeDepth := 6) [↓step_none, ↓step_t, ↓step_f, ↓step_nt, ↓step_nf, ↓op_load, ↓op_store, ↓op_slice, ↓op_app, ↓op_islc, ↓P_skip, ↓P_exit, ↓P_ret, ↓P_seq, ↓P_cond, ↓P_blk, ↓P_reg, ↓P_draw, ↓P_nil, ↓P_cons, condP_t, condP_f, dum_ab, stepR, want_none, want_some, opRun, ev_t, ev_c, put_none, put_some, resAll, res_tmp, res_cell, oneOf, minI, maxI, min2A, max2A, mn2, mx2, mx3, rdBlk, wrBlk, newBlk, partA, abin, ibin, isShift, AV.cells, AV.one, lay, sub, fillA, lenA, toN, allApart, apartFrom, Nat.testBit, Mem.blk_set_same, Mem.blk_set_ne, Mem.set_set, bit_zero, bit_self, lowBits_or, lowBits_zero, len_setT, sl_same, sl_ne, len_frame, sl_frame,↓op_len, lenOp_slc, lenOp_nils, ↓Post.some, ↓Post_bind, ↓Post_ret, ↓Post_draw, ↓PostL_nil, ↓PostL_cons, Post_fail, ofOpt_some, ofOpt_none, eA_b, eA_i, eA_s, eA_nn, eA_np, eA_pn, eA_lnn, eA_lnp, eA_lpn, eA_i2, eA_i3, blt_dec, Nat.add_assoc, keeps_refl, keeps_at, keeps_up, new_one, and_pow, bit_hi, lowBits_pow, ble_dec, fr_refl, fr_at, fr_up, fr_p, dum_ab, reps, F21]
  obtain ⟨h1, hh1⟩ : ∃ h1, h1 = h.set nx (some ⟨37, 4, true, false, [.int .i64 0, .int .i64 0, .nils, .nils]⟩) := ⟨_, rfl⟩
  have k1 : ∀ q, q < nx → h1.blk q = h.blk q := fun q hq => by rw [hh1, Mem.blk_set_ne _ _ _ _ (by omega)]
  have B1 : h1.blk nx = some ⟨37, 4, true, false, [.int .i64 0, .int .i64 0, .nils, .nils]⟩ := by rw [hh1, Mem.blk_set_same]
  rw [← hh1]
  have t1 : TP h1 (nx + 1) p s L := t.keeps (by omega) k1
  refine (lits_tp t1 hc hc2).post nx (by omega) (by omega) (by omega) ?_
  rintro u h2 nx2 tc2 wr2 ⟨M, g2, hv, hM⟩ n2 k2 m2 _
  obtain ⟨ub, uc, rfl⟩ : ∃ ub uc, u = .slc ub 0 14 uc := by
    rcases g2.ow.form with ⟨_, e⟩ | ⟨b, c, e⟩
    · rw [e] at hM; cases hM
    · exact ⟨b, c, by rw [e, hM]⟩
  have B2 := (k2 nx (by omega) (by omega)).trans B1
  obtain ⟨H3, st3, b3, s3⟩ := st_var h2 nx2 (n := 4) (t := 37) (sz := 4) (g := false) [.int .i64 0, .int .i64 0, .nils, .nils] [.int .i64 a, .int .i64 2, .slc ub 0 14 uc, .nils] rfl rfl (one4 g2.ow.one.2 rfl)
  simp (maxSteps := 4000000) (maxDischargeDepth := 6) [↓step_none, ↓step_t, ↓step_f, ↓step_nt, ↓step_nf, ↓op_load, ↓op_store, ↓op_slice, ↓op_app, ↓op_islc, ↓P_skip, ↓P_exit, ↓P_ret, ↓P_seq, ↓P_cond, ↓P_blk, ↓P_reg, ↓P_draw, ↓P_nil, ↓P_cons, condP_t, condP_f, dum_ab, stepR, want_none, want_some, opRun, ev_t, ev_c, put_none, put_some, resAll, res_tmp, res_cell, oneOf, minI, maxI, min2A, max2A, mn2, mx2, mx3, rdBlk, wrBlk, newBlk, partA, abin, ibin, isShift, AV.cells, AV.one, lay, sub, fillA, lenA, toN, allApart, apartFrom, Nat.testBit, Mem.blk_set_same, Mem.blk_set_ne, Mem.set_set, bit_zero, bit_self, lowBits_or, lowBits_zero, len_setT, sl_same, sl_ne, len_frame, sl_frame,↓op_len, lenOp_slc, lenOp_nils, ↓Post.some, ↓Post_bind, ↓Post_ret, ↓Post_draw, ↓PostL_nil, ↓PostL_cons, Post_fail, ofOpt_some, ofOpt_none, eA_b, eA_i, eA_s, eA_nn, eA_np, eA_pn, eA_lnn, eA_lnp, eA_lpn, eA_i2, eA_i3, blt_dec, Nat.add_assoc, keeps_refl, keeps_at, keeps_up, new_one, and_pow, bit_hi, lowBits_pow, ble_dec, fr_refl, fr_at, fr_up, fr_p, dum_ab, reps, st3]
  have B3 := (s3 nx (by omega)).trans B2
  have g3 : Sq p s L h1 (nx + 1) 2 H3 (nx2 + 1) (.slc ub 0 14 uc) M := g2.keeps (by omega) s3
  refine (next_sq g3 5 (by decide) (by decide)).post nx (by omega) (by omega) (by omega) ?_
  rintro _ h4 nx4 tc4 wr4 ⟨r4, rfl, hr4, t4⟩ n4 k4 m4 _
  have g4 := g3.call t4 n4 k4
  have B4 := (k4 nx (by omega) (by omega)).trans B3
  have b4 := (k4 nx2 (by omega) (by omega)).trans b3
  have ci : IntKind.i64.wrap (1 + (r4 : Int)) = ((r4 + 1 : Nat) : Int) := by rw [IntKind.wrap_i64]; omega
  simp (maxSteps := 4000000) (maxDischargeDepth := 6) [↓step_none, ↓step_t, ↓step_f, ↓step_nt, ↓step_nf, ↓op_load, ↓op_store, ↓op_slice, ↓op_app, ↓op_islc, ↓P_skip, ↓P_exit, ↓P_ret, ↓P_seq, ↓P_cond, ↓P_blk, ↓P_reg, ↓P_draw, ↓P_nil, ↓P_cons, condP_t, condP_f, dum_ab, stepR, want_none, want_some, opRun, ev_t, ev_c, put_none, put_some, resAll, res_tmp, res_cell, oneOf, minI, maxI, min2A, max2A, mn2, mx2, mx3, rdBlk, wrBlk, newBlk, partA, abin, ibin, isShift, AV.cells, AV.one, lay, sub, fillA, lenA, toN, allApart, apartFrom, Nat.testBit, Mem.blk_set_same, Mem.blk_set_ne, Mem.set_set, bit_zero, bit_self, lowBits_or, lowBits_zero, len_setT, sl_same, sl_ne, len_frame, sl_frame,↓op_len, lenOp_slc, lenOp_nils, ↓Post.some, ↓Post_bind, ↓Post_ret, ↓Post_draw, ↓PostL_nil, ↓PostL_cons, Post_fail, ofOpt_some, ofOpt_none, eA_b, eA_i, eA_s, eA_nn, eA_np, eA_pn, eA_lnn, eA_lnp, eA_lpn, eA_i2, eA_i3, blt_dec, Nat.add_assoc, keeps_refl, keeps_at, keeps_up, new_one, and_pow, bit_hi, lowBits_pow, ble_dec, fr_refl, fr_at, fr_up, fr_p, dum_ab, reps, ci, L21_0]
  have ms4 : Ms p s L h nx a nx2 (.slc ub 0 14 uc) M h4 nx4 .nils [] := by
    refine ⟨⟨t4, OW.nil .., (fun x h => nomatch h), by decide, (by simp [bid]), (fun b h => by cases h), (fun b h => by cases h), by omega, fun q hq hp' _ => ?_⟩, b4, by omega, by omega, (by simp [bid]), g4.ow, fun x hx => ?_, (fun x _ => by intro e; cases e), fun e => ?_, hp, fun x hx => t.row.lt hx⟩
    · exact (g4.k q (by omega) hp').trans (k1 q hq)
    · have := g4.own x hx; omega
    · have := g2.ow.lt e; omega
  refine Post.loop (me_round (p := p) (s := s) (L := L) (h0 := h) (nx0 := nx) a cl bl nx nx2 (Nat.le_refl _) (by omega) (.slc ub 0 14 uc) M lg hlg) (r4 + 1) ⟨.nils, [], by omega, ?_, ?_, ?_, ?_, ?_, ?_, ms4, by simp; omega, B4, by simp [bid], Mk.z ..⟩ ?_ ?_
  any_goals simp (maxDischargeDepth := 6) [len_setT, sl_same, sl_ne, sl_frame, len_frame]
  · omega
  rintro e ts5 h5 nx5 tc5 wr5 ⟨rfl, c5, l5, hlen, a0, a3, a8, a9, g5, hl5, B5, cB5, m5⟩
  simp (maxSteps := 4000000) (maxDischargeDepth := 6) [↓step_none, ↓step_t, ↓step_f, ↓step_nt, ↓step_nf, ↓op_load, ↓op_store, ↓op_slice, ↓op_app, ↓op_islc, ↓P_skip, ↓P_exit, ↓P_ret, ↓P_seq, ↓P_cond, ↓P_blk, ↓P_reg, ↓P_draw, ↓P_nil, ↓P_cons, condP_t, condP_f, dum_ab, stepR, want_none, want_some, opRun, ev_t, ev_c, put_none, put_some, resAll, res_tmp, res_cell, oneOf, minI, maxI, min2A, max2A, mn2, mx2, mx3, rdBlk, wrBlk, newBlk, partA, abin, ibin, isShift, AV.cells, AV.one, lay, sub, fillA, lenA, toN, allApart, apartFrom, Nat.testBit, Mem.blk_set_same, Mem.blk_set_ne, Mem.set_set, bit_zero, bit_self, lowBits_or, lowBits_zero, len_setT, sl_same, sl_ne, len_frame, sl_frame,↓op_len, lenOp_slc, lenOp_nils, ↓Post.some, ↓Post_bind, ↓Post_ret, ↓Post_draw, ↓PostL_nil, ↓PostL_cons, Post_fail, ofOpt_some, ofOpt_none, eA_b, eA_i, eA_s, eA_nn, eA_np, eA_pn, eA_lnn, eA_lnp, eA_lpn, eA_i2, eA_i3, blt_dec, Nat.add_assoc, keeps_refl, keeps_at, keeps_up, new_one, and_pow, bit_hi, lowBits_pow, ble_dec, fr_refl, fr_at, fr_up, fr_p, dum_ab, reps, hlen, a0]
  have n5 := g5.sp.n
  have bn := g5.bn
  refine (next_sp g5.sp 6 (by decide) (by decide)).post (by omega) (by omega) ?_
  rintro _ h6 nx6 tc6 wr6 ⟨r6, rfl, hr6, g6'⟩ n6 k6 w6 t6
  have m6 : Mk p s nx tc6 wr6 := g5.sp.mkn w6 t6
  have hb5 := g5.bl
  have g6 : Ms p s L h nx a nx2 (.slc ub 0 14 uc) M h6 nx6 c5 l5 := ⟨g6', (k6 nx2 (by omega) (by omega)).trans g5.blk, g5.bn, by omega, g5.cb, g5.uo.keep (by omega) (fun x hx => k6 x (g5.uo.lt hx) fun e => by have := g5.un x hx; omega), g5.un, g5.uc, g5.ub, g5.hp, g5.hs⟩
  have B6 := (k6 nx (by omega) (by omega)).trans B5
  have l3 := fun lg => ld_at g6.blk g6.bl (o := 3) (v := c5) rfl lg
  simp (maxSteps := 4000000) (maxDischargeDepth := 6) [↓step_none, ↓step_t, ↓step_f, ↓step_nt, ↓step_nf, ↓op_load, ↓op_store, ↓op_slice, ↓op_app, ↓op_islc, ↓P_skip, ↓P_exit, ↓P_ret, ↓P_seq, ↓P_cond, ↓P_blk, ↓P_reg, ↓P_draw, ↓P_nil, ↓P_cons, condP_t, condP_f, dum_ab, stepR, want_none, want_some, opRun, ev_t, ev_c, put_none, put_some, resAll, res_tmp, res_cell, oneOf, minI, maxI, min2A, max2A, mn2, mx2, mx3, rdBlk, wrBlk, newBlk, partA, abin, ibin, isShift, AV.cells, AV.one, lay, sub, fillA, lenA, toN, allApart, apartFrom, Nat.testBit, Mem.blk_set_same, Mem.blk_set_ne, Mem.set_set, bit_zero, bit_self, lowBits_or, lowBits_zero, len_setT, sl_same, sl_ne, len_frame, sl_frame,↓op_len, lenOp_slc, lenOp_nils, ↓Post.some, ↓Post_bind, ↓Post_ret, ↓Post_draw, ↓PostL_nil, ↓PostL_cons, Post_fail, ofOpt_some, ofOpt_none, eA_b, eA_i, eA_s, eA_nn, eA_np, eA_pn, eA_lnn, eA_lnp, eA_lpn, eA_i2, eA_i3, blt_dec, Nat.add_assoc, keeps_refl, keeps_at, keeps_up, new_one, and_pow, bit_hi, lowBits_pow, ble_dec, fr_refl, fr_at, fr_up, fr_p, dum_ab, reps, hlen, a0]
  refine condP_cut (I := fun r h' n' tc wr => r.1 = .nor ∧ MeS p s L h nx a bl nx nx2 (.slc ub 0 14 uc) M 64 r.2 h' n' ∧ Mk p s nx tc wr) (fun _ => ?_) (fun _ => ?_) ?_
  · simp (maxSteps := 4000000) (maxDischargeDepth := 6) [↓step_none, ↓step_t, ↓step_f, ↓step_nt, ↓step_nf, ↓op_load, ↓op_store, ↓op_slice, ↓op_app, ↓op_islc, ↓P_skip, ↓P_exit, ↓P_ret, ↓P_seq, ↓P_cond, ↓P_blk, ↓P_reg, ↓P_draw, ↓P_nil, ↓P_cons, condP_t, condP_f, dum_ab, stepR, want_none, want_some, opRun, ev_t, ev_c, put_none, put_some, resAll, res_tmp, res_cell, oneOf, minI, maxI, min2A, max2A, mn2, mx2, mx3, rdBlk, wrBlk, newBlk, partA, abin, ibin, isShift, AV.cells, AV.one, lay, sub, fillA, lenA, toN, allApart, apartFrom, Nat.testBit, Mem.blk_set_same, Mem.blk_set_ne, Mem.set_set, bit_zero, bit_self, lowBits_or, lowBits_zero, len_setT, sl_same, sl_ne, len_frame, sl_frame,↓op_len, lenOp_slc, lenOp_nils, ↓Post.some, ↓Post_bind, ↓Post_ret, ↓Post_draw, ↓PostL_nil, ↓PostL_cons, Post_fail, ofOpt_some, ofOpt_none, eA_b, eA_i, eA_s, eA_nn, eA_np, eA_pn, eA_lnn, eA_lnp, eA_lpn, eA_i2, eA_i3, blt_dec, Nat.add_assoc, keeps_refl, keeps_at, keeps_up, new_one, and_pow, bit_hi, lowBits_pow, ble_dec, fr_refl, fr_at, fr_up, fr_p, dum_ab, reps, hlen, a0, a9, l3]
    refine (op_sp g6.sp.base (by omega) _ _).post (by omega) (by omega) ?_
    intro v7 h7 nx7 tc7 wr7 g7 n7 k7 w7 t7
    simp (maxSteps := 4000000) (maxDischargeDepth := 6) [↓step_none, ↓step_t, ↓step_f, ↓step_nt, ↓step_nf, ↓op_load, ↓op_store, ↓op_slice, ↓op_app, ↓op_islc, ↓P_skip, ↓P_exit, ↓P_ret, ↓P_seq, ↓P_cond, ↓P_blk, ↓P_reg, ↓P_draw, ↓P_nil, ↓P_cons, condP_t, condP_f, dum_ab, stepR, want_none, want_some, opRun, ev_t, ev_c, put_none, put_some, resAll, res_tmp, res_cell, oneOf, minI, maxI, min2A, max2A, mn2, mx2, mx3, rdBlk, wrBlk, newBlk, partA, abin, ibin, isShift, AV.cells, AV.one, lay, sub, fillA, lenA, toN, allApart, apartFrom, Nat.testBit, Mem.blk_set_same, Mem.blk_set_ne, Mem.set_set, bit_zero, bit_self, lowBits_or, lowBits_zero, len_setT, sl_same, sl_ne, len_frame, sl_frame,↓op_len, lenOp_slc, lenOp_nils, ↓Post.some, ↓Post_bind, ↓Post_ret, ↓Post_draw, ↓PostL_nil, ↓PostL_cons, Post_fail, ofOpt_some, ofOpt_none, eA_b, eA_i, eA_s, eA_nn, eA_np, eA_pn, eA_lnn, eA_lnp, eA_lpn, eA_i2, eA_i3, blt_dec, Nat.add_assoc, keeps_refl, keeps_at, keeps_up, new_one, and_pow, bit_hi, lowBits_pow, ble_dec, fr_refl, fr_at, fr_up, fr_p, dum_ab, reps, hlen, a0, a9, l3]
    refine (op_sp g7 (by simp only [List.length_append, List.length_cons, List.length_nil]; omega) _ _).post (by omega) (by omega) ?_
    intro v8 h8 nx8 tc8 wr8 g8 n8 k8 w8 t8
    obtain ⟨H, st, gH, BH, cH⟩ := g6.put B6 (Nat.le_refl _) (by omega) cB5 g8
    simp (maxSteps := 4000000) (maxDischargeDepth := 6) [↓step_none, ↓step_t, ↓step_f, ↓step_nt, ↓step_nf, ↓op_load, ↓op_store, ↓op_slice, ↓op_app, ↓op_islc, ↓P_skip, ↓P_exit, ↓P_ret, ↓P_seq, ↓P_cond, ↓P_blk, ↓P_reg, ↓P_draw, ↓P_nil, ↓P_cons, condP_t, condP_f, dum_ab, stepR, want_none, want_some, opRun, ev_t, ev_c, put_none, put_some, resAll, res_tmp, res_cell, oneOf, minI, maxI, min2A, max2A, mn2, mx2, mx3, rdBlk, wrBlk, newBlk, partA, abin, ibin, isShift, AV.cells, AV.one, lay, sub, fillA, lenA, toN, allApart, apartFrom, Nat.testBit, Mem.blk_set_same, Mem.blk_set_ne, Mem.set_set, bit_zero, bit_self, lowBits_or, lowBits_zero, len_setT, sl_same, sl_ne, len_frame, sl_frame,↓op_len, lenOp_slc, lenOp_nils, ↓Post.some, ↓Post_bind, ↓Post_ret, ↓Post_draw, ↓PostL_nil, ↓PostL_cons, Post_fail, ofOpt_some, ofOpt_none, eA_b, eA_i, eA_s, eA_nn, eA_np, eA_pn, eA_lnn, eA_lnp, eA_lpn, eA_i2, eA_i3, blt_dec, Nat.add_assoc, keeps_refl, keeps_at, keeps_up, new_one, and_pow, bit_hi, lowBits_pow, ble_dec, fr_refl, fr_at, fr_up, fr_p, dum_ab, reps, hlen, a0, a9, l3, st]
    refine ⟨⟨v8, _, ?_, ?_, ?_, ?_, ?_, gH, ?_, BH, cH⟩, ?_⟩
    any_goals simp [len_setT, sl_same, sl_ne, hlen, a0, a3, a8, a9]
    · omega
    · have a1 := g6.sp.mkc w7 t7
      have a2 := (g6.sp.under g7).mkc w8 t8
      have := (Mk.b (p := p) (s := s) (lg := lg) (show nx ≤ nx2 by omega)).or (a1.or (a2.or (Mk.bw (lg := lg) (show nx ≤ nx2 by omega))))
      rw [Nat.zero_or] at this
      exact this
  · simp (maxSteps := 4000000) (maxDischargeDepth := 6) [↓step_none, ↓step_t, ↓step_f, ↓step_nt, ↓step_nf, ↓op_load, ↓op_store, ↓op_slice, ↓op_app, ↓op_islc, ↓P_skip, ↓P_exit, ↓P_ret, ↓P_seq, ↓P_cond, ↓P_blk, ↓P_reg, ↓P_draw, ↓P_nil, ↓P_cons, condP_t, condP_f, dum_ab, stepR, want_none, want_some, opRun, ev_t, ev_c, put_none, put_some, resAll, res_tmp, res_cell, oneOf, minI, maxI, min2A, max2A, mn2, mx2, mx3, rdBlk, wrBlk, newBlk, partA, abin, ibin, isShift, AV.cells, AV.one, lay, sub, fillA, lenA, toN, allApart, apartFrom, Nat.testBit, Mem.blk_set_same, Mem.blk_set_ne, Mem.set_set, bit_zero, bit_self, lowBits_or, lowBits_zero, len_setT, sl_same, sl_ne, len_frame, sl_frame,↓op_len, lenOp_slc, lenOp_nils, ↓Post.some, ↓Post_bind, ↓Post_ret, ↓Post_draw, ↓PostL_nil, ↓PostL_cons, Post_fail, ofOpt_some, ofOpt_none, eA_b, eA_i, eA_s, eA_nn, eA_np, eA_pn, eA_lnn, eA_lnp, eA_lpn, eA_i2, eA_i3, blt_dec, Nat.add_assoc, keeps_refl, keeps_at, keeps_up, new_one, and_pow, bit_hi, lowBits_pow, ble_dec, fr_refl, fr_at, fr_up, fr_p, dum_ab, reps, hlen, a0, a9, l3]
    exact ⟨⟨c5, l5, by simp [len_setT, sl_same, sl_ne, hlen], by simp [len_setT, sl_same, sl_ne, hlen, a0], by simp [len_setT, sl_same, sl_ne, hlen, a3], by simp [len_setT, sl_same, sl_ne, hlen, a8], by simp [len_setT, sl_same, sl_ne, hlen, a9], g6, by omega, B6, cB5⟩, Mk.z ..⟩
  rintro ⟨e, ts7⟩ h7 nx7 tc7 wr7 ⟨he, ⟨c7, l7, hlen7, b0, b3', b8, b9, g7, hl7, B7, cB7⟩, m7⟩
  simp only at he
  subst he
  have lc := fun lg => ld_at g7.blk g7.bl (o := 3) (v := c7) rfl lg
  simp (maxSteps := 4000000) (maxDischargeDepth := 6) [↓step_none, ↓step_t, ↓step_f, ↓step_nt, ↓step_nf, ↓op_load, ↓op_store, ↓op_slice, ↓op_app, ↓op_islc, ↓P_skip, ↓P_exit, ↓P_ret, ↓P_seq, ↓P_cond, ↓P_blk, ↓P_reg, ↓P_draw, ↓P_nil, ↓P_cons, condP_t, condP_f, dum_ab, stepR, want_none, want_some, opRun, ev_t, ev_c, put_none, put_some, resAll, res_tmp, res_cell, oneOf, minI, maxI, min2A, max2A, mn2, mx2, mx3, rdBlk, wrBlk, newBlk, partA, abin, ibin, isShift, AV.cells, AV.one, lay, sub, fillA, lenA, toN, allApart, apartFrom, Nat.testBit, Mem.blk_set_same, Mem.blk_set_ne, Mem.set_set, bit_zero, bit_self, lowBits_or, lowBits_zero, len_setT, sl_same, sl_ne, len_frame, sl_frame,↓op_len, lenOp_slc, lenOp_nils, ↓Post.some, ↓Post_bind, ↓Post_ret, ↓Post_draw, ↓PostL_nil, ↓PostL_cons, Post_fail, ofOpt_some, ofOpt_none, eA_b, eA_i, eA_s, eA_nn, eA_np, eA_pn, eA_lnn, eA_lnp, eA_lpn, eA_i2, eA_i3, blt_dec, Nat.add_assoc, keeps_refl, keeps_at, keeps_up, new_one, and_pow, bit_hi, lowBits_pow, ble_dec, fr_refl, fr_at, fr_up, fr_p, dum_ab, reps, hlen7, b0, b9, lc]
  refine (next_sp (g7.sp.base.new _) 4 (by decide) (by decide)).postL (by omega) (by omega) ?_
  rintro _ h8 nx8 tc8 wr8 ⟨r8, rfl, hr8, g8⟩ n8 k8 w8 t8 i8
  have hp8 := g7.sp.tp.hp
  obtain ⟨o8, x8, e8, f8⟩ := lit_el (b := nx7) (nx := nx8) [7, 3, 4, 0] ((k8 nx7 (by omega) (by omega)).trans (Mem.blk_set_same ..)) (by omega) r8 (by simp; omega)
  simp only [List.length_cons, List.length_nil, Nat.reduceAdd] at e8
  simp (maxSteps := 4000000) (maxDischargeDepth := 6) [↓step_none, ↓step_t, ↓step_f, ↓step_nt, ↓step_nf, ↓op_load, ↓op_store, ↓op_slice, ↓op_app, ↓op_islc, ↓P_skip, ↓P_exit, ↓P_ret, ↓P_seq, ↓P_cond, ↓P_blk, ↓P_reg, ↓P_draw, ↓P_nil, ↓P_cons, condP_t, condP_f, dum_ab, stepR, want_none, want_some, opRun, ev_t, ev_c, put_none, put_some, resAll, res_tmp, res_cell, oneOf, minI, maxI, min2A, max2A, mn2, mx2, mx3, rdBlk, wrBlk, newBlk, partA, abin, ibin, isShift, AV.cells, AV.one, lay, sub, fillA, lenA, toN, allApart, apartFrom, Nat.testBit, Mem.blk_set_same, Mem.blk_set_ne, Mem.set_set, bit_zero, bit_self, lowBits_or, lowBits_zero, len_setT, sl_same, sl_ne, len_frame, sl_frame,↓op_len, lenOp_slc, lenOp_nils, ↓Post.some, ↓Post_bind, ↓Post_ret, ↓Post_draw, ↓PostL_nil, ↓PostL_cons, Post_fail, ofOpt_some, ofOpt_none, eA_b, eA_i, eA_s, eA_nn, eA_np, eA_pn, eA_lnn, eA_lnp, eA_lpn, eA_i2, eA_i3, blt_dec, Nat.add_assoc, keeps_refl, keeps_at, keeps_up, new_one, and_pow, bit_hi, lowBits_pow, ble_dec, fr_refl, fr_at, fr_up, fr_p, dum_ab, reps, hlen7, b0, b9, lc, e8, f8]
  refine (next_sp g8 2 (by decide) (by decide)).postL (by omega) (by omega) ?_
  rintro _ h9 nx9 tc9 wr9 ⟨r9, rfl, hr9, g9⟩ n9 k9 w9 t9 i9
  simp (maxSteps := 4000000) (maxDischargeDepth := 6) [↓step_none, ↓step_t, ↓step_f, ↓step_nt, ↓step_nf, ↓op_load, ↓op_store, ↓op_slice, ↓op_app, ↓op_islc, ↓P_skip, ↓P_exit, ↓P_ret, ↓P_seq, ↓P_cond, ↓P_blk, ↓P_reg, ↓P_draw, ↓P_nil, ↓P_cons, condP_t, condP_f, dum_ab, stepR, want_none, want_some, opRun, ev_t, ev_c, put_none, put_some, resAll, res_tmp, res_cell, oneOf, minI, maxI, min2A, max2A, mn2, mx2, mx3, rdBlk, wrBlk, newBlk, partA, abin, ibin, isShift, AV.cells, AV.one, lay, sub, fillA, lenA, toN, allApart, apartFrom, Nat.testBit, Mem.blk_set_same, Mem.blk_set_ne, Mem.set_set, bit_zero, bit_self, lowBits_or, lowBits_zero, len_setT, sl_same, sl_ne, len_frame, sl_frame,↓op_len, lenOp_slc, lenOp_nils, ↓Post.some, ↓Post_bind, ↓Post_ret, ↓Post_draw, ↓PostL_nil, ↓PostL_cons, Post_fail, ofOpt_some, ofOpt_none, eA_b, eA_i, eA_s, eA_nn, eA_np, eA_pn, eA_lnn, eA_lnp, eA_lpn, eA_i2, eA_i3, blt_dec, Nat.add_assoc, keeps_refl, keeps_at, keeps_up, new_one, and_pow, bit_hi, lowBits_pow, ble_dec, fr_refl, fr_at, fr_up, fr_p, dum_ab, reps, hlen7, b0, b9, lc, e8, f8]
  refine (op_sp g9 (by omega) _ _).postL (by omega) (by omega) ?_
  intro vA hA nxA tcA wrA gA nA kA wA tA iA
  obtain ⟨HB, stB, gB, BB, cB⟩ := g7.put B7 (Nat.le_refl _) (by omega) cB7 gA
  simp (maxSteps := 4000000) (maxDischargeDepth := 6) [↓step_none, ↓step_t, ↓step_f, ↓step_nt, ↓step_nf, ↓op_load, ↓op_store, ↓op_slice, ↓op_app, ↓op_islc, ↓P_skip, ↓P_exit, ↓P_ret, ↓P_seq, ↓P_cond, ↓P_blk, ↓P_reg, ↓P_draw, ↓P_nil, ↓P_cons, condP_t, condP_f, dum_ab, stepR, want_none, want_some, opRun, ev_t, ev_c, put_none, put_some, resAll, res_tmp, res_cell, oneOf, minI, maxI, min2A, max2A, mn2, mx2, mx3, rdBlk, wrBlk, newBlk, partA, abin, ibin, isShift, AV.cells, AV.one, lay, sub, fillA, lenA, toN, allApart, apartFrom, Nat.testBit, Mem.blk_set_same, Mem.blk_set_ne, Mem.set_set, bit_zero, bit_self, lowBits_or, lowBits_zero, len_setT, sl_same, sl_ne, len_frame, sl_frame,↓op_len, lenOp_slc, lenOp_nils, ↓Post.some, ↓Post_bind, ↓Post_ret, ↓Post_draw, ↓PostL_nil, ↓PostL_cons, Post_fail, ofOpt_some, ofOpt_none, eA_b, eA_i, eA_s, eA_nn, eA_np, eA_pn, eA_lnn, eA_lnp, eA_lpn, eA_i2, eA_i3, blt_dec, Nat.add_assoc, keeps_refl, keeps_at, keeps_up, new_one, and_pow, bit_hi, lowBits_pow, ble_dec, fr_refl, fr_at, fr_up, fr_p, dum_ab, reps, hlen7, b0, b9, stB]
  have q7 : ¬ (nx7 = p ∨ bid s = some nx7) := fun e => by
    rcases e with e | e
    · omega
    · have := g7.sp.tp.row.lt e; omega
  have hb7 := g7.bl
  have hbn := g7.bn
  refine ⟨⟨bit_and (by omega), ⟨ap3 (w8 nx2 (by omega) (by omega)) (new_lo (by omega)), ap2 (t8 nx7 (by omega) q7) (new_lo (by omega)), ap2 (w8 nx7 (by omega) (by omega)) (new_lo (by omega))⟩, ap3 (w9 nx2 (by omega) (by omega)) (new_lo (by omega)), ⟨ap2 (t9 nx7 (by omega) q7) (new_lo (by omega)), ap2 (w9 nx7 (by omega) (by omega)) (new_lo (by omega))⟩, ap3 (w9 nx7 (by omega) (by omega)) (new_lo (by omega))⟩, ?_⟩
  have n7 := g7.sp.n
  have M8 : Mk p s nx tc8 wr8 := ⟨fun q hq hp => w8 q (by omega) hp, fun q hq hp => t8 q (by omega) hp⟩
  have M9 : Mk p s nx tc9 wr9 := ⟨fun q hq hp => w9 q (by omega) hp, fun q hq hp => t9 q (by omega) hp⟩
  have MA : Mk p s nx tcA wrA := (g7.sp.under g9).mkc wA tA
  cases bl
  · have lD := fun lg => ld_at gB.blk gB.bl (o := 3) (v := vA) rfl lg
    simp (maxSteps := 4000000) (maxDischargeDepth := 6) [↓step_none, ↓step_t, ↓step_f, ↓step_nt, ↓step_nf, ↓op_load, ↓op_store, ↓op_slice, ↓op_app, ↓op_islc, ↓P_skip, ↓P_exit, ↓P_ret, ↓P_seq, ↓P_cond, ↓P_blk, ↓P_reg, ↓P_draw, ↓P_nil, ↓P_cons, condP_t, condP_f, dum_ab, stepR, want_none, want_some, opRun, ev_t, ev_c, put_none, put_some, resAll, res_tmp, res_cell, oneOf, minI, maxI, min2A, max2A, mn2, mx2, mx3, rdBlk, wrBlk, newBlk, partA, abin, ibin, isShift, AV.cells, AV.one, lay, sub, fillA, lenA, toN, allApart, apartFrom, Nat.testBit, Mem.blk_set_same, Mem.blk_set_ne, Mem.set_set, bit_zero, bit_self, lowBits_or, lowBits_zero, len_setT, sl_same, sl_ne, len_frame, sl_frame,↓op_len, lenOp_slc, lenOp_nils, ↓Post.some, ↓Post_bind, ↓Post_ret, ↓Post_draw, ↓PostL_nil, ↓PostL_cons, Post_fail, ofOpt_some, ofOpt_none, eA_b, eA_i, eA_s, eA_nn, eA_np, eA_pn, eA_lnn, eA_lnp, eA_lpn, eA_i2, eA_i3, blt_dec, Nat.add_assoc, keeps_refl, keeps_at, keeps_up, new_one, and_pow, bit_hi, lowBits_pow, ble_dec, fr_refl, fr_at, fr_up, fr_p, dum_ab, reps, hlen7, b0, b8, b9, b3', lD]
    refine (op_sp gB.sp.base (by simp only [List.length_append, List.length_cons, List.length_nil]; omega) _ _).post (by omega) (by omega) ?_
    intro vD hD nxD tcD wrD gD nD kD wD tD
    have MD : Mk p s nx tcD wrD := gB.sp.mkc wD tD
    obtain ⟨HE, stE, gE, BE', cE⟩ := gB.put BB (Nat.le_refl _) (by omega) cB gD
    have nE := gE.sp.n
    have bE := gE.bl
    have hnD : nx < nxD := by omega
    have lE := fun lg => ld_sub (n := 4) (o := 0) gE.blk gE.bl (vs := [.int .i64 a, .int .i64 2, .slc ub 0 14 uc, vD]) rfl lg
    have sE := fun lg => st_at BE' (show nx < nxD by omega) (n := 4) (o := 0) (.agg [.int .i64 a, .int .i64 2, .slc ub 0 14 uc, vD]) rfl (one4 rfl gE.sp.ow.one.2) (by simp) lg
    have eE : lay [AV.int .i64 0, AV.int .i64 0, AV.nils, AV.nils] 0 [AV.int .i64 a, AV.int .i64 2, AV.slc ub 0 14 uc, vD] = [AV.int .i64 a, AV.int .i64 2, AV.slc ub 0 14 uc, vD] := rfl
    simp only [AV.cells, eE] at sE
    simp (maxSteps := 4000000) (maxDischargeDepth := 6) [↓step_none, ↓step_t, ↓step_f, ↓step_nt, ↓step_nf, ↓op_load, ↓op_store, ↓op_slice, ↓op_app, ↓op_islc, ↓P_skip, ↓P_exit, ↓P_ret, ↓P_seq, ↓P_cond, ↓P_blk, ↓P_reg, ↓P_draw, ↓P_nil, ↓P_cons, condP_t, condP_f, dum_ab, stepR, want_none, want_some, opRun, ev_t, ev_c, put_none, put_some, resAll, res_tmp, res_cell, oneOf, minI, maxI, min2A, max2A, mn2, mx2, mx3, rdBlk, wrBlk, newBlk, partA, abin, ibin, isShift, AV.cells, AV.one, lay, sub, fillA, lenA, toN, allApart, apartFrom, Nat.testBit, Mem.blk_set_same, Mem.blk_set_ne, Mem.set_set, bit_zero, bit_self, lowBits_or, lowBits_zero, len_setT, sl_same, sl_ne, len_frame, sl_frame,↓op_len, lenOp_slc, lenOp_nils, ↓Post.some, ↓Post_bind, ↓Post_ret, ↓Post_draw, ↓PostL_nil, ↓PostL_cons, Post_fail, ofOpt_some, ofOpt_none, eA_b, eA_i, eA_s, eA_nn, eA_np, eA_pn, eA_lnn, eA_lnp, eA_lpn, eA_i2, eA_i3, blt_dec, Nat.add_assoc, keeps_refl, keeps_at, keeps_up, new_one, and_pow, bit_hi, lowBits_pow, ble_dec, fr_refl, fr_at, fr_up, fr_p, dum_ab, reps, hlen7, b0, b8, b9, b3', stE, lE, sE, hnD]
    have tF : TP (HE.set nx (some ⟨37, 4, true, false, [.int .i64 a, .int .i64 2, .slc ub 0 14 uc, vD]⟩)) nxD p s L := gE.sp.tp.keep (Nat.le_refl _) fun q hq hx => Mem.blk_set_ne _ _ _ _ (by rcases hx with rfl | hx; omega; have := t.row.lt hx; omega)
    have kF : ∀ q, q ≠ nx → (HE.set nx (some ⟨37, 4, true, false, [AV.int .i64 a, .int .i64 2, .slc ub 0 14 uc, vD]⟩)).blk q = HE.blk q := fun q hq => Mem.blk_set_ne _ _ _ _ hq
    refine ⟨⟨⟨a, _, M, vD, _, rfl, gE.uo.keep (Nat.le_refl _) fun x hx => kF x ?_, hv, hM, gE.sp.ow.keep (Nat.le_refl _) fun x hx => kF x fun e => cE (e ▸ hx), gE.sp.ok, ?_, gE.un, fun x hx => ?_⟩, tF⟩, by omega, fun q hq hp => (kF q (by omega)).trans (gE.sp.k q hq hp (by simp [bid])), ?_⟩
    · intro e
      have := g2.own x hx
      omega
    · simp only [List.length_append, List.length_cons, List.length_nil]; omega
    · rcases gE.sp.own x hx with e | e
      · cases e
      · exact e
    refine ⟨fun q hq hp => ?_, fun q hq hp => ?_⟩
    · have z1 : ∀ lg, bit lg nx2 &&& 2 ^ q = 0 := fun lg => bit_and (by omega)
      have z2 : ∀ lg, bit lg nx &&& 2 ^ q = 0 := fun lg => bit_and (by omega)
      have z3 : ∀ lg', lowBits lg (bit lg' nx2) &&& 2 ^ q = 0 := fun lg' => low_z (z1 _)
      have z4 : ∀ lg', lowBits lg (bit lg' nx7) &&& 2 ^ q = 0 := fun lg' => low_z (bit_and (by omega))
      simp only [Nat.and_or_distrib_right, m2.w q hq hp, m4.w q hq hp, m5.w q hq hp, m6.w q hq hp, m7.w q hq hp, (M8.low (lg := lg)).w q hq hp, (M9.low (lg := lg)).w q hq hp, (MA.low (lg := lg)).w q hq hp, MD.w q hq hp, z1, z2, z3, z4, Nat.or_zero]
    · have z1 : ∀ lg, bit lg nx2 &&& 2 ^ q = 0 := fun lg => bit_and (by omega)
      have z2 : ∀ lg, bit lg nx &&& 2 ^ q = 0 := fun lg => bit_and (by omega)
      have z3 : ∀ lg', lowBits lg (bit lg' nx2) &&& 2 ^ q = 0 := fun lg' => low_z (z1 _)
      have z4 : ∀ lg', lowBits lg (bit lg' nx7) &&& 2 ^ q = 0 := fun lg' => low_z (bit_and (by omega))
      simp only [Nat.and_or_distrib_right, m2.t q hq hp, m4.t q hq hp, m5.t q hq hp, m6.t q hq hp, m7.t q hq hp, (M8.low (lg := lg)).t q hq hp, (M9.low (lg := lg)).t q hq hp, (MA.low (lg := lg)).t q hq hp, MD.t q hq hp, z1, z2, z3, z4, Nat.or_zero]
  · simp (maxSteps := 4000000) (maxDischargeDepth := 6) [↓step_none, ↓step_t, ↓step_f, ↓step_nt, ↓step_nf, ↓op_load, ↓op_store, ↓op_slice, ↓op_app, ↓op_islc, ↓P_skip, ↓P_exit, ↓P_ret, ↓P_seq, ↓P_cond, ↓P_blk, ↓P_reg, ↓P_draw, ↓P_nil, ↓P_cons, condP_t, condP_f, dum_ab, stepR, want_none, want_some, opRun, ev_t, ev_c, put_none, put_some, resAll, res_tmp, res_cell, oneOf, minI, maxI, min2A, max2A, mn2, mx2, mx3, rdBlk, wrBlk, newBlk, partA, abin, ibin, isShift, AV.cells, AV.one, lay, sub, fillA, lenA, toN, allApart, apartFrom, Nat.testBit, Mem.blk_set_same, Mem.blk_set_ne, Mem.set_set, bit_zero, bit_self, lowBits_or, lowBits_zero, len_setT, sl_same, sl_ne, len_frame, sl_frame,↓op_len, lenOp_slc, lenOp_nils, ↓Post.some, ↓Post_bind, ↓Post_ret, ↓Post_draw, ↓PostL_nil, ↓PostL_cons, Post_fail, ofOpt_some, ofOpt_none, eA_b, eA_i, eA_s, eA_nn, eA_np, eA_pn, eA_lnn, eA_lnp, eA_lpn, eA_i2, eA_i3, blt_dec, Nat.add_assoc, keeps_refl, keeps_at, keeps_up, new_one, and_pow, bit_hi, lowBits_pow, ble_dec, fr_refl, fr_at, fr_up, fr_p, dum_ab, reps, hlen7, b0, b8, b9, b3']
    refine (next_sp gB.sp 3 (by decide) (by decide)).post (by omega) (by omega) ?_
    rintro _ hC nxC tcC wrC ⟨rC, rfl, hrC, gC'⟩ nC kC wC tC
    have hbB := gB.bl
    have MC : Mk p s nx tcC wrC := gB.sp.mkn wC tC
    have gC : Ms p s L h nx a nx2 (.slc ub 0 14 uc) M hC nxC vA _ := ⟨gC', (kC nx2 (by omega) (by omega)).trans gB.blk, gB.bn, by omega, gB.cb, gB.uo.keep (by omega) (fun x hx => kC x (gB.uo.lt hx) fun e => by have := gB.un x hx; omega), gB.un, gB.uc, gB.ub, gB.hp, gB.hs⟩
    have BC := (kC nx (by omega) (by omega)).trans BB
    cases dC : ((rC : Int) == 0) with
    | false =>
      simp (maxSteps := 4000000) (maxDischargeDepth := 6) [↓step_none, ↓step_t, ↓step_f, ↓step_nt, ↓step_nf, ↓op_load, ↓op_store, ↓op_slice, ↓op_app, ↓op_islc, ↓P_skip, ↓P_exit, ↓P_ret, ↓P_seq, ↓P_cond, ↓P_blk, ↓P_reg, ↓P_draw, ↓P_nil, ↓P_cons, condP_t, condP_f, dum_ab, stepR, want_none, want_some, opRun, ev_t, ev_c, put_none, put_some, resAll, res_tmp, res_cell, oneOf, minI, maxI, min2A, max2A, mn2, mx2, mx3, rdBlk, wrBlk, newBlk, partA, abin, ibin, isShift, AV.cells, AV.one, lay, sub, fillA, lenA, toN, allApart, apartFrom, Nat.testBit, Mem.blk_set_same, Mem.blk_set_ne, Mem.set_set, bit_zero, bit_self, lowBits_or, lowBits_zero, len_setT, sl_same, sl_ne, len_frame, sl_frame,↓op_len, lenOp_slc, lenOp_nils, ↓Post.some, ↓Post_bind, ↓Post_ret, ↓Post_draw, ↓PostL_nil, ↓PostL_cons, Post_fail, ofOpt_some, ofOpt_none, eA_b, eA_i, eA_s, eA_nn, eA_np, eA_pn, eA_lnn, eA_lnp, eA_lpn, eA_i2, eA_i3, blt_dec, Nat.add_assoc, keeps_refl, keeps_at, keeps_up, new_one, and_pow, bit_hi, lowBits_pow, ble_dec, fr_refl, fr_at, fr_up, fr_p, dum_ab, reps, hlen7, b0, b8, b9, b3', dC]
      have lD := fun lg => ld_at gC.blk gC.bl (o := 3) (v := vA) rfl lg
      simp (maxSteps := 4000000) (maxDischargeDepth := 6) [↓step_none, ↓step_t, ↓step_f, ↓step_nt, ↓step_nf, ↓op_load, ↓op_store, ↓op_slice, ↓op_app, ↓op_islc, ↓P_skip, ↓P_exit, ↓P_ret, ↓P_seq, ↓P_cond, ↓P_blk, ↓P_reg, ↓P_draw, ↓P_nil, ↓P_cons, condP_t, condP_f, dum_ab, stepR, want_none, want_some, opRun, ev_t, ev_c, put_none, put_some, resAll, res_tmp, res_cell, oneOf, minI, maxI, min2A, max2A, mn2, mx2, mx3, rdBlk, wrBlk, newBlk, partA, abin, ibin, isShift, AV.cells, AV.one, lay, sub, fillA, lenA, toN, allApart, apartFrom, Nat.testBit, Mem.blk_set_same, Mem.blk_set_ne, Mem.set_set, bit_zero, bit_self, lowBits_or, lowBits_zero, len_setT, sl_same, sl_ne, len_frame, sl_frame,↓op_len, lenOp_slc, lenOp_nils, ↓Post.some, ↓Post_bind, ↓Post_ret, ↓Post_draw, ↓PostL_nil, ↓PostL_cons, Post_fail, ofOpt_some, ofOpt_none, eA_b, eA_i, eA_s, eA_nn, eA_np, eA_pn, eA_lnn, eA_lnp, eA_lpn, eA_i2, eA_i3, blt_dec, Nat.add_assoc, keeps_refl, keeps_at, keeps_up, new_one, and_pow, bit_hi, lowBits_pow, ble_dec, fr_refl, fr_at, fr_up, fr_p, dum_ab, reps, hlen7, b0, b8, b9, b3', lD]
      refine (op_sp gC.sp.base (by simp only [List.length_append, List.length_cons, List.length_nil]; omega) _ _).post (by omega) (by omega) ?_
      intro vD hD nxD tcD wrD gD nD kD wD tD
      have MD : Mk p s nx tcD wrD := gC.sp.mkc wD tD
      obtain ⟨HE, stE, gE, BE', cE⟩ := gC.put BC (Nat.le_refl _) (by omega) cB gD
      have nE := gE.sp.n
      have bE := gE.bl
      have hnD : nx < nxD := by omega
      have lE := fun lg => ld_sub (n := 4) (o := 0) gE.blk gE.bl (vs := [.int .i64 a, .int .i64 2, .slc ub 0 14 uc, vD]) rfl lg
      have sE := fun lg => st_at BE' (show nx < nxD by omega) (n := 4) (o := 0) (.agg [.int .i64 a, .int .i64 2, .slc ub 0 14 uc, vD]) rfl (one4 rfl gE.sp.ow.one.2) (by simp) lg
      have eE : lay [AV.int .i64 0, AV.int .i64 0, AV.nils, AV.nils] 0 [AV.int .i64 a, AV.int .i64 2, AV.slc ub 0 14 uc, vD] = [AV.int .i64 a, AV.int .i64 2, AV.slc ub 0 14 uc, vD] := rfl
      simp only [AV.cells, eE] at sE
      simp (maxSteps := 4000000) (maxDischargeDepth := 6) [↓step_none, ↓step_t, ↓step_f, ↓step_nt, ↓step_nf, ↓op_load, ↓op_store, ↓op_slice, ↓op_app, ↓op_islc, ↓P_skip, ↓P_exit, ↓P_ret, ↓P_seq, ↓P_cond, ↓P_blk, ↓P_reg, ↓P_draw, ↓P_nil, ↓P_cons, condP_t, condP_f, dum_ab, stepR, want_none, want_some, opRun, ev_t, ev_c, put_none, put_some, resAll, res_tmp, res_cell, oneOf, minI, maxI, min2A, max2A, mn2, mx2, mx3, rdBlk, wrBlk, newBlk, partA, abin, ibin, isShift, AV.cells, AV.one, lay, sub, fillA, lenA, toN, allApart, apartFrom, Nat.testBit, Mem.blk_set_same, Mem.blk_set_ne, Mem.set_set, bit_zero, bit_self, lowBits_or, lowBits_zero, len_setT, sl_same, sl_ne, len_frame, sl_frame,↓op_len, lenOp_slc, lenOp_nils, ↓Post.some, ↓Post_bind, ↓Post_ret, ↓Post_draw, ↓PostL_nil, ↓PostL_cons, Post_fail, ofOpt_some, ofOpt_none, eA_b, eA_i, eA_s, eA_nn, eA_np, eA_pn, eA_lnn, eA_lnp, eA_lpn, eA_i2, eA_i3, blt_dec, Nat.add_assoc, keeps_refl, keeps_at, keeps_up, new_one, and_pow, bit_hi, lowBits_pow, ble_dec, fr_refl, fr_at, fr_up, fr_p, dum_ab, reps, hlen7, b0, b8, b9, b3', stE, lE, sE, hnD]
      have tF : TP (HE.set nx (some ⟨37, 4, true, false, [.int .i64 a, .int .i64 2, .slc ub 0 14 uc, vD]⟩)) nxD p s L := gE.sp.tp.keep (Nat.le_refl _) fun q hq hx => Mem.blk_set_ne _ _ _ _ (by rcases hx with rfl | hx; omega; have := t.row.lt hx; omega)
      have kF : ∀ q, q ≠ nx → (HE.set nx (some ⟨37, 4, true, false, [AV.int .i64 a, .int .i64 2, .slc ub 0 14 uc, vD]⟩)).blk q = HE.blk q := fun q hq => Mem.blk_set_ne _ _ _ _ hq
      refine ⟨⟨⟨a, _, M, vD, _, rfl, gE.uo.keep (Nat.le_refl _) fun x hx => kF x ?_, hv, hM, gE.sp.ow.keep (Nat.le_refl _) fun x hx => kF x fun e => cE (e ▸ hx), gE.sp.ok, ?_, gE.un, fun x hx => ?_⟩, tF⟩, by omega, fun q hq hp => (kF q (by omega)).trans (gE.sp.k q hq hp (by simp [bid])), ?_⟩
      · intro e
        have := g2.own x hx
        omega
      · simp only [List.length_append, List.length_cons, List.length_nil]; omega
      · rcases gE.sp.own x hx with e | e
        · cases e
        · exact e
      refine ⟨fun q hq hp => ?_, fun q hq hp => ?_⟩
      · have z1 : ∀ lg, bit lg nx2 &&& 2 ^ q = 0 := fun lg => bit_and (by omega)
        have z2 : ∀ lg, bit lg nx &&& 2 ^ q = 0 := fun lg => bit_and (by omega)
        have z3 : ∀ lg', lowBits lg (bit lg' nx2) &&& 2 ^ q = 0 := fun lg' => low_z (z1 _)
        have z4 : ∀ lg', lowBits lg (bit lg' nx7) &&& 2 ^ q = 0 := fun lg' => low_z (bit_and (by omega))
        simp only [Nat.and_or_distrib_right, m2.w q hq hp, m4.w q hq hp, m5.w q hq hp, m6.w q hq hp, m7.w q hq hp, (M8.low (lg := lg)).w q hq hp, (M9.low (lg := lg)).w q hq hp, (MA.low (lg := lg)).w q hq hp, MD.w q hq hp, MC.w q hq hp, z1, z2, z3, z4, Nat.or_zero]
      · have z1 : ∀ lg, bit lg nx2 &&& 2 ^ q = 0 := fun lg => bit_and (by omega)
        have z2 : ∀ lg, bit lg nx &&& 2 ^ q = 0 := fun lg => bit_and (by omega)
        have z3 : ∀ lg', lowBits lg (bit lg' nx2) &&& 2 ^ q = 0 := fun lg' => low_z (z1 _)
        have z4 : ∀ lg', lowBits lg (bit lg' nx7) &&& 2 ^ q = 0 := fun lg' => low_z (bit_and (by omega))
        simp only [Nat.and_or_distrib_right, m2.t q hq hp, m4.t q hq hp, m5.t q hq hp, m6.t q hq hp, m7.t q hq hp, (M8.low (lg := lg)).t q hq hp, (M9.low (lg := lg)).t q hq hp, (MA.low (lg := lg)).t q hq hp, MD.t q hq hp, MC.t q hq hp, z1, z2, z3, z4, Nat.or_zero]

    | true =>
      simp (maxSteps := 4000000) (maxDischargeDepth := 6) [↓step_none, ↓step_t, ↓step_f, ↓step_nt, ↓step_nf, ↓op_load, ↓op_store, ↓op_slice, ↓op_app, ↓op_islc, ↓P_skip, ↓P_exit, ↓P_ret, ↓P_seq, ↓P_cond, ↓P_blk, ↓P_reg, ↓P_draw, ↓P_nil, ↓P_cons, condP_t, condP_f, dum_ab, stepR, want_none, want_some, opRun, ev_t, ev_c, put_none, put_some, resAll, res_tmp, res_cell, oneOf, minI, maxI, min2A, max2A, mn2, mx2, mx3, rdBlk, wrBlk, newBlk, partA, abin, ibin, isShift, AV.cells, AV.one, lay, sub, fillA, lenA, toN, allApart, apartFrom, Nat.testBit, Mem.blk_set_same, Mem.blk_set_ne, Mem.set_set, bit_zero, bit_self, lowBits_or, lowBits_zero, len_setT, sl_same, sl_ne, len_frame, sl_frame,↓op_len, lenOp_slc, lenOp_nils, ↓Post.some, ↓Post_bind, ↓Post_ret, ↓Post_draw, ↓PostL_nil, ↓PostL_cons, Post_fail, ofOpt_some, ofOpt_none, eA_b, eA_i, eA_s, eA_nn, eA_np, eA_pn, eA_lnn, eA_lnp, eA_lpn, eA_i2, eA_i3, blt_dec, Nat.add_assoc, keeps_refl, keeps_at, keeps_up, new_one, and_pow, bit_hi, lowBits_pow, ble_dec, fr_refl, fr_at, fr_up, fr_p, dum_ab, reps, hlen7, b0, b8, b9, b3', dC]
      have lD := fun lg => ld_at gC.blk gC.bl (o := 3) (v := vA) rfl lg
      simp (maxSteps := 4000000) (maxDischargeDepth := 6) [↓step_none, ↓step_t, ↓step_f, ↓step_nt, ↓step_nf, ↓op_load, ↓op_store, ↓op_slice, ↓op_app, ↓op_islc, ↓P_skip, ↓P_exit, ↓P_ret, ↓P_seq, ↓P_cond, ↓P_blk, ↓P_reg, ↓P_draw, ↓P_nil, ↓P_cons, condP_t, condP_f, dum_ab, stepR, want_none, want_some, opRun, ev_t, ev_c, put_none, put_some, resAll, res_tmp, res_cell, oneOf, minI, maxI, min2A, max2A, mn2, mx2, mx3, rdBlk, wrBlk, newBlk, partA, abin, ibin, isShift, AV.cells, AV.one, lay, sub, fillA, lenA, toN, allApart, apartFrom, Nat.testBit, Mem.blk_set_same, Mem.blk_set_ne, Mem.set_set, bit_zero, bit_self, lowBits_or, lowBits_zero, len_setT, sl_same, sl_ne, len_frame, sl_frame,↓op_len, lenOp_slc, lenOp_nils, ↓Post.some, ↓Post_bind, ↓Post_ret, ↓Post_draw, ↓PostL_nil, ↓PostL_cons, Post_fail, ofOpt_some, ofOpt_none, eA_b, eA_i, eA_s, eA_nn, eA_np, eA_pn, eA_lnn, eA_lnp, eA_lpn, eA_i2, eA_i3, blt_dec, Nat.add_assoc, keeps_refl, keeps_at, keeps_up, new_one, and_pow, bit_hi, lowBits_pow, ble_dec, fr_refl, fr_at, fr_up, fr_p, dum_ab, reps, hlen7, b0, b8, b9, b3', lD]
      refine (op_sp gC.sp.base (by simp only [List.length_append, List.length_cons, List.length_nil]; omega) _ _).post (by omega) (by omega) ?_
      intro vD hD nxD tcD wrD gD nD kD wD tD
      have MD : Mk p s nx tcD wrD := gC.sp.mkc wD tD
      obtain ⟨HE, stE, gE, BE', cE⟩ := gC.put BC (Nat.le_refl _) (by omega) cB gD
      have nE := gE.sp.n
      have bE := gE.bl
      have hnD : nx < nxD := by omega
      have lE := fun lg => ld_sub (n := 4) (o := 0) gE.blk gE.bl (vs := [.int .i64 a, .int .i64 2, .slc ub 0 14 uc, vD]) rfl lg
      have sE := fun lg => st_at BE' (show nx < nxD by omega) (n := 4) (o := 0) (.agg [.int .i64 a, .int .i64 2, .slc ub 0 14 uc, vD]) rfl (one4 rfl gE.sp.ow.one.2) (by simp) lg
      have eE : lay [AV.int .i64 0, AV.int .i64 0, AV.nils, AV.nils] 0 [AV.int .i64 a, AV.int .i64 2, AV.slc ub 0 14 uc, vD] = [AV.int .i64 a, AV.int .i64 2, AV.slc ub 0 14 uc, vD] := rfl
      simp only [AV.cells, eE] at sE
      simp (maxSteps := 4000000) (maxDischargeDepth := 6) [↓step_none, ↓step_t, ↓step_f, ↓step_nt, ↓step_nf, ↓op_load, ↓op_store, ↓op_slice, ↓op_app, ↓op_islc, ↓P_skip, ↓P_exit, ↓P_ret, ↓P_seq, ↓P_cond, ↓P_blk, ↓P_reg, ↓P_draw, ↓P_nil, ↓P_cons, condP_t, condP_f, dum_ab, stepR, want_none, want_some, opRun, ev_t, ev_c, put_none, put_some, resAll, res_tmp, res_cell, oneOf, minI, maxI, min2A, max2A, mn2, mx2, mx3, rdBlk, wrBlk, newBlk, partA, abin, ibin, isShift, AV.cells, AV.one, lay, sub, fillA, lenA, toN, allApart, apartFrom, Nat.testBit, Mem.blk_set_same, Mem.blk_set_ne, Mem.set_set, bit_zero, bit_self, lowBits_or, lowBits_zero, len_setT, sl_same, sl_ne, len_frame, sl_frame,↓op_len, lenOp_slc, lenOp_nils, ↓Post.some, ↓Post_bind, ↓Post_ret, ↓Post_draw, ↓PostL_nil, ↓PostL_cons, Post_fail, ofOpt_some, ofOpt_none, eA_b, eA_i, eA_s, eA_nn, eA_np, eA_pn, eA_lnn, eA_lnp, eA_lpn, eA_i2, eA_i3, blt_dec, Nat.add_assoc, keeps_refl, keeps_at, keeps_up, new_one, and_pow, bit_hi, lowBits_pow, ble_dec, fr_refl, fr_at, fr_up, fr_p, dum_ab, reps, hlen7, b0, b8, b9, b3', stE, lE, sE, hnD]
      have tF : TP (HE.set nx (some ⟨37, 4, true, false, [.int .i64 a, .int .i64 2, .slc ub 0 14 uc, vD]⟩)) nxD p s L := gE.sp.tp.keep (Nat.le_refl _) fun q hq hx => Mem.blk_set_ne _ _ _ _ (by rcases hx with rfl | hx; omega; have := t.row.lt hx; omega)
      have kF : ∀ q, q ≠ nx → (HE.set nx (some ⟨37, 4, true, false, [AV.int .i64 a, .int .i64 2, .slc ub 0 14 uc, vD]⟩)).blk q = HE.blk q := fun q hq => Mem.blk_set_ne _ _ _ _ hq
      refine ⟨⟨⟨a, _, M, vD, _, rfl, gE.uo.keep (Nat.le_refl _) fun x hx => kF x ?_, hv, hM, gE.sp.ow.keep (Nat.le_refl _) fun x hx => kF x fun e => cE (e ▸ hx), gE.sp.ok, ?_, gE.un, fun x hx => ?_⟩, tF⟩, by omega, fun q hq hp => (kF q (by omega)).trans (gE.sp.k q hq hp (by simp [bid])), ?_⟩
      · intro e
        have := g2.own x hx
        omega
      · simp only [List.length_append, List.length_cons, List.length_nil]; omega
      · rcases gE.sp.own x hx with e | e
        · cases e
        · exact e
      refine ⟨fun q hq hp => ?_, fun q hq hp => ?_⟩
      · have z1 : ∀ lg, bit lg nx2 &&& 2 ^ q = 0 := fun lg => bit_and (by omega)
        have z2 : ∀ lg, bit lg nx &&& 2 ^ q = 0 := fun lg => bit_and (by omega)
        have z3 : ∀ lg', lowBits lg (bit lg' nx2) &&& 2 ^ q = 0 := fun lg' => low_z (z1 _)
        have z4 : ∀ lg', lowBits lg (bit lg' nx7) &&& 2 ^ q = 0 := fun lg' => low_z (bit_and (by omega))
        simp only [Nat.and_or_distrib_right, m2.w q hq hp, m4.w q hq hp, m5.w q hq hp, m6.w q hq hp, m7.w q hq hp, (M8.low (lg := lg)).w q hq hp, (M9.low (lg := lg)).w q hq hp, (MA.low (lg := lg)).w q hq hp, MD.w q hq hp, MC.w q hq hp, z1, z2, z3, z4, Nat.or_zero]
      · have z1 : ∀ lg, bit lg nx2 &&& 2 ^ q = 0 := fun lg => bit_and (by omega)
        have z2 : ∀ lg, bit lg nx &&& 2 ^ q = 0 := fun lg => bit_and (by omega)
        have z3 : ∀ lg', lowBits lg (bit lg' nx2) &&& 2 ^ q = 0 := fun lg' => low_z (z1 _)
        have z4 : ∀ lg', lowBits lg (bit lg' nx7) &&& 2 ^ q = 0 := fun lg' => low_z (bit_and (by omega))
        simp only [Nat.and_or_distrib_right, m2.t q hq hp, m4.t q hq hp, m5.t q hq hp, m6.t q hq hp, m7.t q hq hp, (M8.low (lg := lg)).t q hq hp, (M9.low (lg := lg)).t q hq hp, (MA.low (lg := lg)).t q hq hp, MD.t q hq hp, MC.t q hq hp, z1, z2, z3, z4, Nat.or_zero]

end Go.Proofs.YtlbjdkhpabpmiaaT
