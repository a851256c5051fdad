/- Code: CodeNumbers. -/
import Derived.Test.YtlbjdkhpabpmiaaTellsC
namespace Go.Proofs.YtlbjdkhpabpmiaaT
open Go Go.Proofs.YtlbjdkhpabpmiaaE Go.Proofs.YtlbjdkhpabpmiaaB
set_option linter.unusedSimpArgs false
set_option linter.unusedVariables false
attribute [local congr] Post_cg PostL_cg condP_cg
attribute [local simp ↓] P_skip P_exit P_ret P_seq P_cond P_blk P_reg P_draw P_nil P_cons op_len Post.some Post_bind Post_ret Post_draw PostL_nil PostL_cons op_islc step_none step_t step_f step_nt step_nf op_load op_store op_slice op_app
attribute [local simp] condP_t condP_f dum_ab stepR want_none want_some opRun ev_t ev_c put_none put_some resAll res_tmp res_cell oneOf minI maxI min2A max2A mn2 mx2 mx3 rdBlk wrBlk newBlk partA abin ibin isShift AV.cells AV.one lay sub fillA lenA toN allApart apartFrom Nat.testBit Mem.blk_set_same Mem.blk_set_ne Mem.set_set bit_zero bit_self lowBits_or lowBits_zero len_setT sl_same sl_ne len_frame sl_frame lenOp_slc lenOp_nils Post_fail ofOpt_some ofOpt_none eA_b eA_i eA_s eA_nn eA_np eA_pn eA_lnn eA_lnp eA_lpn eA_i2 eA_i3 blt_dec Nat.add_assoc keeps_refl keeps_at keeps_up new_one and_pow bit_hi lowBits_pow ble_dec fr_refl fr_at fr_up fr_p reps

theorem push1 {s : AV} {h : Mem} {nx : Nat} {l : List Int} (ow : OW 1 s h nx (i64s l)) (hl : l.length ≤ 100000) (x : Int) (lg : Nat) {R : AV → Mem → Nat → Nat → Nat → Prop}
    (k : ∀ s' h' nx' tc wr, OW 1 s' h' nx' (i64s (l ++ [x])) → nx + 1 ≤ nx' → (∀ b, b < nx → bid s ≠ some b → h'.blk b = h.blk b) → (∀ b, bid s' = some b → bid s = some b ∨ nx < b) → (∀ q, bid s ≠ some q → wr &&& 2 ^ q = 0) → R s' h' nx' tc wr) : Post (appOp 3 1 8 s (.slc nx 0 1 (some 1)) (h.set nx (some ⟨3, 1, true, false, [.int .i64 x]⟩)) (nx + 1) lg) R := by
  obtain ⟨s', h', nx', tc, wr, e, n1, o1, k1, d1, t1, w1⟩ := OW.push (sz := 1) (by decide) 3 8 ow [.int .i64 x] rfl (fun k hk => fits_few (by rw [i64s_len] at hk; omega) (by omega)) rfl 3 1 lg
  rw [← i64s_app] at o1
  exact Post.of e (k _ _ _ _ _ o1 n1 k1 d1 w1)
def T8I (k : Int) (h0 : Mem) (nx0 : Nat) (mm : Nat) (ts : List AV) (h : Mem) (nx tc wr : Nat) : Prop := ∃ (i : Nat) (s : AV) (l : List Int), mm = 900 - i ∧ i ≤ 900 ∧ ts.length = 25 ∧ sl ts 0 = .int .i64 k ∧ sl ts 3 = s ∧ sl ts 4 = .int .i64 i ∧ OW 1 s h nx (i64s l) ∧ l.length = i ∧ (∀ x, bid s = some x → nx0 ≤ x) ∧ nx0 ≤ nx ∧ (∀ q, q < nx0 → h.blk q = h0.blk q) ∧ ∀ q, q < nx0 → wr &&& 2 ^ q = 0
def T8R (h0 : Mem) (nx0 : Nat) (e : Ex) (ts : List AV) (h : Mem) (nx tc wr : Nat) : Prop := e = .exit 0 ∧ ∃ (s : AV) (l : List Int), ts.length = 25 ∧ sl ts 3 = s ∧ OW 1 s h nx (i64s l) ∧ l.length = 900 ∧ nx0 ≤ nx ∧ (∀ q, q < nx0 → h.blk q = h0.blk q) ∧ ∀ q, q < nx0 → wr &&& 2 ^ q = 0
set_option maxHeartbeats 8000000 in
theorem t8_round (k : Int) {h0 : Mem} {nx0 : Nat} (lg : Nat) (mm : Nat) (ts : List AV) (h : Mem) (nx tc wr : Nat) (hi : T8I k h0 nx0 mm ts h nx tc wr) :
    Post (xC T 60 L8_0b ts h nx lg) fun v' h' nx' tc' wr' => Round (T8I k h0 nx0) (T8R h0 nx0) mm v' h' nx' (tc ||| tc') (wr ||| wr') := by
  obtain ⟨i, s, l, rfl, hi9, hlen, g0, g3, g4, ow, hl, own, hn, hk, hw⟩ := hi
  by_cases c : i < 900
  · have c' : (i : Int) < 900 := by omega
    have ci : IntKind.i64.wrap ((i : Int) + 1) = ((i + 1 : Nat) : Int) := by rw [IntKind.wrap_i64]; omega
    simp (maxSteps := 4000000) (maxDischargeDepth := 6) [L8_0b, hlen, g0, g3, g4, c, c']
    refine push1 ow (by omega) _ lg ?_
    intro s' h' nx' tc2 wr2 o2 n2 k2 d2 w2
    simp (maxSteps := 4000000) (maxDischargeDepth := 6) [hlen, g4, ci]
    have no : ∀ q, q < nx0 → bid s ≠ some q := fun q hq e => by have := own q e; omega
    refine Round.nor (m' := 900 - (i + 1)) (by omega) ⟨i + 1, s', _, rfl, by omega, ?_, ?_, ?_, ?_, o2, by rw [List.length_append, hl]; rfl, fun x hx => ?_, by omega, fun q hq => (k2 q (by omega) (no q hq)).trans (hk q hq), fun q hq => wr_or (hw q hq) (w2 q (no q hq))⟩
    any_goals simp [len_setT, sl_same, sl_ne, hlen, g0]
    rcases d2 x hx with e | e
    · exact own x e
    · omega
  · have c' : ¬ (i : Int) < 900 := by omega
    simp (maxSteps := 4000000) (maxDischargeDepth := 6) [L8_0b, hlen, g0, g3, g4, c, c']
    refine Round.exit (R := T8R h0 nx0) ⟨rfl, s, l, ?_, ?_, ow, by omega, hn, hk, hw⟩ <;> simp [len_setT, sl_same, sl_ne, hlen, g3]
theorem tape_nw (k : Int) (h : Mem) (nx : Nat) : NwC T 1100 8 [.int .i64 k] h nx fun r h' nx' => ∃ l, RD 1 r h' nx' (i64s l) ∧ l.length = 900 := by
  intro lg hlg
  rw [xF_fr T8]
  simp (maxSteps := 4000000) (maxDischargeDepth := 6) [F8, L8_0]
  refine Post.loop (t8_round k (h0 := h) (nx0 := nx) lg) 900 ⟨0, .nils, [], rfl, by omega, ?_, ?_, ?_, ?_, OW.nil .., rfl, (fun x hx => by cases hx), Nat.le_refl _, fun _ _ => rfl, fun q _ => Nat.zero_and _⟩ (by omega) ?_
  any_goals simp (maxDischargeDepth := 6) [len_setT, sl_same, sl_ne, sl_frame, len_frame]
  rintro e ts' h' nx' tc wr ⟨rfl, s, l, hlen, g3, ow, hl, hn, hk, hw⟩
  simp (maxSteps := 4000000) (maxDischargeDepth := 6) [hlen, g3]
  exact ⟨⟨l, ow.rd (by decide), hl⟩, hn, hk, hw⟩
/-- A method and a unit, in two variables. -/
structure Env (p2 p3 : Nat) (u : U) (m : M) (h : Mem) (nx : Nat) : Prop where
  ul : UL u
  b2 : h.blk p2 = some ⟨27, 5, true, false, u.cs⟩
  b3 : h.blk p3 = some ⟨37, 4, true, false, m.cs⟩
  n2 : p2 < nx
  n3 : p3 < nx
  g : MR m h nx
  hc : m.c.length ≤ 100
  hL : m.L.length = 14
theorem Env.keeps {p2 p3 : Nat} {u : U} {m : M} {h h' : Mem} {nx nx' : Nat} (e : Env p2 p3 u m h nx) (hn : nx ≤ nx') (k : ∀ q, q < nx → h'.blk q = h.blk q) : Env p2 p3 u m h' nx' :=
  ⟨e.ul, (k p2 e.n2).trans e.b2, (k p3 e.n3).trans e.b3, by have := e.n2; omega, by have := e.n3; omega, e.g.keeps hn k, e.hc, e.hL⟩
theorem Env.ld {p2 p3 : Nat} {u : U} {m : M} {h : Mem} {nx : Nat} (e : Env p2 p3 u m h nx) : (∀ lg, ldA (some 4) (.ptr p3 0) h nx lg = some ⟨.agg m.cs, h, nx, bit lg p3, 0⟩) ∧ (∀ lg, ldA (some 5) (.ptr p2 0) h nx lg = some ⟨.agg u.cs, h, nx, bit lg p2, 0⟩) ∧ (∀ lg, ldA none (.ptr p3 3) h nx lg = some ⟨m.cv, h, nx, bit lg p3, 0⟩) :=
  ⟨fun lg => ld_sub (n := 4) (o := 0) e.b3 e.n3 (vs := m.cs) rfl lg, fun lg => ld_sub (n := 5) (o := 0) e.b2 e.n2 (vs := u.cs) rfl lg, fun lg => ld_at e.b3 e.n3 (o := 3) (v := m.cv) rfl lg⟩
def N4I (k : Int) (p2 p3 : Nat) (u : U) (m : M) (h0 : Mem) (nx0 : Nat) (mm : Nat) (ts : List AV) (h : Mem) (nx tc wr : Nat) : Prop := ∃ i : Nat, mm = m.c.length - i ∧ i ≤ m.c.length ∧ ts.length = 132 ∧ sl ts 1 = .int .i64 k ∧ sl ts 2 = .ptr p2 0 ∧ sl ts 3 = .ptr p3 0 ∧ sl ts 4 = .int .i64 i ∧ nx0 ≤ nx ∧ ∀ q, q < nx0 → h.blk q = h0.blk q
def N4R (k : Int) (p2 p3 : Nat) (u : U) (m : M) (h0 : Mem) (nx0 : Nat) (e : Ex) (ts : List AV) (h : Mem) (nx tc wr : Nat) : Prop := e = .exit 2 ∧ ts.length = 132 ∧ sl ts 1 = .int .i64 k ∧ sl ts 2 = .ptr p2 0 ∧ sl ts 3 = .ptr p3 0 ∧ nx0 ≤ nx ∧ ∀ q, q < nx0 → h.blk q = h0.blk q
set_option maxHeartbeats 8000000 in
theorem n4_round (k : Int) {p2 p3 : Nat} {u : U} {m : M} {h0 : Mem} {nx0 : Nat} (ev : Env p2 p3 u m h0 nx0) (mm : Nat) (ts : List AV) (h : Mem) (nx tc wr : Nat) (hi : N4I k p2 p3 u m h0 nx0 mm ts h nx tc wr) :
    Post (xC T 1300 L3_4b ts h nx 0) fun v' h' nx' tc' wr' => Round (N4I k p2 p3 u m h0 nx0) (N4R k p2 p3 u m h0 nx0) mm v' h' nx' (tc ||| tc') (wr ||| wr') := by
  obtain ⟨i, rfl, hi, hlen, g1, g2, g3, g4, hn, hk⟩ := hi
  have e1 := ev.keeps hn hk
  obtain ⟨l4, l5, l3⟩ := e1.ld
  have lc := e1.g.lenC
  have hc := ev.hc
  have hL := ev.hL
  have q2 := e1.n2
  have q3 := e1.n3
  by_cases c : i < m.c.length
  · have c' : (i : Int) < m.c.length := by omega
    have ci : IntKind.i64.wrap ((i : Int) + 1) = ((i + 1 : Nat) : Int) := by rw [IntKind.wrap_i64]; omega
    simp (maxSteps := 4000000) (maxDischargeDepth := 6) [L3_4b, hlen, g1, g2, g3, g4, l3, lc, c, c', l4]
    refine (odd_nw e1.g (by omega) (by omega) _ _ _).post (by omega) (by omega) ?_
    rintro _ HA nA tcA wrA ⟨mA, rfl, gA, hcA, hLA⟩ hnA kA wA
    have eA := e1.keeps hnA kA
    obtain ⟨_, l5A, _⟩ := eA.ld
    simp (maxSteps := 4000000) (maxDischargeDepth := 6) [hlen, g1, g2, g3, g4, l5A]
    refine (same_nw ev.ul gA _).post (by omega) (by omega) ?_
    rintro _ HB nB tcB wrB rfl hnB kB wB
    have eB := eA.keeps hnB kB
    obtain ⟨l4B, _, _⟩ := eB.ld
    simp (maxSteps := 4000000) (maxDischargeDepth := 6) [hlen, g1, g2, g3, g4, l4B]
    refine (odd_nw eB.g (by omega) (by omega) _ _ _).post (by omega) (by omega) ?_
    rintro _ HC nC tcC wrC ⟨mC, rfl, gC, hcC, hLC⟩ hnC kC wC
    have eC := eB.keeps hnC kC
    obtain ⟨_, l5C, _⟩ := eC.ld
    simp (maxSteps := 4000000) (maxDischargeDepth := 6) [hlen, g1, g2, g3, g4, l5C]
    refine (same_nw ev.ul gC _).post (by omega) (by omega) ?_
    rintro _ HD nD tcD wrD rfl hnD kD wD
    simp (maxSteps := 4000000) (maxDischargeDepth := 6) [hlen, g4, ci]
    refine ⟨⟨by rw [Nat.and_comm]; exact ap3 (wA p2 (by omega)) (new_lo (by omega)), by rw [Nat.and_comm]; exact ap3 (wC p2 (by omega)) (new_lo (by omega))⟩, ?_⟩
    refine Round.nor (m' := m.c.length - (i + 1)) (by omega) ⟨i + 1, rfl, by omega, ?_, ?_, ?_, ?_, ?_, by omega, fun q hq => by rw [kD q (by omega), kC q (by omega), kB q (by omega), kA q (by omega), hk q hq]⟩
    all_goals simp [len_setT, sl_same, sl_ne, hlen, g1, g2, g3]
  · have c' : ¬ (i : Int) < m.c.length := by omega
    simp (maxSteps := 4000000) (maxDischargeDepth := 6) [L3_4b, hlen, g1, g2, g3, g4, l3, lc, c, c']
    refine Round.exit (R := N4R k p2 p3 u m h0 nx0) ⟨rfl, ?_, ?_, ?_, ?_, hn, hk⟩ <;> simp [len_setT, sl_same, sl_ne, hlen, g1, g2, g3]
/-! ### Each of fifteen numbers -/
def ns : List Int := [-1, 0, 1, 5, 7, 8, 9, 20, 21, 22, 255, 1073741824, -1073741825, 4611686018427387904, -9223372036854775808]
def N2I (k what : Int) (p2 p3 lb : Nat) (u : U) (m : M) (h0 : Mem) (nx0 : Nat) (mm : Nat) (ts : List AV) (h : Mem) (nx tc wr : Nat) : Prop := ∃ j : Nat, mm = 15 - j ∧ j ≤ 15 ∧ ts.length = 132 ∧ sl ts 1 = .int .i64 k ∧ sl ts 2 = .ptr p2 0 ∧ sl ts 3 = .ptr p3 0 ∧ sl ts 5 = .int .i64 what ∧ sl ts 63 = .slc lb 0 15 (some 15) ∧ sl ts 64 = .int .i64 15 ∧ sl ts 65 = .int .i64 j ∧ nx0 ≤ nx ∧ ∀ q, q < nx0 → h.blk q = h0.blk q
def N2R (k what : Int) (p2 p3 : Nat) (u : U) (m : M) (h0 : Mem) (nx0 : Nat) (e : Ex) (ts : List AV) (h : Mem) (nx tc wr : Nat) : Prop := e = .exit 6 ∧ ts.length = 132 ∧ sl ts 1 = .int .i64 k ∧ sl ts 2 = .ptr p2 0 ∧ sl ts 3 = .ptr p3 0 ∧ sl ts 5 = .int .i64 what ∧ nx0 ≤ nx ∧ ∀ q, q < nx0 → h.blk q = h0.blk q
set_option maxHeartbeats 8000000 in
theorem n2_round (k what : Int) {p2 p3 lb : Nat} {u : U} {m : M} {h0 : Mem} {nx0 : Nat} (ev : Env p2 p3 u m h0 nx0) (rb : RD 1 (.slc lb 0 15 (some 15)) h0 nx0 (i64s ns)) (mm : Nat) (ts : List AV) (h : Mem) (nx tc wr : Nat) (hi : N2I k what p2 p3 lb u m h0 nx0 mm ts h nx tc wr) :
    Post (xC T 1300 L3_2b ts h nx 0) fun v' h' nx' tc' wr' => Round (N2I k what p2 p3 lb u m h0 nx0) (N2R k what p2 p3 u m h0 nx0) mm v' h' nx' (tc ||| tc') (wr ||| wr') := by
  obtain ⟨j, rfl, hj, hlen, g1, g2, g3, g5, g63, g64, g65, hn, hk⟩ := hi
  have e1 := ev.keeps hn hk
  obtain ⟨l4, l5, l3⟩ := e1.ld
  have hc := ev.hc
  have hL := ev.hL
  have q2 := e1.n2
  have q3 := e1.n3
  by_cases c : j < 15
  · have c' : (j : Int) < 15 := by omega
    have ci : IntKind.i64.wrap ((j : Int) + 1) = ((j + 1 : Nat) : Int) := by rw [IntKind.wrap_i64]; omega
    obtain ⟨b, o, n, el⟩ : ∃ b o n, El (.slc lb 0 15 (some 15)) (j : Int) 1 h nx [.int .i64 n] b o := by
      have lns : (i64s ns).length = 15 := rfl
      obtain ⟨b, o, el⟩ := (rb.keeps hn hk).el (i := j) (by rw [lns]; exact c)
      rw [i64s_at] at el
      exact ⟨b, o, _, el⟩
    have p := el.pl
    have f := fun lg => el.fst (v := .int .i64 n) rfl lg
    simp (maxSteps := 4000000) (maxDischargeDepth := 6) [L3_2b, hlen, g1, g2, g3, g5, g63, g64, g65, c', p, f, l4]
    refine (odd_nw e1.g (by omega) (by omega) what k n).post (by omega) (by omega) ?_
    rintro _ HA nA tcA wrA ⟨mA, rfl, gA, hcA, hLA⟩ hnA kA wA
    have eA := e1.keeps hnA kA
    obtain ⟨_, l5A, _⟩ := eA.ld
    simp (maxSteps := 4000000) (maxDischargeDepth := 6) [hlen, g1, g2, g3, g5, l5A]
    refine (same_nw ev.ul gA n).post (by omega) (by omega) ?_
    rintro _ HB nB tcB wrB rfl hnB kB wB
    simp (maxSteps := 4000000) (maxDischargeDepth := 6) [hlen, g65, ci]
    refine ⟨by rw [Nat.and_comm]; exact ap3 (wA p2 (by omega)) (new_lo (by omega)), ?_⟩
    refine Round.nor (m' := 15 - (j + 1)) (by omega) ⟨j + 1, rfl, by omega, ?_, ?_, ?_, ?_, ?_, ?_, ?_, ?_, by omega, fun q hq => by rw [kB q (by omega), kA q (by omega), hk q hq]⟩
    all_goals simp [len_setT, sl_same, sl_ne, hlen, g1, g2, g3, g5, g63, g64]
  · have c' : ¬ (j : Int) < 15 := by omega
    simp (maxSteps := 4000000) (maxDischargeDepth := 6) [L3_2b, hlen, g1, g2, g3, g5, g63, g64, g65, c']
    refine Round.exit (R := N2R k what p2 p3 u m h0 nx0) ⟨rfl, ?_, ?_, ?_, ?_, ?_, hn, hk⟩ <;> simp [len_setT, sl_same, sl_ne, hlen, g1, g2, g3, g5]
def N3I (k : Int) (p2 p3 : Nat) (u : U) (m : M) (h0 : Mem) (nx0 : Nat) (mm : Nat) (ts : List AV) (h : Mem) (nx tc wr : Nat) : Prop := ∃ i : Nat, mm = 8 - i ∧ i ≤ 8 ∧ ts.length = 132 ∧ sl ts 1 = .int .i64 k ∧ sl ts 2 = .ptr p2 0 ∧ sl ts 3 = .ptr p3 0 ∧ sl ts 5 = .int .i64 i ∧ nx0 ≤ nx ∧ ∀ q, q < nx0 → h.blk q = h0.blk q
def N3R (k : Int) (p2 p3 : Nat) (u : U) (m : M) (h0 : Mem) (nx0 : Nat) (e : Ex) (ts : List AV) (h : Mem) (nx tc wr : Nat) : Prop := e = .exit 4 ∧ ts.length = 132 ∧ sl ts 1 = .int .i64 k ∧ nx0 ≤ nx ∧ ∀ q, q < nx0 → h.blk q = h0.blk q
set_option maxHeartbeats 8000000 in
theorem n3_round (k : Int) {p2 p3 : Nat} {u : U} {m : M} {h0 : Mem} {nx0 : Nat} (ev : Env p2 p3 u m h0 nx0) (mm : Nat) (ts : List AV) (h : Mem) (nx tc wr : Nat) (hi : N3I k p2 p3 u m h0 nx0 mm ts h nx tc wr) :
    Post (xC T 1500 L3_3b ts h nx 0) fun v' h' nx' tc' wr' => Round (N3I k p2 p3 u m h0 nx0) (N3R k p2 p3 u m h0 nx0) mm v' h' nx' (tc ||| tc') (wr ||| wr') := by
  obtain ⟨i, rfl, hi, hlen, g1, g2, g3, g5, hn, hk⟩ := hi
  have e1 := ev.keeps hn hk
  by_cases c : i < 8
  · have c' : (i : Int) < 8 := by omega
    have ci : IntKind.i64.wrap ((i : Int) + 1) = ((i + 1 : Nat) : Int) := by rw [IntKind.wrap_i64]; omega
    obtain ⟨H1, eH1, b1, k1⟩ := mkvar h nx ⟨3, 1, true, false, [.int .i64 (-1), .int .i64 0, .int .i64 1, .int .i64 5, .int .i64 7, .int .i64 8, .int .i64 9, .int .i64 20, .int .i64 21, .int .i64 22, .int .i64 255, .int .i64 1073741824, .int .i64 (-1073741825), .int .i64 4611686018427387904, .int .i64 (-9223372036854775808)]⟩
    have rb : RD 1 (.slc nx 0 15 (some 15)) H1 (nx + 1) (i64s ns) := RD.lit (M := i64s ns) (t := 3) (z := 1) (o := true) (g := false) rfl (by unfold i64s; simp) (by omega) b1
    simp (maxSteps := 4000000) (maxDischargeDepth := 6) [L3_3b, hlen, g1, g2, g3, g5, c', eH1, L3_2]
    refine Post.loop (n2_round k (i : Int) (e1.keeps (nx' := nx + 1) (by omega) k1) rb) 15 ⟨0, rfl, by omega, ?_, ?_, ?_, ?_, ?_, ?_, ?_, ?_, Nat.le_refl _, fun _ _ => rfl⟩ (by omega) ?_
    any_goals simp (maxDischargeDepth := 6) [len_setT, sl_same, sl_ne, hlen, g1, g2, g3, g5]
    rintro e ts2 h2 nx2 tc2 wr2 ⟨rfl, hlen2, t1, t2, t3, t5, hn2, hk2⟩
    simp (maxSteps := 4000000) (maxDischargeDepth := 6) [hlen2, t5, ci]
    refine Round.nor (m' := 8 - (i + 1)) (by omega) ⟨i + 1, rfl, by omega, ?_, ?_, ?_, ?_, ?_, by omega, fun q hq => by rw [hk2 q (by omega), k1 q (by omega), hk q hq]⟩
    all_goals simp [len_setT, sl_same, sl_ne, hlen2, t1, t2, t3]
  · have c' : ¬ (i : Int) < 8 := by omega
    simp (maxSteps := 4000000) (maxDischargeDepth := 6) [L3_3b, hlen, g1, g2, g3, g5, c']
    refine Round.exit (R := N3R k p2 p3 u m h0 nx0) ⟨rfl, ?_, ?_, hn, hk⟩ <;> simp [len_setT, sl_same, sl_ne, hlen, g1]
/-! ### Made methods -/
def N0I (op : Nat) (mm : Nat) (ts : List AV) (h : Mem) (nx tc wr : Nat) : Prop := ∃ x : Nat, mm = 30 - x ∧ x ≤ 30 ∧ ts.length = 132 ∧ sl ts 8 = .int .i64 op ∧ sl ts 9 = .int .i64 x
def N0R (op : Nat) (e : Ex) (ts : List AV) (h : Mem) (nx tc wr : Nat) : Prop := e = .exit 10 ∧ ts.length = 132 ∧ sl ts 8 = .int .i64 op
set_option maxHeartbeats 16000000 in
theorem n0_round {op : Nat} (ho : op < 24) (mm : Nat) (ts : List AV) (h : Mem) (nx tc wr : Nat) (hi : N0I op mm ts h nx tc wr) :
    Post (xC T 1300 L3_0b ts h nx 0) fun v' h' nx' tc' wr' => Round (N0I op) (N0R op) mm v' h' nx' (tc ||| tc') (wr ||| wr') := by
  obtain ⟨x, rfl, hx, hlen, g8, g9⟩ := hi
  by_cases c : x < 30
  · have c' : (x : Int) < 30 := by omega
    have ci : IntKind.i64.wrap ((x : Int) + 1) = ((x + 1 : Nat) : Int) := by rw [IntKind.wrap_i64]; omega
    have wo : IntKind.u8.wrap (op : Int) = (op : Int) := w8 (by omega)
    have wx : IntKind.u8.wrap (x : Int) = (x : Int) := w8 (by omega)
    obtain ⟨H1, eH1, b1, k1⟩ := mkvar h nx ⟨41, 2, true, false, [.int .i64 3, .int .i64 0, .int .i64 5, .int .i64 0, .int .i64 6, .int .i64 1, .int .i64 6, .int .i64 2, .int .i64 7, .int .i64 0]⟩
    obtain ⟨H2, eH2, b2, k2⟩ := mkvar H1 (nx + 1) ⟨5, 1, true, false, [.int .u8 0, .int .u8 0, .int .u8 op, .int .u8 x, .int .u8 3, .int .u8 0, .int .u8 14, .int .u8 0]⟩
    obtain ⟨m, hm⟩ : ∃ m : M, m = ⟨1, 2, .slc nx 0 5 (some 5), [(3, 0), (5, 0), (6, 1), (6, 2), (7, 0)], .slc (nx + 1) 0 8 (some 8), [0, 0, op, x, 3, 0, 14, 0]⟩ := ⟨_, rfl⟩
    have hcs : [AV.int .i64 1, .int .i64 2, .slc nx 0 5 (some 5), .slc (nx + 1) 0 8 (some 8)] = m.cs := by rw [hm]; rfl
    have gm : MR m H2 (nx + 2) := by
      rw [hm]
      refine ⟨⟨RD.lit (M := bnds [(3, 0), (5, 0), (6, 1), (6, 2), (7, 0)]) (t := 41) (z := 2) (o := true) (g := false) rfl (by unfold bnds; simp) (by omega) ((k2 nx (by omega)).trans b1), by show (5 : Nat) ≤ big; decide⟩, RD.lit (M := u8s [0, 0, op, x, 3, 0, 14, 0]) (t := 5) (z := 1) (o := true) (g := false) rfl (by unfold u8s; simp) (by omega) b2, fun y hy => ?_, by show (8 : Nat) ≤ big; decide⟩
      simp only [List.mem_cons, List.not_mem_nil, or_false] at hy
      omega
    obtain ⟨H3, sH3, b3, k3⟩ := st_var H2 (nx + 2) (t := 37) (sz := 4) (n := 4) (g := false) [.int .i64 0, .int .i64 0, .nils, .nils] m.cs rfl rfl gm.one
    have g3 := gm.keeps (nx' := nx + 3) (by omega) k3
    have l4 := fun lg => ld_sub (n := 4) (o := 0) b3 (show nx + 2 < nx + 3 by omega) (vs := m.cs) rfl lg
    have t33 : toNle 70368744177664 3 = some 3 := by decide
    have t3 : toNle 3 3 = some 3 := by decide
    have t11 : toNle 70368744177664 1 = some 1 := by decide
    have t1 : toNle 1 1 = some 1 := by decide
    obtain ⟨H4, eH4, b4, k4⟩ := mkvar H3 (nx + 3) ⟨9, 1, true, false, [.str ⟨⟨[120]⟩⟩]⟩
    obtain ⟨H5, eH5, b5, k5⟩ := mkvar H4 (nx + 4) ⟨61, 4, true, false, [.str ⟨⟨[]⟩⟩, .int .i64 0, .int .i64 0, .nils, .str ⟨⟨[]⟩⟩, .int .i64 0, .int .i64 0, .nils, .str ⟨⟨[]⟩⟩, .int .i64 0, .int .i64 0, .nils]⟩
    obtain ⟨H6, eH6, b6, k6⟩ := mkvar H5 (nx + 5) ⟨37, 4, true, false, [.int .i64 0, .int .i64 0, .nils, .nils]⟩
    have g6 : MR m H6 (nx + 6) := ((g3.keeps (nx' := nx + 4) (by omega) k4).keeps (nx' := nx + 5) (by omega) k5).keeps (by omega) k6
    have ul : UL ⟨.slc (nx + 3) 0 1 (some 1), .slc (nx + 4) 0 3 (some 3), .slc (nx + 5) 0 1 (some 1), .nils, 0, 1, 3, 1⟩ := ⟨rfl, rfl, rfl, rfl⟩
    simp (maxSteps := 4000000) (maxDischargeDepth := 6) [L3_0b, hlen, g8, g9, c', wo, wx, eH1, eH2, hcs, sH3, l4, t33, t3, t11, t1, eH4, eH5, eH6]
    refine (same_nw ul g6 (op : Int)).post (by omega) (by omega) ?_
    rintro _ HA nA tcA wrA rfl hnA kA wA
    obtain ⟨HB, eHB, bB, kB⟩ := mkvar HA nA ⟨5, 1, true, false, [.int .u8 op, .int .u8 x]⟩
    simp (maxSteps := 4000000) (maxDischargeDepth := 6) [hlen, g8, g9, wo, wx, eHB]
    have gB : MR ⟨1, 0, .nils, [], .slc nA 0 2 (some 2), [op, x]⟩ HB (nA + 1) := mr_lit 1 0 (RD.lit (M := u8s [op, x]) (t := 5) (z := 1) (o := true) (g := false) rfl (by unfold u8s; simp) (by omega) bB) (fun y hy => by
      simp only [List.mem_cons, List.not_mem_nil, or_false] at hy
      omega) (by simp)
    refine (same_nw u0_ul gB (x : Int)).post (by omega) (by omega) ?_
    rintro _ HC nC tcC wrC rfl hnC kC wC
    simp (maxSteps := 4000000) (maxDischargeDepth := 6) [hlen, g8, g9, ci]
    refine Round.nor (m' := 30 - (x + 1)) (by omega) ⟨x + 1, rfl, by omega, ?_, ?_, ?_⟩
    all_goals simp [len_setT, sl_same, sl_ne, hlen, g8]
  · have c' : ¬ (x : Int) < 30 := by omega
    simp (maxSteps := 4000000) (maxDischargeDepth := 6) [L3_0b, hlen, g8, g9, c']
    refine Round.exit (R := N0R op) ⟨rfl, ?_, ?_⟩ <;> simp [len_setT, sl_same, sl_ne, hlen, g8]
def N1I (mm : Nat) (ts : List AV) (h : Mem) (nx tc wr : Nat) : Prop := ∃ o : Nat, mm = 24 - o ∧ o ≤ 24 ∧ ts.length = 132 ∧ sl ts 8 = .int .i64 o
def N1R (e : Ex) (ts : List AV) (h : Mem) (nx tc wr : Nat) : Prop := e = .exit 8 ∧ ts.length = 132
set_option maxHeartbeats 8000000 in
theorem n1_round (mm : Nat) (ts : List AV) (h : Mem) (nx tc wr : Nat) (hi : N1I mm ts h nx tc wr) :
    Post (xC T 1500 L3_1b ts h nx 0) fun v' h' nx' tc' wr' => Round N1I N1R mm v' h' nx' (tc ||| tc') (wr ||| wr') := by
  obtain ⟨o, rfl, ho, hlen, g8⟩ := hi
  by_cases c : o < 24
  · have c' : (o : Int) < 24 := by omega
    have ci : IntKind.i64.wrap ((o : Int) + 1) = ((o + 1 : Nat) : Int) := by rw [IntKind.wrap_i64]; omega
    simp (maxSteps := 4000000) (maxDischargeDepth := 6) [L3_1b, hlen, g8, c', L3_0]
    refine Post.loop (n0_round c) 30 ⟨0, rfl, by omega, ?_, ?_, ?_⟩ (by omega) ?_
    any_goals simp (maxDischargeDepth := 6) [len_setT, sl_same, sl_ne, hlen, g8]
    rintro e ts2 h2 nx2 tc2 wr2 ⟨rfl, hlen2, t8⟩
    simp (maxSteps := 4000000) (maxDischargeDepth := 6) [hlen2, t8, ci]
    refine Round.nor (m' := 24 - (o + 1)) (by omega) ⟨o + 1, rfl, by omega, ?_, ?_⟩
    all_goals simp [len_setT, sl_same, sl_ne, hlen2]
  · have c' : ¬ (o : Int) < 24 := by omega
    simp (maxSteps := 4000000) (maxDischargeDepth := 6) [L3_1b, hlen, g8, c']
    refine Round.exit (R := N1R) ⟨rfl, ?_⟩
    simp [len_setT, sl_same, sl_ne, hlen]
def N5I (mm : Nat) (ts : List AV) (h : Mem) (nx tc wr : Nat) : Prop := ∃ k : Nat, mm = 30 - k ∧ k ≤ 30 ∧ ts.length = 132 ∧ sl ts 1 = .int .i64 k
def N5R (e : Ex) (ts : List AV) (h : Mem) (nx tc wr : Nat) : Prop := e = .exit 0 ∧ ts.length = 132
set_option maxHeartbeats 16000000 in
theorem n5_round (mm : Nat) (ts : List AV) (h : Mem) (nx tc wr : Nat) (hi : N5I mm ts h nx tc wr) :
    Post (xC T 4000 L3_5b ts h nx 0) fun v' h' nx' tc' wr' => Round N5I N5R mm v' h' nx' (tc ||| tc') (wr ||| wr') := by
  obtain ⟨k, rfl, hk, hlen, g1⟩ := hi
  by_cases c : k < 30
  · have c' : (k : Int) < 30 := by omega
    have ci : IntKind.i64.wrap ((k : Int) + 1) = ((k + 1 : Nat) : Int) := by rw [IntKind.wrap_i64]; omega
    simp (maxSteps := 4000000) (maxDischargeDepth := 6) [L3_5b, hlen, g1, c']
    refine (tape_nw (k : Int) h nx).post (by omega) (by omega) ?_
    rintro v h1 nx1 tc1 wr1 ⟨T0, rv, hT⟩ hn1 k1 w1
    have tp := tp_of rv (by rw [hT]; unfold big; omega)
    obtain ⟨i, hi, hr⟩ : ∃ i : Nat, i < 9 ∧ (k : Int).tmod 9 = (i : Int) := ⟨k % 9, by omega, by rw [Int.tmod_eq_emod_of_nonneg (by omega)]; omega⟩
    have fm := rv.form
    rcases fm with ⟨rfl, _⟩ | ⟨b, o, c', rfl⟩
    all_goals
      simp (maxSteps := 4000000) (maxDischargeDepth := 6) [hlen, g1]
      refine (unit_tp tp).post nx1 (by omega) (by omega) (by omega) ?_
      rintro _ H1 nx2 tc2 wr2 ⟨nv, cv, mv, ov, L, M0, rfl, t1, uq⟩ n2 k2 mk2 _
      have ul := uq.ul
      have one := ul.one
      obtain ⟨u, hu⟩ : ∃ u, u = UQ.u nv cv mv ov L.length := ⟨_, rfl⟩
      have hucs : [nv, cv, mv, ov, .int .i64 6] = u.cs := by rw [hu]; rfl
      have hmv : u.cs[2]? = some mv := by rw [hu]; rfl
      rw [← hu] at ul one
      have lmv := ul.lk
      rw [hu] at lmv
      simp only [UQ.u] at lmv
      obtain ⟨H2, sH2, b2, k2'⟩ := st_var H1 nx2 (t := 27) (sz := 5) (n := 5) (g := false) [.nils, .nils, .nils, .nils, .int .i64 0] u.cs rfl rfl one
      have lu := fun lg => ld_at b2 (show nx2 < nx2 + 1 by omega) (o := 2) (v := mv) hmv lg
      obtain ⟨m1, bm, om, g1m, hL1, hc1, el⟩ := uq.meth (i := i) hi
      have el2 := el.keep (h' := H2) (nx' := nx2 + 1) (by omega) (k2' bm el.lt)
      have p1 := el2.pl
      have f1 := el2.all
      have g1' := g1m.keeps (nx' := nx2 + 1) (by omega) k2'
      obtain ⟨H3, sH3, b3, k3⟩ := st_var H2 (nx2 + 1) (t := 37) (sz := 4) (n := 4) (g := false) [.int .i64 0, .int .i64 0, .nils, .nils] m1.cs rfl rfl g1'.one
      simp (maxSteps := 4000000) (maxDischargeDepth := 6) [hlen, g1, hucs, sH2, lu, lmv, hr, p1, f1, sH3]
      refine ⟨bit_and (by have := el.lt; omega), ?_⟩
      have ev : Env nx2 (nx2 + 1) u m1 H3 (nx2 + 2) := ⟨ul, (k3 nx2 (by omega)).trans b2, b3, by omega, by omega, g1'.keeps (by omega) k3, hc1, hL1⟩
      simp (maxSteps := 4000000) (maxDischargeDepth := 6) [L3_4]
      refine Post.loop (n4_round (k : Int) ev) m1.c.length ⟨0, rfl, by omega, ?_, ?_, ?_, ?_, ?_, Nat.le_refl _, fun _ _ => rfl⟩ (by omega) ?_
      any_goals simp (maxDischargeDepth := 6) [len_setT, sl_same, sl_ne, hlen, g1]
      rintro e ts4 H4 nx4 tc4 wr4 ⟨rfl, hlen4, t1', t2', t3', hn4, k4⟩
      simp (maxSteps := 4000000) (maxDischargeDepth := 6) [hlen4, t1', t2', t3', L3_3]
      refine Post.loop (n3_round (k : Int) (ev.keeps hn4 k4)) 8 ⟨0, rfl, by omega, ?_, ?_, ?_, ?_, ?_, Nat.le_refl _, fun _ _ => rfl⟩ (by omega) ?_
      any_goals simp (maxDischargeDepth := 6) [len_setT, sl_same, sl_ne, hlen4, t1', t2', t3']
      rintro e ts5 H5 nx5 tc5 wr5 ⟨rfl, hlen5, u1', hn5, k5⟩
      simp (maxSteps := 4000000) (maxDischargeDepth := 6) [hlen5, u1', ci]
      refine Round.nor (m' := 30 - (k + 1)) (by omega) ⟨k + 1, rfl, by omega, ?_, ?_⟩
      all_goals simp [len_setT, sl_same, sl_ne, hlen5]
  · have c' : ¬ (k : Int) < 30 := by omega
    simp (maxSteps := 4000000) (maxDischargeDepth := 6) [L3_5b, hlen, g1, c']
    refine Round.exit (R := N5R) ⟨rfl, ?_⟩
    simp [len_setT, sl_same, sl_ne, hlen]
set_option maxHeartbeats 16000000 in
theorem numbers_law (h : Mem) (nx : Nat) : Yes T 3 [] h nx := by
  refine Yes.of 8000 ?_
  rw [xF_fr T3]
  simp (maxSteps := 4000000) (maxDischargeDepth := 6) [F3, L3_5]
  refine Post.loop n5_round 30 ⟨0, rfl, by omega, ?_, ?_⟩ (by omega) ?_
  any_goals simp (maxDischargeDepth := 6) [len_setT, sl_same, sl_ne, sl_frame, len_frame]
  rintro e ts1 h1 nx1 tc1 wr1 ⟨rfl, hlen1⟩
  simp (maxSteps := 4000000) (maxDischargeDepth := 6) [hlen1, L3_1]
  refine Post.loop n1_round 24 ⟨0, rfl, by omega, ?_, ?_⟩ (by omega) ?_
  any_goals simp [len_setT, sl_same, sl_ne, hlen1]
  rintro e ts2 h2 nx2 tc2 wr2 ⟨rfl, hlen2⟩
  obtain ⟨H1, eH1, b1, k1⟩ := mkvar h2 nx2 ⟨5, 1, true, false, [.int .u8 1]⟩
  have g1 : MR ⟨0, 0, .nils, [], .slc nx2 0 1 (some 1), [1]⟩ H1 (nx2 + 1) := mr_lit 0 0 (RD.lit (M := u8s [1]) (t := 5) (z := 1) (o := true) (g := false) rfl (by unfold u8s; simp) (by omega) b1) (by unfold Ok8; simp) (by simp)
  simp (maxSteps := 4000000) (maxDischargeDepth := 6) [hlen2, eH1]
  refine (same_nw u0_ul g1 _).post (by omega) (by omega) ?_
  rintro _ H2 n2 tc2' wr2' rfl hn2 k2 w2
  obtain ⟨H3, eH3, b3, k3⟩ := mkvar H2 n2 ⟨5, 1, true, false, [.int .u8 1, .int .u8 2]⟩
  have g3 : MR ⟨0, 0, .nils, [], .slc n2 0 2 (some 2), [1, 2]⟩ H3 (n2 + 1) := mr_lit 0 0 (RD.lit (M := u8s [1, 2]) (t := 5) (z := 1) (o := true) (g := false) rfl (by unfold u8s; simp) (by omega) b3) (by unfold Ok8; simp) (by simp)
  simp (maxSteps := 4000000) (maxDischargeDepth := 6) [hlen2, eH3]
  refine (same_nw u0_ul g3 _).post (by omega) (by omega) ?_
  rintro _ H4 n4 tc4 wr4 rfl hn4 k4 w4
  simp (maxSteps := 4000000) (maxDischargeDepth := 6) [hlen2]
  refine (known_nw H4 n4).post (by omega) (by omega) ?_
  rintro _ H5 n5 tc5 wr5 rfl hn5 k5 w5
  simp (maxSteps := 4000000) (maxDischargeDepth := 6) [F3, hlen2]
end Go.Proofs.YtlbjdkhpabpmiaaT
