/- Shape: ShapeNumbers. -/
import Derived.Test.YtahjkhmoojobgaaOdd
namespace Go.Proofs.YtahjkhmoojobgaaT
open Go Go.Proofs.YtahjkhmoojobgaaE Go.Proofs.YtahjkhmoojobgaaB
set_option linter.unusedSimpArgs false
set_option linter.unusedVariables false
attribute [local congr] Post_cg PostL_cg condP_cg
attribute [local simp ↓] P_skip P_exit P_ret P_seq P_cond P_blk P_reg P_draw P_nil P_cons op_len Post.some Post_bind Post_ret Post_draw PostL_nil PostL_cons op_islc step_none step_t step_f step_nt step_nf op_load op_store op_slice op_app
attribute [local simp] condP_t condP_f dum_ab stepR want_none want_some opRun ev_t ev_c put_none put_some resAll res_tmp res_cell oneOf minI maxI min2A max2A mn2 mx2 mx3 rdBlk wrBlk newBlk partA abin ibin isShift AV.cells AV.one lay sub fillA lenA toN allApart apartFrom Nat.testBit Mem.blk_set_same Mem.blk_set_ne Mem.set_set bit_zero bit_self lowBits_or lowBits_zero len_setT sl_same sl_ne len_frame sl_frame lenOp_slc lenOp_nils Post_fail ofOpt_some ofOpt_none eA_b eA_i eA_s eA_nn eA_np eA_pn eA_lnn eA_lnp eA_lpn eA_i2 eA_i3 blt_dec Nat.add_assoc keeps_refl keeps_at keeps_up new_one and_pow bit_hi lowBits_pow ble_dec fr_refl fr_at fr_up fr_p reps

theorem push1 {s : AV} {h : Mem} {nx : Nat} {l : List Int} (ow : OW 1 s h nx (i64s l)) (hl : l.length ≤ 100000) (x : Int) (lg : Nat) {R : AV → Mem → Nat → Nat → Nat → Prop}
    (k : ∀ s' h' nx' tc wr, OW 1 s' h' nx' (i64s (l ++ [x])) → nx + 1 ≤ nx' → (∀ b, b < nx → bid s ≠ some b → h'.blk b = h.blk b) → (∀ b, bid s' = some b → bid s = some b ∨ nx < b) → (∀ q, bid s ≠ some q → wr &&& 2 ^ q = 0) → R s' h' nx' tc wr) : Post (appOp 3 1 8 s (.slc nx 0 1 (some 1)) (h.set nx (some ⟨3, 1, true, false, [.int .i64 x]⟩)) (nx + 1) lg) R := by
  obtain ⟨s', h', nx', tc, wr, e, n1, o1, k1, d1, t1, w1⟩ := OW.push (sz := 1) (by decide) 3 8 ow [.int .i64 x] rfl (fun k hk => fits_few (by rw [i64s_len] at hk; omega) (by omega)) rfl 3 1 lg
  rw [← i64s_app] at o1
  exact Post.of e (k _ _ _ _ _ o1 n1 k1 d1 w1)
def T8I (k : Int) (h0 : Mem) (nx0 : Nat) (mm : Nat) (ts : List AV) (h : Mem) (nx tc wr : Nat) : Prop := ∃ (i : Nat) (s : AV) (l : List Int), mm = 900 - i ∧ i ≤ 900 ∧ ts.length = 25 ∧ sl ts 0 = .int .i64 k ∧ sl ts 3 = s ∧ sl ts 4 = .int .i64 i ∧ OW 1 s h nx (i64s l) ∧ l.length = i ∧ (∀ x, bid s = some x → nx0 ≤ x) ∧ nx0 ≤ nx ∧ (∀ q, q < nx0 → h.blk q = h0.blk q) ∧ ∀ q, q < nx0 → wr &&& 2 ^ q = 0
def T8R (h0 : Mem) (nx0 : Nat) (e : Ex) (ts : List AV) (h : Mem) (nx tc wr : Nat) : Prop := e = .exit 0 ∧ ∃ (s : AV) (l : List Int), ts.length = 25 ∧ sl ts 3 = s ∧ OW 1 s h nx (i64s l) ∧ l.length = 900 ∧ nx0 ≤ nx ∧ (∀ q, q < nx0 → h.blk q = h0.blk q) ∧ ∀ q, q < nx0 → wr &&& 2 ^ q = 0
set_option maxHeartbeats 8000000 in
theorem t8_round (k : Int) {h0 : Mem} {nx0 : Nat} (lg : Nat) (mm : Nat) (ts : List AV) (h : Mem) (nx tc wr : Nat) (hi : T8I k h0 nx0 mm ts h nx tc wr) :
    Post (xC T 60 L8_0b ts h nx lg) fun v' h' nx' tc' wr' => Round (T8I k h0 nx0) (T8R h0 nx0) mm v' h' nx' (tc ||| tc') (wr ||| wr') := by
  obtain ⟨i, s, l, rfl, hi9, hlen, g0, g3, g4, ow, hl, own, hn, hk, hw⟩ := hi
  by_cases c : i < 900
  · have c' : (i : Int) < 900 := by omega
    have ci : IntKind.i64.wrap ((i : Int) + 1) = ((i + 1 : Nat) : Int) := by rw [IntKind.wrap_i64]; omega
    simp (maxSteps := 4000000) (maxDischargeDepth := 6) [L8_0b, hlen, g0, g3, g4, c, c']
    refine push1 ow (by omega) _ lg ?_
    intro s' h' nx' tc2 wr2 o2 n2 k2 d2 w2
    simp (maxSteps := 4000000) (maxDischargeDepth := 6) [hlen, g4, ci]
    have no : ∀ q, q < nx0 → bid s ≠ some q := fun q hq e => by have := own q e; omega
    refine Round.nor (m' := 900 - (i + 1)) (by omega) ⟨i + 1, s', _, rfl, by omega, ?_, ?_, ?_, ?_, o2, by rw [List.length_append, hl]; rfl, fun x hx => ?_, by omega, fun q hq => (k2 q (by omega) (no q hq)).trans (hk q hq), fun q hq => wr_or (hw q hq) (w2 q (no q hq))⟩
    any_goals simp [len_setT, sl_same, sl_ne, hlen, g0]
    rcases d2 x hx with e | e
    · exact own x e
    · omega
  · have c' : ¬ (i : Int) < 900 := by omega
    simp (maxSteps := 4000000) (maxDischargeDepth := 6) [L8_0b, hlen, g0, g3, g4, c, c']
    refine Round.exit (R := T8R h0 nx0) ⟨rfl, s, l, ?_, ?_, ow, by omega, hn, hk, hw⟩ <;> simp [len_setT, sl_same, sl_ne, hlen, g3]
theorem tape_nw (k : Int) (h : Mem) (nx : Nat) : NwC T 1100 8 [.int .i64 k] h nx fun r h' nx' => ∃ l, RD 1 r h' nx' (i64s l) ∧ l.length = 900 := by
  intro lg hlg
  rw [xF_fr T8]
  simp (maxSteps := 4000000) (maxDischargeDepth := 6) [F8, L8_0]
  refine Post.loop (t8_round k (h0 := h) (nx0 := nx) lg) 900 ⟨0, .nils, [], rfl, by omega, ?_, ?_, ?_, ?_, OW.nil .., rfl, (fun x hx => by cases hx), Nat.le_refl _, fun _ _ => rfl, fun q _ => Nat.zero_and _⟩ (by omega) ?_
  any_goals simp (maxDischargeDepth := 6) [len_setT, sl_same, sl_ne, sl_frame, len_frame]
  rintro e ts' h' nx' tc wr ⟨rfl, s, l, hlen, g3, ow, hl, hn, hk, hw⟩
  simp (maxSteps := 4000000) (maxDischargeDepth := 6) [hlen, g3]
  exact ⟨⟨l, ow.rd (by decide), hl⟩, hn, hk, hw⟩
/-! ### Each of fourteen numbers -/
def ns : List Int := [-2, -1, 0, 1, 2, 3, 5, 15, 16, 17, 31, 62, 63, 4611686018427387904]
def N1I (k what : Int) (cv : AV) (lb : Nat) (L : List C) (h0 : Mem) (nx0 : Nat) (mm : Nat) (ts : List AV) (h : Mem) (nx tc wr : Nat) : Prop := ∃ (j : Nat), mm = 14 - j ∧ j ≤ 14 ∧ ts.length = 94 ∧ sl ts 1 = .int .i64 k ∧ sl ts 2 = cv ∧ sl ts 3 = .int .i64 what ∧ sl ts 24 = .slc lb 0 14 (some 14) ∧ sl ts 25 = .int .i64 14 ∧ sl ts 26 = .int .i64 j ∧ nx0 ≤ nx ∧ ∀ q, q < nx0 → h.blk q = h0.blk q
def N1R (k what : Int) (cv : AV) (L : List C) (h0 : Mem) (nx0 : Nat) (e : Ex) (ts : List AV) (h : Mem) (nx tc wr : Nat) : Prop := e = .exit 4 ∧ ts.length = 94 ∧ sl ts 1 = .int .i64 k ∧ sl ts 2 = cv ∧ sl ts 3 = .int .i64 what ∧ nx0 ≤ nx ∧ ∀ q, q < nx0 → h.blk q = h0.blk q
set_option maxHeartbeats 8000000 in
theorem n1_round (k what : Int) {cv : AV} {lb : Nat} {L : List C} {h0 : Mem} {nx0 : Nat} (cr : CR cv h0 nx0 L) (hL : L.length ≤ 5) (fw : Few 6 L) (rb : RD 1 (.slc lb 0 14 (some 14)) h0 nx0 (i64s ns)) (mm : Nat) (ts : List AV) (h : Mem) (nx tc wr : Nat) (hi : N1I k what cv lb L h0 nx0 mm ts h nx tc wr) :
    Post (xC T 1200 L3_1b ts h nx 0) fun v' h' nx' tc' wr' => Round (N1I k what cv lb L h0 nx0) (N1R k what cv L h0 nx0) mm v' h' nx' (tc ||| tc') (wr ||| wr') := by
  obtain ⟨j, rfl, hj, hlen, g1, g2, g3, g24, g25, g26, hn, hk⟩ := hi
  by_cases c : j < 14
  · have c' : (j : Int) < 14 := by omega
    have ci : IntKind.i64.wrap ((j : Int) + 1) = ((j + 1 : Nat) : Int) := by rw [IntKind.wrap_i64]; omega
    obtain ⟨b, o, n, el⟩ : ∃ b o n, El (.slc lb 0 14 (some 14)) (j : Int) 1 h nx [.int .i64 n] b o := by
      have lns : (i64s ns).length = 14 := rfl
      obtain ⟨b, o, el⟩ := (rb.keeps hn hk).el (i := j) (by rw [lns]; exact c)
      rw [i64s_at] at el
      exact ⟨b, o, _, el⟩
    have e0 := fun lg => el.fst (v := .int .i64 n) rfl lg
    have p0 := el.pl
    have n3 : Go.bits .and .i64 n 3 = n % 4 := and_mask .i64 2 (by decide) n
    have cr1 := cr.keeps hn hk
    simp (maxSteps := 4000000) (maxDischargeDepth := 6) [L3_1b, hlen, g1, g2, g3, g24, g25, g26, c, c', e0, p0, n3]
    refine (odd_nw cr1 (by omega) (bb := 6) (by omega) fw what _ n).post (by omega) (by omega) ?_
    rintro y h1 nx1 tc1 wr1 ⟨L1, c1, l1, f1⟩ n1 k1 w1
    simp (maxSteps := 4000000) (maxDischargeDepth := 6) [hlen, g1, g2, g3, g24, g25, g26]
    refine (same_nw 6 9 _ n c1 f1.b).post (by omega) (by omega) ?_
    rintro _ h2 nx2 tc2 wr2 rfl n2 k2 w2
    simp (maxSteps := 4000000) (maxDischargeDepth := 6) [hlen, g26, ci]
    refine Round.nor (m' := 14 - (j + 1)) (by omega) ⟨j + 1, rfl, by omega, ?_, ?_, ?_, ?_, ?_, ?_, ?_, by omega, fun q hq => by rw [k2 q (by omega), k1 q (by omega), hk q hq]⟩ <;> simp [len_setT, sl_same, sl_ne, hlen, g1, g2, g3, g24, g25]
  · have c' : ¬ (j : Int) < 14 := by omega
    simp (maxSteps := 4000000) (maxDischargeDepth := 6) [L3_1b, hlen, g1, g2, g3, g24, g25, g26, c, c']
    refine Round.exit (R := N1R k what cv L h0 nx0) ⟨rfl, ?_, ?_, ?_, ?_, hn, hk⟩ <;> simp [len_setT, sl_same, sl_ne, hlen, g1, g2, g3]
def N2I (k : Int) (cv : AV) (h0 : Mem) (nx0 : Nat) (mm : Nat) (ts : List AV) (h : Mem) (nx tc wr : Nat) : Prop := ∃ (j : Nat), mm = 8 - j ∧ j ≤ 8 ∧ ts.length = 94 ∧ sl ts 1 = .int .i64 k ∧ sl ts 2 = cv ∧ sl ts 3 = .int .i64 j ∧ nx0 ≤ nx ∧ ∀ q, q < nx0 → h.blk q = h0.blk q
def N2R (k : Int) (e : Ex) (ts : List AV) (h : Mem) (nx tc wr : Nat) : Prop := e = .exit 2 ∧ ts.length = 94 ∧ sl ts 1 = .int .i64 k
set_option maxHeartbeats 8000000 in
theorem n2_round (k : Int) {cv : AV} {L : List C} {h0 : Mem} {nx0 : Nat} (cr : CR cv h0 nx0 L) (hL : L.length ≤ 5) (fw : Few 6 L) (mm : Nat) (ts : List AV) (h : Mem) (nx tc wr : Nat) (hi : N2I k cv h0 nx0 mm ts h nx tc wr) :
    Post (xC T 1400 L3_2b ts h nx 0) fun v' h' nx' tc' wr' => Round (N2I k cv h0 nx0) (N2R k) mm v' h' nx' (tc ||| tc') (wr ||| wr') := by
  obtain ⟨j, rfl, hj, hlen, g1, g2, g3, hn, hk⟩ := hi
  by_cases c : j < 8
  · have c' : (j : Int) < 8 := by omega
    have ci : IntKind.i64.wrap ((j : Int) + 1) = ((j + 1 : Nat) : Int) := by rw [IntKind.wrap_i64]; omega
    obtain ⟨H, hH⟩ : ∃ H, H = h.set nx (some ⟨3, 1, true, false, ns.map (AV.int .i64 ·)⟩) := ⟨_, rfl⟩
    have kH : ∀ q, q < nx → H.blk q = h.blk q := fun q hq => by rw [hH, Mem.blk_set_ne _ _ _ _ (by omega)]
    have rb : RD 1 (.slc nx 0 14 (some 14)) H (nx + 1) (i64s ns) := RD.lit (M := i64s ns) (t := 3) (z := 1) (o := true) (g := false) rfl (fun y hy => by
      unfold i64s at hy
      obtain ⟨x, _, rfl⟩ := List.mem_map.1 hy
      rfl) (by omega) (by rw [hH, Mem.blk_set_same, flat_one])
    have crH := cr.keeps (h' := H) (nx' := nx + 1) (by omega) fun q hq => (kH q (by omega)).trans (hk q hq)
    have hH' := hH.symm
    simp only [ns, List.map_cons, List.map_nil] at hH'
    simp (maxSteps := 4000000) (maxDischargeDepth := 6) [L3_2b, hlen, g1, g2, g3, c, c', hH', L3_1]
    refine Post.loop (n1_round k j crH hL fw rb) 14 ⟨0, rfl, by omega, ?_, ?_, ?_, ?_, ?_, ?_, ?_, Nat.le_refl _, fun _ _ => rfl⟩ ?_ ?_
    any_goals simp [len_setT, sl_same, sl_ne, hlen, g1, g2, g3]
    rintro e ts1 h1 nx1 tc1 wr1 ⟨rfl, hlen1, a1, a2, a3, n1, k1⟩
    simp (maxSteps := 4000000) (maxDischargeDepth := 6) [hlen1, a3, ci]
    refine Round.nor (m' := 8 - (j + 1)) (by omega) ⟨j + 1, rfl, by omega, ?_, ?_, ?_, ?_, by omega, fun q hq => by rw [k1 q (by omega), kH q (by omega), hk q hq]⟩ <;> simp [len_setT, sl_same, sl_ne, hlen1, a1, a2]
  · have c' : ¬ (j : Int) < 8 := by omega
    simp (maxSteps := 4000000) (maxDischargeDepth := 6) [L3_2b, hlen, g1, g2, g3, c, c']
    refine Round.exit (R := N2R k) ⟨rfl, ?_, ?_⟩ <;> simp [len_setT, sl_same, sl_ne, hlen, g1]
def N3I (mm : Nat) (ts : List AV) (h : Mem) (nx tc wr : Nat) : Prop := ∃ (j : Nat), mm = 40 - j ∧ j ≤ 40 ∧ ts.length = 94 ∧ sl ts 1 = .int .i64 j
def N3R (e : Ex) (ts : List AV) (h : Mem) (nx tc wr : Nat) : Prop := e = .exit 0 ∧ ts.length = 94
set_option maxHeartbeats 8000000 in
theorem n3_round (mm : Nat) (ts : List AV) (h : Mem) (nx tc wr : Nat) (hi : N3I mm ts h nx tc wr) :
    Post (xC T 4000 L3_3b ts h nx 0) fun v' h' nx' tc' wr' => Round N3I N3R mm v' h' nx' (tc ||| tc') (wr ||| wr') := by
  obtain ⟨j, rfl, hj, hlen, g1⟩ := hi
  by_cases c : j < 40
  · have c' : (j : Int) < 40 := by omega
    have ci : IntKind.i64.wrap ((j : Int) + 1) = ((j + 1 : Nat) : Int) := by rw [IntKind.wrap_i64]; omega
    simp (maxSteps := 4000000) (maxDischargeDepth := 6) [L3_3b, hlen, g1, c, c']
    refine (tape_nw j h nx).post (by omega) (by omega) ?_
    rintro v h1 nx1 tc1 wr1 ⟨l, rv, hl⟩ n1 k1 w1
    have tp := tp_new rv (by rw [hl]; decide)
    have fm := rv.form
    rcases fm with ⟨rfl, e⟩ | ⟨b, o, cc, rfl⟩
    · have := congrArg List.length e
      rw [i64s_len, hl] at this
      cases this
    · simp (maxSteps := 4000000) (maxDischargeDepth := 6) [hlen, g1]
      refine (unit_tp tp).post nx1 (by omega) (by omega) (by omega) ?_
      rintro _ h2 nx2 tc2 wr2 ⟨nv, cv, mv, ov, L, M, rfl, t2, uq⟩ n2 k2 m2 _
      have kl := uq.kl
      simp (maxSteps := 4000000) (maxDischargeDepth := 6) [hlen, g1, L3_2]
      refine Post.loop (n2_round j uq.cr kl.n5 ⟨kl.bb⟩) 8 ⟨0, rfl, by omega, ?_, ?_, ?_, ?_, Nat.le_refl _, fun _ _ => rfl⟩ ?_ ?_
      any_goals simp [len_setT, sl_same, sl_ne, hlen, g1]
      rintro e ts3 h3 nx3 tc3 wr3 ⟨rfl, hlen3, a1⟩
      simp (maxSteps := 4000000) (maxDischargeDepth := 6) [hlen3, a1, ci]
      refine Round.nor (m' := 40 - (j + 1)) (by omega) ⟨j + 1, rfl, by omega, ?_, ?_⟩ <;> simp [len_setT, sl_same, sl_ne, hlen3]
  · have c' : ¬ (j : Int) < 40 := by omega
    simp (maxSteps := 4000000) (maxDischargeDepth := 6) [L3_3b, hlen, g1, c, c']
    refine Round.exit (R := N3R) ⟨rfl, ?_⟩
    simp [len_setT, sl_same, sl_ne, hlen]
/-! ### Chains that are deep -/
def kdg (i : Nat) : ByteArray := Utf8.encode (IntKind.i32.wrap (IntKind.i64.wrap (97 + (i : Int))))
def knm (i : Nat) : ByteArray := (⟨⟨[75]⟩⟩ : ByteArray) ++ kdg i
theorem kdg_size : ∀ i, i < 14 → (kdg i).size = 1 := by decide +kernel
theorem knm_size : ∀ i, i < 14 → (knm i).size = 2 := by decide +kernel
def N0I (mm : Nat) (ts : List AV) (h : Mem) (nx tc wr : Nat) : Prop := ∃ (i : Nat) (u : AV) (M : List C), mm = 14 - i ∧ i ≤ 14 ∧ ts.length = 94 ∧ sl ts 6 = u ∧ sl ts 7 = .int .i64 i ∧ CO u h nx M ∧ M.length = i ∧ ∀ c ∈ M, c.B.length ≤ 0
def N0R (e : Ex) (ts : List AV) (h : Mem) (nx tc wr : Nat) : Prop := e = .exit 6 ∧ ts.length = 94
set_option maxHeartbeats 16000000 in
theorem n0_round (mm : Nat) (ts : List AV) (h : Mem) (nx tc wr : Nat) (hi : N0I mm ts h nx tc wr) :
    Post (xC T 1200 L3_0b ts h nx 0) fun v' h' nx' tc' wr' => Round N0I N0R mm v' h' nx' (tc ||| tc') (wr ||| wr') := by
  obtain ⟨i, u, M, rfl, hi14, hlen, g6, g7, co, hM, hB⟩ := hi
  by_cases c : i < 14
  · have c' : (i : Int) < 14 := by omega
    have ci : IntKind.i64.wrap ((i : Int) + 1) = ((i + 1 : Nat) : Int) := by rw [IntKind.wrap_i64]; omega
    have ke : Utf8.encode (IntKind.i32.wrap (IntKind.i64.wrap (97 + (i : Int)))) = kdg i := rfl
    have kd := kdg_size i c
    have ks : (⟨⟨[75]⟩⟩ : ByteArray).size = 1 := rfl
    have knE : (⟨⟨[75]⟩⟩ : ByteArray) ++ kdg i = knm i := rfl
    have kz : (knm i).size ≤ big := by rw [knm_size i c]; decide
    have wm : IntKind.i64.wrap ((i : Int) - 1) = (i : Int) - 1 := by rw [IntKind.wrap_i64]; omega
    have kc1 : True := trivial
    have fB : ∀ (nm : ByteArray) (a b : Int), ∀ x ∈ M ++ [(⟨nm, a, b, .nils, []⟩ : C)], x.B.length ≤ 0 := fun nm a b x hx => by
      rcases List.mem_append.1 hx with hx | hx
      · exact hB x hx
      · rw [List.mem_singleton.1 hx]; exact Nat.le_refl _
    obtain ⟨H, st, bH, sH⟩ := st_var h nx (n := 4) (t := 38) (sz := 4) (g := false) [.str ⟨⟨[]⟩⟩, .int .i64 0, .int .i64 0, .nils] [.str (knm i), .int .i64 ((i : Int) - 1), .int .i64 0, .nils] rfl rfl rfl
    have coH := co.keeps (nx' := nx + 1) (by omega) sH
    have ult : ∀ x, bid u = some x → x < nx := fun x hx => co.ow.lt hx
    have mv : ∀ H', (∀ q, ¬ q = nx → H'.blk q = H.blk q) → CO u H' (nx + 1) M := fun H' k => ⟨coH.ow.keep (Nat.le_refl _) fun x hx => k x (by have := ult x hx; omega), coH.n, fun c hc => ⟨(coH.b c hc).1.keep (Nat.le_refl _) fun x hx _ => k x (by have := (co.b c hc).1.lt hx; omega), (coH.b c hc).2⟩, coH.sep⟩
    have st1 := fun lg => st_at bH (show nx < nx + 1 by omega) (n := 1) (o := 1) (.int .i64 (-1)) rfl rfl (by simp) lg
    have e1 : lay [AV.str (knm i), AV.int .i64 ((i : Int) - 1), AV.int .i64 0, AV.nils] 1 [AV.int .i64 (-1)] = [AV.str (knm i), AV.int .i64 (-1), AV.int .i64 0, AV.nils] := rfl
    simp only [AV.cells, e1] at st1
    obtain ⟨H1, hH1⟩ : ∃ H1, H1 = H.set nx (some ⟨38, 4, true, false, [.str (knm i), .int .i64 (-1), .int .i64 0, .nils]⟩) := ⟨_, rfl⟩
    rw [← hH1] at st1
    have kH1 : ∀ q, ¬ q = nx → H1.blk q = H.blk q := fun q hq => by rw [hH1, Mem.blk_set_ne _ _ _ _ hq]
    have b1 : H1.blk nx = some ⟨38, 4, true, false, [.str (knm i), .int .i64 (-1), .int .i64 0, .nils]⟩ := by rw [hH1, Mem.blk_set_same]
    have st2 := fun lg => st_at b1 (show nx < nx + 1 by omega) (n := 1) (o := 2) (.int .i64 4) rfl rfl (by simp) lg
    have e2 : lay [AV.str (knm i), AV.int .i64 (-1), AV.int .i64 0, AV.nils] 2 [AV.int .i64 4] = [AV.str (knm i), AV.int .i64 (-1), AV.int .i64 4, AV.nils] := rfl
    simp only [AV.cells, e2] at st2
    obtain ⟨H2, hH2⟩ : ∃ H2, H2 = H1.set nx (some ⟨38, 4, true, false, [.str (knm i), .int .i64 (-1), .int .i64 4, .nils]⟩) := ⟨_, rfl⟩
    rw [← hH2] at st2
    have kH2 : ∀ q, ¬ q = nx → H2.blk q = H.blk q := fun q hq => by rw [hH2, Mem.blk_set_ne _ _ _ _ hq, kH1 q hq]
    have b2 : H2.blk nx = some ⟨38, 4, true, false, [.str (knm i), .int .i64 (-1), .int .i64 4, .nils]⟩ := by rw [hH2, Mem.blk_set_same]
    by_cases i2 : i < 2
    · have i2' : (i : Int) < 2 := by omega
      by_cases i0 : i = 0
      · have i0' : ((i : Int) == 0) = true := by rw [i0]; rfl
        have lv := fun lg => ld_sub (n := 4) (o := 0) b2 (show nx < nx + 1 by omega) (vs := [.str (knm i), .int .i64 (-1), .int .i64 4, .nils]) rfl lg
        obtain ⟨u3, h3, nx3, tc3, wr3, e3, n3, co3, k3, d3, _, _⟩ := (mv H2 kH2).push (by omega) ⟨knm i, (-1), 4, .nils, []⟩ (RD.nil ..) ⟨Nat.zero_le _, kz⟩ (fun x hx => by cases hx) 0
        simp only [C.cs] at e3
        simp (maxSteps := 4000000) (maxDischargeDepth := 6) [L3_0b, hlen, g6, g7, c, c', ke, kd, ks, knE, wm, st, i2, i2', i0', st1, st2, lv, e3]
        refine (same_nw 0 0 i 1 co3.cr (bb := 0) (fB _ _ _)).post (by omega) (by omega) ?_
        rintro _ h4 nx4 tc4 wr4 rfl n4 k4 w4
        have co4 := co3.keeps n4 k4
        simp (maxSteps := 4000000) (maxDischargeDepth := 6) [hlen, g7]
        refine (same_nw 0 0 0 i co4.cr (bb := 0) (fB _ _ _)).post (by omega) (by omega) ?_
        rintro _ h5 nx5 tc5 wr5 rfl n5 k5 w5
        have co5 := co4.keeps n5 k5
        simp (maxSteps := 4000000) (maxDischargeDepth := 6) [hlen, g7, ci]
        refine Round.nor (m' := 14 - (i + 1)) (by omega) ⟨i + 1, u3, _, rfl, by omega, ?_, ?_, ?_, co5, by rw [List.length_append, hM]; rfl, fB _ _ _⟩ <;> simp [len_setT, sl_same, sl_ne, hlen]
      · have i0' : ((i : Int) == 0) = false := beq_eq_false_iff_ne.2 (by omega)
        have lv := fun lg => ld_sub (n := 4) (o := 0) b1 (show nx < nx + 1 by omega) (vs := [.str (knm i), .int .i64 (-1), .int .i64 0, .nils]) rfl lg
        obtain ⟨u3, h3, nx3, tc3, wr3, e3, n3, co3, k3, d3, _, _⟩ := (mv H1 kH1).push (by omega) ⟨knm i, (-1), 0, .nils, []⟩ (RD.nil ..) ⟨Nat.zero_le _, kz⟩ (fun x hx => by cases hx) 0
        simp only [C.cs] at e3
        simp (maxSteps := 4000000) (maxDischargeDepth := 6) [L3_0b, hlen, g6, g7, c, c', ke, kd, ks, knE, wm, st, i2, i2', i0', st1, lv, e3]
        refine (same_nw 0 0 i 1 co3.cr (bb := 0) (fB _ _ _)).post (by omega) (by omega) ?_
        rintro _ h4 nx4 tc4 wr4 rfl n4 k4 w4
        have co4 := co3.keeps n4 k4
        simp (maxSteps := 4000000) (maxDischargeDepth := 6) [hlen, g7]
        refine (same_nw 0 0 0 i co4.cr (bb := 0) (fB _ _ _)).post (by omega) (by omega) ?_
        rintro _ h5 nx5 tc5 wr5 rfl n5 k5 w5
        have co5 := co4.keeps n5 k5
        simp (maxSteps := 4000000) (maxDischargeDepth := 6) [hlen, g7, ci]
        refine Round.nor (m' := 14 - (i + 1)) (by omega) ⟨i + 1, u3, _, rfl, by omega, ?_, ?_, ?_, co5, by rw [List.length_append, hM]; rfl, fB _ _ _⟩ <;> simp [len_setT, sl_same, sl_ne, hlen]
    · have i2' : ¬ (i : Int) < 2 := by omega
      have i0' : ((i : Int) == 0) = false := beq_eq_false_iff_ne.2 (by omega)
      have lv := fun lg => ld_sub (n := 4) (o := 0) bH (show nx < nx + 1 by omega) (vs := [.str (knm i), .int .i64 ((i : Int) - 1), .int .i64 0, .nils]) rfl lg
      obtain ⟨u3, h3, nx3, tc3, wr3, e3, n3, co3, k3, d3, _, _⟩ := (coH).push (by omega) ⟨knm i, ((i : Int) - 1), 0, .nils, []⟩ (RD.nil ..) ⟨Nat.zero_le _, kz⟩ (fun x hx => by cases hx) 0
      simp only [C.cs] at e3
      simp (maxSteps := 4000000) (maxDischargeDepth := 6) [L3_0b, hlen, g6, g7, c, c', ke, kd, ks, knE, wm, st, i2, i2', i0', lv, e3]
      refine (same_nw 0 0 i 1 co3.cr (bb := 0) (fB _ _ _)).post (by omega) (by omega) ?_
      rintro _ h4 nx4 tc4 wr4 rfl n4 k4 w4
      have co4 := co3.keeps n4 k4
      simp (maxSteps := 4000000) (maxDischargeDepth := 6) [hlen, g7]
      refine (same_nw 0 0 0 i co4.cr (bb := 0) (fB _ _ _)).post (by omega) (by omega) ?_
      rintro _ h5 nx5 tc5 wr5 rfl n5 k5 w5
      have co5 := co4.keeps n5 k5
      simp (maxSteps := 4000000) (maxDischargeDepth := 6) [hlen, g7, ci]
      refine Round.nor (m' := 14 - (i + 1)) (by omega) ⟨i + 1, u3, _, rfl, by omega, ?_, ?_, ?_, co5, by rw [List.length_append, hM]; rfl, fB _ _ _⟩ <;> simp [len_setT, sl_same, sl_ne, hlen]
  · have c' : ¬ (i : Int) < 14 := by omega
    simp (maxSteps := 4000000) (maxDischargeDepth := 6) [L3_0b, hlen, g6, g7, c, c']
    refine Round.exit (R := N0R) ⟨rfl, ?_⟩
    simp [len_setT, sl_same, sl_ne, hlen]
def rcs : List C := [⟨⟨⟨[97]⟩⟩, 1, 4, .nils, []⟩, ⟨⟨⟨[98]⟩⟩, 0, 0, .nils, []⟩, ⟨⟨⟨[99]⟩⟩, 2, 0, .nils, []⟩]
set_option maxHeartbeats 16000000 in
theorem numbers_law (h : Mem) (nx : Nat) : Yes T 3 [] h nx := by
  refine Yes.of 8000 ?_
  rw [xF_fr T3]
  simp (maxSteps := 4000000) (maxDischargeDepth := 6) [F3, L3_3]
  refine Post.loop n3_round 40 ⟨0, rfl, by omega, ?_, ?_⟩ (by omega) ?_
  any_goals simp (maxDischargeDepth := 6) [len_setT, sl_same, sl_ne, sl_frame, len_frame]
  rintro e ts1 h1 nx1 tc1 wr1 ⟨rfl, hlen1⟩
  simp (maxSteps := 4000000) (maxDischargeDepth := 6) [hlen1, L3_0]
  refine Post.loop n0_round 14 ⟨0, .nils, [], rfl, by omega, ?_, ?_, ?_, ⟨OW.nil .., by simp, (fun c hc => nomatch hc), (fun c hc => nomatch hc)⟩, rfl, (fun c hc => nomatch hc)⟩ (by omega) ?_
  any_goals simp [len_setT, sl_same, sl_ne, hlen1]
  rintro e ts2 h2 nx2 tc2 wr2 ⟨rfl, hlen2⟩
  obtain ⟨H, hH⟩ : ∃ H, H = h2.set nx2 (some ⟨38, 4, true, false, (css rcs).flatten⟩) := ⟨_, rfl⟩
  have g0 : CR (.slc nx2 0 3 (some 3)) H (nx2 + 1) rcs := by
    refine ⟨RD.lit (M := css rcs) rfl (by decide) (by omega) (by rw [hH, Mem.blk_set_same]), by decide, fun c hc => ?_⟩
    have : c.bv = .nils ∧ c.B = [] ∧ c.name.size ≤ big := by
      unfold rcs at hc
      simp only [List.mem_cons, List.not_mem_nil, or_false] at hc
      rcases hc with rfl | rfl | rfl <;> exact ⟨rfl, rfl, by decide⟩
    rw [this.1, this.2.1]
    exact ⟨RD.nil .., by decide, this.2.2⟩
  have hbb : ∀ c ∈ rcs, c.B.length ≤ 0 := by decide
  have hH' := hH.symm
  simp only [css, rcs, List.map_cons, List.map_nil, C.cs, List.flatten_cons, List.flatten_nil, List.cons_append, List.nil_append, List.append_nil] at hH'
  simp (maxSteps := 4000000) (maxDischargeDepth := 6) [hlen2, hH']
  refine (same_nw 1 1 0 1 g0 hbb).post (by omega) (by omega) ?_
  rintro _ h3 nx3 tc3 wr3 rfl n3 k3 w3
  have g3 := g0.keeps n3 k3
  simp (maxSteps := 4000000) (maxDischargeDepth := 6) [hlen2]
  refine (same_nw 1 1 2 2 g3 hbb).post (by omega) (by omega) ?_
  rintro _ h4 nx4 tc4 wr4 rfl n4 k4 w4
  have g4 := g3.keeps n4 k4
  simp (maxSteps := 4000000) (maxDischargeDepth := 6) [hlen2]
  refine (same_nw _ _ _ 0 g4 hbb).post (by omega) (by omega) ?_
  rintro _ h5 nx5 tc5 wr5 rfl n5 k5 w5
  simp (maxSteps := 4000000) (maxDischargeDepth := 6) [hlen2]
  refine (known_nw h5 nx5).post (by omega) (by omega) ?_
  rintro _ h6 nx6 tc6 wr6 rfl n6 k6 w6
  simp (maxSteps := 4000000) (maxDischargeDepth := 6) [hlen2]
end Go.Proofs.YtahjkhmoojobgaaT
