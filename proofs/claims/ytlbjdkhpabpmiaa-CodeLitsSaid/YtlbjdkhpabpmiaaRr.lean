/- Code: a method is judged by the reference. -/
import Derived.Test.YtlbjdkhpabpmiaaRi
namespace Go.Proofs.YtlbjdkhpabpmiaaT
open Go Go.Proofs.YtlbjdkhpabpmiaaE Go.Proofs.YtlbjdkhpabpmiaaB
set_option linter.unusedSimpArgs false
set_option linter.unusedVariables false
attribute [local congr] Post_cg PostL_cg condP_cg
attribute [local simp ↓] P_skip P_exit P_ret P_seq P_cond P_blk P_reg P_draw P_nil P_cons op_len Post.some Post_bind Post_ret Post_draw PostL_nil PostL_cons op_islc step_none step_t step_f step_nt step_nf op_load op_store op_slice op_app
attribute [local simp] condP_t condP_f dum_ab stepR want_none want_some opRun ev_t ev_c put_none put_some resAll res_tmp res_cell oneOf minI maxI min2A max2A mn2 mx2 mx3 rdBlk wrBlk newBlk partA abin ibin isShift AV.cells AV.one lay sub fillA lenA toN allApart apartFrom Nat.testBit Mem.blk_set_same Mem.blk_set_ne Mem.set_set bit_zero bit_self lowBits_or lowBits_zero len_setT sl_same sl_ne len_frame sl_frame lenOp_slc lenOp_nils Post_fail ofOpt_some ofOpt_none eA_b eA_i eA_s eA_nn eA_np eA_pn eA_lnn eA_lnp eA_lpn eA_i2 eA_i3 blt_dec Nat.add_assoc keeps_refl keeps_at keeps_up new_one and_pow bit_hi lowBits_pow ble_dec fr_refl fr_at fr_up fr_p reps

def QcI (m : M) (u : U) (v : AV) (bb ub : Nat) (h0 : Mem) (nx0 : Nat) (mm : Nat) (ts : List AV) (h : Mem) (nx tc wr : Nat) : Prop := ∃ p : Nat, mm = m.c.length - p ∧ p ≤ m.c.length ∧ p % 2 = 0 ∧ ts.length = 91 ∧ sl ts 2 = .ptr bb 0 ∧ sl ts 9 = .int .i64 p ∧ sl ts 5 = .int .i64 m.c.length ∧ (∀ i, i < p → i % 2 = 0 → insAt m i = true) ∧ nx0 ≤ nx ∧ (∀ q, q < nx0 → h.blk q = h0.blk q) ∧ ∀ q, q < nx0 → wr &&& 2 ^ q = 0
set_option maxHeartbeats 8000000 in
theorem qc_round {m : M} {u : U} {v : AV} {ub : Nat} (sh : Sh m) (ev : m.c.length % 2 = 0) {bb : Nat} {h0 : Mem} {nx0 : Nat} (g : MR m h0 nx0) (hb : h0.blk bb = some ⟨37, 4, true, false, m.cs⟩) (hbn : bb < nx0) (lg : Nat) (hlg : lg ≤ nx0) (mm : Nat) (ts : List AV) (h : Mem) (nx tc wr : Nat) (hi : QcI m u v bb ub h0 nx0 mm ts h nx tc wr) :
    Post (xC T 160 L24_0b ts h nx lg) fun v' h' nx' tc' wr' => Round (QcI m u v bb ub h0 nx0) (PcR 91 2 m h0 nx0 nx0) mm v' h' nx' (tc ||| tc') (wr ||| wr') := by
  obtain ⟨p, rfl, hp, h2, hlen, g2, g9, g5, ha, hn, hk, hw⟩ := hi
  have hl := sh.c
  have bbk := (hk bb hbn).trans hb
  have l4 := fun lg => ld_sub (n := 4) (o := 0) bbk (show bb < nx by omega) (vs := m.cs) rfl lg
  by_cases c : p < m.c.length
  · have c' : (p : Int) < m.c.length := by omega
    have ci : IntKind.i64.wrap ((p : Int) + 2) = ((p + 2 : Nat) : Int) := by rw [IntKind.wrap_i64]; omega
    obtain ⟨op, k, e0, e1, e2, ho, hk8, ei⟩ := at_pc g.ok (show p + 1 < m.c.length by omega) h2
    simp (maxSteps := 4000000) (maxDischargeDepth := 6) [L24_0b, hlen, g2, g5, g9, c', l4]
    refine (rinst_nw (g.keeps hn hk) sh.c sh.a0 sh.a8 sh.t0 (by have := sh.t8; have := sh.a0; omega) (p := p) (by omega) op k ho hk8 e0 e1 e2).post (by omega) (by omega) ?_
    rintro _ H4 n4 tc4 wr4 rfl hn4 k4 w4
    have kk : ∀ q, q < nx0 → H4.blk q = h0.blk q := fun q hq => (k4 q (by omega)).trans (hk q hq)
    have ww : ∀ q, q < nx0 → (wr ||| wr4) &&& 2 ^ q = 0 := fun q hq => wr_or (hw q hq) (w4 q (by omega))
    cases d : instV m p op k with
    | false =>
      simp (maxSteps := 4000000) (maxDischargeDepth := 6) [hlen]
      refine Round.ret (R := PcR 91 2 m h0 nx0 nx0) ⟨?_, by omega, kk, ?_, .inr ⟨rfl, pcsV_no c h2 (ei.trans d), ?_⟩⟩
      any_goals simp [len_setT, sl_same, sl_ne, hlen]
      exact ww
    | true =>
      simp (maxSteps := 4000000) (maxDischargeDepth := 6) [hlen, g9, ci]
      refine Round.nor (m' := m.c.length - (p + 2)) (by omega) ⟨p + 2, rfl, by omega, by omega, ?_, ?_, ?_, ?_, fun i h hi => ?_, by omega, kk, ?_⟩
      any_goals simp [len_setT, sl_same, sl_ne, hlen, g2, g5]
      · by_cases e : i = p
        · subst e; exact ei.trans d
        · exact ha i (by omega) hi
      · exact ww
  · have c' : ¬ (p : Int) < m.c.length := by omega
    simp (maxSteps := 4000000) (maxDischargeDepth := 6) [L24_0b, hlen, g2, g5, g9, c']
    refine Round.exit (R := PcR 91 2 m h0 nx0 nx0) ⟨?_, hn, hk, hw, .inl ⟨rfl, pcsV_yes fun i h hi => ha i (by omega) hi⟩⟩
    simp [len_setT, sl_same, sl_ne, hlen]
def RlI (m : M) (u : U) (bb ub : Nat) (h0 : Mem) (nx0 : Nat) (mm : Nat) (ts : List AV) (h : Mem) (nx tc wr : Nat) : Prop := ∃ j : Nat, mm = m.L.length - j ∧ j ≤ m.L.length ∧ ts.length = 91 ∧ sl ts 2 = .ptr bb 0 ∧ sl ts 3 = .ptr ub 0 ∧ sl ts 5 = .int .i64 m.c.length ∧ sl ts 71 = m.lv ∧ sl ts 72 = .int .i64 m.L.length ∧ sl ts 73 = .int .i64 j ∧ (∀ i (h : i < m.L.length), i < j → litV u m.L[i] = true) ∧ nx0 ≤ nx ∧ (∀ q, q < nx0 → h.blk q = h0.blk q) ∧ ∀ q, q < nx0 → wr &&& 2 ^ q = 0
def RlR (m : M) (u : U) (bb : Nat) (h0 : Mem) (nx0 : Nat) (e : Ex) (ts : List AV) (h : Mem) (nx tc wr : Nat) : Prop := ts.length = 91 ∧ nx0 ≤ nx ∧ (∀ q, q < nx0 → h.blk q = h0.blk q) ∧ (∀ q, q < nx0 → wr &&& 2 ^ q = 0) ∧ ((e = .exit 0 ∧ litsOk u m.L = true ∧ sl ts 2 = .ptr bb 0 ∧ sl ts 5 = .int .i64 m.c.length) ∨ (e = .ret ∧ litsOk u m.L = false ∧ sl ts 4 = .int .i64 12))
set_option maxHeartbeats 8000000 in
theorem rl_round {m : M} {u : U} (ul : UL u) {bb ub : Nat} {h0 : Mem} {nx0 : Nat} (g : MR m h0 nx0) (hb : h0.blk ub = some ⟨27, 5, true, false, u.cs⟩) (hbn : ub < nx0) (lg : Nat) (hlg : lg ≤ nx0) (mm : Nat) (ts : List AV) (h : Mem) (nx tc wr : Nat) (hi : RlI m u bb ub h0 nx0 mm ts h nx tc wr) :
    Post (xC T 120 L24_1b ts h nx lg) fun v' h' nx' tc' wr' => Round (RlI m u bb ub h0 nx0) (RlR m u bb h0 nx0) mm v' h' nx' (tc ||| tc') (wr ||| wr') := by
  obtain ⟨j, rfl, hj, hlen, g2, g3, g5, g71, g72, g73, ha, hn, hk, hw⟩ := hi
  have hl := g.l.n
  by_cases c : j < m.L.length
  · have c' : (j : Int) < m.L.length := by omega
    have ci : IntKind.i64.wrap ((j : Int) + 1) = ((j + 1 : Nat) : Int) := by rw [IntKind.wrap_i64]; unfold big at hl; omega
    obtain ⟨b1, o1, el⟩ := (g.keeps hn hk).l.el c
    have p := el.pl
    have f := el.all lg
    simp only [bcs] at f
    obtain ⟨H2, sH2, b2, k2⟩ := st_var h nx (t := 41) (sz := 2) (n := 2) (g := false) [.int .i64 0, .int .i64 0] [.int .i64 m.L[j].1, .int .i64 m.L[j].2] rfl rfl rfl
    have kk2 : ∀ q, q < nx0 → H2.blk q = h0.blk q := fun q hq => (k2 q (by omega)).trans (hk q hq)
    have l2' := fun lg => ld_sub (n := 2) (o := 0) b2 (show nx < nx + 1 by omega) (vs := [.int .i64 m.L[j].1, .int .i64 m.L[j].2]) rfl lg
    have l5 := fun lg => ld_sub (n := 5) (o := 0) ((kk2 ub hbn).trans hb) (show ub < nx + 1 by omega) (vs := u.cs) rfl lg
    simp (maxSteps := 4000000) (maxDischargeDepth := 6) [L24_1b, hlen, g2, g3, g5, g71, g72, g73, c', p, f, sH2, l2', l5]
    refine (rlit_nw ul m.L[j].1 m.L[j].2 _ _).post (by omega) (by omega) ?_
    rintro _ H4 n4 tc4 wr4 rfl hn4 k4 w4
    have kk : ∀ q, q < nx0 → H4.blk q = h0.blk q := fun q hq => (k4 q (by omega)).trans (kk2 q hq)
    have ww : ∀ q, q < nx0 → (wr ||| (bit lg nx ||| wr4)) &&& 2 ^ q = 0 := fun q hq => wr_or (hw q hq) (wr_or (bit_and (by omega)) (w4 q (by omega)))
    cases d : litV u (m.L[j].1, m.L[j].2) with
    | false =>
      simp (maxSteps := 4000000) (maxDischargeDepth := 6) [hlen]
      refine Round.ret (R := RlR m u bb h0 nx0) ⟨?_, by omega, kk, ?_, .inr ⟨rfl, litsOk_no c d, ?_⟩⟩
      any_goals simp [len_setT, sl_same, sl_ne, hlen]
      exact ww
    | true =>
      simp (maxSteps := 4000000) (maxDischargeDepth := 6) [hlen, g73, ci]
      refine Round.nor (m' := m.L.length - (j + 1)) (by omega) ⟨j + 1, rfl, by omega, ?_, ?_, ?_, ?_, ?_, ?_, ?_, fun i h hi => ?_, by omega, kk, ?_⟩
      any_goals simp [len_setT, sl_same, sl_ne, hlen, g2, g3, g5, g71, g72]
      · by_cases e : i = j
        · subst e; exact d
        · exact ha i h (by omega)
      · exact ww
  · have c' : ¬ (j : Int) < m.L.length := by omega
    simp (maxSteps := 4000000) (maxDischargeDepth := 6) [L24_1b, hlen, g2, g3, g5, g71, g72, g73, c']
    refine Round.exit (R := RlR m u bb h0 nx0) ⟨?_, hn, hk, hw, .inl ⟨rfl, litsOk_yes fun i h => ha i h (by omega), ?_, ?_⟩⟩ <;> simp [len_setT, sl_same, sl_ne, hlen, g2, g5]
set_option maxHeartbeats 16000000 in
theorem rright_nw {m : M} {u : U} (ul : UL u) {h : Mem} {nx : Nat} (g : MR m h nx) : NwC T 600 24 [.agg m.cs, .agg u.cs] h nx fun r _ _ => r = .int .i64 (codeV u m) := by
  intro lg hlg
  rw [xF_fr T24]
  obtain ⟨H, eH, bH, kH, gH⟩ := g.box
  obtain ⟨H2, eH2, bH2, kH2⟩ := ul.box H (nx + 1)
  have g2 := gH.keeps (Nat.le_succ _) kH2
  have b2 := (kH2 nx (by omega)).trans bH
  have kk : ∀ q, q < nx → H2.blk q = h.blk q := fun q hq => (kH2 q (by omega)).trans (kH q hq)
  have l0 := fun lg => ld_at b2 (show nx < nx + 2 by omega) (o := 0) (v := .int .i64 m.a) rfl lg
  have l1 := fun lg => ld_at b2 (show nx < nx + 2 by omega) (o := 1) (v := .int .i64 m.t) rfl lg
  have l2 := fun lg => ld_at b2 (show nx < nx + 2 by omega) (o := 2) (v := m.lv) rfl lg
  have l3 := fun lg => ld_at b2 (show nx < nx + 2 by omega) (o := 3) (v := m.cv) rfl lg
  have ll := g.lenL
  have lc := g.lenC
  unfold codeV
  cases hs : shortV m with
  | false =>
    unfold shortV at hs
    by_cases c1 : m.c.length ≤ 128
    · have c1' : ¬ 128 < (m.c.length : Int) := by omega
      by_cases c2 : m.L.length ≤ 16
      · have c2' : ¬ 16 < (m.L.length : Int) := by omega
        by_cases c3 : m.a < 0
        · simp (maxSteps := 4000000) (maxDischargeDepth := 6) [F24, eH, eH2, l0, l1, l2, l3, ll, lc, c1', c2', c3]
          exact kk
        · by_cases c4 : m.t < 0
          · simp (maxSteps := 4000000) (maxDischargeDepth := 6) [F24, eH, eH2, l0, l1, l2, l3, ll, lc, c1', c2', c3, c4]
            exact kk
          · by_cases c5 : 8 < m.a
            · simp (maxSteps := 4000000) (maxDischargeDepth := 6) [F24, eH, eH2, l0, l1, l2, l3, ll, lc, c1', c2', c3, c4, c5]
              exact kk
            · have c6 : 8 - m.a < m.t := by
                simp only [c1, c2, decide_true, Bool.true_and, (by omega : 0 ≤ m.a), (by omega : 0 ≤ m.t), (by omega : m.a ≤ 8), decide_eq_false_iff_not] at hs
                omega
              have w : IntKind.i64.wrap (8 - m.a) = 8 - m.a := by rw [IntKind.wrap_i64]; omega
              simp (maxSteps := 4000000) (maxDischargeDepth := 6) [F24, eH, eH2, l0, l1, l2, l3, ll, lc, c1', c2', c3, c4, c5, w, c6]
              exact kk
      · have c2' : 16 < (m.L.length : Int) := by omega
        simp (maxSteps := 4000000) (maxDischargeDepth := 6) [F24, eH, eH2, l0, l1, l2, l3, ll, lc, c1', c2']
        exact kk
    · have c1' : 128 < (m.c.length : Int) := by omega
      simp (maxSteps := 4000000) (maxDischargeDepth := 6) [F24, eH, eH2, l0, l1, l2, l3, ll, lc, c1']
      exact kk
  | true =>
    have sh := shortV_t hs
    have c1 : ¬ 128 < (m.c.length : Int) := by have := sh.c; omega
    have c2 : ¬ 16 < (m.L.length : Int) := by have := sh.l; omega
    have c3 : ¬ m.a < 0 := by have := sh.a0; omega
    have c4 : ¬ m.t < 0 := by have := sh.t0; omega
    have c5 : ¬ 8 < m.a := by have := sh.a8; omega
    have c6 : ¬ 8 - m.a < m.t := by have := sh.t8; omega
    have w : IntKind.i64.wrap (8 - m.a) = 8 - m.a := by rw [IntKind.wrap_i64]; omega
    have shc := sh.c
    by_cases d1 : m.c.length < 2
    · have d1' : (m.c.length : Int) < 2 := by omega
      have e : endsV m = false := by unfold endsV evenV; rw [decide_eq_false (by omega : ¬ 2 ≤ m.c.length)]; rfl
      simp (maxSteps := 4000000) (maxDischargeDepth := 6) [F24, eH, eH2, l0, l1, l2, l3, ll, lc, c1, c2, c3, c4, c5, w, c6, d1', e]
      exact kk
    · have d1' : ¬ (m.c.length : Int) < 2 := by omega
      by_cases d2 : m.c.length % 2 = 0
      · have d2' : ((m.c.length : Int).tmod 2 != 0) = false := by rw [bne_eq_false_iff_eq, Int.tmod_eq_emod_of_nonneg (by omega)]; omega
        obtain ⟨k, hk⟩ : ∃ k, m.c.length = k + 2 := ⟨m.c.length - 2, by omega⟩
        have wl : IntKind.i64.wrap ((m.c.length : Int) - 2) = (k : Int) := by rw [IntKind.wrap_i64]; omega
        have hk' : k < m.c.length := by omega
        obtain ⟨b, o, el⟩ := g2.el hk'
        have p := el.pl
        have f := fun lg => el.fst (v := .int .u8 m.c[k]) rfl lg
        have w8 := wr8 (g.ok _ (List.getElem_mem hk'))
        have e : endsV m = (m.c[k] == 14 || m.c[k] == 19 || m.c[k] == 16) := by
          unfold endsV evenV lastV
          rw [decide_eq_true (by omega : 2 ≤ m.c.length), decide_eq_true d2, List.getD_eq_getElem?_getD, show m.c.length - 2 = k by omega, List.getElem?_eq_getElem hk']
          rfl
        obtain ⟨A, hA⟩ : ∃ A, A = m.c[k] := ⟨_, rfl⟩
        rw [← hA] at e w8
        have f' : ∀ lg, ldA none (.ptr b o) H2 (nx + 2) lg = some ⟨.int .u8 A, H2, nx + 2, bit lg b, 0⟩ := by rw [hA]; exact f
        have l4 := fun lg => ld_sub (n := 4) (o := 0) b2 (show nx < nx + 2 by omega) (vs := m.cs) rfl lg
        cases he : endsV m with
        | false =>
          rw [he] at e
          have e14 : (A != 14) = true := by rw [bne_iff_ne]; rintro rfl; simp at e
          have e19 : (A != 19) = true := by rw [bne_iff_ne]; rintro rfl; simp at e
          have e16 : (A != 16) = true := by rw [bne_iff_ne]; rintro rfl; simp at e
          simp (maxSteps := 4000000) (maxDischargeDepth := 6) [F24, eH, eH2, l0, l1, l2, l3, ll, lc, c1, c2, c3, c4, c5, w, c6, d1', d2', wl, p, f', w8, e14, e19, e16]
          exact kk
        | true =>
          rw [he] at e
          have eA : A = 14 ∨ A = 19 ∨ A = 16 := by
            have this := e.symm
            simp only [Bool.or_eq_true, beq_iff_eq] at this
            omega
          rcases eA with rfl | rfl | rfl
          all_goals
            simp (maxSteps := 4000000) (maxDischargeDepth := 6) [F24, eH, eH2, l0, l1, l2, l3, ll, lc, c1, c2, c3, c4, c5, w, c6, d1', d2', wl, p, f', w8, L24_1]
            refine Post.loop (rl_round ul (bb := nx) g2 bH2 (show nx + 1 < nx + 2 by omega) lg (by omega)) m.L.length ⟨0, rfl, by omega, ?_, ?_, ?_, ?_, ?_, ?_, ?_, fun i _ hi => absurd hi (by omega), Nat.le_refl _, fun _ _ => rfl, fun q _ => Nat.zero_and _⟩ ?_ ?_
            any_goals simp (maxDischargeDepth := 6) [len_setT, sl_same, sl_ne, sl_frame, len_frame]
            · have := sh.l; omega
            rintro e' ts' h' nx' tc wr ⟨hlen, hn, hk, hw, ⟨rfl, hx, s2, s5⟩ | ⟨rfl, hx, g4⟩⟩
            · simp (maxSteps := 4000000) (maxDischargeDepth := 6) [hlen, s2, s5, L24_0]
              refine Post.loop (qc_round (u := u) (v := .nils) (ub := 0) sh (by omega) (g2.keeps hn hk) ((hk nx (by omega)).trans b2) (show nx < nx' by omega) lg (by omega)) m.c.length ⟨0, rfl, by omega, rfl, ?_, ?_, ?_, ?_, fun i hi => absurd hi (by omega), Nat.le_refl _, fun _ _ => rfl, fun q _ => Nat.zero_and _⟩ ?_ ?_
              any_goals simp (maxDischargeDepth := 6) [len_setT, sl_same, sl_ne, hlen, s2, s5]
              · omega
              rintro e2 ts2 h2 nx2 tc2 wr2 ⟨hlen2, hn2, hk2, hw2, ⟨rfl, hx2⟩ | ⟨rfl, hx2, g42⟩⟩
              · simp (maxSteps := 4000000) (maxDischargeDepth := 6) [hlen2, hx, hx2]
                exact ⟨by omega, fun q hq => (hk2 q (by omega)).trans ((hk q (by omega)).trans (kk q hq)), fun q hq => wr_or (hw q (by omega)) (hw2 q (by omega))⟩
              · simp (maxSteps := 4000000) (maxDischargeDepth := 6) [hlen2, hx, hx2, g42]
                exact ⟨by omega, fun q hq => (hk2 q (by omega)).trans ((hk q (by omega)).trans (kk q hq)), fun q hq => wr_or (hw q (by omega)) (hw2 q (by omega))⟩
            · simp (maxSteps := 4000000) (maxDischargeDepth := 6) [hlen, hx, g4]
              exact ⟨by omega, fun q hq => (hk q (by omega)).trans (kk q hq), fun q hq => hw q (by omega)⟩
      · have d2' : ((m.c.length : Int).tmod 2 != 0) = true := by rw [bne_iff_ne, Int.tmod_eq_emod_of_nonneg (by omega)]; omega
        have e : endsV m = false := by unfold endsV evenV; rw [decide_eq_false d2, Bool.and_false]; rfl
        simp (maxSteps := 4000000) (maxDischargeDepth := 6) [F24, eH, eH2, l0, l1, l2, l3, ll, lc, c1, c2, c3, c4, c5, w, c6, d1', d2', e]
        exact kk
end Go.Proofs.YtlbjdkhpabpmiaaT
