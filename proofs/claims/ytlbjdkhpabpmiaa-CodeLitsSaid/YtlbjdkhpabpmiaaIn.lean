/- Code: one instruction. -/
import Derived.Test.YtlbjdkhpabpmiaaLk
namespace Go.Proofs.YtlbjdkhpabpmiaaT
open Go Go.Proofs.YtlbjdkhpabpmiaaE Go.Proofs.YtlbjdkhpabpmiaaB
set_option linter.unusedSimpArgs false
set_option linter.unusedVariables false
attribute [local congr] Post_cg PostL_cg condP_cg
attribute [local simp ↓] P_skip P_exit P_ret P_seq P_cond P_blk P_reg P_draw P_nil P_cons op_len Post.some Post_bind Post_ret Post_draw PostL_nil PostL_cons op_islc step_none step_t step_f step_nt step_nf op_load op_store op_slice op_app
attribute [local simp] condP_t condP_f dum_ab stepR want_none want_some opRun ev_t ev_c put_none put_some resAll res_tmp res_cell oneOf minI maxI min2A max2A mn2 mx2 mx3 rdBlk wrBlk newBlk partA abin ibin isShift AV.cells AV.one lay sub fillA lenA toN allApart apartFrom Nat.testBit Mem.blk_set_same Mem.blk_set_ne Mem.set_set bit_zero bit_self lowBits_or lowBits_zero len_setT sl_same sl_ne len_frame sl_frame lenOp_slc lenOp_nils Post_fail ofOpt_some ofOpt_none eA_b eA_i eA_s eA_nn eA_np eA_pn eA_lnn eA_lnp eA_lpn eA_i2 eA_i3 blt_dec Nat.add_assoc keeps_refl keeps_at keeps_up new_one and_pow bit_hi lowBits_pow ble_dec fr_refl fr_at fr_up fr_p reps

def litN (L : List (Int × Int)) (k : Nat) : Int := (L.getD k (0, 0)).2
theorem litN_at {L : List (Int × Int)} {k : Nat} (hk : k < L.length) : litN L k = L[k].2 := by
  unfold litN
  rw [List.getD_eq_getElem?_getD, List.getElem?_eq_getElem hk]
  rfl
def instV (m : M) (p : Nat) (op : Int) (k : Nat) : Bool :=
  if op = 0 ∨ op = 10 then decide ((k : Int) < m.a + m.t) else
  if op = 1 ∨ op = 11 then decide ((k : Int) < 62) else
  if op = 2 then litK m.L k 3 else
  if op = 12 ∨ op = 13 then litK m.L k 5 else
  if op = 20 then litK m.L k 6 && decide (2 ≤ litN m.L k) else
  if op = 18 then litK m.L k 7 else
  if op = 15 ∨ op = 17 then decide ((p : Int) + 2 + 2 * k < m.c.length) else
  if op = 16 then decide (2 * (k : Int) ≤ p) else
  if op = 21 then decide ((k : Int) ≤ 23) else decide (op ≤ 21)
theorem takV_pos (k : Nat) : decide (0 ≤ takV k) = decide ((k : Int) ≤ 23) := by
  by_cases c : k < 24
  · rw [takV_at c, decide_eq_true (by omega : (k : Int) ≤ 23)]
    have : ∀ (k : Nat) (h : k < 24), 0 ≤ tks[k]'h := by decide
    exact decide_eq_true (this k c)
  · rw [decide_eq_false (by omega : ¬ (k : Int) ≤ 23)]
    unfold takV
    rw [if_neg (by omega)]
    rfl
theorem litK_lt {L : List (Int × Int)} {k : Nat} {kd : Int} (h : litK L k kd = true) : k < L.length := by
  by_cases c : k < L.length
  · exact c
  · rw [litK_no c] at h; cases h
set_option maxHeartbeats 16000000 in
theorem inst_nw {m : M} {h : Mem} {nx : Nat} (g : MR m h nx) (hs : m.c.length ≤ 128) (a0 : 0 ≤ m.a) (a8 : m.a ≤ 8) (t0 : 0 ≤ m.t) (t8 : m.t ≤ 8) {p : Nat} (hp : p < 128) (op : Int) (k : Nat) (ho : 0 ≤ op) (hk : k < 256) : NwC T 100 33 [.agg m.cs, .agg [.int .i64 op, .int .i64 (k : Int)], .int .i64 (p : Int)] h nx fun r _ _ => r = .bool (instV m p op k) := by
  intro lg hlg
  rw [xF_fr T33]
  obtain ⟨H, eH, bH, kH, gH⟩ := g.box
  obtain ⟨H2, eH2, bH2, kH2⟩ := mkvar H (nx + 1) ⟨47, 2, true, false, [.int .i64 op, .int .i64 (k : Int)]⟩
  have g2 := gH.keeps (Nat.le_succ _) kH2
  have b2 := (kH2 nx (by omega)).trans bH
  have q0 := fun lg => ld_at bH2 (show nx + 1 < nx + 2 by omega) (o := 0) (v := .int .i64 op) rfl lg
  have q1 := fun lg => ld_at bH2 (show nx + 1 < nx + 2 by omega) (o := 1) (v := .int .i64 (k : Int)) rfl lg
  have kk : ∀ q, q < nx → H2.blk q = h.blk q := fun q hq => (kH2 q (by omega)).trans (kH q hq)
  have l4 := fun lg => ld_sub (n := 4) (o := 0) b2 (show nx < nx + 2 by omega) (vs := m.cs) rfl lg
  have l0 := fun lg => ld_at b2 (show nx < nx + 2 by omega) (o := 0) (v := .int .i64 m.a) rfl lg
  have l1 := fun lg => ld_at b2 (show nx < nx + 2 by omega) (o := 1) (v := .int .i64 m.t) rfl lg
  have l2 := fun lg => ld_at b2 (show nx < nx + 2 by omega) (o := 2) (v := m.lv) rfl lg
  have l3 := fun lg => ld_at b2 (show nx < nx + 2 by omega) (o := 3) (v := m.cv) rfl lg
  have lc := g.lenC
  obtain ⟨cs, hcs⟩ : ∃ cs, cs = m.cs := ⟨_, rfl⟩
  rw [← hcs] at eH l4 ⊢
  by_cases c0 : op = 0 ∨ op = 10
  · rcases c0 with rfl | rfl
    · have e : instV m p 0 k = decide ((k : Int) < m.a + m.t) := by simp [instV]
      rw [e]
      have w : IntKind.i64.wrap (m.a + m.t) = m.a + m.t := by rw [IntKind.wrap_i64]; omega
      simp (maxSteps := 4000000) (maxDischargeDepth := 6) [F33, eH, eH2, q0, q1, l4, l0, l1, w]
      exact kk
    · have e : instV m p 10 k = decide ((k : Int) < m.a + m.t) := by simp [instV]
      rw [e]
      have w : IntKind.i64.wrap (m.a + m.t) = m.a + m.t := by rw [IntKind.wrap_i64]; omega
      simp (maxSteps := 4000000) (maxDischargeDepth := 6) [F33, eH, eH2, q0, q1, l4, l0, l1, w]
      exact kk
  · skip
    by_cases c1 : op = 1 ∨ op = 11
    · rcases c1 with rfl | rfl
      · have e : instV m p 1 k = decide ((k : Int) < 62) := by simp [instV]
        rw [e]
        simp (maxSteps := 4000000) (maxDischargeDepth := 6) [F33, eH, eH2, q0, q1, l4]
        exact kk
      · have e : instV m p 11 k = decide ((k : Int) < 62) := by simp [instV]
        rw [e]
        simp (maxSteps := 4000000) (maxDischargeDepth := 6) [F33, eH, eH2, q0, q1, l4]
        exact kk
    · skip
      by_cases c2 : op = 2
      · subst c2
        have e : instV m p 2 k = litK m.L k 3 := by simp [instV]
        rw [e]
        simp (maxSteps := 4000000) (maxDischargeDepth := 6) [F33, eH, eH2, q0, q1, l4]
        refine (hcs ▸ litk_nw g2 k 3).post (by omega) (by omega) ?_
        rintro _ H4 n4 tc4 wr4 rfl hn4 k4 w4
        simp (maxSteps := 4000000) (maxDischargeDepth := 6) []
        exact ⟨by omega, fun q hq => (k4 q (by omega)).trans (kk q hq), fun q hq => w4 q (by omega)⟩
      · skip
        by_cases c12 : op = 12 ∨ op = 13
        · rcases c12 with rfl | rfl
          · have e : instV m p 12 k = litK m.L k 5 := by simp [instV]
            rw [e]
            simp (maxSteps := 4000000) (maxDischargeDepth := 6) [F33, eH, eH2, q0, q1, l4]
            refine (hcs ▸ litk_nw g2 k 5).post (by omega) (by omega) ?_
            rintro _ H4 n4 tc4 wr4 rfl hn4 k4 w4
            simp (maxSteps := 4000000) (maxDischargeDepth := 6) []
            exact ⟨by omega, fun q hq => (k4 q (by omega)).trans (kk q hq), fun q hq => w4 q (by omega)⟩
          · have e : instV m p 13 k = litK m.L k 5 := by simp [instV]
            rw [e]
            simp (maxSteps := 4000000) (maxDischargeDepth := 6) [F33, eH, eH2, q0, q1, l4]
            refine (hcs ▸ litk_nw g2 k 5).post (by omega) (by omega) ?_
            rintro _ H4 n4 tc4 wr4 rfl hn4 k4 w4
            simp (maxSteps := 4000000) (maxDischargeDepth := 6) []
            exact ⟨by omega, fun q hq => (k4 q (by omega)).trans (kk q hq), fun q hq => w4 q (by omega)⟩
        · skip
          by_cases c20 : op = 20
          · subst c20
            have e : instV m p 20 k = (litK m.L k 6 && decide (2 ≤ litN m.L k)) := by simp [instV]
            rw [e]
            simp (maxSteps := 4000000) (maxDischargeDepth := 6) [F33, eH, eH2, q0, q1, l4]
            refine (hcs ▸ litk_nw g2 k 6).post (by omega) (by omega) ?_
            rintro _ H4 n4 tc4 wr4 rfl hn4 k4 w4
            have kf : ∀ q, q < nx → H4.blk q = h.blk q := fun q hq => (k4 q (by omega)).trans (kk q hq)
            have wf : ∀ q, q < nx → wr4 &&& 2 ^ q = 0 := fun q hq => w4 q (by omega)
            cases d : litK m.L k 6 with
            | false =>
              simp (maxSteps := 4000000) (maxDischargeDepth := 6) []
              exact ⟨by omega, kf, wf⟩
            | true =>
              have hkL := litK_lt d
              obtain ⟨b, o, el⟩ := (g2.keeps hn4 k4).l.el hkL
              have p0 := el.pl
              have f := fun lg => el.one 1 (.int .i64 m.L[k].2) rfl lg
              have l2 := fun lg => ld_at ((k4 nx (by omega)).trans b2) (show nx < n4 by omega) (o := 2) (v := m.lv) rfl lg
              rw [litN_at hkL]
              generalize m.L[k].2 = X at *
              have q1 := fun lg => ld_at ((k4 (nx + 1) (by omega)).trans bH2) (show nx + 1 < n4 by omega) (o := 1) (v := .int .i64 (k : Int)) rfl lg
              simp (maxSteps := 4000000) (maxDischargeDepth := 6) [l2, p0, f, q1]
              exact ⟨by omega, kf, wf⟩
          · skip
            by_cases c18 : op = 18
            · subst c18
              have e : instV m p 18 k = litK m.L k 7 := by simp [instV]
              rw [e]
              simp (maxSteps := 4000000) (maxDischargeDepth := 6) [F33, eH, eH2, q0, q1, l4]
              refine (hcs ▸ litk_nw g2 k 7).post (by omega) (by omega) ?_
              rintro _ H4 n4 tc4 wr4 rfl hn4 k4 w4
              simp (maxSteps := 4000000) (maxDischargeDepth := 6) []
              exact ⟨by omega, fun q hq => (k4 q (by omega)).trans (kk q hq), fun q hq => w4 q (by omega)⟩
            · skip
              by_cases c15 : op = 15 ∨ op = 17
              · rcases c15 with rfl | rfl
                · have e : instV m p 15 k = decide ((p : Int) + 2 + 2 * k < m.c.length) := by simp [instV]
                  rw [e]
                  have w1 : IntKind.i64.wrap ((p : Int) + 2) = (p : Int) + 2 := by rw [IntKind.wrap_i64]; omega
                  have w2 : IntKind.i64.wrap (2 * (k : Int)) = 2 * (k : Int) := by rw [IntKind.wrap_i64]; omega
                  have w3 : IntKind.i64.wrap ((p : Int) + 2 + 2 * (k : Int)) = (p : Int) + 2 + 2 * (k : Int) := by rw [IntKind.wrap_i64]; omega
                  have w4 : IntKind.i64.wrap ((p : Int) + (2 + 2 * (k : Int))) = (p : Int) + 2 + 2 * (k : Int) := by rw [IntKind.wrap_i64]; omega
                  simp (maxSteps := 4000000) (maxDischargeDepth := 6) [F33, eH, eH2, q0, q1, l4, l3, lc, w1, w2, w3, w4]
                  exact kk
                · have e : instV m p 17 k = decide ((p : Int) + 2 + 2 * k < m.c.length) := by simp [instV]
                  rw [e]
                  have w1 : IntKind.i64.wrap ((p : Int) + 2) = (p : Int) + 2 := by rw [IntKind.wrap_i64]; omega
                  have w2 : IntKind.i64.wrap (2 * (k : Int)) = 2 * (k : Int) := by rw [IntKind.wrap_i64]; omega
                  have w3 : IntKind.i64.wrap ((p : Int) + 2 + 2 * (k : Int)) = (p : Int) + 2 + 2 * (k : Int) := by rw [IntKind.wrap_i64]; omega
                  have w4 : IntKind.i64.wrap ((p : Int) + (2 + 2 * (k : Int))) = (p : Int) + 2 + 2 * (k : Int) := by rw [IntKind.wrap_i64]; omega
                  simp (maxSteps := 4000000) (maxDischargeDepth := 6) [F33, eH, eH2, q0, q1, l4, l3, lc, w1, w2, w3, w4]
                  exact kk
              · skip
                by_cases c16 : op = 16
                · subst c16
                  have e : instV m p 16 k = decide (2 * (k : Int) ≤ p) := by simp [instV]
                  rw [e]
                  have w2 : IntKind.i64.wrap (2 * (k : Int)) = 2 * (k : Int) := by rw [IntKind.wrap_i64]; omega
                  simp (maxSteps := 4000000) (maxDischargeDepth := 6) [F33, eH, eH2, q0, q1, l4, w2]
                  exact kk
                · skip
                  by_cases c21 : op = 21
                  · subst c21
                    have e : instV m p 21 k = decide ((k : Int) ≤ 23) := by simp [instV]
                    rw [e, ← takV_pos]
                    simp (maxSteps := 4000000) (maxDischargeDepth := 6) [F33, eH, eH2, q0, q1, l4]
                    refine (tk_rd (k : Int) _ _).post (by omega) (by omega) ?_
                    intro tc
                    simp (maxSteps := 4000000) (maxDischargeDepth := 6) []
                    exact kk
                  · skip
                    have e : instV m p op k = decide (op ≤ 21) := by simp [instV, c0, c1, c2, c12, c20, c18, c15, c16, c21]
                    rw [e]
                    have d : ∀ x : Int, ¬ op = x → (op == x) = false := fun x hx => beq_eq_false_iff_ne.2 hx
                    simp (maxSteps := 4000000) (maxDischargeDepth := 6) [F33, eH, eH2, q0, q1, l4, d 0 (by omega), d 10 (by omega), d 1 (by omega), d 11 (by omega), d 2 (by omega), d 12 (by omega), d 13 (by omega), d 20 (by omega), d 18 (by omega), d 15 (by omega), d 17 (by omega), d 16 (by omega), d 21 (by omega)]
                    exact kk
set_option maxHeartbeats 16000000 in
theorem rinst_nw {m : M} {h : Mem} {nx : Nat} (g : MR m h nx) (hs : m.c.length ≤ 128) (a0 : 0 ≤ m.a) (a8 : m.a ≤ 8) (t0 : 0 ≤ m.t) (t8 : m.t ≤ 8) {p : Nat} (hp : p < 128) (op : Int) (k : Nat) (ho : 0 ≤ op) (hk : k < 256) (e0 : okf m.c p = true) (e1 : fop m.c p = op) (e2 : far m.c p = k) : NwC T 100 38 [.agg m.cs, .int .i64 (p : Int)] h nx fun r _ _ => r = .bool (instV m p op k) := by
  intro lg hlg
  rw [xF_fr T38]
  obtain ⟨H, eH, bH, kH, gH⟩ := g.box
  have l4a := fun lg => ld_sub (n := 4) (o := 0) bH (show nx < nx + 1 by omega) (vs := m.cs) rfl lg
  have lc := g.lenC
  have ft := fetch_nw gH (p : Int)
  rw [e0, e1, e2] at ft
  obtain ⟨cs, hcs⟩ : ∃ cs, cs = m.cs := ⟨_, rfl⟩
  rw [← hcs] at eH l4a ft ⊢
  simp (maxSteps := 4000000) (maxDischargeDepth := 6) [F38, eH, l4a]
  refine ft.post (by omega) (by omega) ?_
  rintro _ H3 n3 tc3 wr3 rfl hn3 k3 w3
  have g3 := gH.keeps hn3 k3
  have b3 := (k3 nx (by omega)).trans bH
  have kk : ∀ q, q < nx → H3.blk q = h.blk q := fun q hq => (k3 q (by omega)).trans (kH q hq)
  have ww : ∀ q, q < nx → wr3 &&& 2 ^ q = 0 := fun q hq => w3 q (by omega)
  have l4 := fun lg => ld_sub (n := 4) (o := 0) b3 (show nx < n3 by omega) (vs := m.cs) rfl lg
  rw [← hcs] at l4
  have l0 := fun lg => ld_at b3 (show nx < n3 by omega) (o := 0) (v := .int .i64 m.a) rfl lg
  have l1 := fun lg => ld_at b3 (show nx < n3 by omega) (o := 1) (v := .int .i64 m.t) rfl lg
  have l2 := fun lg => ld_at b3 (show nx < n3 by omega) (o := 2) (v := m.lv) rfl lg
  have l3 := fun lg => ld_at b3 (show nx < n3 by omega) (o := 3) (v := m.cv) rfl lg
  by_cases c0 : op = 0 ∨ op = 10
  · rcases c0 with rfl | rfl
    · have e : instV m p 0 k = decide ((k : Int) < m.a + m.t) := by simp [instV]
      rw [e]
      have w : IntKind.i64.wrap (m.a + m.t) = m.a + m.t := by rw [IntKind.wrap_i64]; omega
      simp (maxSteps := 4000000) (maxDischargeDepth := 6) [l4, l0, l1, w]
      exact ⟨by omega, kk, ww⟩
    · have e : instV m p 10 k = decide ((k : Int) < m.a + m.t) := by simp [instV]
      rw [e]
      have w : IntKind.i64.wrap (m.a + m.t) = m.a + m.t := by rw [IntKind.wrap_i64]; omega
      simp (maxSteps := 4000000) (maxDischargeDepth := 6) [l4, l0, l1, w]
      exact ⟨by omega, kk, ww⟩
  · skip
    by_cases c1 : op = 1 ∨ op = 11
    · rcases c1 with rfl | rfl
      · have e : instV m p 1 k = decide ((k : Int) < 62) := by simp [instV]
        rw [e]
        simp (maxSteps := 4000000) (maxDischargeDepth := 6) [l4]
        exact ⟨by omega, kk, ww⟩
      · have e : instV m p 11 k = decide ((k : Int) < 62) := by simp [instV]
        rw [e]
        simp (maxSteps := 4000000) (maxDischargeDepth := 6) [l4]
        exact ⟨by omega, kk, ww⟩
    · skip
      by_cases c2 : op = 2
      · subst c2
        have e : instV m p 2 k = litK m.L k 3 := by simp [instV]
        rw [e]
        simp (maxSteps := 4000000) (maxDischargeDepth := 6) [l4]
        refine (hcs ▸ rlitk_nw g3 k 3).post (by omega) (by omega) ?_
        rintro _ H4 n4 tc4 wr4 rfl hn4 k4 w4
        simp (maxSteps := 4000000) (maxDischargeDepth := 6) []
        exact ⟨by omega, fun q hq => (k4 q (by omega)).trans (kk q hq), fun q hq => wr_or (ww q hq) (w4 q (by omega))⟩
      · skip
        by_cases c12 : op = 12 ∨ op = 13
        · rcases c12 with rfl | rfl
          · have e : instV m p 12 k = litK m.L k 5 := by simp [instV]
            rw [e]
            simp (maxSteps := 4000000) (maxDischargeDepth := 6) [l4]
            refine (hcs ▸ rlitk_nw g3 k 5).post (by omega) (by omega) ?_
            rintro _ H4 n4 tc4 wr4 rfl hn4 k4 w4
            simp (maxSteps := 4000000) (maxDischargeDepth := 6) []
            exact ⟨by omega, fun q hq => (k4 q (by omega)).trans (kk q hq), fun q hq => wr_or (ww q hq) (w4 q (by omega))⟩
          · have e : instV m p 13 k = litK m.L k 5 := by simp [instV]
            rw [e]
            simp (maxSteps := 4000000) (maxDischargeDepth := 6) [l4]
            refine (hcs ▸ rlitk_nw g3 k 5).post (by omega) (by omega) ?_
            rintro _ H4 n4 tc4 wr4 rfl hn4 k4 w4
            simp (maxSteps := 4000000) (maxDischargeDepth := 6) []
            exact ⟨by omega, fun q hq => (k4 q (by omega)).trans (kk q hq), fun q hq => wr_or (ww q hq) (w4 q (by omega))⟩
        · skip
          by_cases c20 : op = 20
          · subst c20
            have e : instV m p 20 k = (litK m.L k 6 && decide (2 ≤ litN m.L k)) := by simp [instV]
            rw [e]
            simp (maxSteps := 4000000) (maxDischargeDepth := 6) [l4]
            refine (hcs ▸ rlitk_nw g3 k 6).post (by omega) (by omega) ?_
            rintro _ H4 n4 tc4 wr4 rfl hn4 k4 w4
            have kf : ∀ q, q < nx → H4.blk q = h.blk q := fun q hq => (k4 q (by omega)).trans (kk q hq)
            have wf : ∀ q, q < nx → (wr3 ||| wr4) &&& 2 ^ q = 0 := fun q hq => wr_or (ww q hq) (w4 q (by omega))
            cases d : litK m.L k 6 with
            | false =>
              simp (maxSteps := 4000000) (maxDischargeDepth := 6) []
              exact ⟨by omega, kf, wf⟩
            | true =>
              have hkL := litK_lt d
              obtain ⟨b, o, el⟩ := (g3.keeps hn4 k4).l.el hkL
              have p0 := el.pl
              have f := fun lg => el.one 1 (.int .i64 m.L[k].2) rfl lg
              have l2 := fun lg => ld_at ((k4 nx (by omega)).trans b3) (show nx < n4 by omega) (o := 2) (v := m.lv) rfl lg
              rw [litN_at hkL]
              generalize m.L[k].2 = X at *
              simp (maxSteps := 4000000) (maxDischargeDepth := 6) [l2, p0, f]
              exact ⟨by omega, by omega, kf, wf⟩
          · skip
            by_cases c18 : op = 18
            · subst c18
              have e : instV m p 18 k = litK m.L k 7 := by simp [instV]
              rw [e]
              simp (maxSteps := 4000000) (maxDischargeDepth := 6) [l4]
              refine (hcs ▸ rlitk_nw g3 k 7).post (by omega) (by omega) ?_
              rintro _ H4 n4 tc4 wr4 rfl hn4 k4 w4
              simp (maxSteps := 4000000) (maxDischargeDepth := 6) []
              exact ⟨by omega, fun q hq => (k4 q (by omega)).trans (kk q hq), fun q hq => wr_or (ww q hq) (w4 q (by omega))⟩
            · skip
              by_cases c15 : op = 15 ∨ op = 17
              · rcases c15 with rfl | rfl
                · have e : instV m p 15 k = decide ((p : Int) + 2 + 2 * k < m.c.length) := by simp [instV]
                  rw [e]
                  have w1 : IntKind.i64.wrap ((p : Int) + 2) = (p : Int) + 2 := by rw [IntKind.wrap_i64]; omega
                  have w2 : IntKind.i64.wrap (2 * (k : Int)) = 2 * (k : Int) := by rw [IntKind.wrap_i64]; omega
                  have w3 : IntKind.i64.wrap ((p : Int) + 2 + 2 * (k : Int)) = (p : Int) + 2 + 2 * (k : Int) := by rw [IntKind.wrap_i64]; omega
                  have w4 : IntKind.i64.wrap ((p : Int) + (2 + 2 * (k : Int))) = (p : Int) + 2 + 2 * (k : Int) := by rw [IntKind.wrap_i64]; omega
                  simp (maxSteps := 4000000) (maxDischargeDepth := 6) [l4, l3, lc, w1, w2, w3, w4]
                  exact ⟨by omega, kk, ww⟩
                · have e : instV m p 17 k = decide ((p : Int) + 2 + 2 * k < m.c.length) := by simp [instV]
                  rw [e]
                  have w1 : IntKind.i64.wrap ((p : Int) + 2) = (p : Int) + 2 := by rw [IntKind.wrap_i64]; omega
                  have w2 : IntKind.i64.wrap (2 * (k : Int)) = 2 * (k : Int) := by rw [IntKind.wrap_i64]; omega
                  have w3 : IntKind.i64.wrap ((p : Int) + 2 + 2 * (k : Int)) = (p : Int) + 2 + 2 * (k : Int) := by rw [IntKind.wrap_i64]; omega
                  have w4 : IntKind.i64.wrap ((p : Int) + (2 + 2 * (k : Int))) = (p : Int) + 2 + 2 * (k : Int) := by rw [IntKind.wrap_i64]; omega
                  simp (maxSteps := 4000000) (maxDischargeDepth := 6) [l4, l3, lc, w1, w2, w3, w4]
                  exact ⟨by omega, kk, ww⟩
              · skip
                by_cases c16 : op = 16
                · subst c16
                  have e : instV m p 16 k = decide (2 * (k : Int) ≤ p) := by simp [instV]
                  rw [e]
                  have w2 : IntKind.i64.wrap (2 * (k : Int)) = 2 * (k : Int) := by rw [IntKind.wrap_i64]; omega
                  have w3 : IntKind.i64.wrap ((p : Int) - 2 * (k : Int)) = (p : Int) - 2 * (k : Int) := by rw [IntKind.wrap_i64]; omega
                  have w4 : decide (0 ≤ (p : Int) - 2 * (k : Int)) = decide (2 * (k : Int) ≤ (p : Int)) := decide_eq_decide.2 ⟨fun h => by omega, fun h => by omega⟩
                  simp (maxSteps := 4000000) (maxDischargeDepth := 6) [l4, w2, w3, w4]
                  exact ⟨by omega, kk, ww⟩
                · skip
                  by_cases c21 : op = 21
                  · subst c21
                    have e : instV m p 21 k = decide ((k : Int) ≤ 23) := by simp [instV]
                    rw [e]
                    simp (maxSteps := 4000000) (maxDischargeDepth := 6) [l4]
                    exact ⟨by omega, kk, ww⟩
                  · skip
                    have e : instV m p op k = decide (op ≤ 21) := by simp [instV, c0, c1, c2, c12, c20, c18, c15, c16, c21]
                    rw [e]
                    have d : ∀ x : Int, ¬ op = x → (op == x) = false := fun x hx => beq_eq_false_iff_ne.2 hx
                    simp (maxSteps := 4000000) (maxDischargeDepth := 6) [l4, d 0 (by omega), d 10 (by omega), d 1 (by omega), d 11 (by omega), d 2 (by omega), d 12 (by omega), d 13 (by omega), d 20 (by omega), d 18 (by omega), d 15 (by omega), d 17 (by omega), d 16 (by omega), d 21 (by omega)]
                    exact ⟨by omega, kk, ww⟩
end Go.Proofs.YtlbjdkhpabpmiaaT
