/- Code: literals, lengths, ends. -/
import Derived.Test.YtlbjdkhpabpmiaaNm
namespace Go.Proofs.YtlbjdkhpabpmiaaT
open Go Go.Proofs.YtlbjdkhpabpmiaaE Go.Proofs.YtlbjdkhpabpmiaaB
set_option linter.unusedSimpArgs false
set_option linter.unusedVariables false
attribute [local congr] Post_cg PostL_cg condP_cg
attribute [local simp ↓] P_skip P_exit P_ret P_seq P_cond P_blk P_reg P_draw P_nil P_cons op_len Post.some Post_bind Post_ret Post_draw PostL_nil PostL_cons op_islc step_none step_t step_f step_nt step_nf op_load op_store op_slice op_app
attribute [local simp] condP_t condP_f dum_ab stepR want_none want_some opRun ev_t ev_c put_none put_some resAll res_tmp res_cell oneOf minI maxI min2A max2A mn2 mx2 mx3 rdBlk wrBlk newBlk partA abin ibin isShift AV.cells AV.one lay sub fillA lenA toN allApart apartFrom Nat.testBit Mem.blk_set_same Mem.blk_set_ne Mem.set_set bit_zero bit_self lowBits_or lowBits_zero len_setT sl_same sl_ne len_frame sl_frame lenOp_slc lenOp_nils Post_fail ofOpt_some ofOpt_none eA_b eA_i eA_s eA_nn eA_np eA_pn eA_lnn eA_lnp eA_lpn eA_i2 eA_i3 blt_dec Nat.add_assoc keeps_refl keeps_at keeps_up new_one and_pow bit_hi lowBits_pow ble_dec fr_refl fr_at fr_up fr_p reps

/-- A unit, as far as it is asked here. -/
structure U where
  nv : AV
  cl : AV
  mv : AV
  ov : AV
  mn : Int
  n : Nat
  c : Nat
  k : Nat
def U.cs (u : U) : List AV := [u.nv, u.cl, u.mv, u.ov, .int .i64 u.mn]
structure UL (u : U) : Prop where
  ln : lenOp u.nv = A.ret (.int .i64 u.n)
  lc : lenOp u.cl = A.ret (.int .i64 u.c)
  lk : lenOp u.mv = A.ret (.int .i64 u.k)
  one : u.cs.all AV.one = true
def litV (u : U) (x : Int × Int) : Bool :=
  if x.1 = 3 then decide (-1073741824 ≤ x.2) && decide (x.2 ≤ 1073741823) else
  if x.1 = 5 then decide (0 ≤ x.2) && decide (x.2 < u.n) else
  if x.1 = 6 then decide (0 ≤ x.2) && decide (x.2 < u.c) else
  if x.1 = 7 then decide (0 ≤ x.2) && decide (x.2 < u.k) else false
theorem UL.box {u : U} (ul : UL u) (h : Mem) (nx : Nat) : ∃ H, h.set nx (some ⟨27, 5, true, false, u.cs⟩) = H ∧ H.blk nx = some ⟨27, 5, true, false, u.cs⟩ ∧ (∀ q, q < nx → H.blk q = h.blk q) := mkvar h nx _
set_option maxHeartbeats 8000000 in
theorem lit_nw {u : U} (ul : UL u) (kd x : Int) (h : Mem) (nx : Nat) : NwC T 60 32 [.agg [.int .i64 kd, .int .i64 x], .agg u.cs] h nx fun r _ _ => r = .bool (litV u (kd, x)) := by
  intro lg hlg
  rw [xF_fr T32]
  obtain ⟨H, eH, bH, kH⟩ := mkvar h nx ⟨41, 2, true, false, [.int .i64 kd, .int .i64 x]⟩
  obtain ⟨H2, eH2, bH2, kH2⟩ := ul.box H (nx + 1)
  have b2 := (kH2 nx (by omega)).trans bH
  have l0 := fun lg => ld_at b2 (show nx < nx + 2 by omega) (o := 0) (v := .int .i64 kd) rfl lg
  have l1 := fun lg => ld_at b2 (show nx < nx + 2 by omega) (o := 1) (v := .int .i64 x) rfl lg
  have m0 := fun lg => ld_at bH2 (show nx + 1 < nx + 2 by omega) (o := 0) (v := u.nv) rfl lg
  have m1 := fun lg => ld_at bH2 (show nx + 1 < nx + 2 by omega) (o := 1) (v := u.cl) rfl lg
  have m2 := fun lg => ld_at bH2 (show nx + 1 < nx + 2 by omega) (o := 2) (v := u.mv) rfl lg
  have kk : ∀ q, q < nx → H2.blk q = h.blk q := fun q hq => (kH2 q (by omega)).trans (kH q hq)
  have ln := ul.ln
  have lc := ul.lc
  have lk := ul.lk
  simp only [U.cs] at eH2 ⊢
  unfold litV
  by_cases c3 : kd = 3
  · subst c3
    by_cases a : -1073741824 ≤ x
    · simp (maxSteps := 4000000) (maxDischargeDepth := 6) [F32, eH, eH2, l0, l1, a]
      exact kk
    · simp (maxSteps := 4000000) (maxDischargeDepth := 6) [F32, eH, eH2, l0, l1, a]
      exact kk
  · by_cases c5 : kd = 5
    · subst c5
      by_cases a : 0 ≤ x
      · simp (maxSteps := 4000000) (maxDischargeDepth := 6) [F32, eH, eH2, l0, l1, a, m0, ln]
        exact kk
      · simp (maxSteps := 4000000) (maxDischargeDepth := 6) [F32, eH, eH2, l0, l1, a]
        exact kk
    · by_cases c6 : kd = 6
      · subst c6
        by_cases a : 0 ≤ x
        · simp (maxSteps := 4000000) (maxDischargeDepth := 6) [F32, eH, eH2, l0, l1, a, m1, lc]
          exact kk
        · simp (maxSteps := 4000000) (maxDischargeDepth := 6) [F32, eH, eH2, l0, l1, a]
          exact kk
      · by_cases c7 : kd = 7
        · subst c7
          by_cases a : 0 ≤ x
          · simp (maxSteps := 4000000) (maxDischargeDepth := 6) [F32, eH, eH2, l0, l1, a, m2, lk]
            exact kk
          · simp (maxSteps := 4000000) (maxDischargeDepth := 6) [F32, eH, eH2, l0, l1, a]
            exact kk
        · have d3 : (kd == 3) = false := beq_eq_false_iff_ne.2 c3
          have d5 : (kd == 5) = false := beq_eq_false_iff_ne.2 c5
          have d6 : (kd == 6) = false := beq_eq_false_iff_ne.2 c6
          have d7 : (kd == 7) = false := beq_eq_false_iff_ne.2 c7
          simp (maxSteps := 4000000) (maxDischargeDepth := 6) [F32, eH, eH2, l0, l1, d3, d5, d6, d7, c3, c5, c6, c7]
          exact kk
theorem num_rd (x : Int) (h : Mem) (nx : Nat) : RdC T 20 41 [.int .i64 x] h nx (.bool (decide (-1073741824 ≤ x) && decide (x ≤ 1073741823))) := by
  intro lg hlg
  rw [xF_fr T41]
  by_cases a : -1073741824 ≤ x
  · simp (maxSteps := 4000000) (maxDischargeDepth := 6) [F41, a]
  · simp (maxSteps := 4000000) (maxDischargeDepth := 6) [F41, a]
set_option maxHeartbeats 8000000 in
theorem rlit_nw {u : U} (ul : UL u) (kd x : Int) (h : Mem) (nx : Nat) : NwC T 60 37 [.agg [.int .i64 kd, .int .i64 x], .agg u.cs] h nx fun r _ _ => r = .bool (litV u (kd, x)) := by
  intro lg hlg
  rw [xF_fr T37]
  obtain ⟨H, eH, bH, kH⟩ := mkvar h nx ⟨41, 2, true, false, [.int .i64 kd, .int .i64 x]⟩
  obtain ⟨H2, eH2, bH2, kH2⟩ := ul.box H (nx + 1)
  have b2 := (kH2 nx (by omega)).trans bH
  have l0 := fun lg => ld_at b2 (show nx < nx + 2 by omega) (o := 0) (v := .int .i64 kd) rfl lg
  have l1 := fun lg => ld_at b2 (show nx < nx + 2 by omega) (o := 1) (v := .int .i64 x) rfl lg
  have m0 := fun lg => ld_at bH2 (show nx + 1 < nx + 2 by omega) (o := 0) (v := u.nv) rfl lg
  have m1 := fun lg => ld_at bH2 (show nx + 1 < nx + 2 by omega) (o := 1) (v := u.cl) rfl lg
  have m2 := fun lg => ld_at bH2 (show nx + 1 < nx + 2 by omega) (o := 2) (v := u.mv) rfl lg
  have kk : ∀ q, q < nx → H2.blk q = h.blk q := fun q hq => (kH2 q (by omega)).trans (kH q hq)
  have ln := ul.ln
  have lc := ul.lc
  have lk := ul.lk
  simp only [U.cs] at eH2 ⊢
  unfold litV
  by_cases c3 : kd = 3
  · subst c3
    simp (maxSteps := 4000000) (maxDischargeDepth := 6) [F37, eH, eH2, l0, l1]
    refine (num_rd x _ _).post (by omega) (by omega) ?_
    intro tc
    simp (maxSteps := 4000000) (maxDischargeDepth := 6) []
    exact kk
  · by_cases c5 : kd = 5
    · subst c5
      by_cases a : 0 ≤ x
      · simp (maxSteps := 4000000) (maxDischargeDepth := 6) [F37, eH, eH2, l0, l1, a, m0, ln]
        exact kk
      · simp (maxSteps := 4000000) (maxDischargeDepth := 6) [F37, eH, eH2, l0, l1, a]
        exact kk
    · by_cases c6 : kd = 6
      · subst c6
        by_cases a : 0 ≤ x
        · simp (maxSteps := 4000000) (maxDischargeDepth := 6) [F37, eH, eH2, l0, l1, a, m1, lc]
          exact kk
        · simp (maxSteps := 4000000) (maxDischargeDepth := 6) [F37, eH, eH2, l0, l1, a]
          exact kk
      · by_cases c7 : kd = 7
        · subst c7
          by_cases a : 0 ≤ x
          · simp (maxSteps := 4000000) (maxDischargeDepth := 6) [F37, eH, eH2, l0, l1, a, m2, lk]
            exact kk
          · simp (maxSteps := 4000000) (maxDischargeDepth := 6) [F37, eH, eH2, l0, l1, a]
            exact kk
        · have d3 : (kd == 3) = false := beq_eq_false_iff_ne.2 c3
          have d5 : (kd == 5) = false := beq_eq_false_iff_ne.2 c5
          have d6 : (kd == 6) = false := beq_eq_false_iff_ne.2 c6
          have d7 : (kd == 7) = false := beq_eq_false_iff_ne.2 c7
          simp (maxSteps := 4000000) (maxDischargeDepth := 6) [F37, eH, eH2, l0, l1, d3, d5, d6, d7, c3, c5, c6, c7]
          exact kk
/-- Is it a literal of this kind? -/
def litK (L : List (Int × Int)) (x kd : Int) : Bool := decide (x < L.length) && ((L.getD x.toNat (0, 0)).1 == kd)
theorem litK_at {L : List (Int × Int)} {k : Nat} (hk : k < L.length) (kd : Int) : litK L k kd = (L[k].1 == kd) := by
  unfold litK
  rw [decide_eq_true (by omega : (k : Int) < L.length), Int.toNat_natCast, List.getD_eq_getElem?_getD, List.getElem?_eq_getElem hk]
  rfl
theorem litK_no {L : List (Int × Int)} {k : Nat} (hk : ¬ k < L.length) (kd : Int) : litK L k kd = false := by
  unfold litK
  rw [decide_eq_false (by omega : ¬ (k : Int) < L.length)]
  rfl
theorem litk_nw {m : M} {h : Mem} {nx : Nat} (g : MR m h nx) (k : Nat) (kd : Int) : NwC T 40 40 [.agg m.cs, .int .i64 k, .int .i64 kd] h nx fun r _ _ => r = .bool (litK m.L k kd) := by
  intro lg hlg
  rw [xF_fr T40]
  obtain ⟨H, eH, bH, kH, gH⟩ := g.box
  have l2 := fun lg => ld_at bH (show nx < nx + 1 by omega) (o := 2) (v := m.lv) rfl lg
  have ll := g.lenL
  simp only [M.cs] at eH ⊢
  by_cases c : k < m.L.length
  · have c' : (k : Int) < m.L.length := by omega
    obtain ⟨b, o, el⟩ := gH.l.el c
    have p := el.pl
    have f := fun lg => el.fst (v := .int .i64 m.L[k].1) rfl lg
    rw [litK_at c]
    simp (maxSteps := 4000000) (maxDischargeDepth := 6) [F40, eH, l2, ll, c, c', p, f]
    exact kH
  · have c' : ¬ (k : Int) < m.L.length := by omega
    rw [litK_no c]
    simp (maxSteps := 4000000) (maxDischargeDepth := 6) [F40, eH, l2, ll, c, c']
    exact kH
theorem rlitk_nw {m : M} {h : Mem} {nx : Nat} (g : MR m h nx) (k : Nat) (kd : Int) : NwC T 40 42 [.agg m.cs, .int .i64 k, .int .i64 kd] h nx fun r _ _ => r = .bool (litK m.L k kd) := by
  intro lg hlg
  rw [xF_fr T42]
  obtain ⟨H, eH, bH, kH, gH⟩ := g.box
  have l2 := fun lg => ld_at bH (show nx < nx + 1 by omega) (o := 2) (v := m.lv) rfl lg
  have ll := g.lenL
  simp only [M.cs] at eH ⊢
  by_cases c : k < m.L.length
  · have c' : (k : Int) < m.L.length := by omega
    obtain ⟨b, o, el⟩ := gH.l.el c
    have p := el.pl
    have f := fun lg => el.fst (v := .int .i64 m.L[k].1) rfl lg
    rw [litK_at c]
    simp (maxSteps := 4000000) (maxDischargeDepth := 6) [F42, eH, l2, ll, c, c', p, f]
    exact kH
  · have c' : ¬ (k : Int) < m.L.length := by omega
    rw [litK_no c]
    simp (maxSteps := 4000000) (maxDischargeDepth := 6) [F42, eH, l2, ll, c, c']
    exact kH
def shortV (m : M) : Bool := decide (m.c.length ≤ 128) && decide (m.L.length ≤ 16) && decide (0 ≤ m.a) && decide (0 ≤ m.t) && decide (m.a ≤ 8) && decide (m.t ≤ 8 - m.a)
set_option maxHeartbeats 8000000 in
theorem short_nw {m : M} {h : Mem} {nx : Nat} (g : MR m h nx) : NwC T 50 28 [.agg m.cs] h nx fun r _ _ => r = .bool (shortV m) := by
  intro lg hlg
  rw [xF_fr T28]
  obtain ⟨H, eH, bH, kH, gH⟩ := g.box
  have l0 := fun lg => ld_at bH (show nx < nx + 1 by omega) (o := 0) (v := .int .i64 m.a) rfl lg
  have l1 := fun lg => ld_at bH (show nx < nx + 1 by omega) (o := 1) (v := .int .i64 m.t) rfl lg
  have l2 := fun lg => ld_at bH (show nx < nx + 1 by omega) (o := 2) (v := m.lv) rfl lg
  have l3 := fun lg => ld_at bH (show nx < nx + 1 by omega) (o := 3) (v := m.cv) rfl lg
  have ll := g.lenL
  have lc := g.lenC
  simp only [M.cs] at eH ⊢
  unfold shortV
  by_cases c1 : m.c.length ≤ 128
  · have c1' : (m.c.length : Int) ≤ 128 := by omega
    by_cases c2 : m.L.length ≤ 16
    · have c2' : (m.L.length : Int) ≤ 16 := by omega
      by_cases c3 : 0 ≤ m.a
      · by_cases c4 : 0 ≤ m.t
        · by_cases c5 : m.a ≤ 8
          · have w : IntKind.i64.wrap (8 - m.a) = 8 - m.a := by rw [IntKind.wrap_i64]; omega
            simp (maxSteps := 4000000) (maxDischargeDepth := 6) [F28, eH, l0, l1, l2, l3, ll, lc, c1, c1', c2, c2', c3, c4, c5, w]
            exact kH
          · simp (maxSteps := 4000000) (maxDischargeDepth := 6) [F28, eH, l0, l1, l2, l3, ll, lc, c1, c1', c2, c2', c3, c4, c5]
            exact kH
        · simp (maxSteps := 4000000) (maxDischargeDepth := 6) [F28, eH, l0, l1, l2, l3, ll, lc, c1, c1', c2, c2', c3, c4]
          exact kH
      · simp (maxSteps := 4000000) (maxDischargeDepth := 6) [F28, eH, l0, l1, l2, l3, ll, lc, c1, c1', c2, c2', c3]
        exact kH
    · have c2' : ¬ (m.L.length : Int) ≤ 16 := by omega
      simp (maxSteps := 4000000) (maxDischargeDepth := 6) [F28, eH, l0, l1, l2, l3, ll, lc, c1, c1', c2, c2']
      exact kH
  · have c1' : ¬ (m.c.length : Int) ≤ 128 := by omega
    simp (maxSteps := 4000000) (maxDischargeDepth := 6) [F28, eH, l0, l1, l2, l3, ll, lc, c1, c1']
    exact kH
/-- Its code is of pairs, and its last is an end. -/
def evenV (m : M) : Bool := decide (2 ≤ m.c.length) && decide (m.c.length % 2 = 0)
def lastV (m : M) : Int := m.c.getD (m.c.length - 2) 0
def endsV (m : M) : Bool := evenV m && (lastV m == 14 || lastV m == 19 || lastV m == 16)
set_option maxHeartbeats 8000000 in
theorem ends_nw {m : M} {h : Mem} {nx : Nat} (g : MR m h nx) (hs : m.c.length ≤ 128) : NwC T 50 29 [.agg m.cs] h nx fun r _ _ => r = .bool (endsV m) := by
  intro lg hlg
  rw [xF_fr T29]
  obtain ⟨H, eH, bH, kH, gH⟩ := g.box
  have l3 := fun lg => ld_at bH (show nx < nx + 1 by omega) (o := 3) (v := m.cv) rfl lg
  have lc := g.lenC
  simp only [M.cs] at eH ⊢
  by_cases c1 : m.c.length < 2
  · have c1' : (m.c.length : Int) < 2 := by omega
    have e : endsV m = false := by unfold endsV evenV; rw [decide_eq_false (by omega : ¬ 2 ≤ m.c.length)]; rfl
    rw [e]
    simp (maxSteps := 4000000) (maxDischargeDepth := 6) [F29, eH, l3, lc, c1, c1']
    exact kH
  · have c1' : ¬ (m.c.length : Int) < 2 := by omega
    by_cases c2 : m.c.length % 2 = 0
    · have c2' : ((m.c.length : Int).tmod 2 != 0) = false := by rw [bne_eq_false_iff_eq, Int.tmod_eq_emod_of_nonneg (by omega)]; omega
      obtain ⟨k, hk⟩ : ∃ k, m.c.length = k + 2 := ⟨m.c.length - 2, by omega⟩
      have wl : IntKind.i64.wrap ((m.c.length : Int) - 2) = (k : Int) := by rw [IntKind.wrap_i64]; omega
      have hk' : k < m.c.length := by omega
      obtain ⟨b, o, el⟩ := gH.el hk'
      have p := el.pl
      have f := fun lg => el.fst (v := .int .u8 m.c[k]) rfl lg
      have w8 := wr8 (g.ok _ (List.getElem_mem hk'))
      have e : endsV m = (m.c[k] == 14 || m.c[k] == 19 || m.c[k] == 16) := by
        unfold endsV evenV lastV
        rw [decide_eq_true (by omega : 2 ≤ m.c.length), decide_eq_true c2, List.getD_eq_getElem?_getD, show m.c.length - 2 = k by omega, List.getElem?_eq_getElem hk']
        rfl
      rw [e]
      generalize m.c[k] = A at *
      by_cases d1 : A = 14
      · subst d1
        simp (maxSteps := 4000000) (maxDischargeDepth := 6) [F29, eH, l3, lc, c1, c1', c2', wl, p, f, w8]
        exact kH
      · have d1' : (A == 14) = false := beq_eq_false_iff_ne.2 d1
        by_cases d2 : A = 19
        · subst d2
          simp (maxSteps := 4000000) (maxDischargeDepth := 6) [F29, eH, l3, lc, c1, c1', c2', wl, p, f, w8]
          exact kH
        · have d2' : (A == 19) = false := beq_eq_false_iff_ne.2 d2
          simp (maxSteps := 4000000) (maxDischargeDepth := 6) [F29, eH, l3, lc, c1, c1', c2', wl, p, f, w8, d1', d2']
          exact kH
    · have c2' : ((m.c.length : Int).tmod 2 != 0) = true := by rw [bne_iff_ne, Int.tmod_eq_emod_of_nonneg (by omega)]; omega
      have e : endsV m = false := by unfold endsV evenV; rw [decide_eq_false c2, Bool.and_false]; rfl
      rw [e]
      simp (maxSteps := 4000000) (maxDischargeDepth := 6) [F29, eH, l3, lc, c1, c1', c2']
      exact kH
set_option maxHeartbeats 8000000 in
theorem fetch_nw {m : M} {h : Mem} {nx : Nat} (g : MR m h nx) (pc : Int) : NwC T 60 23 [.agg m.cs, .int .i64 pc] h nx fun r h' nx' => r = .tup [.int .i64 (fop m.c pc), .int .i64 (far m.c pc), .bool (okf m.c pc)] := by
  intro lg hlg
  rw [xF_fr T23]
  obtain ⟨H, eH, bH, kH, gH⟩ := g.box
  have l1 := g.lenC
  have n1 := g.n
  have ld3 := fun lg => ld_at bH (show nx < nx + 1 by omega) (o := 3) (v := m.cv) rfl lg
  have bz : bit lg nx = 0 := bit_up hlg
  simp only [M.cs] at eH ⊢
  by_cases c1 : pc < 0
  · have ok : okf m.c pc = false := by unfold okf; rw [decide_eq_false (by omega : ¬ 0 ≤ pc)]; rfl
    obtain ⟨e1, e2⟩ := okf_no ok
    simp (maxSteps := 4000000) (maxDischargeDepth := 6) [F23, eH, c1, ok, e1, e2, bz]
    exact kH
  · by_cases c2 : pc.tmod 2 = 0
    · have wl : IntKind.i64.wrap ((m.c.length : Int) - 2) = (m.c.length : Int) - 2 := by rw [IntKind.wrap_i64]; unfold big at n1; omega
      by_cases c3 : pc < (m.c.length : Int) - 1
      · have ok : okf m.c pc = true := by unfold okf; rw [decide_eq_true (by omega : 0 ≤ pc), decide_eq_true c2, decide_eq_true c3]; rfl
        obtain ⟨k, rfl⟩ : ∃ i : Nat, pc = i := ⟨pc.toNat, by omega⟩
        have hk : k + 1 < m.c.length := by omega
        obtain ⟨e1, e2⟩ := okf_at hk ok
        have wk : IntKind.i64.wrap ((k : Int) + 1) = (k : Int) + 1 := by rw [IntKind.wrap_i64]; unfold big at n1; omega
        obtain ⟨b0, o0, el0⟩ := gH.el (i := k) (by omega)
        obtain ⟨b1, o1, el1⟩ := gH.el hk
        have p0 := el0.pl
        have p1 : islcA 1 m.cv (.int .i64 ((k : Int) + 1)) = A.ret (.ptr b1 o1) := el1.pl
        have f0 := fun lg => el0.fst (v := .int .u8 m.c[k]) rfl lg
        have f1 := fun lg => el1.fst (v := .int .u8 m.c[k + 1]) rfl lg
        have w8a := wr8 (g.ok _ (List.getElem_mem (show k < m.c.length by omega)))
        have w8b := wr8 (g.ok _ (List.getElem_mem hk))
        rw [ok, e1, e2]
        have c1' : ¬ (k : Int) < 0 := c1
        have c3' : ¬ (m.c.length : Int) - 2 < (k : Int) := by omega
        generalize m.c[k] = A at *
        generalize m.c[k + 1] = B at *
        simp (maxSteps := 4000000) (maxDischargeDepth := 6) [F23, eH, c1', c2, c3', l1, wl, wk, p0, p1, f0, f1, w8a, w8b, bz, ld3]
        exact kH
      · have ok : okf m.c pc = false := by unfold okf; rw [decide_eq_false c3, Bool.and_false]
        obtain ⟨e1, e2⟩ := okf_no ok
        have c3' : (m.c.length : Int) - 2 < pc := by omega
        simp (maxSteps := 4000000) (maxDischargeDepth := 6) [F23, eH, c1, c2, c3', ok, e1, e2, l1, wl, ld3, bz]
        exact kH
    · have ok : okf m.c pc = false := by unfold okf; rw [decide_eq_false c2, Bool.and_false]; rfl
      obtain ⟨e1, e2⟩ := okf_no ok
      have c2' : (pc.tmod 2 != 0) = true := bne_iff_ne.2 c2
      simp (maxSteps := 4000000) (maxDischargeDepth := 6) [F23, eH, c1, c2', ok, e1, e2, bz]
      exact kH
end Go.Proofs.YtlbjdkhpabpmiaaT
