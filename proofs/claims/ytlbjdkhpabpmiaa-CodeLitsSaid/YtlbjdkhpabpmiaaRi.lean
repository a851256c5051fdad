/- Code: literals are looked through; a method is judged. -/
import Derived.Test.YtlbjdkhpabpmiaaIn
namespace Go.Proofs.YtlbjdkhpabpmiaaT
open Go Go.Proofs.YtlbjdkhpabpmiaaE Go.Proofs.YtlbjdkhpabpmiaaB
set_option linter.unusedSimpArgs false
set_option linter.unusedVariables false
attribute [local congr] Post_cg PostL_cg condP_cg
attribute [local simp ↓] P_skip P_exit P_ret P_seq P_cond P_blk P_reg P_draw P_nil P_cons op_len Post.some Post_bind Post_ret Post_draw PostL_nil PostL_cons op_islc step_none step_t step_f step_nt step_nf op_load op_store op_slice op_app
attribute [local simp] condP_t condP_f dum_ab stepR want_none want_some opRun ev_t ev_c put_none put_some resAll res_tmp res_cell oneOf minI maxI min2A max2A mn2 mx2 mx3 rdBlk wrBlk newBlk partA abin ibin isShift AV.cells AV.one lay sub fillA lenA toN allApart apartFrom Nat.testBit Mem.blk_set_same Mem.blk_set_ne Mem.set_set bit_zero bit_self lowBits_or lowBits_zero len_setT sl_same sl_ne len_frame sl_frame lenOp_slc lenOp_nils Post_fail ofOpt_some ofOpt_none eA_b eA_i eA_s eA_nn eA_np eA_pn eA_lnn eA_lnp eA_lpn eA_i2 eA_i3 blt_dec Nat.add_assoc keeps_refl keeps_at keeps_up new_one and_pow bit_hi lowBits_pow ble_dec fr_refl fr_at fr_up fr_p reps

def litsOk (u : U) (L : List (Int × Int)) : Bool := L.all (litV u)
theorem litsOk_no {u : U} {L : List (Int × Int)} {j : Nat} (hj : j < L.length) (e : litV u L[j] = false) : litsOk u L = false := List.all_eq_false.2 ⟨L[j], List.getElem_mem hj, by rw [e]; decide⟩
theorem litsOk_yes {u : U} {L : List (Int × Int)} (e : ∀ i (h : i < L.length), litV u L[i] = true) : litsOk u L = true := List.all_eq_true.2 fun x hx => by
  obtain ⟨i, hi, rfl⟩ := List.mem_iff_getElem.1 hx
  exact e i hi
theorem clo_nw {u : U} (ul : UL u) (kd x : Int) {h : Mem} {nx : Nat} {b : Nat} (hb : h.blk b = some ⟨27, 5, true, false, u.cs⟩) (hbn : b < nx) : NwC T 80 31 [.agg [.int .i64 kd, .int .i64 x], .ptr b 0] h nx fun r _ _ => r = .bool (!litV u (kd, x)) := by
  intro lg hlg
  rw [xF_fr T31]
  obtain ⟨H, eH, bH, kH⟩ := mkvar h nx ⟨41, 2, true, false, [.int .i64 kd, .int .i64 x]⟩
  have l0 := fun lg => ld_sub (n := 2) (o := 0) bH (show nx < nx + 1 by omega) (vs := [.int .i64 kd, .int .i64 x]) rfl lg
  have l5 := fun lg => ld_sub (n := 5) (o := 0) ((kH b hbn).trans hb) (show b < nx + 1 by omega) (vs := u.cs) rfl lg
  simp (maxSteps := 4000000) (maxDischargeDepth := 6) [F31, eH, l0, l5]
  refine (lit_nw ul kd x _ _).post (by omega) (by omega) ?_
  rintro _ H4 n4 tc4 wr4 rfl hn4 k4 w4
  simp (maxSteps := 4000000) (maxDischargeDepth := 6) []
  exact ⟨by omega, fun q hq => (k4 q (by omega)).trans (kH q hq), fun q hq => w4 q (by omega)⟩
def IxI (v fn : AV) (u : U) (L : List (Int × Int)) (h0 : Mem) (nx0 : Nat) (mm : Nat) (ts : List AV) (h : Mem) (nx tc wr : Nat) : Prop := ∃ j : Nat, mm = L.length - j ∧ j ≤ L.length ∧ ts.length = 19 ∧ sl ts 0 = v ∧ sl ts 1 = fn ∧ sl ts 7 = .int .i64 L.length ∧ sl ts 8 = .int .i64 j ∧ (∀ i (h : i < L.length), i < j → litV u L[i] = true) ∧ nx0 ≤ nx ∧ (∀ q, q < nx0 → h.blk q = h0.blk q) ∧ ∀ q, q < nx0 → wr &&& 2 ^ q = 0
def IxR (u : U) (L : List (Int × Int)) (h0 : Mem) (nx0 : Nat) (e : Ex) (ts : List AV) (h : Mem) (nx tc wr : Nat) : Prop := ts.length = 19 ∧ nx0 ≤ nx ∧ (∀ q, q < nx0 → h.blk q = h0.blk q) ∧ (∀ q, q < nx0 → wr &&& 2 ^ q = 0) ∧ ((e = .exit 0 ∧ litsOk u L = true) ∨ (e = .ret ∧ litsOk u L = false ∧ ∃ i : Nat, sl ts 4 = .int .i64 i))
set_option maxHeartbeats 8000000 in
theorem ix_round {v : AV} {u : U} (ul : UL u) {L : List (Int × Int)} {b : Nat} {h0 : Mem} {nx0 : Nat} (g : BR v h0 nx0 L) (hb : h0.blk b = some ⟨27, 5, true, false, u.cs⟩) (hbn : b < nx0) (lg : Nat) (hlg : lg ≤ nx0) (mm : Nat) (ts : List AV) (h : Mem) (nx tc wr : Nat) (hi : IxI v (.fn 31 [] [.ptr b 0]) u L h0 nx0 mm ts h nx tc wr) :
    Post (xC T 120 L39_0b ts h nx lg) fun v' h' nx' tc' wr' => Round (IxI v (.fn 31 [] [.ptr b 0]) u L h0 nx0) (IxR u L h0 nx0) mm v' h' nx' (tc ||| tc') (wr ||| wr') := by
  obtain ⟨j, rfl, hj, hlen, g0, g1, g7, g8, ha, hn, hk, hw⟩ := hi
  have hl := g.n
  by_cases c : j < L.length
  · have c' : (j : Int) < L.length := by omega
    have ci : IntKind.i64.wrap ((j : Int) + 1) = ((j + 1 : Nat) : Int) := by rw [IntKind.wrap_i64]; unfold big at hl; omega
    obtain ⟨b1, o1, el⟩ := (g.keeps hn hk).el c
    have p := el.pl
    have f := el.all lg
    simp only [bcs] at f
    simp (maxSteps := 4000000) (maxDischargeDepth := 6) [L39_0b, hlen, g0, g1, g7, g8, c', p, f]
    refine (clo_nw ul L[j].1 L[j].2 ((hk b hbn).trans hb) (by omega)).post (by omega) (by omega) ?_
    rintro _ H4 n4 tc4 wr4 rfl hn4 k4 w4
    have kk : ∀ q, q < nx0 → H4.blk q = h0.blk q := fun q hq => (k4 q (by omega)).trans (hk q hq)
    have ww : ∀ q, q < nx0 → (wr ||| wr4) &&& 2 ^ q = 0 := fun q hq => wr_or (hw q hq) (w4 q (by omega))
    cases d : litV u (L[j].1, L[j].2) with
    | false =>
      simp (maxSteps := 4000000) (maxDischargeDepth := 6) [hlen]
      refine Round.ret (R := IxR u L h0 nx0) ⟨?_, by omega, kk, ww, .inr ⟨rfl, litsOk_no c d, j, ?_⟩⟩ <;> simp [len_setT, sl_same, sl_ne, hlen]
    | true =>
      simp (maxSteps := 4000000) (maxDischargeDepth := 6) [hlen, g8, ci]
      refine Round.nor (m' := L.length - (j + 1)) (by omega) ⟨j + 1, rfl, by omega, ?_, ?_, ?_, ?_, ?_, fun i h hi => ?_, by omega, kk, ww⟩
      any_goals simp [len_setT, sl_same, sl_ne, hlen, g0, g1, g7]
      by_cases e : i = j
      · subst e; exact d
      · exact ha i h (by omega)
  · have c' : ¬ (j : Int) < L.length := by omega
    simp (maxSteps := 4000000) (maxDischargeDepth := 6) [L39_0b, hlen, g0, g1, g7, g8, c']
    refine Round.exit (R := IxR u L h0 nx0) ⟨?_, hn, hk, hw, .inl ⟨rfl, litsOk_yes fun i h => ha i h (by omega)⟩⟩
    simp [len_setT, sl_same, sl_ne, hlen]
theorem ix_nw {v : AV} {u : U} (ul : UL u) {L : List (Int × Int)} {b : Nat} {h : Mem} {nx : Nat} (g : BR v h nx L) (hb : h.blk b = some ⟨27, 5, true, false, u.cs⟩) (hbn : b < nx) : NwC T (L.length + 200) 39 [v, .fn 31 [] [.ptr b 0]] h nx fun r _ _ => ∃ i : Int, r = .int .i64 i ∧ decide (0 ≤ i) = !litsOk u L := by
  intro lg hlg
  rw [xF_fr T39]
  have ls := g.lenOp
  simp (maxSteps := 4000000) (maxDischargeDepth := 6) [F39, L39_0, ls]
  refine Post.loop (ix_round ul g hb hbn lg hlg) L.length ⟨0, rfl, by omega, ?_, ?_, ?_, ?_, ?_, fun i _ hi => absurd hi (by omega), Nat.le_refl _, fun _ _ => rfl, fun q _ => Nat.zero_and _⟩ (by omega) ?_
  any_goals simp [len_setT, sl_same, sl_ne, sl_frame, len_frame]
  rintro e ts' h' nx' tc wr ⟨hlen, hn, hk, hw, ⟨rfl, hx⟩ | ⟨rfl, hx, i, g4⟩⟩
  · simp (maxSteps := 4000000) (maxDischargeDepth := 6) [hlen, hx]
    exact ⟨hn, hk, hw⟩
  · simp (maxSteps := 4000000) (maxDischargeDepth := 6) [hlen, hx, g4]
    exact ⟨hn, hk, hw⟩
theorem con_nw {v : AV} {u : U} (ul : UL u) {L : List (Int × Int)} {b : Nat} {h : Mem} {nx : Nat} (g : BR v h nx L) (hb : h.blk b = some ⟨27, 5, true, false, u.cs⟩) (hbn : b < nx) : NwC T (L.length + 220) 30 [v, .fn 31 [] [.ptr b 0]] h nx fun r _ _ => r = .bool (!litsOk u L) := by
  intro lg hlg
  rw [xF_fr T30]
  simp (maxSteps := 4000000) (maxDischargeDepth := 6) [F30]
  refine (ix_nw ul g hb hbn).post (by omega) (by omega) ?_
  rintro _ H4 n4 tc4 wr4 ⟨i, rfl, hi⟩ hn4 k4 w4
  simp (maxSteps := 4000000) (maxDischargeDepth := 6) [hi]
  exact ⟨hn4, k4, w4⟩
def insAt (m : M) (p : Nat) : Bool := instV m p (m.c.getD p 0) (m.c.getD (p + 1) 0).toNat
def pcsV (m : M) : Bool := (List.range m.c.length).all fun p => decide (p % 2 = 1) || insAt m p
def codeV (u : U) (m : M) : Int := if shortV m then if endsV m && litsOk u m.L then if pcsV m then 0 else 12 else 12 else 3
theorem pcsV_no {m : M} {p : Nat} (hp : p < m.c.length) (h2 : p % 2 = 0) (e : insAt m p = false) : pcsV m = false := List.all_eq_false.2 ⟨p, List.mem_range.2 hp, by rw [e, decide_eq_false (by omega)]; decide⟩
theorem pcsV_yes {m : M} (e : ∀ p, p < m.c.length → p % 2 = 0 → insAt m p = true) : pcsV m = true := List.all_eq_true.2 fun p hp => by
  by_cases c : p % 2 = 0
  · rw [e p (List.mem_range.1 hp) c, Bool.or_true]
  · rw [decide_eq_true (by omega : p % 2 = 1), Bool.true_or]
structure Sh (m : M) : Prop where
  c : m.c.length ≤ 128
  l : m.L.length ≤ 16
  a0 : 0 ≤ m.a
  t0 : 0 ≤ m.t
  a8 : m.a ≤ 8
  t8 : m.t ≤ 8 - m.a
theorem shortV_t {m : M} (h : shortV m = true) : Sh m := by
  unfold shortV at h
  simp only [Bool.and_eq_true, decide_eq_true_eq] at h
  exact ⟨h.1.1.1.1.1, h.1.1.1.1.2, h.1.1.1.2, h.1.1.2, h.1.2, h.2⟩
/-- What stands at a place of a method's code. -/
theorem at_pc {m : M} (ok : Ok8 m.c) {p : Nat} (hp : p + 1 < m.c.length) (h2 : p % 2 = 0) : ∃ (op : Int) (k : Nat), okf m.c p = true ∧ fop m.c p = op ∧ far m.c p = k ∧ 0 ≤ op ∧ k < 256 ∧ insAt m p = instV m p op k := by
  have e0 : okf m.c p = true := by
    unfold okf
    rw [decide_eq_true (by omega : 0 ≤ (p : Int)), decide_eq_true (by rw [Int.tmod_eq_emod_of_nonneg (by omega)]; omega), decide_eq_true (by omega)]
    rfl
  obtain ⟨e1, e2⟩ := okf_at hp e0
  have h1 := ok _ (List.getElem_mem (show p < m.c.length by omega))
  have h3 := ok _ (List.getElem_mem hp)
  refine ⟨m.c[p], m.c[p + 1].toNat, e0, e1, by rw [e2]; omega, h1.1, by omega, ?_⟩
  unfold insAt
  simp only [List.getD_eq_getElem?_getD, List.getElem?_eq_getElem (show p < m.c.length by omega), List.getElem?_eq_getElem hp, Option.getD_some]
theorem endsV_even {m : M} (h : endsV m = true) : m.c.length % 2 = 0 ∧ 2 ≤ m.c.length := by
  unfold endsV evenV at h
  simp only [Bool.and_eq_true, decide_eq_true_eq] at h
  exact ⟨h.1.2, h.1.1⟩
def PcI (nt sp sc : Nat) (x y : AV) (m : M) (bb : Nat) (h0 : Mem) (nx0 : Nat) (lo mm : Nat) (ts : List AV) (h : Mem) (nx tc wr : Nat) : Prop := ∃ p : Nat, mm = m.c.length - p ∧ p ≤ m.c.length ∧ p % 2 = 0 ∧ ts.length = nt ∧ sl ts 2 = .ptr bb 0 ∧ sl ts sp = .int .i64 p ∧ sl ts sc = x ∧ (∀ i, i < p → i % 2 = 0 → insAt m i = true) ∧ nx0 ≤ nx ∧ (∀ q, q < nx0 → h.blk q = h0.blk q) ∧ ∀ q, q < lo → wr &&& 2 ^ q = 0
def PcR (nt : Nat) (ex : Nat) (m : M) (h0 : Mem) (nx0 : Nat) (lo : Nat) (e : Ex) (ts : List AV) (h : Mem) (nx tc wr : Nat) : Prop := ts.length = nt ∧ nx0 ≤ nx ∧ (∀ q, q < nx0 → h.blk q = h0.blk q) ∧ (∀ q, q < lo → wr &&& 2 ^ q = 0) ∧ ((e = .exit ex ∧ pcsV m = true) ∨ (e = .ret ∧ pcsV m = false ∧ sl ts 4 = .int .i64 12))
set_option maxHeartbeats 8000000 in
theorem pc_round {m : M} (sh : Sh m) (ev : m.c.length % 2 = 0) {bb : Nat} {h0 : Mem} {nx0 : Nat} (g : MR m h0 nx0) (hb : h0.blk bb = some ⟨37, 4, true, false, m.cs⟩) (hbn : bb < nx0) (lg : Nat) (hlg : lg ≤ nx0) (mm : Nat) (ts : List AV) (h : Mem) (nx tc wr : Nat) (hi : PcI 44 5 2 (.ptr bb 0) .nils m bb h0 nx0 nx0 mm ts h nx tc wr) :
    Post (xC T 160 L18_0b ts h nx lg) fun v' h' nx' tc' wr' => Round (PcI 44 5 2 (.ptr bb 0) .nils m bb h0 nx0 nx0) (PcR 44 1 m h0 nx0 nx0) mm v' h' nx' (tc ||| tc') (wr ||| wr') := by
  obtain ⟨p, rfl, hp, h2, hlen, g2, g5, _, ha, hn, hk, hw⟩ := hi
  have hl := sh.c
  have bbk := (hk bb hbn).trans hb
  have l3 := fun lg => ld_at bbk (show bb < nx by omega) (o := 3) (v := m.cv) rfl lg
  have l4 := fun lg => ld_sub (n := 4) (o := 0) bbk (show bb < nx by omega) (vs := m.cs) rfl lg
  have lc := g.lenC
  by_cases c : p < m.c.length
  · have c' : (p : Int) < m.c.length := by omega
    have ci : IntKind.i64.wrap ((p : Int) + 2) = ((p + 2 : Nat) : Int) := by rw [IntKind.wrap_i64]; omega
    obtain ⟨op, k, e0, e1, e2, ho, hk8, ei⟩ := at_pc g.ok (show p + 1 < m.c.length by omega) h2
    have tk := take_nw (g.keeps hn hk) (p : Int)
    rw [e0, e1, e2] at tk
    simp (maxSteps := 4000000) (maxDischargeDepth := 6) [L18_0b, hlen, g2, g5, l3, lc, c', l4]
    refine tk.post (by omega) (by omega) ?_
    rintro _ H1 n1 tc1 wr1 rfl hn1 k1 w1
    have kk1 : ∀ q, q < nx0 → H1.blk q = h0.blk q := fun q hq => (k1 q (by omega)).trans (hk q hq)
    obtain ⟨H2, sH2, b2, k2⟩ := st_var H1 n1 (t := 47) (sz := 2) (n := 2) (g := false) [.int .i64 0, .int .i64 0] [.int .i64 op, .int .i64 (k : Int)] rfl rfl rfl
    have kk2 : ∀ q, q < nx0 → H2.blk q = h0.blk q := fun q hq => (k2 q (by omega)).trans (kk1 q hq)
    have l4' := fun lg => ld_sub (n := 4) (o := 0) ((kk2 bb hbn).trans hb) (show bb < n1 + 1 by omega) (vs := m.cs) rfl lg
    have l2' := fun lg => ld_sub (n := 2) (o := 0) b2 (show n1 < n1 + 1 by omega) (vs := [.int .i64 op, .int .i64 (k : Int)]) rfl lg
    simp (maxSteps := 4000000) (maxDischargeDepth := 6) [hlen, sH2, l4', l2', g2, g5]
    refine (inst_nw (g.keeps (by omega) kk2) sh.c sh.a0 sh.a8 sh.t0 (by have := sh.t8; have := sh.a0; omega) (p := p) (by omega) op k ho hk8).post (by omega) (by omega) ?_
    rintro _ H4 n4 tc4 wr4 rfl hn4 k4 w4
    have kk : ∀ q, q < nx0 → H4.blk q = h0.blk q := fun q hq => (k4 q (by omega)).trans (kk2 q hq)
    have ww : ∀ q, q < nx0 → (wr ||| (wr1 ||| bit lg n1 ||| wr4)) &&& 2 ^ q = 0 := fun q hq => wr_or (hw q hq) (wr_or (wr_or (w1 q (by omega)) (bit_and (by omega))) (w4 q (by omega)))
    cases d : instV m p op k with
    | false =>
      simp (maxSteps := 4000000) (maxDischargeDepth := 6) [hlen]
      refine Round.ret (R := PcR 44 1 m h0 nx0 nx0) ⟨?_, by omega, kk, ?_, .inr ⟨rfl, pcsV_no c h2 (ei.trans d), ?_⟩⟩
      any_goals simp [len_setT, sl_same, sl_ne, hlen]
      exact ww
    | true =>
      simp (maxSteps := 4000000) (maxDischargeDepth := 6) [hlen, g5, ci]
      refine Round.nor (m' := m.c.length - (p + 2)) (by omega) ⟨p + 2, rfl, by omega, by omega, ?_, ?_, ?_, ?_, fun i h hi => ?_, by omega, kk, ?_⟩
      any_goals simp [len_setT, sl_same, sl_ne, hlen, g2]
      · by_cases e : i = p
        · subst e; exact ei.trans d
        · exact ha i (by omega) hi
      · exact ww
  · have c' : ¬ (p : Int) < m.c.length := by omega
    simp (maxSteps := 4000000) (maxDischargeDepth := 6) [L18_0b, hlen, g2, g5, l3, lc, c']
    refine Round.exit (R := PcR 44 1 m h0 nx0 nx0) ⟨?_, hn, hk, hw, .inl ⟨rfl, pcsV_yes fun i h hi => ha i (by omega) hi⟩⟩
    simp [len_setT, sl_same, sl_ne, hlen]
set_option maxHeartbeats 8000000 in
theorem right_nw {m : M} {u : U} (ul : UL u) {h : Mem} {nx : Nat} (g : MR m h nx) : NwC T 600 18 [.agg m.cs, .agg u.cs] h nx fun r _ _ => r = .int .i64 (codeV u m) := by
  intro lg hlg
  rw [xF_fr T18]
  obtain ⟨H, eH, bH, kH, gH⟩ := g.box
  obtain ⟨H2, eH2, bH2, kH2⟩ := ul.box H (nx + 1)
  have g2 := gH.keeps (Nat.le_succ _) kH2
  have b2 := (kH2 nx (by omega)).trans bH
  have kk : ∀ q, q < nx → H2.blk q = h.blk q := fun q hq => (kH2 q (by omega)).trans (kH q hq)
  have l4 := fun lg => ld_sub (n := 4) (o := 0) b2 (show nx < nx + 2 by omega) (vs := m.cs) rfl lg
  simp (maxSteps := 4000000) (maxDischargeDepth := 6) [F18, eH, eH2, l4]
  refine (short_nw g2).post (by omega) (by omega) ?_
  rintro _ H3 n3 tc3 wr3 rfl hn3 k3 w3
  unfold codeV
  cases hs : shortV m with
  | false =>
    simp (maxSteps := 4000000) (maxDischargeDepth := 6) []
    exact ⟨by omega, fun q hq => (k3 q (by omega)).trans (kk q hq), fun q hq => w3 q (by omega)⟩
  | true =>
    have sh := shortV_t hs
    have g3 := g2.keeps hn3 k3
    have b3 := (k3 nx (by omega)).trans b2
    have l4 := fun lg => ld_sub (n := 4) (o := 0) b3 (show nx < n3 by omega) (vs := m.cs) rfl lg
    simp (maxSteps := 4000000) (maxDischargeDepth := 6) [l4]
    refine (ends_nw g3 sh.c).post (by omega) (by omega) ?_
    rintro _ H5 n5 tc5 wr5 rfl hn5 k5 w5
    have kk5 : ∀ q, q < nx → H5.blk q = h.blk q := fun q hq => (k5 q (by omega)).trans ((k3 q (by omega)).trans (kk q hq))
    have ww5 : ∀ q, q < nx → (wr3 ||| wr5) &&& 2 ^ q = 0 := fun q hq => wr_or (w3 q (by omega)) (w5 q (by omega))
    cases he : endsV m with
    | false =>
      simp (maxSteps := 4000000) (maxDischargeDepth := 6) []
      exact ⟨by omega, kk5, ww5⟩
    | true =>
      have g5 := g3.keeps hn5 k5
      have b5 := (k5 nx (by omega)).trans b3
      have l2 := fun lg => ld_at b5 (show nx < n5 by omega) (o := 2) (v := m.lv) rfl lg
      simp (maxSteps := 4000000) (maxDischargeDepth := 6) [l2]
      refine (con_nw ul g5.l ((k5 (nx + 1) (by omega)).trans ((k3 (nx + 1) (by omega)).trans bH2)) (show nx + 1 < n5 by omega)).post (by have := sh.l; omega) (by omega) ?_
      rintro _ H6 n6 tc6 wr6 rfl hn6 k6 w6
      have kk6 : ∀ q, q < nx → H6.blk q = h.blk q := fun q hq => (k6 q (by omega)).trans (kk5 q hq)
      have ww6 : ∀ q, q < nx → (wr3 ||| (wr5 ||| wr6)) &&& 2 ^ q = 0 := fun q hq => wr_or (w3 q (by omega)) (wr_or (w5 q (by omega)) (w6 q (by omega)))
      cases hl : litsOk u m.L with
      | false =>
        simp (maxSteps := 4000000) (maxDischargeDepth := 6) []
        exact ⟨by omega, kk6, ww6⟩
      | true =>
        have g6 := g5.keeps hn6 k6
        have b6 := (k6 nx (by omega)).trans b5
        simp (maxSteps := 4000000) (maxDischargeDepth := 6) [L18_0]
        refine Post.loop (pc_round sh (endsV_even he).1 g6 b6 (show nx < n6 by omega) lg (by omega)) m.c.length ⟨0, rfl, by omega, rfl, ?_, ?_, ?_, ?_, fun i hi => absurd hi (by omega), Nat.le_refl _, fun _ _ => rfl, fun q _ => Nat.zero_and _⟩ ?_ ?_
        any_goals simp [len_setT, sl_same, sl_ne, sl_frame, len_frame]
        · have := sh.c; omega
        rintro e ts' h' nx' tc wr ⟨hlen, hn, hk, hw, ⟨rfl, hx⟩ | ⟨rfl, hx, g4⟩⟩
        · simp (maxSteps := 4000000) (maxDischargeDepth := 6) [hlen, hx]
          exact ⟨by omega, fun q hq => (hk q (by omega)).trans (kk6 q hq), fun q hq => wr_or (ww6 q hq) (hw q (by omega))⟩
        · simp (maxSteps := 4000000) (maxDischargeDepth := 6) [hlen, hx, g4]
          exact ⟨by omega, fun q hq => (hk q (by omega)).trans (kk6 q hq), fun q hq => wr_or (ww6 q hq) (hw q (by omega))⟩
end Go.Proofs.YtlbjdkhpabpmiaaT
