/- Code: CodeLits, which ranges over a map. -/
import Derived.Test.YtlbjdkhpabpmiaaG
import Derived.Test.YtlbjdkhpabpmiaaKn
namespace Go.Proofs.YtlbjdkhpabpmiaaT
open Go Go.Proofs.YtlbjdkhpabpmiaaE Go.Proofs.YtlbjdkhpabpmiaaB
set_option linter.unusedSimpArgs false
set_option linter.unusedVariables false
attribute [local congr] Post_cg PostL_cg condP_cg
attribute [local simp ↓] P_skip P_exit P_ret P_seq P_cond P_blk P_reg P_draw P_nil P_cons op_len Post.some Post_bind Post_ret Post_draw PostL_nil PostL_cons op_islc step_none step_t step_f step_nt step_nf op_load op_store op_slice op_app
attribute [local simp] condP_t condP_f dum_ab stepR want_none want_some opRun ev_t ev_c put_none put_some resAll res_tmp res_cell oneOf minI maxI min2A max2A mn2 mx2 mx3 rdBlk wrBlk newBlk partA abin ibin isShift AV.cells AV.one lay sub fillA lenA toN allApart apartFrom Nat.testBit Mem.blk_set_same Mem.blk_set_ne Mem.set_set bit_zero bit_self lowBits_or lowBits_zero len_setT sl_same sl_ne len_frame sl_frame lenOp_slc lenOp_nils Post_fail ofOpt_some ofOpt_none eA_b eA_i eA_s eA_nn eA_np eA_pn eA_lnn eA_lnp eA_lpn eA_i2 eA_i3 blt_dec Nat.add_assoc keeps_refl keeps_at keeps_up new_one and_pow bit_hi lowBits_pow ble_dec fr_refl fr_at fr_up fr_p reps

theorem tp_new0 (h : Mem) (nx : Nat) : TP (h.set nx (some ⟨32, 2, true, false, [.nils, .int .i64 0]⟩)) (nx + 1) nx .nils [] :=
  ⟨by omega, ⟨0, Nat.zero_le _, Mem.blk_set_same ..⟩, (RD.nil ..), (fun e => nomatch e), by simp⟩
/-- The unit of an empty tape. -/
def lu (nv cv mv ov : AV) (c : Nat) : U := ⟨nv, cv, mv, ov, 6, 6, c, 9⟩
theorem lu_ul {lo : Nat} {nv cv mv ov : AV} {h : Mem} {nx : Nat} {L : List C} {M : List (List AV)} (g : UQ lo nv cv mv ov h nx L M) : UL (lu nv cv mv ov L.length) := by
  obtain ⟨x, rfl⟩ := g.nm
  exact ⟨rfl, g.cr.lenOp, by have e := g.ms.lenOp; rw [g.m9] at e; exact e, by simp only [lu, U.cs, List.all_cons, List.all_nil, g.cr.r.one.2, g.ms.one.2, g.one]; rfl⟩

/-- What the law asks, of a kind, an operation, a place. -/
theorem lits_code {u : U} {k x : Int} (hv : litV u (k, x) = true) (hk : k = 3 ∨ k = 5 ∨ k = 6 ∨ k = 7) (h6 : k = 6 → x = 2) {op w : Int} (ho : (op = 2 ∧ w = 3) ∨ (op = 12 ∧ w = 5) ∨ (op = 13 ∧ w = 5) ∨ (op = 20 ∧ w = 6) ∨ (op = 18 ∧ w = 7)) {a : Int} (a0 : 0 ≤ a) (a3 : a ≤ 3) (lv cv : AV) :
    (codeV u ⟨0, 0, lv, [(k, x), (k, x)], cv, [op, a, 14, 0]⟩ == 0) = (decide (a < 2) && (k == w)) := by
  have ha : a = 0 ∨ a = 1 ∨ a = 2 ∨ a = 3 := by omega
  rcases hk with rfl | rfl | rfl | rfl <;> rcases ho with ⟨rfl, rfl⟩ | ⟨rfl, rfl⟩ | ⟨rfl, rfl⟩ | ⟨rfl, rfl⟩ | ⟨rfl, rfl⟩ <;> rcases ha with rfl | rfl | rfl | rfl <;> (try (obtain rfl := h6 rfl)) <;>
    simp [codeV, shortV, endsV, evenV, lastV, litsOk, hv, pcsV, insAt, instV, List.range, List.range.loop, litK, litN, show max (1 : Int) 0 = 1 from rfl, show max (2 : Int) 0 = 2 from rfl, show max (3 : Int) 0 = 3 from rfl]

set_option maxHeartbeats 8000000 in
/-- The loop, and what is behind it. -/
theorem lits_tail {u : U} (ul : UL u) {k x : Int} (hv : litV u (k, x) = true) (hk : k = 3 ∨ k = 5 ∨ k = 6 ∨ k = 7) (h6 : k = 6 → x = 2) {ts : List AV} (hlen : ts.length = 59) {a1 : Int} (g1 : sl ts 1 = .int .i64 a1) {h : Mem} {nx pu pv : Nat} (g7 : sl ts 7 = .ptr pu 0) (g9 : sl ts 9 = .ptr pv 0)
    (hu : h.blk pu = some ⟨27, 5, true, false, u.cs⟩) (hw : h.blk pv = some ⟨41, 2, true, false, [.int .i64 k, .int .i64 x]⟩) (hun : pu < nx) (hvn : pv < nx) (hne : ¬ pu = pv) :
    RW T (.seq (.det D7_5) (.seq (.rng P7_0 (.t 29) 30 0 31 32 1 33 E7_0 B7_0) (.det D7_6))) ts h nx fun e ts' _ _ => (e = .nor ∨ e = .ret) ∧ sl ts' 6 = .bool true := by
  obtain ⟨a, a0, a3, _, wx1⟩ := within_ex a1 0 3 (by omega) (by omega) (by omega)
  refine RW.ds 100 ?_
  simp (maxSteps := 4000000) (maxDischargeDepth := 6) [D7_5, hlen, g1, wx1]
  refine RW.rs 0 ?_
  simp (maxSteps := 4000000) (maxDischargeDepth := 6) [P7_0, hlen, keyA, findA, wrMap, List.set, okA]
  obtain ⟨hz, ehz⟩ : ∃ hz, hz = (Mem.empty.set pu (some ⟨27, 5, false, false, u.cs⟩)).set pv (some ⟨41, 2, false, false, [.int .i64 k, .int .i64 x]⟩) := ⟨_, rfl⟩
  have zu : hz.blk pu = some ⟨27, 5, false, false, u.cs⟩ := by rw [ehz, Mem.blk_set_ne _ _ _ _ hne, Mem.blk_set_same]
  have zv : hz.blk pv = some ⟨41, 2, false, false, [.int .i64 k, .int .i64 x]⟩ := by rw [ehz, Mem.blk_set_same]
  refine ⟨hz, ?_, fun ts2 => ts2.length = 59 ∧ sl ts2 7 = .ptr pu 0 ∧ sl ts2 9 = .ptr pv 0 ∧ sl ts2 10 = .int .i64 a ∧ sl ts2 30 = .ptr (nx + 1) 0, ?_, ?_, ?_, ?_⟩
  · intro b K hb
    rw [ehz, Mem.blk_set, Mem.blk_set, Mem.blk_empty] at hb
    rw [Mem.blk_set]
    split at hb
    · rename_i e; subst e
      cases hb
      rw [if_neg (by omega)]
      exact ⟨_, hw, by simp, rfl⟩
    · split at hb
      · rename_i e; subst e
        cases hb
        rw [if_neg (by omega)]
        exact ⟨_, hu, by simp, rfl⟩
      · cases hb
  · refine ⟨?_, ?_, ?_, ?_, ?_⟩ <;> simp [len_setT, sl_same, sl_ne, hlen, g7, g9]
  · rintro ts2 ⟨l, _, _, _, e⟩
    exact ⟨e, by omega, by omega⟩
  · rintro ts2 nn i kk vv ⟨l, e7, e9, e10, e30⟩ hnn hkk hvv
    obtain ⟨op, w, rfl, rfl, ho⟩ : ∃ op w, kk = .int .i64 op ∧ vv = .int .i64 w ∧ ((op = 2 ∧ w = 3) ∨ (op = 12 ∧ w = 5) ∨ (op = 13 ∧ w = 5) ∨ (op = 20 ∧ w = 6) ∨ (op = 18 ∧ w = 7)) := by
      have hi : i < 5 := by
        have := (List.getElem?_eq_some_iff.1 hkk).1
        simp at this
        omega
      have hi5 : i = 0 ∨ i = 1 ∨ i = 2 ∨ i = 3 ∨ i = 4 := by omega
      rcases hi5 with rfl | rfl | rfl | rfl | rfl <;> simp at hkk hvv <;> (subst hkk; subst hvv; exact ⟨_, _, rfl, rfl, by omega⟩)
    have wo : IntKind.u8.wrap op = op := by rcases ho with ⟨rfl, _⟩ | ⟨rfl, _⟩ | ⟨rfl, _⟩ | ⟨rfl, _⟩ | ⟨rfl, _⟩ <;> rfl
    have wa : IntKind.u8.wrap a = a := by
      have : a = 0 ∨ a = 1 ∨ a = 2 ∨ a = 3 := by omega
      rcases this with rfl | rfl | rfl | rfl <;> rfl
    have l9 := fun lg => ld_sub (n := 2) (o := 0) zv (show pv < nn by omega) (vs := [.int .i64 k, .int .i64 x]) rfl lg
    refine ⟨900, ?_⟩
    simp (maxSteps := 4000000) (maxDischargeDepth := 6) [E7_0, B7_0, l, e7, e9, e10, l9, wo, wa]
    obtain ⟨H2, eH2⟩ : ∃ H2, H2 = (hz.set nn (some ⟨41, 2, true, false, [.int .i64 k, .int .i64 x, .int .i64 k, .int .i64 x]⟩)).set (nn + 1) (some ⟨5, 1, true, false, [.int .u8 op, .int .u8 a, .int .u8 14, .int .u8 0]⟩) := ⟨_, rfl⟩
    rw [← eH2]
    have c1 : H2.blk (nn + 1) = some ⟨5, 1, true, false, (u8s [op, a, 14, 0]).flatten⟩ := by rw [eH2, Mem.blk_set_same]; rfl
    have c0 : H2.blk nn = some ⟨41, 2, true, false, (bnds [(k, x), (k, x)]).flatten⟩ := by rw [eH2, Mem.blk_set_ne _ _ _ _ (by omega), Mem.blk_set_same]; rfl
    have cu : H2.blk pu = some ⟨27, 5, false, false, u.cs⟩ := by rw [eH2, Mem.blk_set_ne _ _ _ _ (by omega), Mem.blk_set_ne _ _ _ _ (by omega)]; exact zu
    have cv : H2.blk pv = some ⟨41, 2, false, false, [.int .i64 k, .int .i64 x]⟩ := by rw [eH2, Mem.blk_set_ne _ _ _ _ (by omega), Mem.blk_set_ne _ _ _ _ (by omega)]; exact zv
    have l7 := fun lg => ld_sub (n := 5) (o := 0) cu (show pu < nn + 2 by omega) (vs := u.cs) rfl lg
    simp (maxSteps := 4000000) (maxDischargeDepth := 6) [l, e7, e9, e10, l7]
    have rl : BR (.slc nn 0 2 (some 2)) H2 (nn + 2) [(k, x), (k, x)] := ⟨RD.lit (M := bnds [(k, x), (k, x)]) (t := 41) (z := 2) (o := true) (g := false) rfl (by unfold bnds; simp [bcs]) (by omega) c0, by unfold big; simp⟩
    have rc : RD 1 (.slc (nn + 1) 0 4 (some 4)) H2 (nn + 2) (u8s [op, a, 14, 0]) := RD.lit (M := u8s [op, a, 14, 0]) (t := 5) (z := 1) (o := true) (g := false) rfl (by unfold u8s; simp) (by omega) c1
    have mr : MR ⟨0, 0, .slc nn 0 2 (some 2), [(k, x), (k, x)], .slc (nn + 1) 0 4 (some 4), [op, a, 14, 0]⟩ H2 (nn + 2) := ⟨rl, rc, by unfold Ok8; simp; omega, by show 4 ≤ big; unfold big; omega⟩
    refine (right_nw ul mr).post (by omega) (by omega) ?_
    rintro _ H3 n3 tc3 wr3 rfl hn3 k3 w3
    have code := lits_code hv hk h6 ho a0 a3 (.slc nn 0 2 (some 2)) (.slc (nn + 1) 0 4 (some 4))
    generalize codeV u ⟨0, 0, .slc nn 0 2 (some 2), [(k, x), (k, x)], .slc (nn + 1) 0 4 (some 4), [op, a, 14, 0]⟩ = V at *
    have dv := (k3 pv (by omega)).trans cv
    have l0 := fun lg => ld_at dv (show pv < n3 by omega) (o := 0) (v := .int .i64 k) rfl lg
    by_cases c : a < 2
    · simp (maxSteps := 4000000) (maxDischargeDepth := 6) [l, e7, e9, e10, e30, l0, c, code]
    · simp (maxSteps := 4000000) (maxDischargeDepth := 6) [l, e7, e9, e10, e30, l0, c, code]
  · rintro ts2 nn ⟨l, e7, e9, e10, e30⟩ hnn
    refine RW.de 2000 ?_
    simp (maxSteps := 4000000) (maxDischargeDepth := 6) [D7_6, l]
    refine (known_nw _ _).post (by omega) (by omega) ?_
    rintro _ HJ nxJ tcJ wrJ rfl nJ kJ wJ
    simp (maxSteps := 4000000) (maxDischargeDepth := 6) [l]

set_option maxHeartbeats 8000000 in
theorem lits_law (a0 : Int) (w0 : (Lit.int .i64 a0).wf = true) (a1 : Int) (w1 : (Lit.int .i64 a1).wf = true) (a2 : Int) (w2 : (Lit.int .i64 a2).wf = true) (h : Mem) (nx : Nat) : YesN Try.prog T 7 [.int .i64 a0, .int .i64 a1, .int .i64 a2] h nx := by
  refine ⟨59, 6, G7, G7_ok, ?_⟩
  unfold G7
  refine RW.ds 20 ?_
  simp (maxSteps := 4000000) (maxDischargeDepth := 6) [D7_0]
  refine RW.ds 4000 ?_
  simp (maxSteps := 4000000) (maxDischargeDepth := 6) [D7_1]
  refine (unit_tp (tp_new0 h nx)).post nx (by omega) (by omega) (by omega) ?_
  rintro _ H3 nx3 tc3 wr3 ⟨nv, cv, mv, ov, L, M, rfl, t3, uq⟩ n3 k3 m3 _
  have ul := lu_ul uq
  have one := ul.one
  have hL := uq.kl.n3
  obtain ⟨u, hu⟩ : ∃ u, u = lu nv cv mv ov L.length := ⟨_, rfl⟩
  have hucs : [nv, cv, mv, ov, .int .i64 6] = u.cs := by rw [hu]; rfl
  have un : u.n = 6 := by rw [hu]; rfl
  have uk : u.k = 9 := by rw [hu]; rfl
  have uc : 3 ≤ u.c := by rw [hu]; exact hL
  rw [← hu] at ul one
  obtain ⟨H4, sH4, b4, k4⟩ := st_var H3 nx3 (t := 27) (sz := 5) (n := 5) (g := false) [.nils, .nils, .nils, .nils, .int .i64 0] u.cs rfl rfl one
  simp (maxSteps := 4000000) (maxDischargeDepth := 6) [hucs, sH4]
  obtain ⟨k, k0, k7, _, wx0⟩ := within_ex a0 3 7 (by omega) (by omega) (by omega)
  refine RW.ds 100 ?_
  simp (maxSteps := 4000000) (maxDischargeDepth := 6) [D7_2, wx0]
  refine RW.ds 100 ?_
  obtain ⟨H5, sH5, b5, k5⟩ := st_var H4 (nx3 + 1) (t := 41) (sz := 2) (n := 2) (g := false) [.int .i64 0, .int .i64 0] [.int .i64 k, .int .i64 2] rfl rfl rfl
  simp (maxSteps := 4000000) (maxDischargeDepth := 6) [D7_3, sH5]
  have b54 : H5.blk nx3 = some ⟨27, 5, true, false, u.cs⟩ := by rw [k5 nx3 (by omega)]; exact b4
  refine RW.ds 100 ?_
  by_cases c : k = 4
  · subst c
    have x4 := fun lg => st_at b5 (show nx3 + 1 < nx3 + 2 by omega) (n := 2) (o := 0) (.agg [.int .i64 3, .int .i64 (a2.tmod 1073741824)]) rfl rfl (by simp) lg
    obtain ⟨H6, hH6⟩ : ∃ H6, H6 = H5.set (nx3 + 1) (some ⟨41, 2, true, false, [.int .i64 3, .int .i64 (a2.tmod 1073741824)]⟩) := ⟨_, rfl⟩
    have el : lay [AV.int .i64 4, AV.int .i64 2] 0 (AV.agg [AV.int .i64 3, AV.int .i64 (a2.tmod 1073741824)]).cells = [.int .i64 3, .int .i64 (a2.tmod 1073741824)] := rfl
    rw [el, ← hH6] at x4
    simp (maxSteps := 4000000) (maxDischargeDepth := 6) [D7_4, x4]
    have q1 := Int.tmod_lt_of_pos a2 (show (0 : Int) < 1073741824 by decide)
    have q2 : -1073741824 < a2.tmod 1073741824 := by
      have e := Int.tmod_add_mul_tdiv a2 1073741824
      rcases Int.le_total 0 a2 with c | c
      · have := Int.tmod_nonneg 1073741824 c; omega
      · have e1 := Int.tmod_lt_of_pos (-a2) (show (0 : Int) < 1073741824 by decide)
        rw [Int.neg_tmod] at e1; omega
    refine lits_tail ul (k := 3) (x := a2.tmod 1073741824) ?_ (by omega) (by omega) (a1 := a1) ?_ ?_ ?_ ?_ (pu := nx3) (pv := nx3 + 1) ?_ ?_ (by omega) (by omega) (by omega)
    · simp [litV]
      omega
    any_goals simp (maxDischargeDepth := 6) [len_setT, sl_same, sl_ne, sl_frame, len_frame]
    · rw [hH6, Mem.blk_set_ne _ _ _ _ (by omega)]; exact b54
    · rw [hH6, Mem.blk_set_same]
  · have c' : (k == 4) = false := beq_eq_false_iff_ne.2 c
    simp (maxSteps := 4000000) (maxDischargeDepth := 6) [D7_4, c']
    refine lits_tail ul (k := k) (x := 2) ?_ (by omega) (fun _ => rfl) (a1 := a1) ?_ ?_ ?_ ?_ b54 b5 (by omega) (by omega) (by omega)
    · have hk : k = 3 ∨ k = 5 ∨ k = 6 ∨ k = 7 := by omega
      rcases hk with rfl | rfl | rfl | rfl <;> simp [litV, un, uk] <;> omega
    any_goals simp (maxDischargeDepth := 6) [len_setT, sl_same, sl_ne, sl_frame, len_frame]
end Go.Proofs.YtlbjdkhpabpmiaaT
