/- Code: known. -/
import Derived.Test.YtlbjdkhpabpmiaaSa
namespace Go.Proofs.YtlbjdkhpabpmiaaT
open Go Go.Proofs.YtlbjdkhpabpmiaaE Go.Proofs.YtlbjdkhpabpmiaaB
set_option linter.unusedSimpArgs false
set_option linter.unusedVariables false
attribute [local congr] Post_cg PostL_cg condP_cg
attribute [local simp ↓] P_skip P_exit P_ret P_seq P_cond P_blk P_reg P_draw P_nil P_cons op_len Post.some Post_bind Post_ret Post_draw PostL_nil PostL_cons op_islc step_none step_t step_f step_nt step_nf op_load op_store op_slice op_app
attribute [local simp] condP_t condP_f dum_ab stepR want_none want_some opRun ev_t ev_c put_none put_some resAll res_tmp res_cell oneOf minI maxI min2A max2A mn2 mx2 mx3 rdBlk wrBlk newBlk partA abin ibin isShift AV.cells AV.one lay sub fillA lenA toN allApart apartFrom Nat.testBit Mem.blk_set_same Mem.blk_set_ne Mem.set_set bit_zero bit_self lowBits_or lowBits_zero len_setT sl_same sl_ne len_frame sl_frame lenOp_slc lenOp_nils Post_fail ofOpt_some ofOpt_none eA_b eA_i eA_s eA_nn eA_np eA_pn eA_lnn eA_lnp eA_lpn eA_i2 eA_i3 blt_dec Nat.add_assoc keeps_refl keeps_at keeps_up new_one and_pow bit_hi lowBits_pow ble_dec fr_refl fr_at fr_up fr_p reps

def u0 : U := ⟨.nils, .nils, .nils, .nils, 0, 0, 0, 0⟩
theorem u0_ul : UL u0 := ⟨rfl, rfl, rfl, rfl⟩
theorem b2s_at {r : AV} {h : Mem} {nx : Nat} {a b : Int} (rd : RD 1 r h nx (u8s [a, b])) : ∃ q o c K, r = .slc q o 2 c ∧ q < nx ∧ h.blk q = some K ∧ o + 2 ≤ K.cells.length ∧ (K.cells.drop o).take 2 = [.int .u8 a, .int .u8 b] := by
  rcases rd with ⟨_, e⟩ | ⟨q, o, c, rfl, hq, _, ⟨cap, rfl, _, e | ⟨K, hK, hs⟩⟩ | ⟨rfl, _, K, hK, _, _, hs⟩⟩
  · cases e
  · cases e
  · exact ⟨q, o, _, K, rfl, hq, hK, (sub_inv hs).1, (sub_inv hs).2⟩
  · exact ⟨q, o, _, K, rfl, hq, hK, (sub_inv hs).1, (sub_inv hs).2⟩
theorem mr_lit {h : Mem} {nx : Nat} {cv : AV} {c : List Int} (a t : Int) (hc : RD 1 cv h nx (u8s c)) (ok : Ok8 c) (hn : c.length ≤ 1000) : MR ⟨a, t, .nils, [], cv, c⟩ h nx := ⟨⟨RD.nil .., by simp⟩, hc, ok, by show c.length ≤ big; unfold big; omega⟩
set_option maxHeartbeats 16000000 in
theorem known_nw (h : Mem) (nx : Nat) : NwC T 900 12 [] h nx fun r _ _ => r = .bool true := by
  intro lg hlg
  rw [xF_fr T12]
  obtain ⟨H0, eH0, bH0, kH0⟩ := mkvar h nx ⟨5, 1, true, false, [.int .u8 3, .int .u8 0, .int .u8 14, .int .u8 0]⟩
  obtain ⟨m, hm⟩ : ∃ m : M, m = ⟨0, 0, .nils, [], .slc nx 0 4 (some 4), [3, 0, 14, 0]⟩ := ⟨_, rfl⟩
  have hcs : [.int .i64 0, .int .i64 0, .nils, .slc nx 0 4 (some 4)] = m.cs := by rw [hm]; rfl
  have g0 : MR m H0 (nx + 1) := by
    rw [hm]
    exact mr_lit 0 0 (RD.lit (M := u8s [3, 0, 14, 0]) (t := 5) (z := 1) (o := true) (g := false) rfl (by unfold u8s; simp) (by omega) bH0) (by unfold Ok8; simp) (by simp)
  obtain ⟨H, sH, bH, kH⟩ := st_var H0 (nx + 1) (t := 37) (sz := 4) (n := 4) (g := false) [.int .i64 0, .int .i64 0, .nils, .nils] m.cs rfl rfl g0.one
  have gH := g0.keeps (nx' := nx + 2) (by omega) kH
  have l4 := fun lg => ld_sub (n := 4) (o := 0) bH (show nx + 1 < nx + 2 by omega) (vs := m.cs) rfl lg
  simp (maxSteps := 4000000) (maxDischargeDepth := 6) [F12, eH0, hcs, sH, l4]
  refine (take_nw gH 2).post (by omega) (by omega) ?_
  rintro _ H1 n1 tc1 wr1 rfl hn1 k1 w1
  have f1 : fop m.c 2 = 14 ∧ far m.c 2 = 0 ∧ okf m.c 2 = true := by rw [hm]; exact ⟨rfl, rfl, rfl⟩
  obtain ⟨H1', sH1, b1, k1'⟩ := st_var H1 n1 (t := 47) (sz := 2) (n := 2) (g := false) [.int .i64 0, .int .i64 0] [.int .i64 14, .int .i64 0] rfl rfl rfl
  have b1H := (k1' (nx + 1) (by omega)).trans ((k1 (nx + 1) (by omega)).trans bH)
  have l4 := fun lg => ld_sub (n := 4) (o := 0) b1H (show nx + 1 < n1 + 1 by omega) (vs := m.cs) rfl lg
  simp (maxSteps := 4000000) (maxDischargeDepth := 6) [f1.1, f1.2.1, f1.2.2, sH1, l4]
  have g1 := (gH.keeps hn1 k1).keeps (nx' := n1 + 1) (by omega) k1'
  refine (take_nw g1 1).post (by omega) (by omega) ?_
  rintro _ H2 n2 tc2 wr2 rfl hn2 k2 w2
  have f2 : fop m.c 1 = 0 ∧ far m.c 1 = 0 ∧ okf m.c 1 = false := by rw [hm]; exact ⟨rfl, rfl, rfl⟩
  obtain ⟨H2', sH2, b2, k2'⟩ := st_var H2 n2 (t := 47) (sz := 2) (n := 2) (g := false) [.int .i64 0, .int .i64 0] [.int .i64 0, .int .i64 0] rfl rfl rfl
  have b2H := (k2' (nx + 1) (by omega)).trans ((k2 (nx + 1) (by omega)).trans b1H)
  have l4 := fun lg => ld_sub (n := 4) (o := 0) b2H (show nx + 1 < n2 + 1 by omega) (vs := m.cs) rfl lg
  simp (maxSteps := 4000000) (maxDischargeDepth := 6) [f2.1, f2.2.1, f2.2.2, sH2, l4]
  have g2 := (g1.keeps hn2 k2).keeps (nx' := n2 + 1) (by omega) k2'
  refine (take_nw g2 4).post (by omega) (by omega) ?_
  rintro _ H3 n3 tc3 wr3 rfl hn3 k3 w3
  have f3 : fop m.c 4 = 0 ∧ far m.c 4 = 0 ∧ okf m.c 4 = false := by rw [hm]; exact ⟨rfl, rfl, rfl⟩
  obtain ⟨H3', sH3, b3, k3'⟩ := st_var H3 n3 (t := 47) (sz := 2) (n := 2) (g := false) [.int .i64 0, .int .i64 0] [.int .i64 0, .int .i64 0] rfl rfl rfl
  have b3H := (k3' (nx + 1) (by omega)).trans ((k3 (nx + 1) (by omega)).trans b2H)
  have b31 := (k3' n1 (by omega)).trans ((k3 n1 (by omega)).trans ((k2' n1 (by omega)).trans ((k2 n1 (by omega)).trans b1)))
  have l2 := fun lg => ld_sub (n := 2) (o := 0) b31 (show n1 < n3 + 1 by omega) (vs := [.int .i64 14, .int .i64 0]) rfl lg
  simp (maxSteps := 4000000) (maxDischargeDepth := 6) [f3.1, f3.2.1, f3.2.2, sH3, l2]
  have g3 := (g2.keeps hn3 k3).keeps (nx' := n3 + 1) (by omega) k3'
  refine (tk_rd 0 _ _).post (by omega) (by omega) ?_
  intro tc4
  have t0 : takV 0 = 2 := rfl
  simp (maxSteps := 4000000) (maxDischargeDepth := 6) [t0]
  refine (tk_rd 23 _ _).post (by omega) (by omega) ?_
  intro tc5
  have t23 : takV 23 = 0 := rfl
  simp (maxSteps := 4000000) (maxDischargeDepth := 6) [t23]
  refine (tk_rd 24 _ _).post (by omega) (by omega) ?_
  intro tc6
  have t24 : takV 24 = -1 := rfl
  simp (maxSteps := 4000000) (maxDischargeDepth := 6) [t24]
  refine (nm_nw 19 _ _).post (by omega) (by omega) ?_
  rintro _ H7 n7 tc7 wr7 rfl hn7 k7 w7
  have t19 : namV 19 = ⟨⟨[104, 111, 109, 101]⟩⟩ := rfl
  simp (maxSteps := 4000000) (maxDischargeDepth := 6) [t19]
  refine (nm_nw 22 _ _).post (by omega) (by omega) ?_
  rintro _ H8 n8 tc8 wr8 rfl hn8 k8 w8
  have t22 : namV 22 = ⟨⟨[]⟩⟩ := rfl
  have b8H := (k8 (nx + 1) (by omega)).trans ((k7 (nx + 1) (by omega)).trans b3H)
  have l4 := fun lg => ld_sub (n := 4) (o := 0) b8H (show nx + 1 < n8 by omega) (vs := m.cs) rfl lg
  simp (maxSteps := 4000000) (maxDischargeDepth := 6) [t22, l4]
  have g8 := (g3.keeps hn7 k7).keeps hn8 k8
  refine (right_nw u0_ul g8).post (by omega) (by omega) ?_
  rintro _ H9 n9 tc9 wr9 rfl hn9 k9 w9
  have t9 : codeV u0 m = 0 := by rw [hm]; simp [codeV, shortV, endsV, evenV, lastV, litsOk, pcsV, insAt, instV, List.range, List.range.loop]
  simp (maxSteps := 4000000) (maxDischargeDepth := 6) [t9]
  refine (right_nw (m := ⟨0, 0, .nils, [], .nils, []⟩) u0_ul (mr_lit 0 0 (RD.nil ..) (by unfold Ok8; simp) (by simp))).post (by omega) (by omega) ?_
  rintro _ HA nA tcA wrA rfl hnA kA wA
  have tA : codeV u0 ⟨0, 0, .nils, [], .nils, []⟩ = 12 := rfl
  simp (maxSteps := 4000000) (maxDischargeDepth := 6) [tA]
  refine (right_nw (m := ⟨9, 0, .nils, [], .nils, []⟩) u0_ul (mr_lit 9 0 (RD.nil ..) (by unfold Ok8; simp) (by simp))).post (by omega) (by omega) ?_
  rintro _ HB nB tcB wrB rfl hnB kB wB
  have tB : codeV u0 ⟨9, 0, .nils, [], .nils, []⟩ = 3 := rfl
  have bB1 := (kB n1 (by omega)).trans ((kA n1 (by omega)).trans ((k9 n1 (by omega)).trans ((k8 n1 (by omega)).trans ((k7 n1 (by omega)).trans b31))))
  have l2 := fun lg => ld_sub (n := 2) (o := 0) bB1 (show n1 < nB by omega) (vs := [.int .i64 14, .int .i64 0]) rfl lg
  obtain ⟨HC, eHC, bHC, kHC⟩ := mkvar HB nB ⟨47, 2, true, false, [.int .i64 14, .int .i64 0]⟩
  simp (maxSteps := 4000000) (maxDischargeDepth := 6) [tB, l2, eHC]
  have rC : BR (.slc nB 0 1 (some 1)) HC (nB + 1) [(14, 0)] := ⟨RD.lit (M := bnds [(14, 0)]) (t := 47) (z := 2) (o := true) (g := false) rfl (by unfold bnds; simp) (by omega) bHC, by unfold big; simp⟩
  refine (by_nw (P := [(14, 0)]) (by unfold OkP; simp) rC (by simp)).post (by simp) (by omega) ?_
  rintro r HD nD tcD wrD rD hnD kD wD
  have pc : pcode [(14, 0)] = [14, 0] := rfl
  rw [pc] at rD
  obtain ⟨q, o, c, K, rfl, hq, hK, hs1, hs2⟩ := b2s_at rD
  simp (maxSteps := 4000000) (maxDischargeDepth := 6) [hq, hK, hs1, hs2, bytesA]
  refine ⟨by decide +kernel, by omega, fun q hq => ?_, fun q hq => ?_⟩
  · rw [kD q (by omega), kHC q (by omega), kB q (by omega), kA q (by omega), k9 q (by omega), k8 q (by omega), k7 q (by omega), k3' q (by omega), k3 q (by omega), k2' q (by omega), k2 q (by omega), k1' q (by omega), k1 q (by omega), kH q (by omega), kH0 q hq]
  · simp only [Nat.and_or_distrib_right, w1 q (by omega), w2 q (by omega), w3 q (by omega), w7 q (by omega), w8 q (by omega), w9 q (by omega), wA q (by omega), wB q (by omega), wD q (by omega), bit_and (lg := lg) (show q ≠ nx + 1 by omega), bit_and (lg := lg) (show q ≠ n1 by omega), bit_and (lg := lg) (show q ≠ n2 by omega), bit_and (lg := lg) (show q ≠ n3 by omega), Nat.or_zero, Nat.zero_or]
end Go.Proofs.YtlbjdkhpabpmiaaT
