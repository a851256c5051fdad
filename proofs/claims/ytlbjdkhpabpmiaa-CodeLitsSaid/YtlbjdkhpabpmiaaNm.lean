/- Code: takes and names of instructions. -/
import Derived.Test.YtlbjdkhpabpmiaaMd
namespace Go.Proofs.YtlbjdkhpabpmiaaT
open Go Go.Proofs.YtlbjdkhpabpmiaaE Go.Proofs.YtlbjdkhpabpmiaaB
set_option linter.unusedSimpArgs false
set_option linter.unusedVariables false
attribute [local congr] Post_cg PostL_cg condP_cg
attribute [local simp ↓] P_skip P_exit P_ret P_seq P_cond P_blk P_reg P_draw P_nil P_cons op_len Post.some Post_bind Post_ret Post_draw PostL_nil PostL_cons op_islc step_none step_t step_f step_nt step_nf op_load op_store op_slice op_app
attribute [local simp] condP_t condP_f dum_ab stepR want_none want_some opRun ev_t ev_c put_none put_some resAll res_tmp res_cell oneOf minI maxI min2A max2A mn2 mx2 mx3 rdBlk wrBlk newBlk partA abin ibin isShift AV.cells AV.one lay sub fillA lenA toN allApart apartFrom Nat.testBit Mem.blk_set_same Mem.blk_set_ne Mem.set_set bit_zero bit_self lowBits_or lowBits_zero len_setT sl_same sl_ne len_frame sl_frame lenOp_slc lenOp_nils Post_fail ofOpt_some ofOpt_none eA_b eA_i eA_s eA_nn eA_np eA_pn eA_lnn eA_lnp eA_lpn eA_i2 eA_i3 blt_dec Nat.add_assoc keeps_refl keeps_at keeps_up new_one and_pow bit_hi lowBits_pow ble_dec fr_refl fr_at fr_up fr_p reps

def tks : List Int := [2, 2, 2, 2, 2, 2, 1, 1, 2, 3, 1, 1, 2, 2, 0, 1, 1, 0, 1, 3, 2, 0, 1, 0]
def takV (op : Int) : Int := if 0 ≤ op ∧ op < 24 then tks.getD op.toNat 0 else -1
def nams : List ByteArray := [⟨⟨[112, 117, 115, 104, 116, 101, 109, 112]⟩⟩, ⟨⟨[112, 117, 115, 104, 102, 105, 101, 108, 100]⟩⟩, ⟨⟨[112, 117, 115, 104, 108, 105, 116]⟩⟩, ⟨⟨[112, 117, 115, 104, 115, 101, 108, 102]⟩⟩, ⟨⟨[112, 117, 115, 104, 110, 105, 108]⟩⟩, ⟨⟨[112, 117, 115, 104, 116, 114, 117, 101]⟩⟩, ⟨⟨[112, 117, 115, 104, 102, 97, 108, 115, 101]⟩⟩, ⟨⟨[112, 117, 115, 104, 110, 117, 109]⟩⟩, ⟨⟨[112, 111, 112]⟩⟩, ⟨⟨[100, 117, 112]⟩⟩, ⟨⟨[115, 116, 111, 114, 101, 116, 101, 109, 112]⟩⟩, ⟨⟨[115, 116, 111, 114, 101, 102, 105, 101, 108, 100]⟩⟩, ⟨⟨[115, 101, 110, 100]⟩⟩, ⟨⟨[115, 117, 112, 101, 114]⟩⟩, ⟨⟨[114, 101, 116, 117, 114, 110]⟩⟩, ⟨⟨[106, 117, 109, 112]⟩⟩, ⟨⟨[98, 97, 99, 107]⟩⟩, ⟨⟨[105, 102, 102, 97, 108, 115, 101]⟩⟩, ⟨⟨[98, 108, 111, 99, 107]⟩⟩, ⟨⟨[104, 111, 109, 101]⟩⟩, ⟨⟨[110, 101, 119]⟩⟩, ⟨⟨[112, 114, 105, 109]⟩⟩]
def namV (op : Int) : ByteArray := if 0 ≤ op ∧ op < 22 then nams.getD op.toNat ⟨⟨[]⟩⟩ else ⟨⟨[]⟩⟩
theorem takV_at {k : Nat} (h : k < 24) : takV k = tks[k]'h := by
  unfold takV
  rw [if_pos (by omega), Int.toNat_natCast, List.getD_eq_getElem?_getD, List.getElem?_eq_getElem (show k < tks.length from h)]
  rfl
theorem namV_at {k : Nat} (h : k < 22) : namV k = nams[k]'h := by
  unfold namV
  rw [if_pos (by omega), Int.toNat_natCast, List.getD_eq_getElem?_getD, List.getElem?_eq_getElem (show k < nams.length from h)]
  rfl
set_option maxHeartbeats 8000000 in
theorem tk_rd (op : Int) (h : Mem) (nx : Nat) : RdC T 40 16 [.int .i64 op] h nx (.int .i64 (takV op)) := by
  intro lg hlg
  rw [xF_fr T16]
  by_cases c : 0 ≤ op ∧ op < 24
  · have : op = 0 ∨ op = 1 ∨ op = 2 ∨ op = 3 ∨ op = 4 ∨ op = 5 ∨ op = 6 ∨ op = 7 ∨ op = 8 ∨ op = 9 ∨ op = 10 ∨ op = 11 ∨ op = 12 ∨ op = 13 ∨ op = 14 ∨ op = 15 ∨ op = 16 ∨ op = 17 ∨ op = 18 ∨ op = 19 ∨ op = 20 ∨ op = 21 ∨ op = 22 ∨ op = 23 := by omega
    rcases this with rfl | rfl | rfl | rfl | rfl | rfl | rfl | rfl | rfl | rfl | rfl | rfl | rfl | rfl | rfl | rfl | rfl | rfl | rfl | rfl | rfl | rfl | rfl | rfl
    all_goals simp (maxSteps := 4000000) (maxDischargeDepth := 6) [F16, takV, tks]
  · have e : takV op = -1 := if_neg c
    have d : ∀ k : Int, 0 ≤ k → k < 24 → (op == k) = false := fun k h0 h1 => beq_eq_false_iff_ne.2 (by omega)
    rw [e]
    simp (maxSteps := 4000000) (maxDischargeDepth := 6) [F16, d 0 (by decide) (by decide), d 1 (by decide) (by decide), d 2 (by decide) (by decide), d 3 (by decide) (by decide), d 4 (by decide) (by decide), d 5 (by decide) (by decide), d 6 (by decide) (by decide), d 7 (by decide) (by decide), d 8 (by decide) (by decide), d 9 (by decide) (by decide), d 10 (by decide) (by decide), d 11 (by decide) (by decide), d 12 (by decide) (by decide), d 13 (by decide) (by decide), d 14 (by decide) (by decide), d 15 (by decide) (by decide), d 16 (by decide) (by decide), d 17 (by decide) (by decide), d 18 (by decide) (by decide), d 19 (by decide) (by decide), d 20 (by decide) (by decide), d 21 (by decide) (by decide), d 22 (by decide) (by decide), d 23 (by decide) (by decide)]
set_option maxHeartbeats 8000000 in
theorem rtk_nw (op : Int) (h : Mem) (nx : Nat) : NwC T 40 25 [.int .i64 op] h nx fun r _ _ => r = .int .i64 (takV op) := by
  intro lg hlg
  rw [xF_fr T25]
  by_cases c0 : op < 0
  · have e : takV op = -1 := if_neg (by omega)
    simp (maxSteps := 4000000) (maxDischargeDepth := 6) [F25, c0, e]
  · by_cases c1 : 23 < op
    · have e : takV op = -1 := if_neg (by omega)
      simp (maxSteps := 4000000) (maxDischargeDepth := 6) [F25, c0, c1, e]
    · obtain ⟨k, rfl⟩ : ∃ i : Nat, op = i := ⟨op.toNat, by omega⟩
      have hk : k < 24 := by omega
      obtain ⟨H, eH, bH, kH⟩ := mkvar h nx ⟨3, 1, true, false, [.int .i64 2, .int .i64 2, .int .i64 2, .int .i64 2, .int .i64 2, .int .i64 2, .int .i64 1, .int .i64 1, .int .i64 2, .int .i64 3, .int .i64 1, .int .i64 1, .int .i64 2, .int .i64 2, .int .i64 0, .int .i64 1, .int .i64 1, .int .i64 0, .int .i64 1, .int .i64 3, .int .i64 2, .int .i64 0, .int .i64 1, .int .i64 0]⟩
      have rd : RD 1 (.slc nx 0 24 (some 24)) H (nx + 1) (i64s tks) := RD.lit (M := i64s tks) (t := 3) (z := 1) (o := true) (g := false) rfl (by unfold i64s; simp) (by omega) bH
      obtain ⟨b, o, el⟩ := rd.el (i := k) (by rw [i64s_len]; exact hk)
      rw [i64s_at] at el
      have p := el.pl
      have f := fun lg => el.fst (v := .int .i64 (tks[k]'hk)) rfl lg
      rw [takV_at hk]
      simp (maxSteps := 4000000) (maxDischargeDepth := 6) [F25, c0, c1, eH, p, f]
      exact kH
set_option maxHeartbeats 8000000 in
theorem nm_nw (op : Int) (h : Mem) (nx : Nat) : NwC T 40 17 [.int .i64 op] h nx fun r _ _ => r = .str (namV op) := by
  intro lg hlg
  rw [xF_fr T17]
  obtain ⟨H, sH, bH, kH⟩ := st_var h nx (n := 22) (t := 70) (sz := 22) (g := false) [.str ⟨⟨[]⟩⟩, .str ⟨⟨[]⟩⟩, .str ⟨⟨[]⟩⟩, .str ⟨⟨[]⟩⟩, .str ⟨⟨[]⟩⟩, .str ⟨⟨[]⟩⟩, .str ⟨⟨[]⟩⟩, .str ⟨⟨[]⟩⟩, .str ⟨⟨[]⟩⟩, .str ⟨⟨[]⟩⟩, .str ⟨⟨[]⟩⟩, .str ⟨⟨[]⟩⟩, .str ⟨⟨[]⟩⟩, .str ⟨⟨[]⟩⟩, .str ⟨⟨[]⟩⟩, .str ⟨⟨[]⟩⟩, .str ⟨⟨[]⟩⟩, .str ⟨⟨[]⟩⟩, .str ⟨⟨[]⟩⟩, .str ⟨⟨[]⟩⟩, .str ⟨⟨[]⟩⟩, .str ⟨⟨[]⟩⟩] [.str ⟨⟨[112, 117, 115, 104, 116, 101, 109, 112]⟩⟩, .str ⟨⟨[112, 117, 115, 104, 102, 105, 101, 108, 100]⟩⟩, .str ⟨⟨[112, 117, 115, 104, 108, 105, 116]⟩⟩, .str ⟨⟨[112, 117, 115, 104, 115, 101, 108, 102]⟩⟩, .str ⟨⟨[112, 117, 115, 104, 110, 105, 108]⟩⟩, .str ⟨⟨[112, 117, 115, 104, 116, 114, 117, 101]⟩⟩, .str ⟨⟨[112, 117, 115, 104, 102, 97, 108, 115, 101]⟩⟩, .str ⟨⟨[112, 117, 115, 104, 110, 117, 109]⟩⟩, .str ⟨⟨[112, 111, 112]⟩⟩, .str ⟨⟨[100, 117, 112]⟩⟩, .str ⟨⟨[115, 116, 111, 114, 101, 116, 101, 109, 112]⟩⟩, .str ⟨⟨[115, 116, 111, 114, 101, 102, 105, 101, 108, 100]⟩⟩, .str ⟨⟨[115, 101, 110, 100]⟩⟩, .str ⟨⟨[115, 117, 112, 101, 114]⟩⟩, .str ⟨⟨[114, 101, 116, 117, 114, 110]⟩⟩, .str ⟨⟨[106, 117, 109, 112]⟩⟩, .str ⟨⟨[98, 97, 99, 107]⟩⟩, .str ⟨⟨[105, 102, 102, 97, 108, 115, 101]⟩⟩, .str ⟨⟨[98, 108, 111, 99, 107]⟩⟩, .str ⟨⟨[104, 111, 109, 101]⟩⟩, .str ⟨⟨[110, 101, 119]⟩⟩, .str ⟨⟨[112, 114, 105, 109]⟩⟩] rfl rfl rfl
  by_cases c0 : op < 0
  · have e : namV op = ⟨⟨[]⟩⟩ := if_neg (by omega)
    simp (maxSteps := 4000000) (maxDischargeDepth := 6) [F17, sH, c0, e]
    exact ⟨kH, fun q hq => bit_and (by omega)⟩
  · by_cases c1 : 22 ≤ op
    · have e : namV op = ⟨⟨[]⟩⟩ := if_neg (by omega)
      simp (maxSteps := 4000000) (maxDischargeDepth := 6) [F17, sH, c0, c1, e]
      exact ⟨kH, fun q hq => bit_and (by omega)⟩
    · obtain ⟨k, rfl⟩ : ∃ i : Nat, op = i := ⟨op.toNat, by omega⟩
      have hk : k < 22 := by omega
      have f := fun lg => ld_at bH (show nx < nx + 1 by omega) (o := k) (v := .str (nams[k]'hk)) ((List.getElem?_eq_getElem (l := nams.map AV.str) (i := k) (by rw [List.length_map]; exact hk)).trans (congrArg some (List.getElem_map ..))) lg
      have c2 : (k : Int) < 22 := by omega
      have c3 : k < 22 := hk
      rw [namV_at hk]
      simp (maxSteps := 4000000) (maxDischargeDepth := 6) [F17, sH, c0, c1, c2, c3, f]
      exact ⟨kH, fun q hq => bit_and (by omega)⟩
set_option maxHeartbeats 8000000 in
theorem rnm_nw (op : Int) (h : Mem) (nx : Nat) : NwC T 40 26 [.int .i64 op] h nx fun r _ _ => r = .str (namV op) := by
  intro lg hlg
  rw [xF_fr T26]
  by_cases c0 : op < 0
  · have e : namV op = ⟨⟨[]⟩⟩ := if_neg (by omega)
    simp (maxSteps := 4000000) (maxDischargeDepth := 6) [F26, c0, e]
  · by_cases c1 : 21 < op
    · have e : namV op = ⟨⟨[]⟩⟩ := if_neg (by omega)
      simp (maxSteps := 4000000) (maxDischargeDepth := 6) [F26, c0, c1, e]
    · obtain ⟨k, rfl⟩ : ∃ i : Nat, op = i := ⟨op.toNat, by omega⟩
      have hk : k < 22 := by omega
      obtain ⟨H, eH, bH, kH⟩ := mkvar h nx ⟨9, 1, true, false, [.str ⟨⟨[112, 117, 115, 104, 116, 101, 109, 112]⟩⟩, .str ⟨⟨[112, 117, 115, 104, 102, 105, 101, 108, 100]⟩⟩, .str ⟨⟨[112, 117, 115, 104, 108, 105, 116]⟩⟩, .str ⟨⟨[112, 117, 115, 104, 115, 101, 108, 102]⟩⟩, .str ⟨⟨[112, 117, 115, 104, 110, 105, 108]⟩⟩, .str ⟨⟨[112, 117, 115, 104, 116, 114, 117, 101]⟩⟩, .str ⟨⟨[112, 117, 115, 104, 102, 97, 108, 115, 101]⟩⟩, .str ⟨⟨[112, 117, 115, 104, 110, 117, 109]⟩⟩, .str ⟨⟨[112, 111, 112]⟩⟩, .str ⟨⟨[100, 117, 112]⟩⟩, .str ⟨⟨[115, 116, 111, 114, 101, 116, 101, 109, 112]⟩⟩, .str ⟨⟨[115, 116, 111, 114, 101, 102, 105, 101, 108, 100]⟩⟩, .str ⟨⟨[115, 101, 110, 100]⟩⟩, .str ⟨⟨[115, 117, 112, 101, 114]⟩⟩, .str ⟨⟨[114, 101, 116, 117, 114, 110]⟩⟩, .str ⟨⟨[106, 117, 109, 112]⟩⟩, .str ⟨⟨[98, 97, 99, 107]⟩⟩, .str ⟨⟨[105, 102, 102, 97, 108, 115, 101]⟩⟩, .str ⟨⟨[98, 108, 111, 99, 107]⟩⟩, .str ⟨⟨[104, 111, 109, 101]⟩⟩, .str ⟨⟨[110, 101, 119]⟩⟩, .str ⟨⟨[112, 114, 105, 109]⟩⟩]⟩
      have rd : RD 1 (.slc nx 0 22 (some 22)) H (nx + 1) (nams.map fun x => [.str x]) := RD.lit (M := nams.map fun x => [.str x]) (t := 9) (z := 1) (o := true) (g := false) rfl (by simp) (by omega) bH
      obtain ⟨b, o, el⟩ := rd.el (i := k) (by rw [List.length_map]; exact hk)
      rw [List.getElem_map] at el
      have p := el.pl
      have f := fun lg => el.fst (v := .str (nams[k]'hk)) rfl lg
      rw [namV_at hk]
      simp (maxSteps := 4000000) (maxDischargeDepth := 6) [F26, c0, c1, eH, p, f]
      exact kH
end Go.Proofs.YtlbjdkhpabpmiaaT
