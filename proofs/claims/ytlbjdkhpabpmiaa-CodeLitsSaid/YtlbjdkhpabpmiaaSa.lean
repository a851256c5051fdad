/- Code: same. -/
import Derived.Test.YtlbjdkhpabpmiaaRr
namespace Go.Proofs.YtlbjdkhpabpmiaaT
open Go Go.Proofs.YtlbjdkhpabpmiaaE Go.Proofs.YtlbjdkhpabpmiaaB
set_option linter.unusedSimpArgs false
set_option linter.unusedVariables false
attribute [local congr] Post_cg PostL_cg condP_cg
attribute [local simp ↓] P_skip P_exit P_ret P_seq P_cond P_blk P_reg P_draw P_nil P_cons op_len Post.some Post_bind Post_ret Post_draw PostL_nil PostL_cons op_islc step_none step_t step_f step_nt step_nf op_load op_store op_slice op_app
attribute [local simp] condP_t condP_f dum_ab stepR want_none want_some opRun ev_t ev_c put_none put_some resAll res_tmp res_cell oneOf minI maxI min2A max2A mn2 mx2 mx3 rdBlk wrBlk newBlk partA abin ibin isShift AV.cells AV.one lay sub fillA lenA toN allApart apartFrom Nat.testBit Mem.blk_set_same Mem.blk_set_ne Mem.set_set bit_zero bit_self lowBits_or lowBits_zero len_setT sl_same sl_ne len_frame sl_frame lenOp_slc lenOp_nils Post_fail ofOpt_some ofOpt_none eA_b eA_i eA_s eA_nn eA_np eA_pn eA_lnn eA_lnp eA_lpn eA_i2 eA_i3 blt_dec Nat.add_assoc keeps_refl keeps_at keeps_up new_one and_pow bit_hi lowBits_pow ble_dec fr_refl fr_at fr_up fr_p reps

set_option maxHeartbeats 16000000 in
theorem same_nw {m : M} {u : U} (ul : UL u) {h : Mem} {nx : Nat} (g : MR m h nx) (n : Int) : NwC T 800 10 [.agg m.cs, .agg u.cs, .int .i64 n] h nx fun r _ _ => r = .bool true := by
  intro lg hlg
  rw [xF_fr T10]
  obtain ⟨H, eH, bH, kH, gH⟩ := g.box
  obtain ⟨H2, eH2, bH2, kH2⟩ := ul.box H (nx + 1)
  have g2 := gH.keeps (Nat.le_succ _) kH2
  have b2 := (kH2 nx (by omega)).trans bH
  have kk : ∀ q, q < nx → H2.blk q = h.blk q := fun q hq => (kH2 q (by omega)).trans (kH q hq)
  have l4 := fun lg => ld_sub (n := 4) (o := 0) b2 (show nx < nx + 2 by omega) (vs := m.cs) rfl lg
  simp (maxSteps := 4000000) (maxDischargeDepth := 6) [F10, eH, eH2, l4]
  refine (take_nw g2 n).post (by omega) (by omega) ?_
  rintro _ H3 n3 tc3 wr3 rfl hn3 k3 w3
  have g3 := g2.keeps hn3 k3
  obtain ⟨H4, sH4, b4, k4⟩ := st_var H3 n3 (t := 47) (sz := 2) (n := 2) (g := false) [.int .i64 0, .int .i64 0] [.int .i64 (fop m.c n), .int .i64 (far m.c n)] rfl rfl rfl
  have g4 := g3.keeps (nx' := n3 + 1) (by omega) k4
  have l4 := fun lg => ld_sub (n := 4) (o := 0) ((k4 nx (by omega)).trans ((k3 nx (by omega)).trans b2)) (show nx < n3 + 1 by omega) (vs := m.cs) rfl lg
  simp (maxSteps := 4000000) (maxDischargeDepth := 6) [sH4, l4]
  refine (fetch_nw g4 n).post (by omega) (by omega) ?_
  rintro _ H5 n5 tc5 wr5 rfl hn5 k5 w5
  have g5 := g4.keeps hn5 k5
  have b5 := (k5 nx (by omega)).trans ((k4 nx (by omega)).trans ((k3 nx (by omega)).trans b2))
  have c5 := (k5 (nx + 1) (by omega)).trans ((k4 (nx + 1) (by omega)).trans ((k3 (nx + 1) (by omega)).trans bH2))
  have l4 := fun lg => ld_sub (n := 4) (o := 0) b5 (show nx < n5 by omega) (vs := m.cs) rfl lg
  have l5 := fun lg => ld_sub (n := 5) (o := 0) c5 (show nx + 1 < n5 by omega) (vs := u.cs) rfl lg
  have q0 := fun lg => ld_at ((k5 n3 (by omega)).trans b4) (show n3 < n5 by omega) (o := 0) (v := .int .i64 (fop m.c n)) rfl lg
  have q1 := fun lg => ld_at ((k5 n3 (by omega)).trans b4) (show n3 < n5 by omega) (o := 1) (v := .int .i64 (far m.c n)) rfl lg
  simp (maxSteps := 4000000) (maxDischargeDepth := 6) [l4, l5, q0, q1]
  refine (right_nw ul g5).post (by omega) (by omega) ?_
  rintro _ H6 n6 tc6 wr6 rfl hn6 k6 w6
  have g6 := g5.keeps hn6 k6
  have l4 := fun lg => ld_sub (n := 4) (o := 0) ((k6 nx (by omega)).trans b5) (show nx < n6 by omega) (vs := m.cs) rfl lg
  have l5 := fun lg => ld_sub (n := 5) (o := 0) ((k6 (nx + 1) (by omega)).trans c5) (show nx + 1 < n6 by omega) (vs := u.cs) rfl lg
  simp (maxSteps := 4000000) (maxDischargeDepth := 6) [l4, l5]
  refine (rright_nw ul g6).post (by omega) (by omega) ?_
  rintro _ H7 n7 tc7 wr7 rfl hn7 k7 w7
  simp (maxSteps := 4000000) (maxDischargeDepth := 6) []
  refine (tk_rd n _ _).post (by omega) (by omega) ?_
  intro tc8
  simp (maxSteps := 4000000) (maxDischargeDepth := 6) []
  refine (rtk_nw n _ _).post (by omega) (by omega) ?_
  rintro _ H9 n9 tc9 wr9 rfl hn9 k9 w9
  simp (maxSteps := 4000000) (maxDischargeDepth := 6) []
  refine (nm_nw n _ _).post (by omega) (by omega) ?_
  rintro _ HA nA tcA wrA rfl hnA kA wA
  simp (maxSteps := 4000000) (maxDischargeDepth := 6) []
  refine (rnm_nw n _ _).post (by omega) (by omega) ?_
  rintro _ HB nB tcB wrB rfl hnB kB wB
  simp (maxSteps := 4000000) (maxDischargeDepth := 6) []
  refine ⟨⟨by rw [Nat.and_comm]; exact ap3 (w6 nx (by omega)) (new_lo (by omega)), by rw [Nat.and_comm]; exact ap3 (w6 (nx + 1) (by omega)) (new_lo (by omega))⟩, by omega, fun q hq => by rw [kB q (by omega), kA q (by omega), k9 q (by omega), k7 q (by omega), k6 q (by omega), k5 q (by omega), k4 q (by omega), k3 q (by omega), kk q hq], fun q hq => ?_⟩
  simp only [Nat.and_or_distrib_right, w3 q (by omega), w5 q (by omega), low_z (w6 q (by omega)), low_z (w7 q (by omega)), low_z (w9 q (by omega)), low_z (wA q (by omega)), low_z (wB q (by omega)), bit_and (lg := lg) (show q ≠ n3 by omega), Nat.or_zero, Nat.zero_or]
theorem clipR {sz : Nat} {x : AV} {h : Mem} {nx : Nat} {L : List (List AV)} (g : RD sz x h nx L) (hsz : 0 < sz) : ∃ y, RD sz y h nx L ∧ ∀ lg, ∃ tc, sliceA sz x none (some (.int .i64 (L.length : Int))) (some (.int .i64 (L.length : Int))) h nx lg = some ⟨y, h, nx, tc, 0⟩ := by
  have bb : ∀ d lim, L.length ≤ lim → bnd d lim (some (.int .i64 (L.length : Int))) = some L.length := fun d lim hl => asI_at L.length lim hl d
  have b0 : ∀ lim, bnd 0 lim none = some 0 := fun lim => rfl
  rcases g with ⟨rfl, rfl⟩ | ⟨b, o, c, rfl, hb, hs, g⟩
  · exact ⟨.nils, .inl ⟨rfl, rfl⟩, fun lg => ⟨0, rfl⟩⟩
  · rcases g with ⟨cap, rfl, hc, g⟩ | ⟨rfl, hsz, K, hK, hg, hks, g⟩
    · refine ⟨.slc b o L.length (some L.length), .inr ⟨b, o, _, rfl, hb, hs, .inl ⟨_, rfl, Nat.le_refl _, g⟩⟩, fun lg => ⟨0, ?_⟩⟩
      simp only [sliceA, bb cap cap hc, bb _ _ (Nat.le_refl _), b0, A.ret, Nat.zero_mul, Nat.add_zero, Nat.sub_zero]
    · have hle : L.length ≤ (K.cells.length - o) / sz := by
        obtain ⟨h1, _⟩ := sub_inv g
        rw [Nat.le_div_iff_mul_le hsz]
        omega
      have c1 : (K.grow && Nat.blt 0 sz && Nat.beq K.sz sz) = true := by rw [hg, hks, Nat.beq_refl, blt_of hsz]; rfl
      refine ⟨.slc b o L.length (some L.length), .inr ⟨b, o, _, rfl, hb, hs, .inl ⟨_, rfl, Nat.le_refl _, .inr ⟨K, hK, g⟩⟩⟩, fun lg => ⟨bit lg b, ?_⟩⟩
      simp only [sliceA, A.bind, rdBlk, blt_of hb, hK, c1, bb 0 _ hle, bb _ _ (Nat.le_refl _), b0, A.ret, Nat.or_zero, Nat.zero_mul, Nat.add_zero, Nat.sub_zero]
theorem clip_nw {x : AV} {h : Mem} {nx : Nat} {L : List (List AV)} (g : RD 1 x h nx L) : NwC T 40 27 [x] h nx fun r h' nx' => RD 1 r h' nx' L := by
  intro lg hlg
  rw [xF_fr T27]
  obtain ⟨y, ry, e⟩ := clipR g (by decide)
  obtain ⟨tc, e⟩ := e lg
  have ll := g.lenOp
  simp (maxSteps := 4000000) (maxDischargeDepth := 6) [F27, ll, e]
  exact ry
theorem cat2 {s : AV} {h : Mem} {nx : Nat} {l : List Int} (ow : OW 1 s h nx (u8s l)) (hl : l.length ≤ 100000) (a b : Int) (lg : Nat) : ∃ s' h' nx' tc wr, appOp 5 1 1 s (.slc nx 0 2 (some 2)) (h.set nx (some ⟨5, 1, true, false, [.int .u8 a, .int .u8 b]⟩)) (nx + 1) lg = some ⟨s', h', nx', tc, wr⟩ ∧ nx + 1 ≤ nx' ∧ OW 1 s' h' nx' (u8s (l ++ [a, b])) ∧ (∀ q, q < nx → bid s ≠ some q → h'.blk q = h.blk q) ∧ (∀ q, bid s' = some q → bid s = some q ∨ nx ≤ q) ∧ (∀ q, bid s ≠ some q → wr &&& 2 ^ q = 0) := by
  have g1 : OW 1 s (h.set nx (some ⟨5, 1, true, false, [.int .u8 a, .int .u8 b]⟩)) (nx + 1) (u8s l) := ow.keep (by omega) fun b hb => Mem.blk_set_ne _ _ _ _ (by have := ow.lt hb; omega)
  have gx : RD 1 (.slc nx 0 2 (some 2)) (h.set nx (some ⟨5, 1, true, false, [.int .u8 a, .int .u8 b]⟩)) (nx + 1) (u8s [a, b]) := RD.lit (M := u8s [a, b]) (t := 5) (z := 1) (o := true) (g := false) rfl (by unfold u8s; simp) (by omega) (by rw [Mem.blk_set_same]; rfl)
  obtain ⟨c', h', nx', tc', wr', e, n1, ow', k1, d1, t1, w1⟩ := OW.cat (sz := 1) (by decide) 5 1 g1 gx (fun n hn => fits_few (by rw [u8s_len] at hn; have : (u8s [a, b]).length = 2 := rfl; omega) (by omega)) rfl lg
  exact ⟨c', h', nx', tc', wr', e, n1, by rw [u8s_app]; exact ow', fun q hq hn => (k1 q (by omega) hn).trans (Mem.blk_set_ne _ _ _ _ (by omega)), fun q hq => (d1 q hq).imp id fun e => by omega, w1⟩
def pcode (P : List (Int × Int)) : List Int := P.flatMap fun x => [x.1, x.2]
theorem pcode_len (P : List (Int × Int)) : (pcode P).length = 2 * P.length := by
  unfold pcode
  induction P with
  | nil => rfl
  | cons x P ih => rw [List.flatMap_cons, List.length_append, ih, List.length_cons]; simp only [List.length_cons, List.length_nil]; omega
theorem pcode_app (P Q : List (Int × Int)) : pcode (P ++ Q) = pcode P ++ pcode Q := List.flatMap_append ..
def OkP (P : List (Int × Int)) : Prop := ∀ x ∈ P, (0 ≤ x.1 ∧ x.1 < 256) ∧ 0 ≤ x.2 ∧ x.2 < 256
theorem pcode_ok {P : List (Int × Int)} (h : OkP P) : Ok8 (pcode P) := fun x hx => by
  unfold pcode at hx
  obtain ⟨y, hy, hx⟩ := List.mem_flatMap.1 hx
  simp only [List.mem_cons, List.not_mem_nil, or_false] at hx
  rcases hx with rfl | rfl
  · exact (h y hy).1
  · exact (h y hy).2
theorem w8 {x : Int} (h : 0 ≤ x ∧ x < 256) : IntKind.u8.wrap x = x := by rw [IntKind.wrap_u8]; omega
def ByI (v : AV) (P : List (Int × Int)) (h0 : Mem) (nx0 : Nat) (mm : Nat) (ts : List AV) (h : Mem) (nx tc wr : Nat) : Prop := ∃ (i : Nat) (s : AV), mm = P.length - i ∧ i ≤ P.length ∧ ts.length = 24 ∧ sl ts 3 = s ∧ sl ts 6 = v ∧ sl ts 7 = .int .i64 P.length ∧ sl ts 8 = .int .i64 i ∧ OW 1 s h nx (u8s (pcode (P.take i))) ∧ (∀ q, bid s = some q → nx0 ≤ q) ∧ nx0 ≤ nx ∧ (∀ q, q < nx0 → h.blk q = h0.blk q) ∧ ∀ q, q < nx0 → wr &&& 2 ^ q = 0
def ByR (P : List (Int × Int)) (h0 : Mem) (nx0 : Nat) (e : Ex) (ts : List AV) (h : Mem) (nx tc wr : Nat) : Prop := e = .exit 0 ∧ ∃ s, ts.length = 24 ∧ sl ts 3 = s ∧ OW 1 s h nx (u8s (pcode P)) ∧ nx0 ≤ nx ∧ (∀ q, q < nx0 → h.blk q = h0.blk q) ∧ ∀ q, q < nx0 → wr &&& 2 ^ q = 0
set_option maxHeartbeats 8000000 in
theorem by_round {v : AV} {P : List (Int × Int)} (ok : OkP P) {h0 : Mem} {nx0 : Nat} (g : BR v h0 nx0 P) (hP : P.length ≤ 1000) (lg : Nat) (hlg : lg ≤ nx0) (mm : Nat) (ts : List AV) (h : Mem) (nx tc wr : Nat) (hi : ByI v P h0 nx0 mm ts h nx tc wr) :
    Post (xC T 60 L14_0b ts h nx lg) fun v' h' nx' tc' wr' => Round (ByI v P h0 nx0) (ByR P h0 nx0) mm v' h' nx' (tc ||| tc') (wr ||| wr') := by
  obtain ⟨i, s, rfl, hi, hlen, g3, g6, g7, g8, ow, own, hn, hk, hw⟩ := hi
  by_cases c : i < P.length
  · have c' : (i : Int) < P.length := by omega
    have ci : IntKind.i64.wrap ((i : Int) + 1) = ((i + 1 : Nat) : Int) := by rw [IntKind.wrap_i64]; omega
    obtain ⟨b1, o1, el⟩ := (g.keeps hn hk).el c
    have p := el.pl
    have f := el.all lg
    simp only [bcs] at f
    have okx := ok _ (List.getElem_mem c)
    have eP : P.take (i + 1) = P.take i ++ [(P[i].1, P[i].2)] := List.take_succ_eq_append_getElem c
    generalize P[i].1 = A at *
    generalize P[i].2 = B at *
    obtain ⟨H2, sH2, b2, k2⟩ := st_var h nx (t := 47) (sz := 2) (n := 2) (g := false) [.int .i64 0, .int .i64 0] [.int .i64 A, .int .i64 B] rfl rfl rfl
    have q0 := fun lg => ld_at b2 (show nx < nx + 1 by omega) (o := 0) (v := .int .i64 A) rfl lg
    have q1 := fun lg => ld_at b2 (show nx < nx + 1 by omega) (o := 1) (v := .int .i64 B) rfl lg
    have wA := w8 okx.1
    have wB := w8 okx.2
    have ow2 := ow.keeps (h' := H2) (nx' := nx + 1) (by omega) k2
    obtain ⟨s', H3, n3, tc3, wr3, e3, hn3, ow3, k3, d3, w3⟩ := cat2 ow2 (by rw [pcode_len, List.length_take]; omega) A B lg
    simp (maxSteps := 4000000) (maxDischargeDepth := 6) [L14_0b, hlen, g3, g6, g7, g8, c', p, f, sH2, q0, q1, wA, wB, e3, ci]
    have no : ∀ q, q < nx0 → bid s ≠ some q := fun q hq e => by have := own q e; omega
    refine Round.nor (m' := P.length - (i + 1)) (by omega) ⟨i + 1, s', rfl, by omega, ?_, ?_, ?_, ?_, ?_, ?_, fun q hq => ?_, by omega, fun q hq => (k3 q (by omega) (no q hq)).trans ((k2 q (by omega)).trans (hk q hq)), fun q hq => ?_⟩
    any_goals simp [len_setT, sl_same, sl_ne, hlen, g6, g7]
    · rw [eP, pcode_app]; exact ow3
    · rcases d3 q hq with e | e
      · exact own q e
      · omega
    · exact wr_or (hw q hq) (wr_or (bit_and (by omega)) (w3 q (no q hq)))
  · have c' : ¬ (i : Int) < P.length := by omega
    rw [List.take_of_length_le (by omega)] at ow
    simp (maxSteps := 4000000) (maxDischargeDepth := 6) [L14_0b, hlen, g3, g6, g7, g8, c']
    refine Round.exit (R := ByR P h0 nx0) ⟨rfl, s, ?_, ?_, ow, hn, hk, hw⟩ <;> simp [len_setT, sl_same, sl_ne, hlen, g3]
set_option maxHeartbeats 8000000 in
theorem by_nw {v : AV} {P : List (Int × Int)} (ok : OkP P) {h : Mem} {nx : Nat} (g : BR v h nx P) (hP : P.length ≤ 1000) : NwC T (P.length + 200) 14 [v] h nx fun r h' nx' => RD 1 r h' nx' (u8s (pcode P)) := by
  intro lg hlg
  rw [xF_fr T14]
  have ls := g.lenOp
  simp (maxSteps := 4000000) (maxDischargeDepth := 6) [F14, L14_0, ls]
  refine Post.loop (by_round ok g hP lg hlg) P.length ⟨0, .nils, rfl, by omega, ?_, ?_, ?_, ?_, ?_, OW.nil .., (fun x hx => by cases hx), Nat.le_refl _, fun _ _ => rfl, fun q _ => Nat.zero_and _⟩ (by omega) ?_
  any_goals simp [len_setT, sl_same, sl_ne, sl_frame, len_frame]
  rintro e ts' h' nx' tc wr ⟨rfl, s, hlen, g3, ow, hn, hk, hw⟩
  simp (maxSteps := 4000000) (maxDischargeDepth := 6) [hlen, g3]
  refine (clip_nw (ow.rd (by decide))).post (by omega) (by omega) ?_
  rintro r H4 n4 tc4 wr4 hr hn4 k4 w4
  simp (maxSteps := 4000000) (maxDischargeDepth := 6) [hlen]
  exact ⟨hr, by omega, fun q hq => (k4 q (by omega)).trans (hk q hq), fun q hq => wr_or (hw q hq) (w4 q (by omega))⟩
end Go.Proofs.YtlbjdkhpabpmiaaT
