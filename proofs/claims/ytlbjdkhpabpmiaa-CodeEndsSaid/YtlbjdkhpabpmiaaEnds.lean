/- Code: CodeEnds. -/
import Derived.Test.YtlbjdkhpabpmiaaPu
namespace Go.Proofs.YtlbjdkhpabpmiaaT
open Go Go.Proofs.YtlbjdkhpabpmiaaE Go.Proofs.YtlbjdkhpabpmiaaB
set_option linter.unusedSimpArgs false
set_option linter.unusedVariables false
attribute [local congr] Post_cg PostL_cg condP_cg
attribute [local simp ↓] P_skip P_exit P_ret P_seq P_cond P_blk P_reg P_draw P_nil P_cons op_len Post.some Post_bind Post_ret Post_draw PostL_nil PostL_cons op_islc step_none step_t step_f step_nt step_nf op_load op_store op_slice op_app
attribute [local simp] condP_t condP_f dum_ab stepR want_none want_some opRun ev_t ev_c put_none put_some resAll res_tmp res_cell oneOf minI maxI min2A max2A mn2 mx2 mx3 rdBlk wrBlk newBlk partA abin ibin isShift AV.cells AV.one lay sub fillA lenA toN allApart apartFrom Nat.testBit Mem.blk_set_same Mem.blk_set_ne Mem.set_set bit_zero bit_self lowBits_or lowBits_zero len_setT sl_same sl_ne len_frame sl_frame lenOp_slc lenOp_nils Post_fail ofOpt_some ofOpt_none eA_b eA_i eA_s eA_nn eA_np eA_pn eA_lnn eA_lnp eA_lpn eA_i2 eA_i3 blt_dec Nat.add_assoc keeps_refl keeps_at keeps_up new_one and_pow bit_hi lowBits_pow ble_dec fr_refl fr_at fr_up fr_p reps

theorem bnds_set (L : List (Int × Int)) (i : Nat) (x : Int × Int) : bnds (L.set i x) = (bnds L).set i (bcs x) := by unfold bnds; rw [List.map_set]; rfl
theorem tp_new {h : Mem} {nx : Nat} {v : AV} {T0 : List Int} (r : RD 1 v h nx (i64s T0)) (hl : T0.length ≤ big) : TP (h.set nx (some ⟨32, 2, true, false, [v, .int .i64 0]⟩)) (nx + 1) nx v T0 :=
  ⟨by omega, ⟨0, Nat.zero_le _, Mem.blk_set_same ..⟩, r.keeps (by omega) fun q hq => Mem.blk_set_ne _ _ _ _ (by omega), fun e => by have := r.lt e; omega, hl⟩
/-! ### The plain law -/
def row4 (n : Nat) (x y : Int × Int) : List (Int × Int) := ((List.replicate (n + 1) ((4 : Int), (0 : Int))).set n x).set 0 y
theorem row4_len (n : Nat) (x y : Int × Int) : (row4 n x y).length = n + 1 := by unfold row4; rw [List.length_set, List.length_set, List.length_replicate]
theorem row4_at {n : Nat} (hn : 1 ≤ n) (x y : Int × Int) {i : Nat} (h : i < (row4 n x y).length) : (row4 n x y)[i] = if i = 0 then y else if i = n then x else (4, 0) := by
  simp only [row4, List.getElem_set, List.getElem_replicate, eq_comm (a := i)]
theorem row4_y (n : Nat) (x y y' : Int × Int) : (row4 n x y).set 0 y' = row4 n x y' := by unfold row4; rw [List.set_set]
theorem row4_x {n : Nat} (hn : 1 ≤ n) (x y x' : Int × Int) : (row4 n x y).set n x' = row4 n x' y := by
  unfold row4
  rw [List.set_comm _ _ (show 0 ≠ n by omega), List.set_set]
theorem row4_1 {n : Nat} (hn : 1 ≤ n) (x : Int × Int) : (List.replicate (n + 1) ((4 : Int), (0 : Int))).set n x = row4 n x (4, 0) := by
  unfold row4
  rw [List.set_comm _ _ (show n ≠ 0 by omega), List.replicate_succ, List.set_cons_zero]
theorem row4_ok {n : Nat} {x y : Int × Int} (hx : (0 ≤ x.1 ∧ x.1 < 256) ∧ 0 ≤ x.2 ∧ x.2 < 256) (hy : (0 ≤ y.1 ∧ y.1 < 256) ∧ 0 ≤ y.2 ∧ y.2 < 256) : OkP (row4 n x y) := fun z hz => by
  unfold row4 at hz
  rcases List.mem_or_eq_of_mem_set hz with hz | rfl
  · rcases List.mem_or_eq_of_mem_set hz with hz | rfl
    · rw [List.eq_of_mem_replicate hz]; omega
    · exact hx
  · exact hy
theorem row4_code (u : U) {a t : Int} {cv : AV} {n : Nat} (hn : 1 ≤ n) (hN : n ≤ 60) (a0 : 0 ≤ a) (t0 : 0 ≤ t) (h8 : a + t ≤ 8) (x y : Int × Int) : (codeV u (mP a t cv (row4 n x y)) == 0) = (endOp x.1 && (instV (mP a t cv (row4 n x y)) 0 y.1 y.2.toNat && instV (mP a t cv (row4 n x y)) (2 * n) x.1 x.2.toNat)) := by
  have l := row4_len n x y
  have m := mP_code (u := u) (a := a) (t := t) (cv := cv) l (by omega) a0 t0 h8
  have en : ((row4 n x y)[n]'(by omega)).1 = x.1 := by rw [row4_at hn]; simp [show n ≠ 0 by omega]
  rw [en] at m
  rw [Bool.eq_iff_iff, beq_iff_eq, m, Bool.and_eq_true, Bool.and_eq_true]
  refine and_congr_right fun _ => ⟨fun f => ⟨?_, ?_⟩, fun ⟨f0, fn⟩ i h => ?_⟩
  · have := f 0 (by omega)
    rw [row4_at hn, if_pos rfl] at this
    exact this
  · have := f n (by omega)
    rw [row4_at hn, if_neg (by omega), if_pos rfl] at this
    exact this
  · rw [row4_at hn]
    by_cases c0 : i = 0
    · rw [if_pos c0, c0]; exact f0
    · by_cases c1 : i = n
      · rw [if_neg c0, if_pos c1, c1]; exact fn
      · rw [if_neg c0, if_neg c1]; simp [instV]
theorem inst4 (m : M) (p : Nat) (k : Nat) : instV m p 4 k = true := by simp [instV]
theorem code1 (u : U) {cv : AV} {n op : Nat} (hn : 1 ≤ n) (hN : n ≤ 60) : (codeV u (mP 0 1 cv (row4 n ((op : Int), 0) (4, 0))) == 0) = endOp (op : Int) := by
  rw [row4_code u hn hN (by omega) (by omega) (by omega)]
  cases hE : endOp (op : Int) with
  | false => rfl
  | true =>
    have : (op : Int) = 14 ∨ (op : Int) = 19 ∨ (op : Int) = 16 := by
      unfold endOp at hE
      simp only [Bool.or_eq_true, beq_iff_eq] at hE
      omega
    simp only [inst4, Bool.true_and]
    rcases this with e | e | e <;> rw [e] <;> simp [instV]
    omega
theorem code2 (u : U) {cv : AV} {n j : Nat} (hn : 1 ≤ n) (hN : n ≤ 60) : (codeV u (mP 0 0 cv (row4 n (14, 0) (15, (j : Int)))) == 0) = decide ((j : Int) + 1 < ((n + 1 : Nat) : Int)) := by
  rw [row4_code u hn hN (by omega) (by omega) (by omega)]
  have e1 : instV (mP 0 0 cv (row4 n (14, 0) (15, (j : Int)))) 0 15 (j : Int).toNat = decide ((j : Int) + 1 < ((n + 1 : Nat) : Int)) := by
    simp only [instV, Int.toNat_natCast]
    have : (mP 0 0 cv (row4 n (14, 0) (15, (j : Int)))).c.length = 2 * (n + 1) := by show (pcode _).length = _; rw [pcode_len, row4_len]
    rw [this]
    simp
    omega
  rw [e1]
  simp [endOp, instV]
theorem code3 (u : U) {cv : AV} {n j : Nat} (hn : 1 ≤ n) (hN : n ≤ 60) : (codeV u (mP 0 0 cv (row4 n (16, (j : Int)) (4, 0))) == 0) = decide ((j : Int) ≤ (n : Int)) := by
  rw [row4_code u hn hN (by omega) (by omega) (by omega)]
  simp [endOp, instV]
def EnI (a0 a1 : AV) (n : Nat) (mm : Nat) (ts : List AV) (h : Mem) (nx tc wr : Nat) : Prop := ∃ (i : Nat) (s : AV), mm = n - i ∧ i ≤ n ∧ ts.length = 123 ∧ sl ts 0 = a0 ∧ sl ts 1 = a1 ∧ sl ts 7 = .int .i64 n ∧ sl ts 8 = s ∧ sl ts 9 = .int .i64 i ∧ OW 2 s h nx (bnds (List.replicate i (4, 0)))
def EnR (a0 a1 : AV) (n : Nat) (e : Ex) (ts : List AV) (h : Mem) (nx tc wr : Nat) : Prop := e = .exit 0 ∧ ∃ s, ts.length = 123 ∧ sl ts 0 = a0 ∧ sl ts 1 = a1 ∧ sl ts 7 = .int .i64 n ∧ sl ts 8 = s ∧ OW 2 s h nx (bnds (List.replicate n (4, 0)))
set_option maxHeartbeats 8000000 in
theorem en_round (a0 a1 : AV) {n : Nat} (hn : n ≤ 30) (mm : Nat) (ts : List AV) (h : Mem) (nx tc wr : Nat) (hi : EnI a0 a1 n mm ts h nx tc wr) :
    Post (xC T 60 L6_0b ts h nx 0) fun v' h' nx' tc' wr' => Round (EnI a0 a1 n) (EnR a0 a1 n) mm v' h' nx' (tc ||| tc') (wr ||| wr') := by
  obtain ⟨i, s, rfl, hi, hlen, g0, g1, g7, g8, g9, ow⟩ := hi
  by_cases c : i < n
  · have c' : (i : Int) < n := by omega
    have ci : IntKind.i64.wrap ((i : Int) + 1) = ((i + 1 : Nat) : Int) := by rw [IntKind.wrap_i64]; omega
    obtain ⟨s', H3, n3, tc3, wr3, e3, hn3, ow3, _⟩ := OW.push (sz := 2) (by decide) 47 16 ow [.int .i64 4, .int .i64 0] rfl (fun k hk => fits_few (by rw [bnds_len, List.length_replicate] at hk; omega) (by omega)) rfl 47 2 0
    simp (maxSteps := 4000000) (maxDischargeDepth := 6) [L6_0b, hlen, g0, g1, g7, g8, g9, c', e3, ci]
    refine Round.nor (m' := n - (i + 1)) (by omega) ⟨i + 1, s', rfl, by omega, ?_, ?_, ?_, ?_, ?_, ?_, ?_⟩
    any_goals simp [len_setT, sl_same, sl_ne, hlen, g0, g1, g7]
    rw [List.replicate_succ', bnds_app]
    exact ow3
  · have c' : ¬ (i : Int) < n := by omega
    have e : i = n := by omega
    subst e
    simp (maxSteps := 4000000) (maxDischargeDepth := 6) [L6_0b, hlen, g0, g1, g7, g8, g9, c']
    refine Round.exit (R := EnR a0 a1 i) ⟨rfl, s, ?_, ?_, ?_, ?_, ?_, ow⟩ <;> simp [len_setT, sl_same, sl_ne, hlen, g0, g1, g7, g8]
set_option maxHeartbeats 32000000 in
theorem ends_law (h : Mem) (nx : Nat) (avs : List AV) (g : KdsV h nx [.l (.i .i64), .l (.i .i64), .l (.i .i64)] avs) : Yes T 6 avs h nx := by
  simp only [KdsV, KdV, LeafV] at g
  obtain ⟨_, _, rfl, ⟨a0, rfl, _⟩, _, _, rfl, ⟨a1, rfl, _⟩, _, _, rfl, ⟨a2, rfl, _⟩, rfl⟩ := g
  refine Yes.of 8000 ?_
  rw [xF_fr T6]
  obtain ⟨r2, r21, r22, _, wx2⟩ := within_ex a2 0 20 (by omega) (by omega) (by omega)
  obtain ⟨r0, r01, r02, _, wx0⟩ := within_ex a0 0 21 (by omega) (by omega) (by omega)
  obtain ⟨r1, r11, r12, _, wx1⟩ := within_ex a1 0 30 (by omega) (by omega) (by omega)
  obtain ⟨k, hk⟩ : ∃ k : Nat, r2 = k := ⟨r2.toNat, by omega⟩
  obtain ⟨op, rfl⟩ : ∃ k : Nat, r0 = k := ⟨r0.toNat, by omega⟩
  obtain ⟨j, rfl⟩ : ∃ k : Nat, r1 = k := ⟨r1.toNat, by omega⟩
  obtain ⟨n, hn⟩ : ∃ n : Nat, n = k + 1 := ⟨_, rfl⟩
  have wn : IntKind.i64.wrap (2 + r2) = ((n + 1 : Nat) : Int) := by rw [IntKind.wrap_i64]; omega
  obtain ⟨N, hN⟩ : ∃ N : Nat, N = n + 1 := ⟨_, rfl⟩
  rw [← hN] at wn
  simp (maxSteps := 4000000) (maxDischargeDepth := 6) [F6, wx2, wn, L6_0]
  refine Post.loop (en_round (.int .i64 a0) (.int .i64 a1) (n := N) (by omega)) N ⟨0, .nils, rfl, by omega, ?_, ?_, ?_, ?_, ?_, ?_, OW.nil ..⟩ (by omega) ?_
  any_goals simp (maxDischargeDepth := 6) [len_setT, sl_same, sl_ne, sl_frame, len_frame]
  rintro e ts1 h1 nx1 tc1 wr1 ⟨rfl, s1, hlen, g0, g1, g7, g8, ow1⟩
  have wl : IntKind.i64.wrap ((N : Int) - 1) = (n : Int) := by rw [IntKind.wrap_i64]; omega
  have n1 : 1 ≤ n := by omega
  obtain ⟨P1, hP1⟩ : ∃ P1, P1 = row4 n ((op : Int), 0) (4, 0) := ⟨_, rfl⟩
  have lP1 : P1.length = N := by rw [hP1, row4_len, hN]
  obtain ⟨b, hb, hbn, pl, H2, sH2, ow2, k2⟩ := putO ow1 (i := n) (by rw [bnds_len, List.length_replicate]; omega) [.int .i64 (op : Int), .int .i64 0] rfl rfl
  rw [show (bnds (List.replicate N ((4 : Int), (0 : Int)))).set n [.int .i64 (op : Int), .int .i64 0] = bnds P1 by rw [hP1, ← row4_1 n1, bnds_set, hN]; rfl] at ow2
  simp (maxSteps := 4000000) (maxDischargeDepth := 6) [hlen, g0, g1, g7, g8, wl, wx0, pl, sH2]
  have tp := tp_new (h := H2) (nx := nx1) (v := .nils) (T0 := []) (RD.nil ..) (by simp)
  refine (unit_tp tp).post nx1 (by omega) (by omega) (by omega) ?_
  rintro _ H3 nx3 tc3 wr3 ⟨nv, cv, mv, ov, L, M, rfl, t3, uq⟩ n3 k3 m3 _
  have k3' : ∀ q, q < nx1 → H3.blk q = H2.blk q := fun q hq => (k3 q (by omega) (by omega)).trans (Mem.blk_set_ne _ _ _ _ (by omega))
  have ul := uq.ul
  have one := ul.one
  obtain ⟨u, hu⟩ : ∃ u, u = UQ.u nv cv mv ov L.length := ⟨_, rfl⟩
  have hucs : [nv, cv, mv, ov, .int .i64 6] = u.cs := by rw [hu]; rfl
  rw [← hu] at ul one
  obtain ⟨H4, sH4, b4, k4⟩ := st_var H3 nx3 (t := 27) (sz := 5) (n := 5) (g := false) [.nils, .nils, .nils, .nils, .int .i64 0] u.cs rfl rfl one
  have ow4 := ow2.keep (h' := H4) (nx' := nx3 + 1) (by omega) fun q hq => by have := ow2.lt hq; rw [k4 q (by omega), k3' q (by omega)]
  simp (maxSteps := 4000000) (maxDischargeDepth := 6) [hlen, g0, g1, g7, g8, hucs, sH4]
  have okP1 : OkP P1 := by rw [hP1]; exact row4_ok (by simp only; omega) (by simp only; omega)
  have br1 : BR s1 H4 (nx3 + 1) P1 := ⟨ow4.rd (by decide), by unfold big; omega⟩
  refine (by_nw okP1 br1 (by omega)).post (by omega) (by omega) ?_
  rintro c5 H5 nx5 tc5 wr5 rd5 n5 k5 w5
  obtain ⟨y1, y2, y3, y4, rfl⟩ : ∃ b o l c, c5 = .slc b o l c := by
    rcases rd5.form with ⟨rfl, e⟩ | ⟨b, o, c, e⟩
    · have := congrArg List.length e
      rw [u8s_len, pcode_len, List.length_nil] at this
      omega
    · exact ⟨b, o, _, c, e⟩
  have b5 := (k5 nx3 (by omega)).trans b4
  have l5 := fun lg => ld_sub (n := 5) (o := 0) b5 (show nx3 < nx5 by omega) (vs := u.cs) rfl lg
  simp (maxSteps := 4000000) (maxDischargeDepth := 6) [hlen, l5]
  have mr5 : MR (mP 0 1 (.slc y1 y2 y3 y4) P1) H5 nx5 := ⟨⟨RD.nil .., by show (0 : Nat) ≤ big; omega⟩, rd5, pcode_ok okP1, by show (pcode P1).length ≤ big; rw [pcode_len]; unfold big; omega⟩
  refine (right_nw ul mr5).post (by omega) (by omega) ?_
  rintro _ H6 nx6 tc6 wr6 rfl n6 k6 w6
  have ow6 := ow4.keep (h' := H6) (nx' := nx6) (by omega) fun q hq => by have := ow2.lt hq; rw [k6 q (by omega), k5 q (by omega)]
  obtain ⟨bb, hbb, hbbn, pl6, ld6, _⟩ := ow6.at (i := n) (by rw [bnds_len]; omega)
  have eP1n : (bnds P1)[n]'(by rw [bnds_len]; omega) = [.int .i64 (op : Int), .int .i64 0] := by
    rw [bnds_at]
    subst hP1
    rw [row4_at n1, if_neg (by omega), if_pos rfl]
    rfl
  have f6 := fun lg => ld6 0 (.int .i64 (op : Int)) (by rw [eP1n]; rfl) lg
  simp only [Nat.add_zero] at f6
  obtain ⟨P2, hP2⟩ : ∃ P2, P2 = row4 n (14, 0) (15, (j : Int)) := ⟨_, rfl⟩
  have lP2 : P2.length = N := by rw [hP2, row4_len, hN]
  have okP2 : OkP P2 := by rw [hP2]; exact row4_ok (by simp only; omega) (by simp only; omega)
  obtain ⟨bA, hbA, hbnA, plA, HA, sHA, owA, kA⟩ := putO ow6 (i := n) (by rw [bnds_len]; omega) [.int .i64 14, .int .i64 0] rfl rfl
  rw [hbb] at hbA; cases hbA
  obtain ⟨bB, hbB, hbnB, plB, HB, sHB, owB, kB⟩ := putO owA (i := 0) (by rw [List.length_set, bnds_len]; omega) [.int .i64 15, .int .i64 (j : Int)] rfl rfl
  rw [hbb] at hbB; cases hbB
  rw [show ((bnds P1).set n [.int .i64 14, .int .i64 0]).set 0 [.int .i64 15, .int .i64 (j : Int)] = bnds P2 by rw [hP2, ← row4_y n (14, 0) (4, 0), ← row4_x n1 ((op : Int), 0), ← hP1, bnds_set, bnds_set]; rfl] at owB
  simp only [Nat.zero_mul, Int.natCast_zero] at plB sHB
  have hbb3 : bb < nx1 := ow1.lt hbb
  have bB : HB.blk nx3 = some ⟨27, 5, true, false, u.cs⟩ := by rw [kB nx3 (by omega), kA nx3 (by omega), k6 nx3 (by omega)]; exact b5
  have brB : BR s1 HB nx6 P2 := ⟨owB.rd (by decide), by unfold big; omega⟩
  obtain ⟨P3, hP3⟩ : ∃ P3, P3 = row4 n (16, (j : Int)) (4, 0) := ⟨_, rfl⟩
  have lP3 : P3.length = N := by rw [hP3, row4_len, hN]
  have okP3 : OkP P3 := by rw [hP3]; exact row4_ok (by simp only; omega) (by simp only; omega)
  have cases4 : (((op : Int) == 14) = true ∧ True ∧ True ∧ endOp op = true) ∨ (((op : Int) == 14) = false ∧ ((op : Int) == 19) = true ∧ True ∧ endOp op = true) ∨ (((op : Int) == 14) = false ∧ ((op : Int) == 19) = false ∧ ((op : Int) == 16) = true ∧ endOp op = true) ∨ (((op : Int) == 14) = false ∧ ((op : Int) == 19) = false ∧ ((op : Int) == 16) = false ∧ endOp op = false) := by
    unfold endOp
    cases (op : Int) == 14 <;> cases (op : Int) == 19 <;> cases (op : Int) == 16 <;> simp
  rcases cases4 with ⟨h14, h19, h16, hE⟩ | ⟨h14, h19, h16, hE⟩ | ⟨h14, h19, h16, hE⟩ | ⟨h14, h19, h16, hE⟩
  all_goals
    simp (maxSteps := 4000000) (maxDischargeDepth := 6) [hlen, g0, g1, g7, g8, wl, pl6, f6, h14, h19, h16]
    refine ⟨by rw [Nat.and_comm]; exact ap3 (w5 nx3 (by omega)) (new_lo (by omega)), ?_⟩
    simp (maxSteps := 4000000) (maxDischargeDepth := 6) [hlen, g0, g1, g7, g8, wl, plA, sHA, wx1, plB, sHB]
    refine (by_nw okP2 brB (by omega)).post (by omega) (by omega) ?_
    rintro cC HC nxC tcC wrC rdC nC kC wC
    obtain ⟨z1, z2, z3, z4, rfl⟩ : ∃ b o l c, cC = .slc b o l c := by
      rcases rdC.form with ⟨rfl, e⟩ | ⟨b, o, c, e⟩
      · have := congrArg List.length e
        rw [u8s_len, pcode_len, List.length_nil] at this
        omega
      · exact ⟨b, o, _, c, e⟩
    have bC := (kC nx3 (by omega)).trans bB
    have lC := fun lg => ld_sub (n := 5) (o := 0) bC (show nx3 < nxC by omega) (vs := u.cs) rfl lg
    simp (maxSteps := 4000000) (maxDischargeDepth := 6) [hlen, lC]
    have mrC : MR (mP 0 0 (.slc z1 z2 z3 z4) P2) HC nxC := ⟨⟨RD.nil .., by show (0 : Nat) ≤ big; omega⟩, rdC, pcode_ok okP2, by show (pcode P2).length ≤ big; rw [pcode_len]; unfold big; omega⟩
    refine (right_nw ul mrC).post (by omega) (by omega) ?_
    rintro _ HD nxD tcD wrD rfl nD kD wD
    have owD := owB.keep (h' := HD) (nx' := nxD) (by omega) fun q hq => by rw [hbb] at hq; cases hq; rw [kD bb (by omega), kC bb (by omega)]
    obtain ⟨bE, hbE, hbnE, plE, HE, sHE, owE, kE⟩ := putO owD (i := 0) (by rw [bnds_len]; omega) [.int .i64 4, .int .i64 0] rfl rfl
    rw [hbb] at hbE; cases hbE
    obtain ⟨bF, hbF, hbnF, plF, HF, sHF, owF, kF⟩ := putO owE (i := n) (by rw [List.length_set, bnds_len]; omega) [.int .i64 16, .int .i64 (j : Int)] rfl rfl
    rw [hbb] at hbF; cases hbF
    rw [show ((bnds P2).set 0 [.int .i64 4, .int .i64 0]).set n [.int .i64 16, .int .i64 (j : Int)] = bnds P3 by rw [hP3, ← row4_x n1 (14, 0), ← row4_y n (14, 0) (15, (j : Int)) (4, 0), ← hP2, bnds_set, bnds_set]; rfl] at owF
    simp only [Nat.zero_mul, Int.natCast_zero] at plE sHE
    have brF : BR s1 HF nxD P3 := ⟨owF.rd (by decide), by unfold big; omega⟩
    simp (maxSteps := 4000000) (maxDischargeDepth := 6) [hlen, g0, g1, g7, g8, wl, plE, sHE, plF, sHF]
    refine ⟨by rw [Nat.and_comm]; exact ap3 (wC nx3 (by omega)) (new_lo (by omega)), ?_⟩
    refine (by_nw okP3 brF (by omega)).post (by omega) (by omega) ?_
    rintro cG HG nxG tcG wrG rdG nG kG wG
    obtain ⟨v1, v2, v3, v4, rfl⟩ : ∃ b o l c, cG = .slc b o l c := by
      rcases rdG.form with ⟨rfl, e⟩ | ⟨b, o, c, e⟩
      · have := congrArg List.length e
        rw [u8s_len, pcode_len, List.length_nil] at this
        omega
      · exact ⟨b, o, _, c, e⟩
    have bG : HG.blk nx3 = some ⟨27, 5, true, false, u.cs⟩ := by rw [kG nx3 (by omega), kF nx3 (by omega), kE nx3 (by omega), kD nx3 (by omega)]; exact bC
    have lG := fun lg => ld_sub (n := 5) (o := 0) bG (show nx3 < nxG by omega) (vs := u.cs) rfl lg
    simp (maxSteps := 4000000) (maxDischargeDepth := 6) [hlen, lG]
    have mrG : MR (mP 0 0 (.slc v1 v2 v3 v4) P3) HG nxG := ⟨⟨RD.nil .., by show (0 : Nat) ≤ big; omega⟩, rdG, pcode_ok okP3, by show (pcode P3).length ≤ big; rw [pcode_len]; unfold big; omega⟩
    refine (right_nw ul mrG).post (by omega) (by omega) ?_
    rintro _ HI nxI tcI wrI rfl nI kI wI
    have c1 := code1 u (cv := .slc y1 y2 y3 y4) (op := op) n1 (by omega)
    have c2 := code2 u (cv := .slc z1 z2 z3 z4) (j := j) n1 (by omega)
    have c3 := code3 u (cv := .slc v1 v2 v3 v4) (j := j) n1 (by omega)
    rw [← hP1, hE] at c1
    rw [← hP2, ← hN] at c2
    rw [← hP3] at c3
    generalize codeV u (mP 0 1 (.slc y1 y2 y3 y4) P1) = V1 at *
    generalize codeV u (mP 0 0 (.slc z1 z2 z3 z4) P2) = V2 at *
    generalize codeV u (mP 0 0 (.slc v1 v2 v3 v4) P3) = V3 at *
    have wj : IntKind.i64.wrap ((j : Int) + 1) = (j : Int) + 1 := by rw [IntKind.wrap_i64]; omega
    simp (maxSteps := 4000000) (maxDischargeDepth := 6) [hlen, g0, g1, g7, g8, wl, wj, c1, c2, c3]
    refine ⟨by rw [Nat.and_comm]; exact ap3 (wG nx3 (by omega)) (new_lo (by omega)), ?_⟩
    refine (known_nw HI nxI).post (by omega) (by omega) ?_
    rintro _ HJ nxJ tcJ wrJ rfl nJ kJ wJ
    simp (maxSteps := 4000000) (maxDischargeDepth := 6) [hlen]
end Go.Proofs.YtlbjdkhpabpmiaaT
