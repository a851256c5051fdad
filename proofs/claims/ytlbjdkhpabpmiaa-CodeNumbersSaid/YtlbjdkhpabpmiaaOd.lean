/- Code: odd. -/
import Derived.Test.YtlbjdkhpabpmiaaKn
namespace Go.Proofs.YtlbjdkhpabpmiaaT
open Go Go.Proofs.YtlbjdkhpabpmiaaE Go.Proofs.YtlbjdkhpabpmiaaB
set_option linter.unusedSimpArgs false
set_option linter.unusedVariables false
attribute [local congr] Post_cg PostL_cg condP_cg
attribute [local simp ↓] P_skip P_exit P_ret P_seq P_cond P_blk P_reg P_draw P_nil P_cons op_len Post.some Post_bind Post_ret Post_draw PostL_nil PostL_cons op_islc step_none step_t step_f step_nt step_nf op_load op_store op_slice op_app
attribute [local simp] condP_t condP_f dum_ab stepR want_none want_some opRun ev_t ev_c put_none put_some resAll res_tmp res_cell oneOf minI maxI min2A max2A mn2 mx2 mx3 rdBlk wrBlk newBlk partA abin ibin isShift AV.cells AV.one lay sub fillA lenA toN allApart apartFrom Nat.testBit Mem.blk_set_same Mem.blk_set_ne Mem.set_set bit_zero bit_self lowBits_or lowBits_zero len_setT sl_same sl_ne len_frame sl_frame lenOp_slc lenOp_nils Post_fail ofOpt_some ofOpt_none eA_b eA_i eA_s eA_nn eA_np eA_pn eA_lnn eA_lnp eA_lpn eA_i2 eA_i3 blt_dec Nat.add_assoc keeps_refl keeps_at keeps_up new_one and_pow bit_hi lowBits_pow ble_dec fr_refl fr_at fr_up fr_p reps

theorem stF {H : Mem} {n b : Nat} {t : TypeId} {sz : Nat} {gg : Bool} {cs : List AV} (hb : H.blk b = some ⟨t, sz, true, gg, cs⟩) (hn : b < n) {j : Nat} (hj : j < cs.length) (x : AV) (hx : x.cells = [x]) (h1 : x.one = true) : ∃ H', (∀ lg, stA 1 (.ptr b j) x H n lg = some ⟨.tup [], H', n, bit lg b, bit lg b⟩) ∧ H'.blk b = some ⟨t, sz, true, gg, cs.set j x⟩ ∧ ∀ q, q ≠ b → H'.blk q = H.blk q := by
  have st := fun lg => st_at (n := 1) (o := j) hb hn x (by rw [hx]; rfl) (by rw [hx]; simp only [List.all_cons, List.all_nil, h1]; rfl) (by omega) lg
  rw [hx, lay_one _ _ _ hj] at st
  exact ⟨_, st, Mem.blk_set_same .., fun q hq => Mem.blk_set_ne _ _ _ _ hq⟩
theorem u8s_one : ∀ l : List Int, (u8s l).flatten.all AV.one = true
  | [] => rfl
  | x :: l => by
    have := u8s_one l
    unfold u8s at this ⊢
    rw [List.map_cons, List.flatten_cons, List.all_append, this]
    rfl
theorem bnds_one : ∀ B : List (Int × Int), (bnds B).flatten.all AV.one = true
  | [] => rfl
  | x :: B => by
    have := bnds_one B
    unfold bnds at this ⊢
    rw [List.map_cons, List.flatten_cons, List.all_append, this]
    rfl
/-- The method that is turned, as it stands. -/
structure OdS (h : Mem) (nx : Nat) (a t : Int) (lv cv : AV) (L : List (Int × Int)) (c : List Int) (H : Mem) (n : Nat) : Prop where
  hn : nx + 2 ≤ n
  b : H.blk nx = some ⟨37, 4, true, false, [.int .i64 a, .int .i64 t, lv, cv]⟩
  z : H.blk (nx + 1) = some ⟨37, 4, true, false, [.int .i64 0, .int .i64 0, .nils, .nils]⟩
  rl : RD 2 lv H n (bnds L)
  rc : RD 1 cv H n (u8s c)
  ok : Ok8 c
  lo : ∀ q, bid lv = some q → q ≠ nx ∧ q ≠ nx + 1
  co : ∀ q, bid cv = some q → q ≠ nx ∧ q ≠ nx + 1
  k : ∀ q, q < nx → H.blk q = h.blk q
theorem OdS.ld {h : Mem} {nx : Nat} {a t : Int} {lv cv : AV} {L : List (Int × Int)} {c : List Int} {H : Mem} {n : Nat} (g : OdS h nx a t lv cv L c H n) : (∀ lg, ldA none (.ptr nx 2) H n lg = some ⟨lv, H, n, bit lg nx, 0⟩) ∧ (∀ lg, ldA none (.ptr nx 3) H n lg = some ⟨cv, H, n, bit lg nx, 0⟩) ∧ (∀ lg, ldA (some 4) (.ptr nx 0) H n lg = some ⟨.agg [.int .i64 a, .int .i64 t, lv, cv], H, n, bit lg nx, 0⟩) := by
  have := g.hn
  exact ⟨fun lg => ld_at g.b (by omega) (o := 2) rfl lg, fun lg => ld_at g.b (by omega) (o := 3) rfl lg, fun lg => ld_sub (n := 4) (o := 0) g.b (by omega) (vs := [.int .i64 a, .int .i64 t, lv, cv]) rfl lg⟩
theorem OdS.fin {h : Mem} {nx : Nat} {a t : Int} {lv cv : AV} {L : List (Int × Int)} {c : List Int} {H : Mem} {n : Nat} (g : OdS h nx a t lv cv L c H n) (hL : L.length ≤ big) (hc : c.length ≤ big) : ∃ H', (∀ lg, stA 4 (.ptr (nx + 1) 0) (.agg [.int .i64 a, .int .i64 t, lv, cv]) H n lg = some ⟨.tup [], H', n, bit lg (nx + 1), bit lg (nx + 1)⟩) ∧ H'.blk (nx + 1) = some ⟨37, 4, true, false, [.int .i64 a, .int .i64 t, lv, cv]⟩ ∧ (∀ q, q < nx → H'.blk q = h.blk q) ∧ MR ⟨a, t, lv, L, cv, c⟩ H' n := by
  have hn := g.hn
  have k' : ∀ q, q ≠ nx + 1 → (H.set (nx + 1) (some ⟨37, 4, true, false, [.int .i64 a, .int .i64 t, lv, cv]⟩)).blk q = H.blk q := fun q hq => Mem.blk_set_ne _ _ _ _ hq
  refine ⟨_, st_at (n := 4) (o := 0) g.z (by omega) (.agg [.int .i64 a, .int .i64 t, lv, cv]) rfl (by simp only [AV.cells, List.all_cons, List.all_nil, g.rl.one.2, g.rc.one.2]; rfl) (by simp), Mem.blk_set_same .., fun q hq => (k' q (by omega)).trans (g.k q hq), ⟨⟨g.rl.keep (Nat.le_refl _) fun q hq _ => k' q (g.lo q hq).2, hL⟩, g.rc.keep (Nat.le_refl _) fun q hq _ => k' q (g.co q hq).2, g.ok, hc⟩⟩
/-- A field is laid. -/
theorem OdS.put {h : Mem} {nx : Nat} {a t : Int} {lv cv : AV} {L : List (Int × Int)} {c : List Int} {H : Mem} {n : Nat} (g : OdS h nx a t lv cv L c H n) (j : Nat) (x : AV) (hx : x.cells = [x]) (h1 : x.one = true) (a' t' : Int) (lv' cv' : AV) (L' : List (Int × Int)) (c' : List Int) (e : [AV.int .i64 a, .int .i64 t, lv, cv].set j x = [.int .i64 a', .int .i64 t', lv', cv']) (hj : j < 4) (rl : RD 2 lv' H n (bnds L')) (rc : RD 1 cv' H n (u8s c')) (ok : Ok8 c') (lo : ∀ q, bid lv' = some q → q ≠ nx ∧ q ≠ nx + 1) (co : ∀ q, bid cv' = some q → q ≠ nx ∧ q ≠ nx + 1) : ∃ H', (∀ lg, stA 1 (.ptr nx j) x H n lg = some ⟨.tup [], H', n, bit lg nx, bit lg nx⟩) ∧ OdS h nx a' t' lv' cv' L' c' H' n ∧ ∀ q, q ≠ nx → H'.blk q = H.blk q := by
  have hn := g.hn
  obtain ⟨H', st, b, k⟩ := stF g.b (show nx < n by omega) (j := j) hj x hx h1
  rw [e] at b
  exact ⟨H', st, ⟨hn, b, (k (nx + 1) (by omega)).trans g.z, rl.keep (Nat.le_refl _) fun q hq _ => k q (lo q hq).1, rc.keep (Nat.le_refl _) fun q hq _ => k q (co q hq).1, ok, lo, co, fun q hq => (k q (by omega)).trans (g.k q hq)⟩, k⟩
def OdQ (m : M) (r : AV) (h' : Mem) (nx' : Nat) : Prop := ∃ m' : M, r = .agg m'.cs ∧ MR m' h' nx' ∧ m'.c.length ≤ max m.c.length 140 ∧ m'.L.length ≤ m.L.length + 1
theorem odq {m m' : M} {h' : Mem} {nx' : Nat} (g : MR m' h' nx') (h1 : m'.c.length ≤ max m.c.length 140) (h2 : m'.L.length ≤ m.L.length + 1) : OdQ m (.agg m'.cs) h' nx' := ⟨m', rfl, g, h1, h2⟩
def OlI (h : Mem) (nx0 : Nat) (a t : Int) (lv : AV) (L : List (Int × Int)) (at0 n : Int) (b0 : Nat) (mm : Nat) (ts : List AV) (H : Mem) (nx tc wr : Nat) : Prop := ∃ (cv : AV) (c : List Int), mm = 400 - c.length ∧ c.length ≤ b0 ∧ ts.length = 111 ∧ sl ts 2 = .int .i64 at0 ∧ sl ts 3 = .int .i64 n ∧ sl ts 4 = .ptr nx0 0 ∧ sl ts 8 = .ptr (nx0 + 1) 0 ∧ OdS h nx0 a t lv cv L c H nx ∧ ∀ q, q < nx0 → wr &&& 2 ^ q = 0
def OlR (h : Mem) (nx0 : Nat) (a t : Int) (lv : AV) (L : List (Int × Int)) (b0 : Nat) (e : Ex) (ts : List AV) (H : Mem) (nx tc wr : Nat) : Prop := e = .exit 1 ∧ ∃ (cv : AV) (c : List Int), c.length ≤ b0 ∧ ts.length = 111 ∧ sl ts 4 = .ptr nx0 0 ∧ sl ts 8 = .ptr (nx0 + 1) 0 ∧ OdS h nx0 a t lv cv L c H nx ∧ ∀ q, q < nx0 → wr &&& 2 ^ q = 0
set_option maxHeartbeats 8000000 in
theorem ol_round {h : Mem} {nx0 : Nat} {a t : Int} {lv : AV} {L : List (Int × Int)} (at0 n : Int) {b0 : Nat} (hb0 : 140 ≤ b0) (hb1 : b0 ≤ 400) (lg : Nat) (hlg : lg ≤ nx0) (mm : Nat) (ts : List AV) (H : Mem) (nx tc wr : Nat) (hi : OlI h nx0 a t lv L at0 n b0 mm ts H nx tc wr) :
    Post (xC T 60 L11_0b ts H nx lg) fun v' h' nx' tc' wr' => Round (OlI h nx0 a t lv L at0 n b0) (OlR h nx0 a t lv L b0) mm v' h' nx' (tc ||| tc') (wr ||| wr') := by
  obtain ⟨cv, c, rfl, hc, hlen, g2, g3, g4, g8, S, hw⟩ := hi
  have hn := S.hn
  obtain ⟨_, lc, _⟩ := S.ld
  have ll := S.rc.lenOp
  rw [u8s_len] at ll
  have n1 : Go.bits .and .i64 n 1 = n % 2 := and_mask .i64 1 (by decide) n
  have w1 : IntKind.i64.wrap (2 * (n % 2)) = 2 * (n % 2) := by rw [IntKind.wrap_i64]; omega
  have w2 : IntKind.i64.wrap (128 + 2 * (n % 2)) = 128 + 2 * (n % 2) := by rw [IntKind.wrap_i64]; omega
  by_cases d : (c.length : Int) < 128 + 2 * (n % 2)
  · obtain ⟨w, hw8⟩ : ∃ w, w = IntKind.u8.wrap at0 := ⟨_, rfl⟩
    have hwb := u8_wrap at0
    rw [← hw8] at hwb
    have hw8' := hw8.symm
    obtain ⟨H1, eH1, b1, k1⟩ := mkvar H nx ⟨5, 1, true, false, [.int .u8 w, .int .u8 0]⟩
    have lc1 := fun lg => ld_at ((k1 nx0 (by omega)).trans S.b) (show nx0 < nx + 1 by omega) (o := 3) (v := cv) rfl lg
    have o1 : OW 1 (.slc nx 0 2 (some 2)) H1 (nx + 1) (u8s [w, 0]) := .inr (.inr (.inr ⟨nx, 5, 1, false, rfl, by omega, by unfold u8s; simp, b1⟩))
    have r1 := S.rc.keeps (nx' := nx + 1) (by omega) k1
    obtain ⟨s2, H2, n2, tc2, wr2, e2, hn2, o2, k2, d2, _, w2'⟩ := OW.cat (sz := 1) (by decide) 5 1 o1 r1 (fun k hk => fits_few (by rw [u8s_len, u8s_len] at hk; simp at hk; omega) (by omega)) (u8s_one _) lg
    rw [← u8s_app] at o2
    have kk : ∀ q, q < nx → H2.blk q = H.blk q := fun q hq => (k2 q (by omega) (fun e => by cases e; omega)).trans (k1 q hq)
    have own2 : ∀ q, bid s2 = some q → q ≠ nx0 ∧ q ≠ nx0 + 1 := fun q hq => by
      rcases d2 q hq with e | e
      · cases e; omega
      · omega
    have S2 : OdS h nx0 a t lv cv L c H2 n2 := ⟨by omega, (kk nx0 (by omega)).trans S.b, (kk (nx0 + 1) (by omega)).trans S.z, S.rl.keeps (by omega) kk, S.rc.keeps (by omega) kk, S.ok, S.lo, S.co, fun q hq => (kk q (by omega)).trans (S.k q hq)⟩
    obtain ⟨H3, sH3, S3, k3⟩ := S2.put 3 s2 o2.one.1 o2.one.2 a t lv s2 L ([w, 0] ++ c) rfl (by decide) S2.rl (o2.rd (by decide)) (fun x hx => by
      rcases List.mem_append.1 hx with hx | hx
      · simp only [List.mem_cons, List.not_mem_nil, or_false] at hx
        rcases hx with rfl | rfl
        · exact hwb
        · omega
      · exact S.ok x hx) S.lo own2
    simp (maxSteps := 4000000) (maxDischargeDepth := 6) [L11_0b, hlen, g2, g3, g4, g8, lc, ll, n1, w1, w2, d, hw8', eH1, lc1, e2, sH3]
    refine Round.nor (m' := 400 - ([w, 0] ++ c).length) (by rw [List.length_append]; simp only [List.length_cons, List.length_nil]; omega) ⟨s2, [w, 0] ++ c, rfl, by rw [List.length_append]; simp only [List.length_cons, List.length_nil]; omega, ?_, ?_, ?_, ?_, ?_, S3, fun q hq => ?_⟩
    any_goals simp [len_setT, sl_same, sl_ne, hlen, g2, g3, g4, g8]
    have z2 := w2' q (fun e => by cases e; omega)
    simp only [Nat.and_or_distrib_right, hw q hq, z2, bit_and (lg := lg) (show q ≠ nx0 by omega), Nat.or_zero, Nat.zero_or]
  · simp (maxSteps := 4000000) (maxDischargeDepth := 6) [L11_0b, hlen, g2, g3, g4, g8, lc, ll, n1, w1, w2, d]
    refine Round.exit (R := OlR h nx0 a t lv L b0) ⟨rfl, cv, c, hc, ?_, ?_, ?_, S, hw⟩ <;> simp [len_setT, sl_same, sl_ne, hlen, g4, g8]
set_option maxHeartbeats 32000000 in
theorem odd_nw {m : M} {h : Mem} {nx : Nat} (g : MR m h nx) (hc : m.c.length ≤ 400) (hL : m.L.length ≤ 400) (what at0 n : Int) : NwC T 1200 11 [.agg m.cs, .int .i64 what, .int .i64 at0, .int .i64 n] h nx fun r h' nx' => OdQ m r h' nx' := by
  intro lg hlg
  rw [xF_fr T11]
  obtain ⟨wj, wj1, wj2, _, wy⟩ := within_ex what 0 7 (by omega) (by omega) (by omega)
  obtain ⟨H0, eH0, b0, k0, g0⟩ := g.box
  obtain ⟨H1, eH1, b1, k1⟩ := mkvar H0 (nx + 1) ⟨37, 4, true, false, [.int .i64 0, .int .i64 0, .nils, .nils]⟩
  obtain ⟨H2, eH2, b2, k2⟩ := mkvar H1 (nx + 2) ⟨5, 1, true, false, []⟩
  have g2 := (g0.keeps (nx' := nx + 2) (by omega) k1).keeps (nx' := nx + 3) (by omega) k2
  have o2 : OW 1 (.slc (nx + 2) 0 0 (some 0)) H2 (nx + 3) [] := .inr (.inl ⟨nx + 2, rfl, rfl, by omega, _, b2⟩)
  have l3 := fun lg => ld_at ((k2 nx (by omega)).trans ((k1 nx (by omega)).trans b0)) (show nx < nx + 3 by omega) (o := 3) (v := m.cv) rfl lg
  obtain ⟨c3, H3, n3, tc3, wr3, e3, hn3, o3, k3, d3, _, w3⟩ := OW.cat (sz := 1) (by decide) 5 1 o2 g2.c (fun k hk => fits_few (by rw [u8s_len] at hk; simp at hk; omega) (by omega)) (u8s_one _) lg
  rw [List.nil_append] at o3
  have kk3 : ∀ q, q < nx + 2 → H3.blk q = H1.blk q := fun q hq => (k3 q (by omega) (fun e => by cases e; omega)).trans (k2 q hq)
  have own3 : ∀ q, bid c3 = some q → nx + 1 < q := fun q hq => by
    rcases d3 q hq with e | e
    · cases e; omega
    · omega
  have g3 : MR m H3 n3 := (g0.keeps (nx' := nx + 2) (by omega) k1).keeps (by omega) kk3
  have S3 : OdS h nx m.a m.t m.lv m.cv m.L m.c H3 n3 := ⟨by omega, (kk3 nx (by omega)).trans ((k1 nx (by omega)).trans b0), (kk3 (nx + 1) (by omega)).trans b1, g3.l.r, g3.c, g.ok, fun q hq => by have := g.l.r.lt hq; omega, fun q hq => by have := g.c.lt hq; omega, fun q hq => (kk3 q (by omega)).trans ((k1 q (by omega)).trans (k0 q hq))⟩
  obtain ⟨H4, s4, S4, k4⟩ := S3.put 3 c3 o3.one.1 o3.one.2 m.a m.t m.lv c3 m.L m.c rfl (by decide) S3.rl (o3.rd (by decide)) g.ok S3.lo (fun q hq => by have := own3 q hq; omega)
  obtain ⟨H5, eH5, b5, k5⟩ := mkvar H4 n3 ⟨41, 2, true, false, []⟩
  have o5 : OW 2 (.slc n3 0 0 (some 0)) H5 (n3 + 1) [] := .inr (.inl ⟨n3, rfl, rfl, by omega, _, b5⟩)
  have l5 := fun lg => ld_at ((k5 nx (by omega)).trans S4.b) (show nx < n3 + 1 by omega) (o := 2) (v := m.lv) rfl lg
  obtain ⟨l6, H6, n6, tc6, wr6, e6, hn6, o6, k6, d6, _, w6⟩ := OW.cat (sz := 2) (by decide) 41 16 o5 (S4.rl.keeps (nx' := n3 + 1) (by omega) k5) (fun k hk => fits_few (by rw [bnds_len] at hk; simp at hk; omega) (by omega)) (bnds_one _) lg
  rw [List.nil_append] at o6
  have kk6 : ∀ q, q < n3 → H6.blk q = H4.blk q := fun q hq => (k6 q (by omega) (fun e => by cases e; omega)).trans (k5 q hq)
  have own6 : ∀ q, bid l6 = some q → n3 ≤ q := fun q hq => by
    rcases d6 q hq with e | e
    · cases e; omega
    · omega
  have S6 : OdS h nx m.a m.t m.lv c3 m.L m.c H6 n6 := ⟨by omega, (kk6 nx (by omega)).trans S4.b, (kk6 (nx + 1) (by omega)).trans S4.z, S4.rl.keeps (by omega) kk6, S4.rc.keeps (by omega) kk6, g.ok, S4.lo, S4.co, fun q hq => (kk6 q (by omega)).trans (S4.k q hq)⟩
  obtain ⟨H7, s7, S7, k7⟩ := S6.put 2 l6 o6.one.1 o6.one.2 m.a m.t l6 c3 m.L m.c rfl (by decide) (o6.rd (by decide)) S6.rc g.ok (fun q hq => by have := own6 q hq; omega) S6.co
  have oc : OW 1 c3 H7 n6 (u8s m.c) := o3.keep (by omega) fun q hq => by have := own3 q hq; have := o3.lt hq; rw [k7 q (by omega), kk6 q (by omega), k4 q (by omega)]
  have ol : OW 2 l6 H7 n6 (bnds m.L) := o6.keep (by omega) fun q hq => by have := own6 q hq; rw [k7 q (by omega)]
  have z3 : ∀ q, q < nx → wr3 &&& 2 ^ q = 0 := fun q hq => w3 q fun e => by cases e; omega
  have z6 : ∀ q, q < nx → wr6 &&& 2 ^ q = 0 := fun q hq => w6 q fun e => by cases e; omega
  have bz : bit lg nx = 0 := bit_up hlg
  have bz1 : bit lg (nx + 1) = 0 := bit_up (by omega)
  have lc := oc.lenOp
  have ll := ol.lenOp
  rw [u8s_len] at lc
  rw [bnds_len] at ll
  obtain ⟨f2, f3, f4⟩ := S7.ld
  have big1 : m.c.length ≤ big := g.n
  have big2 : m.L.length ≤ big := g.l.n
  have hnn : nx + 1 < n6 := by omega
  have hw : wj = 0 ∨ wj = 1 ∨ wj = 2 ∨ wj = 3 ∨ wj = 4 ∨ wj = 5 ∨ wj = 6 ∨ wj = 7 := by omega
  rcases hw with rfl | rfl | rfl | rfl | rfl | rfl | rfl | rfl
  · obtain ⟨H8, s8, S8, _⟩ := S7.put 0 (.int .i64 n) rfl rfl n m.t l6 c3 m.L m.c rfl (by decide) S7.rl S7.rc S7.ok S7.lo S7.co
    obtain ⟨H9, s9, b9, k9, mr9⟩ := S8.fin big2 big1
    have f8 := S8.ld.2.2
    simp (maxSteps := 4000000) (maxDischargeDepth := 6) [F11, eH0, eH1, eH2, l3, e3, s4, eH5, l5, e6, s7, wy, s8, f8, s9, b9, hnn, bz, bz1]
    refine ⟨odq mr9 (by simp only; omega) (by simp only; omega), by omega, k9, fun q hq => ?_⟩
    simp only [Nat.and_or_distrib_right, z3 q hq, z6 q hq, low_z (bit_and (show q ≠ nx by omega)), Nat.or_zero, Nat.zero_or]
  · obtain ⟨H8, s8, S8, _⟩ := S7.put 1 (.int .i64 n) rfl rfl m.a n l6 c3 m.L m.c rfl (by decide) S7.rl S7.rc S7.ok S7.lo S7.co
    obtain ⟨H9, s9, b9, k9, mr9⟩ := S8.fin big2 big1
    have f8 := S8.ld.2.2
    simp (maxSteps := 4000000) (maxDischargeDepth := 6) [F11, eH0, eH1, eH2, l3, e3, s4, eH5, l5, e6, s7, wy, s8, f8, s9, b9, hnn, bz, bz1]
    refine ⟨odq mr9 (by simp only; omega) (by simp only; omega), by omega, k9, fun q hq => ?_⟩
    simp only [Nat.and_or_distrib_right, z3 q hq, z6 q hq, low_z (bit_and (show q ≠ nx by omega)), Nat.or_zero, Nat.zero_or]
  · by_cases z : m.c.length = 0
    · have z' : ¬ 0 < m.c.length := by omega
      obtain ⟨H9, s9, b9, k9, mr9⟩ := S7.fin big2 big1
      have f8 := S7.ld.2.2
      simp (maxSteps := 4000000) (maxDischargeDepth := 6) [F11, eH0, eH1, eH2, l3, e3, s4, eH5, l5, e6, s7, wy, f3, lc, z', f8, s9, b9, hnn, bz, bz1]
      refine ⟨odq mr9 (by simp only; omega) (by simp only; omega), by omega, k9, fun q hq => ?_⟩
      simp only [Nat.and_or_distrib_right, z3 q hq, z6 q hq, low_z (bit_and (show q ≠ nx by omega)), Nat.or_zero, Nat.zero_or]
    · have z' : 0 < m.c.length := by omega
      have wl : IntKind.i64.wrap ((m.c.length : Int) - 1) = (m.c.length : Int) - 1 := by rw [IntKind.wrap_i64]; omega
      obtain ⟨wi, wi1, wi2, _, wx⟩ := within_ex at0 0 ((m.c.length : Int) - 1) (by omega) (by omega) (by omega)
      obtain ⟨k, rfl⟩ : ∃ i : Nat, wi = i := ⟨wi.toNat, by omega⟩
      have hk : k < m.c.length := by omega
      obtain ⟨w, hw8⟩ : ∃ w, w = IntKind.u8.wrap n := ⟨_, rfl⟩
      have hwb := u8_wrap n
      rw [← hw8] at hwb
      have hw8' := hw8.symm
      obtain ⟨bc, hbc, hbcn, pl, _, st⟩ := oc.at (i := k) (by rw [u8s_len]; exact hk)
      obtain ⟨H8, s8, o8, k8⟩ := st 0 (by decide) (.int .u8 w) rfl rfl
      simp only [Nat.mul_one, Nat.add_zero] at pl s8
      have e8 : (u8s m.c).set k (((u8s m.c)[k]'(by rw [u8s_len]; exact hk)).set 0 (.int .u8 w)) = u8s (m.c.set k w) := by
        rw [u8s_at]
        unfold u8s
        rw [List.map_set]
        rfl
      rw [e8] at o8
      have hbc3 := own3 bc hbc
      have ne : ∀ q, bid l6 = some q → q ≠ bc := fun q hq e => by have := own6 q hq; have := o3.lt hbc; omega
      have S8 : OdS h nx m.a m.t l6 c3 m.L (m.c.set k w) H8 n6 := ⟨S7.hn, (k8 nx (by omega)).trans S7.b, (k8 (nx + 1) (by omega)).trans S7.z, S7.rl.keep (Nat.le_refl _) fun q hq _ => k8 q (ne q hq), o8.rd (by decide), fun x hx => by
        rcases List.mem_or_eq_of_mem_set hx with hx | rfl
        · exact g.ok x hx
        · exact hwb, S7.lo, S7.co, fun q hq => (k8 q (by omega)).trans (S7.k q hq)⟩
      have bzc : bit lg bc = 0 := bit_up (by omega)
      obtain ⟨H9, s9, b9, k9, mr9⟩ := S8.fin big2 (by rw [List.length_set]; exact big1)
      have f8 := S8.ld.2.2
      simp (maxSteps := 4000000) (maxDischargeDepth := 6) [F11, eH0, eH1, eH2, l3, e3, s4, eH5, l5, e6, s7, wy, f3, lc, z', wl, wx, pl, hw8', s8, f8, s9, b9, hnn, bz, bz1, bzc]
      refine ⟨odq mr9 (by simp only [List.length_set]; omega) (by simp only; omega), by omega, k9, fun q hq => ?_⟩
      simp only [Nat.and_or_distrib_right, z3 q hq, z6 q hq, low_z (bit_and (show q ≠ bc by omega)), Nat.or_zero, Nat.zero_or]
  · obtain ⟨wi, wi1, wi2, _, wx⟩ := within_ex at0 0 (m.c.length : Int) (by omega) (by omega) (by omega)
    obtain ⟨k, rfl⟩ : ∃ i : Nat, wi = i := ⟨wi.toNat, by omega⟩
    have hk : k ≤ m.c.length := by omega
    obtain ⟨y, ry, yb, cu⟩ := S7.rc.cut (a := 0) (e := k) (Nat.zero_le _) (by rw [u8s_len]; exact hk) none (some (.int .i64 (k : Nat))) (.inl ⟨rfl, rfl⟩) (.inr rfl)
    rw [List.drop_zero, Nat.sub_zero, show (u8s m.c).take k = u8s (m.c.take k) by unfold u8s; rw [List.map_take]] at ry
    obtain ⟨H8, s8, S8, _⟩ := S7.put 3 y ry.one.1 ry.one.2 m.a m.t l6 y m.L (m.c.take k) rfl (by decide) S7.rl ry (fun x hx => g.ok x (List.mem_of_mem_take hx)) S7.lo (fun q hq => S7.co q (yb ▸ hq))
    have cu1 := fun lg => (cu lg)
    obtain ⟨tcc, cu2, tcz⟩ := cu n6
    obtain ⟨H9, s9, b9, k9, mr9⟩ := S8.fin big2 (by rw [List.length_take]; omega)
    have f8 := S8.ld.2.2
    simp (maxSteps := 4000000) (maxDischargeDepth := 6) [F11, eH0, eH1, eH2, l3, e3, s4, eH5, l5, e6, s7, wy, f3, lc, wx, cu2, s8, f8, s9, b9, hnn, bz, bz1]
    refine ⟨odq mr9 (by simp only [List.length_take]; omega) (by simp only; omega), by omega, k9, fun q hq => ?_⟩
    simp only [Nat.and_or_distrib_right, z3 q hq, z6 q hq, low_z (bit_and (show q ≠ nx by omega)), Nat.or_zero, Nat.zero_or]
  · obtain ⟨l8, H8, n8, tc8, wr8, e8, hn8, o8, k8, d8, _, w8⟩ := OW.push (sz := 2) (by decide) 41 16 ol [.int .i64 n, .int .i64 at0] rfl (fun k hk => fits_few (by rw [bnds_len] at hk; omega) (by omega)) rfl 41 2 lg
    rw [show bnds m.L ++ [[AV.int .i64 n, AV.int .i64 at0]] = bnds (m.L ++ [(n, at0)]) by unfold bnds; rw [List.map_append]; rfl] at o8
    have own8 : ∀ q, bid l8 = some q → n3 ≤ q := fun q hq => by
      rcases d8 q hq with e | e
      · exact own6 q e
      · omega
    have no : ∀ q, q < n3 → bid l6 ≠ some q := fun q hq e => by have := own6 q e; omega
    have kk8 : ∀ q, q < n3 → H8.blk q = H7.blk q := fun q hq => k8 q (by omega) (no q hq)
    have b8 := (kk8 nx (by omega)).trans S7.b
    obtain ⟨H9', s9', b9', k9'⟩ := stF b8 (show nx < n8 by omega) (j := 2) (by simp) l8 o8.one.1 o8.one.2
    have S9 : OdS h nx m.a m.t l8 c3 (m.L ++ [(n, at0)]) m.c H9' n8 := ⟨by omega, b9', (k9' (nx + 1) (by omega)).trans ((kk8 (nx + 1) (by omega)).trans S7.z), (o8.keep (Nat.le_refl _) fun q hq => k9' q (by have := own8 q hq; omega)).rd (by decide), S7.rc.keep (by omega) fun q hq _ => (k9' q (by have := own3 q hq; omega)).trans (kk8 q (o3.lt hq)), g.ok, (fun q hq => by have := own8 q hq; omega), S7.co, fun q hq => (k9' q (by omega)).trans ((kk8 q (by omega)).trans (S7.k q hq))⟩
    have hnn : nx + 1 < n8 := by omega
    have z8 : ∀ q, q < nx → wr8 &&& 2 ^ q = 0 := fun q hq => w8 q (no q (by omega))
    obtain ⟨H9, s9, b9, k9, mr9⟩ := S9.fin (by rw [List.length_append]; simp; unfold big; omega) big1
    have f8 := S9.ld.2.2
    simp (maxSteps := 4000000) (maxDischargeDepth := 6) [F11, eH0, eH1, eH2, l3, e3, s4, eH5, l5, e6, s7, wy, f2, ll, e8, s9', f8, s9, b9, hnn, bz, bz1]
    refine ⟨odq mr9 (by simp only; omega) (by simp only [List.length_append, List.length_singleton]; omega), by omega, k9, fun q hq => ?_⟩
    simp only [Nat.and_or_distrib_right, z3 q hq, z6 q hq, z8 q hq, Nat.or_zero, Nat.zero_or]
  · by_cases z : m.L.length = 0
    · have z' : ¬ 0 < m.L.length := by omega
      obtain ⟨H9, s9, b9, k9, mr9⟩ := S7.fin big2 big1
      have f8 := S7.ld.2.2
      simp (maxSteps := 4000000) (maxDischargeDepth := 6) [F11, eH0, eH1, eH2, l3, e3, s4, eH5, l5, e6, s7, wy, f2, ll, z', f8, s9, b9, hnn, bz, bz1]
      refine ⟨odq mr9 (by simp only; omega) (by simp only; omega), by omega, k9, fun q hq => ?_⟩
      simp only [Nat.and_or_distrib_right, z3 q hq, z6 q hq, low_z (bit_and (show q ≠ nx by omega)), Nat.or_zero, Nat.zero_or]
    · have z' : 0 < m.L.length := by omega
      have wl : IntKind.i64.wrap ((m.L.length : Int) - 1) = (m.L.length : Int) - 1 := by rw [IntKind.wrap_i64]; omega
      obtain ⟨wi, wi1, wi2, _, wx⟩ := within_ex at0 0 ((m.L.length : Int) - 1) (by omega) (by omega) (by omega)
      obtain ⟨k, rfl⟩ : ∃ i : Nat, wi = i := ⟨wi.toNat, by omega⟩
      have hk : k < m.L.length := by omega
      obtain ⟨bc, hbc, hbcn, pl, _, st⟩ := ol.at (i := k) (by rw [bnds_len]; exact hk)
      obtain ⟨H8, s8, o8, k8⟩ := st 1 (by decide) (.int .i64 n) rfl rfl
      have e8 : (bnds m.L).set k (((bnds m.L)[k]'(by rw [bnds_len]; exact hk)).set 1 (.int .i64 n)) = bnds (m.L.set k (m.L[k].1, n)) := by
        rw [bnds_at]
        unfold bnds
        rw [List.map_set]
        rfl
      rw [e8] at o8
      have hbc3 := own6 bc hbc
      have ne : ∀ q, bid c3 = some q → q ≠ bc := fun q hq e => by have := o3.lt hq; omega
      have S8 : OdS h nx m.a m.t l6 c3 (m.L.set k (m.L[k].1, n)) m.c H8 n6 := ⟨S7.hn, (k8 nx (by omega)).trans S7.b, (k8 (nx + 1) (by omega)).trans S7.z, o8.rd (by decide), S7.rc.keep (Nat.le_refl _) fun q hq _ => k8 q (ne q hq), g.ok, S7.lo, S7.co, fun q hq => (k8 q (by omega)).trans (S7.k q hq)⟩
      have bzc : bit lg bc = 0 := bit_up (by omega)
      obtain ⟨H9, s9, b9, k9, mr9⟩ := S8.fin (by rw [List.length_set]; exact big2) big1
      have f8 := S8.ld.2.2
      simp (maxSteps := 4000000) (maxDischargeDepth := 6) [F11, eH0, eH1, eH2, l3, e3, s4, eH5, l5, e6, s7, wy, f2, ll, z', wl, wx, pl, s8, f8, s9, b9, hnn, bz, bz1, bzc]
      refine ⟨odq mr9 (by simp only; omega) (by simp only [List.length_set]; omega), by omega, k9, fun q hq => ?_⟩
      simp only [Nat.and_or_distrib_right, z3 q hq, z6 q hq, low_z (bit_and (show q ≠ bc by omega)), Nat.or_zero, Nat.zero_or]
  · simp (maxSteps := 4000000) (maxDischargeDepth := 6) [F11, eH0, eH1, eH2, l3, e3, s4, eH5, l5, e6, s7, wy, bz, bz1, L11_0]
    refine Post.loop (ol_round (h := h) (nx0 := nx) (a := m.a) (t := m.t) (lv := l6) (L := m.L) at0 n (b0 := max m.c.length 140) (by omega) (by omega) lg hlg) (400 - m.c.length) ⟨c3, m.c, rfl, by omega, ?_, ?_, ?_, ?_, ?_, S7, fun q _ => Nat.zero_and _⟩ (by omega) ?_
    any_goals simp (maxDischargeDepth := 6) [len_setT, sl_same, sl_ne, sl_frame, len_frame]
    rintro e ts' H8 n8 tc8 wr8 ⟨rfl, cv8, c8, hc8, hlen, t4, t8, S8, w8⟩
    obtain ⟨H9, s9, b9, k9, mr9⟩ := S8.fin big2 (by unfold big; omega)
    have f8 := S8.ld.2.2
    have hnn : nx + 1 < n8 := by have := S8.hn; omega
    simp (maxSteps := 4000000) (maxDischargeDepth := 6) [hlen, t4, t8, f8, s9, b9, hnn, bz, bz1]
    refine ⟨odq mr9 hc8 (by simp only; omega), by omega, k9, fun q hq => ?_⟩
    simp only [Nat.and_or_distrib_right, z3 q hq, z6 q hq, w8 q hq, Nat.or_zero, Nat.zero_or]
  · obtain ⟨wi, wi1, wi2, _, wx⟩ := within_ex at0 0 (m.L.length : Int) (by omega) (by omega) (by omega)
    obtain ⟨k, rfl⟩ : ∃ i : Nat, wi = i := ⟨wi.toNat, by omega⟩
    have hk : k ≤ m.L.length := by omega
    obtain ⟨y, ry, yb, cu⟩ := S7.rl.cut (a := 0) (e := k) (Nat.zero_le _) (by rw [bnds_len]; exact hk) none (some (.int .i64 (k : Nat))) (.inl ⟨rfl, rfl⟩) (.inr rfl)
    rw [List.drop_zero, Nat.sub_zero, show (bnds m.L).take k = bnds (m.L.take k) by unfold bnds; rw [List.map_take]] at ry
    obtain ⟨H8, s8, S8, _⟩ := S7.put 2 y ry.one.1 ry.one.2 m.a m.t y c3 (m.L.take k) m.c rfl (by decide) ry S7.rc g.ok (fun q hq => S7.lo q (yb ▸ hq)) S7.co
    obtain ⟨tcc, cu2, tcz⟩ := cu n6
    obtain ⟨H9, s9, b9, k9, mr9⟩ := S8.fin (by rw [List.length_take]; omega) big1
    have f8 := S8.ld.2.2
    simp (maxSteps := 4000000) (maxDischargeDepth := 6) [F11, eH0, eH1, eH2, l3, e3, s4, eH5, l5, e6, s7, wy, f2, ll, wx, cu2, s8, f8, s9, b9, hnn, bz, bz1]
    refine ⟨odq mr9 (by simp only; omega) (by simp only [List.length_take]; omega), by omega, k9, fun q hq => ?_⟩
    simp only [Nat.and_or_distrib_right, z3 q hq, z6 q hq, low_z (bit_and (show q ≠ nx by omega)), Nat.or_zero, Nat.zero_or]
end Go.Proofs.YtlbjdkhpabpmiaaT
