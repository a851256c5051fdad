/- Code: CodeTells. -/
import Derived.Test.YtlbjdkhpabpmiaaOd
import Derived.Test.YtlbjdkhpabpmiaaPu
namespace Go.Proofs.YtlbjdkhpabpmiaaT
open Go Go.Proofs.YtlbjdkhpabpmiaaE Go.Proofs.YtlbjdkhpabpmiaaB
set_option linter.unusedSimpArgs false
set_option linter.unusedVariables false
attribute [local congr] Post_cg PostL_cg condP_cg
attribute [local simp ↓] P_skip P_exit P_ret P_seq P_cond P_blk P_reg P_draw P_nil P_cons op_len Post.some Post_bind Post_ret Post_draw PostL_nil PostL_cons op_islc step_none step_t step_f step_nt step_nf op_load op_store op_slice op_app
attribute [local simp] condP_t condP_f dum_ab stepR want_none want_some opRun ev_t ev_c put_none put_some resAll res_tmp res_cell oneOf minI maxI min2A max2A mn2 mx2 mx3 rdBlk wrBlk newBlk partA abin ibin isShift AV.cells AV.one lay sub fillA lenA toN allApart apartFrom Nat.testBit Mem.blk_set_same Mem.blk_set_ne Mem.set_set bit_zero bit_self lowBits_or lowBits_zero len_setT sl_same sl_ne len_frame sl_frame lenOp_slc lenOp_nils Post_fail ofOpt_some ofOpt_none eA_b eA_i eA_s eA_nn eA_np eA_pn eA_lnn eA_lnp eA_lpn eA_i2 eA_i3 blt_dec Nat.add_assoc keeps_refl keeps_at keeps_up new_one and_pow bit_hi lowBits_pow ble_dec fr_refl fr_at fr_up fr_p reps

theorem ints_of {h : Mem} {nx : Nat} : ∀ {l : List (List AV)}, (∀ y ∈ l, KdsV h nx [.l (.i .i64)] y) → ∃ ws : List Int, l = i64s ws
  | [], _ => ⟨[], rfl⟩
  | y :: l, g => by
    obtain ⟨ws, h1⟩ := ints_of (l := l) fun z hz => g z (by simp [hz])
    have := g y (by simp)
    simp only [KdsV, KdV, LeafV] at this
    obtain ⟨_, _, rfl, ⟨w, rfl, _⟩, rfl⟩ := this
    exact ⟨w :: ws, by rw [h1]; rfl⟩
theorem tape_of {h : Mem} {nx : Nat} {v : AV} (g : KdV h nx (.sl [.l (.i .i64)]) v) : ∃ T0, RD 1 v h nx (i64s T0) ∧ T0.length ≤ big := by
  obtain ⟨L, r, hl, hk⟩ := g.rd
  obtain ⟨ws, rfl⟩ := ints_of hk
  exact ⟨ws, r, by rw [i64s_len] at hl; unfold maxLen at hl; unfold big; omega⟩
theorem bytes_of {h : Mem} {nx : Nat} : ∀ {l : List (List AV)}, (∀ y ∈ l, KdsV h nx [.l (.i .u8)] y) → ∃ ws : List Int, l = u8s ws ∧ Ok8 ws
  | [], _ => ⟨[], rfl, fun x hx => nomatch hx⟩
  | y :: l, g => by
    obtain ⟨ws, h1, h2⟩ := bytes_of (l := l) fun z hz => g z (by simp [hz])
    have := g y (by simp)
    simp only [KdsV, KdV, LeafV] at this
    obtain ⟨_, _, rfl, ⟨w, rfl, hw⟩, rfl⟩ := this
    refine ⟨w :: ws, by rw [h1]; rfl, fun x hx => ?_⟩
    rcases List.mem_cons.1 hx with rfl | hx
    · have e0 : IntKind.u8.min = 0 := by decide
      have e1 : IntKind.u8.max = 255 := by decide
      simp [Lit.wf, e0, e1] at hw
      omega
    · exact h2 x hx
theorem pairs_of {h : Mem} {nx : Nat} : ∀ {l : List (List AV)}, (∀ y ∈ l, KdsV h nx [.l (.i .i64), .l (.i .i64)] y) → ∃ B, l = bnds B
  | [], _ => ⟨[], rfl⟩
  | y :: l, g => by
    obtain ⟨B, h1⟩ := pairs_of (l := l) fun z hz => g z (by simp [hz])
    have := g y (by simp)
    simp only [KdsV, KdV, LeafV] at this
    obtain ⟨_, _, rfl, ⟨a, rfl, _⟩, _, _, rfl, ⟨b, rfl, _⟩, rfl⟩ := this
    exact ⟨(a, b) :: B, by rw [h1]; rfl⟩
theorem v2_of : ∀ {l : List (List AV)}, (∀ y ∈ l, V2 y) → ∃ B, l = bnds B
  | [], _ => ⟨[], rfl⟩
  | y :: l, g => by
    obtain ⟨B, h1⟩ := v2_of (l := l) fun z hz => g z (by simp [hz])
    obtain ⟨a, b, rfl⟩ := g y (by simp)
    exact ⟨(a, b) :: B, by rw [h1]; rfl⟩
theorem tp_of {h : Mem} {nx : Nat} {v : AV} {T0 : List Int} (r : RD 1 v h nx (i64s T0)) (hl : T0.length ≤ big) : TP (h.set nx (some ⟨32, 2, true, false, [v, .int .i64 0]⟩)) (nx + 1) nx v T0 :=
  ⟨by omega, ⟨0, Nat.zero_le _, Mem.blk_set_same ..⟩, r.keeps (by omega) fun q hq => Mem.blk_set_ne _ _ _ _ (by omega), fun e => by have := r.lt e; omega, hl⟩
theorem MR.cutC {m : M} {h : Mem} {nx : Nat} (g : MR m h nx) {j : Nat} (hj : j ≤ m.c.length) : ∃ y, MR ⟨m.a, m.t, m.lv, m.L, y, m.c.take j⟩ h nx ∧ bid y = bid m.cv ∧ ∀ lg, ∃ tc, sliceA 1 m.cv none (some (.int .i64 (j : Nat))) none h nx lg = some ⟨y, h, nx, tc, 0⟩ := by
  obtain ⟨y, ry, yb, cu⟩ := g.c.cut (a := 0) (e := j) (Nat.zero_le _) (by rw [u8s_len]; exact hj) none (some (.int .i64 (j : Nat))) (.inl ⟨rfl, rfl⟩) (.inr rfl)
  rw [List.drop_zero, Nat.sub_zero, show (u8s m.c).take j = u8s (m.c.take j) by unfold u8s; rw [List.map_take]] at ry
  exact ⟨y, ⟨g.l, ry, fun x hx => g.ok x (List.mem_of_mem_take hx), by show (m.c.take j).length ≤ big; have := g.n; rw [List.length_take]; omega⟩, yb, fun lg => by obtain ⟨tc, e, _⟩ := cu lg; exact ⟨tc, e⟩⟩
theorem MR.cutL {m : M} {h : Mem} {nx : Nat} (g : MR m h nx) {j : Nat} (hj : j ≤ m.L.length) : ∃ y, MR ⟨m.a, m.t, y, m.L.take j, m.cv, m.c⟩ h nx ∧ bid y = bid m.lv ∧ ∀ lg, ∃ tc, sliceA 2 m.lv none (some (.int .i64 (j : Nat))) none h nx lg = some ⟨y, h, nx, tc, 0⟩ := by
  obtain ⟨y, ry, yb, cu⟩ := g.l.r.cut (a := 0) (e := j) (Nat.zero_le _) (by rw [bnds_len]; exact hj) none (some (.int .i64 (j : Nat))) (.inl ⟨rfl, rfl⟩) (.inr rfl)
  rw [List.drop_zero, Nat.sub_zero, show (bnds m.L).take j = bnds (m.L.take j) by unfold bnds; rw [List.map_take]] at ry
  exact ⟨y, ⟨⟨ry, by show (m.L.take j).length ≤ big; have := g.l.n; rw [List.length_take]; omega⟩, g.c, g.ok, g.n⟩, yb, fun lg => by obtain ⟨tc, e, _⟩ := cu lg; exact ⟨tc, e⟩⟩
theorem MR.other {m : M} {H H' : Mem} {n b : Nat} (g : MR m H n) (k : ∀ q, q ≠ b → H'.blk q = H.blk q) (h1 : bid m.lv ≠ some b) (h2 : bid m.cv ≠ some b) : MR m H' n :=
  ⟨⟨g.l.r.keep (Nat.le_refl _) fun q hq _ => k q fun e => h1 (e ▸ hq), g.l.n⟩, g.c.keep (Nat.le_refl _) fun q hq _ => k q fun e => h2 (e ▸ hq), g.ok, g.n⟩
theorem bit_bit {lg a b : Nat} (h : a ≠ b) : bit lg a &&& bit lg b = 0 := and_zero fun q => by
  by_cases c : q = a
  · exact .inr (bit_and (by omega))
  · exact .inl (bit_and c)
/-- A row that is read lies in no variable. -/
theorem dodge {sz : Nat} {x : AV} {H H' : Mem} {n : Nat} {L : List (List AV)} (g : RD sz x H n L) {b : Nat} {t : TypeId} {z : Nat} {cs : List AV} (k : ∀ q, q ≠ b → H'.blk q = H.blk q) (hb : H.blk b = some ⟨t, z, true, false, cs⟩) (hne : L ≠ [] → ∀ o, sub cs o (L.length * sz) ≠ some L.flatten) : RD sz x H' n L := by
  rcases g with g | ⟨b', o, c, rfl, hb', hs, g⟩
  · exact .inl g
  · refine .inr ⟨b', o, c, rfl, hb', hs, ?_⟩
    by_cases e : b' = b
    · subst e
      rcases g with ⟨cap, rfl, hc, rfl | ⟨K, hK, hsub⟩⟩ | ⟨rfl, _, K, hK, hg, _, _⟩
      · exact .inl ⟨cap, rfl, hc, .inl rfl⟩
      · rw [hb] at hK; cases hK
        by_cases l0 : L = []
        · exact .inl ⟨cap, rfl, hc, .inl l0⟩
        · exact absurd hsub (hne l0 o)
      · rw [hb] at hK; cases hK; cases hg
    · rw [k b' e]; exact g
theorem dodgeM {m mb : M} {H H' : Mem} {n b : Nat} (g : MR m H n) (hL : m.L.length = 14) {nb : Nat} {Hb : Mem} (gb : MR mb Hb nb) (k : ∀ q, q ≠ b → H'.blk q = H.blk q) (hb : H.blk b = some ⟨37, 4, true, false, mb.cs⟩) : MR m H' n := by
  refine ⟨⟨dodge g.l.r k hb fun _ o e => ?_, g.l.n⟩, dodge g.c k hb fun hne o e => ?_, g.ok, g.n⟩
  · have := (sub_inv e).1
    rw [bnds_len, hL] at this
    simp [M.cs] at this
  · cases hc : m.c with
    | nil => rw [hc] at hne; exact hne rfl
    | cons x l =>
      rw [hc] at e
      have e0 := sub_cell e (j := 0) (v := .int .u8 x) rfl
      have f1 := gb.l.r.form
      have f2 := gb.c.form
      simp only [M.cs, Nat.add_zero] at e0
      match o, e0 with
      | 0, e0 => simp at e0
      | 1, e0 => simp at e0
      | 2, e0 => rcases f1 with ⟨f, _⟩ | ⟨_, _, _, f⟩ <;> rw [f] at e0 <;> simp at e0
      | 3, e0 => rcases f2 with ⟨f, _⟩ | ⟨_, _, _, f⟩ <;> rw [f] at e0 <;> simp at e0
      | o + 4, e0 => simp at e0
def TlI (w a n : AV) (nx nx1 : Nat) (cv : AV) (K bc : Nat) (H0 : Mem) (n0 : Nat) (m5 : M) (mm : Nat) (ts : List AV) (h : Mem) (nxx tc wr : Nat) : Prop := ∃ (i : Nat) (l : List Int), mm = K - i ∧ i ≤ K ∧ ts.length = 143 ∧ sl ts 2 = w ∧ sl ts 3 = a ∧ sl ts 4 = n ∧ sl ts 11 = .ptr nx 0 ∧ sl ts 13 = .ptr nx1 0 ∧ sl ts 14 = .ptr (nx1 + 1) 0 ∧ sl ts 15 = .ptr (nx1 + 2) 0 ∧ sl ts 63 = .int .i64 K ∧ sl ts 64 = .int .i64 i ∧ nxx = n0 ∧ OW 1 cv h n0 (u8s l) ∧ Ok8 l ∧ l.length = K ∧ ∀ q, q ≠ bc → h.blk q = H0.blk q
def TlR (w a n : AV) (nx nx1 : Nat) (cv : AV) (K bc : Nat) (H0 : Mem) (n0 : Nat) (e : Ex) (ts : List AV) (h : Mem) (nxx tc wr : Nat) : Prop := e = .exit 0 ∧ ∃ (l : List Int), ts.length = 143 ∧ sl ts 2 = w ∧ sl ts 3 = a ∧ sl ts 4 = n ∧ sl ts 11 = .ptr nx 0 ∧ sl ts 13 = .ptr nx1 0 ∧ sl ts 14 = .ptr (nx1 + 1) 0 ∧ sl ts 15 = .ptr (nx1 + 2) 0 ∧ nxx = n0 ∧ OW 1 cv h n0 (u8s l) ∧ Ok8 l ∧ l.length = K ∧ ∀ q, q ≠ bc → h.blk q = H0.blk q
set_option maxHeartbeats 8000000 in
theorem tl_round {w a n : AV} {nx nx1 : Nat} {cv : AV} {K bc : Nat} {H0 : Mem} {n0 : Nat} {m5 : M} {cs : List AV} (hb : H0.blk (nx1 + 2) = some ⟨37, 4, true, false, cs⟩) (h3 : cs[3]? = some cv) (hbc : bid cv = some bc) (hbn : nx1 + 2 < bc) (hK : K ≤ 1000) (mm : Nat) (ts : List AV) (h : Mem) (nxx tc wr : Nat) (hi : TlI w a n nx nx1 cv K bc H0 n0 m5 mm ts h nxx tc wr) :
    Post (xC T 60 L4_0b ts h nxx 0) fun v' h' nx' tc' wr' => Round (TlI w a n nx nx1 cv K bc H0 n0 m5) (TlR w a n nx nx1 cv K bc H0 n0) mm v' h' nx' (tc ||| tc') (wr ||| wr') := by
  obtain ⟨i, l, rfl, hi, hlen, g2, g3, g4, g11, g13, g14, g15, g63, g64, rfl, ow, ok, hl, hk⟩ := hi
  by_cases c : i < K
  · have c' : (i : Int) < K := by omega
    have ci : IntKind.i64.wrap ((i : Int) + 1) = ((i + 1 : Nat) : Int) := by rw [IntKind.wrap_i64]; omega
    have hbcn := ow.lt hbc
    have lf := fun lg => ld_at ((hk (nx1 + 2) (by omega)).trans hb) (show nx1 + 2 < nxx by omega) (o := 3) (v := cv) h3 lg
    obtain ⟨b, hb', _, pl, ld, st⟩ := ow.at (i := i) (by rw [u8s_len]; omega)
    rw [hbc] at hb'; cases hb'
    have ld0 := fun lg => ld 0 (.int .u8 (l[i]'(by omega))) (by rw [u8s_at]; rfl) lg
    obtain ⟨H2, s2, o2, k2⟩ := st 0 (by decide) (.int .u8 ((l[i]'(by omega)).tmod 26)) rfl rfl
    simp only [Nat.mul_one, Nat.add_zero] at pl ld0 s2
    have okx := ok _ (List.getElem_mem (show i < l.length by omega))
    have e2 : (u8s l).set i (((u8s l)[i]'(by rw [u8s_len]; omega)).set 0 (.int .u8 ((l[i]'(by omega)).tmod 26))) = u8s (l.set i ((l[i]'(by omega)).tmod 26)) := by
      rw [u8s_at]
      unfold u8s
      rw [List.map_set]
      rfl
    rw [e2] at o2
    have okm : 0 ≤ (l[i]'(by omega)).tmod 26 ∧ (l[i]'(by omega)).tmod 26 < 256 := by rw [Int.tmod_eq_emod_of_nonneg okx.1]; omega
    obtain ⟨X, hX⟩ : ∃ X, (l[i]'(by omega)).tmod 26 = X := ⟨_, rfl⟩
    rw [hX] at s2 o2 okm
    simp (maxSteps := 4000000) (maxDischargeDepth := 6) [L4_0b, hlen, g2, g3, g4, g11, g13, g14, g15, g63, g64, c', lf, pl, ld0, hX, s2, ci]
    refine Round.nor (m' := K - (i + 1)) (by omega) ⟨i + 1, l.set i X, rfl, by omega, ?_, ?_, ?_, ?_, ?_, ?_, ?_, ?_, ?_, ?_, rfl, o2, fun x hx => ?_, by rw [List.length_set]; exact hl, fun q hq => (k2 q hq).trans (hk q hq)⟩
    any_goals simp [len_setT, sl_same, sl_ne, hlen, g2, g3, g4, g11, g13, g14, g15, g63]
    rcases List.mem_or_eq_of_mem_set hx with hx | rfl
    · exact ok x hx
    · exact okm
  · have c' : ¬ (i : Int) < K := by omega
    simp (maxSteps := 4000000) (maxDischargeDepth := 6) [L4_0b, hlen, g2, g3, g4, g11, g13, g14, g15, g63, g64, c']
    refine Round.exit (R := TlR w a n nx nx1 cv K bc H0 nxx) ⟨rfl, l, ?_, ?_, ?_, ?_, ?_, ?_, ?_, ?_, rfl, ow, ok, hl, hk⟩ <;> simp [len_setT, sl_same, sl_ne, hlen, g2, g3, g4, g11, g13, g14, g15]
/-- A method of a tape's unit. -/
theorem UQ.meth {lo : Nat} {nv cv mv ov : AV} {h : Mem} {nx : Nat} {L : List C} {M0 : List (List AV)} (g : UQ lo nv cv mv ov h nx L M0) {i : Nat} (hi : i < 9) : ∃ (m : M) (b o : Nat), MR m h nx ∧ m.L.length = 14 ∧ m.c.length ≤ 100 ∧ El mv (i : Int) 4 h nx m.cs b o := by
  have hi' : i < M0.length := by rw [g.m9]; exact hi
  obtain ⟨b, o, el⟩ := g.ms.el hi'
  obtain ⟨a, u, M, c, l, e, ru, hv, hM, rc, ok, hl⟩ := g.mq _ (List.getElem_mem hi')
  obtain ⟨B, rfl⟩ := v2_of hv
  rw [e] at el
  rw [bnds_len] at hM
  exact ⟨⟨a, 2, u, B, c, l⟩, b, o, ⟨⟨ru, by show B.length ≤ big; unfold big; omega⟩, rc, ok, by show l.length ≤ big; unfold big; omega⟩, hM, hl, el⟩
set_option maxHeartbeats 32000000 in
theorem tells_law (h : Mem) (nx : Nat) (avs : List AV) (g : KdsV h nx [.sl [.l (.i .i64)], .l (.i .i64), .l (.i .i64), .l (.i .i64), .l (.i .i64), .ag [.l (.i .i64), .l (.i .i64), .sl [.l (.i .i64), .l (.i .i64)], .sl [.l (.i .u8)]]] avs) : Yes T 4 avs h nx := by
  simp only [KdsV] at g
  obtain ⟨v, _, rfl, gv, w1, _, rfl, g1, w2, _, rfl, g2, w3, _, rfl, g3, w4, _, rfl, g4, rw, _, rfl, g5, rfl⟩ := g
  simp only [KdV, LeafV] at g1 g2 g3 g4
  obtain ⟨which, rfl, _⟩ := g1
  obtain ⟨what, rfl, _⟩ := g2
  obtain ⟨at0, rfl, _⟩ := g3
  obtain ⟨n, rfl, _⟩ := g4
  rw [KdV] at g5
  obtain ⟨xs, rfl, g5⟩ := g5
  simp only [KdsV] at g5
  obtain ⟨x1, _, rfl, r1, x2, _, rfl, r2, lv, _, rfl, r3, cv0, _, rfl, r4, rfl⟩ := g5
  simp only [KdV, LeafV] at r1 r2
  obtain ⟨ra, rfl, _⟩ := r1
  obtain ⟨rt, rfl, _⟩ := r2
  obtain ⟨T0, rv, hT⟩ := tape_of gv
  obtain ⟨ML, rl, hl, kl⟩ := r3.rd
  obtain ⟨B, rfl⟩ := pairs_of kl
  obtain ⟨MC, rc, hc, kc⟩ := r4.rd
  obtain ⟨c, rfl, okc⟩ := bytes_of kc
  rw [bnds_len] at hl
  rw [u8s_len] at hc
  obtain ⟨m0, hm0⟩ : ∃ m : M, m = ⟨ra, rt, lv, B, cv0, c⟩ := ⟨_, rfl⟩
  have g0 : MR m0 h nx := by rw [hm0]; exact ⟨⟨rl, by unfold maxLen at hl; unfold big; omega⟩, rc, okc, by show c.length ≤ big; unfold maxLen at hc; unfold big; omega⟩
  have hcs : [AV.int .i64 ra, .int .i64 rt, lv, cv0] = m0.cs := by rw [hm0]; rfl
  refine Yes.of 8000 ?_
  rw [xF_fr T4]
  obtain ⟨H0, eH0, b0, k0, g0'⟩ := g0.box
  have fm := rv.form
  have tp := tp_of (rv.keeps (nx' := nx + 1) (by omega) k0) hT
  obtain ⟨wi, wi1, wi2, _, wx⟩ := within_ex which 0 8 (by omega) (by omega) (by omega)
  obtain ⟨i, rfl⟩ : ∃ k : Nat, wi = k := ⟨wi.toNat, by omega⟩
  rcases fm with ⟨rfl, _⟩ | ⟨b, o, c', rfl⟩
  all_goals
    simp (maxSteps := 4000000) (maxDischargeDepth := 6) [F4, hcs, eH0]
    refine (unit_tp tp).post (nx + 1) (by omega) (by omega) (by omega) ?_
    rintro _ H1 nx1 tc1 wr1 ⟨nv, cv, mv, ov, L, M0, rfl, t1, uq⟩ n1 k1 mk1 _
    have k1' : ∀ q, q < nx + 1 → H1.blk q = H0.blk q := fun q hq => (k1 q (by omega) (by omega)).trans (Mem.blk_set_ne _ _ _ _ (by omega))
    have ul := uq.ul
    have one := ul.one
    obtain ⟨u, hu⟩ : ∃ u, u = UQ.u nv cv mv ov L.length := ⟨_, rfl⟩
    have hucs : [nv, cv, mv, ov, .int .i64 6] = u.cs := by rw [hu]; rfl
    have hmv : u.cs[2]? = some mv := by rw [hu]; rfl
    rw [← hu] at ul one
    have lmv := ul.lk
    rw [hu] at lmv
    simp only [UQ.u] at lmv
    obtain ⟨H2, sH2, b2, k2⟩ := st_var H1 nx1 (t := 27) (sz := 5) (n := 5) (g := false) [.nils, .nils, .nils, .nils, .int .i64 0] u.cs rfl rfl one
    have lu := fun lg => ld_at b2 (show nx1 < nx1 + 1 by omega) (o := 2) (v := mv) hmv lg
    obtain ⟨m1, bm, om, g1, hL1, hc1, el⟩ := uq.meth (i := i) (by omega)
    have el2 := el.keep (h' := H2) (nx' := nx1 + 1) (by omega) (k2 bm el.lt)
    have p1 := el2.pl
    have f1 := el2.all
    have g1' := g1.keeps (nx' := nx1 + 1) (by omega) k2
    obtain ⟨H3, sH3, b3, k3⟩ := st_var H2 (nx1 + 1) (t := 37) (sz := 4) (n := 4) (g := false) [.int .i64 0, .int .i64 0, .nils, .nils] m1.cs rfl rfl g1.one
    have w8 : IntKind.i64.wrap 8 = 8 := by decide
    simp (maxSteps := 4000000) (maxDischargeDepth := 6) [hucs, sH2, lu, lmv, w8, wx, p1, f1, sH3]
    have g3 : MR m0 H3 (nx1 + 2) := ((g0'.keeps (nx' := nx1) (by omega) k1').keeps (nx' := nx1 + 1) (by omega) fun q hq => k2 q (by omega)).keeps (by omega) k3
    have b3n : H3.blk nx = some ⟨37, 4, true, false, m0.cs⟩ := by rw [k3 nx (by omega), k2 nx (by omega), k1' nx (by omega)]; exact b0
    have l33 := fun lg => ld_at b3n (show nx < nx1 + 2 by omega) (o := 3) (v := m0.cv) rfl lg
    have lc3 := g3.lenC
    obtain ⟨j, hj, hjc, hj1⟩ : ∃ j : Nat, j = min m0.c.length 140 ∧ j ≤ m0.c.length ∧ j ≤ 140 := ⟨_, rfl, by omega, by omega⟩
    have mn : (if (140 : Int) < (m0.c.length : Int) then (140 : Int) else (m0.c.length : Int)) = (j : Int) := by split <;> omega
    obtain ⟨y4, g4, yb4, cu4⟩ := g3.cutC hjc
    obtain ⟨tc4, cu4⟩ := cu4 0
    obtain ⟨H4, sH4, b4, k4⟩ := stF (n := nx1 + 2) (b := nx) b3n (by omega) (j := 3) (by simp [M.cs]) y4 g4.c.one.1 g4.c.one.2
    simp (maxSteps := 4000000) (maxDischargeDepth := 6) [l33, lc3, mn, cu4, sH4]
    refine ⟨bit_and (by have := el.lt; omega), ?_⟩
    have nol : bid m0.lv ≠ some nx := fun e => by have := g0.l.r.lt e; omega
    have noc : bid m0.cv ≠ some nx := fun e => by have := g0.c.lt e; omega
    obtain ⟨m4, hm4⟩ : ∃ m4 : M, m4 = ⟨m0.a, m0.t, m0.lv, m0.L, y4, m0.c.take j⟩ := ⟨_, rfl⟩
    have b4' : H4.blk nx = some ⟨37, 4, true, false, m4.cs⟩ := by rw [hm4]; exact b4
    have g4' : MR m4 H4 (nx1 + 2) := by rw [hm4]; exact g4.other k4 nol (by show bid y4 ≠ _; rw [yb4]; exact noc)
    have hc4 : m4.c.length ≤ 140 := by rw [hm4]; show (m0.c.take j).length ≤ 140; rw [List.length_take]; omega
    have l42 := fun lg => ld_at b4' (show nx < nx1 + 2 by omega) (o := 2) (v := m4.lv) rfl lg
    have ll4 := g4'.lenL
    obtain ⟨j2, hj2, hj2c, hj21⟩ : ∃ j2 : Nat, j2 = min m4.L.length 20 ∧ j2 ≤ m4.L.length ∧ j2 ≤ 20 := ⟨_, rfl, by omega, by omega⟩
    have mn2 : (if (20 : Int) < (m4.L.length : Int) then (20 : Int) else (m4.L.length : Int)) = (j2 : Int) := by split <;> omega
    obtain ⟨y5, g5, yb5, cu5⟩ := g4'.cutL hj2c
    obtain ⟨tc5, cu5⟩ := cu5 0
    obtain ⟨H5, sH5, b5, k5⟩ := stF (n := nx1 + 2) (b := nx) b4' (by omega) (j := 2) (by simp [M.cs]) y5 g5.l.r.one.1 g5.l.r.one.2
    obtain ⟨m5, hm5⟩ : ∃ m5 : M, m5 = ⟨m4.a, m4.t, y5, m4.L.take j2, m4.cv, m4.c⟩ := ⟨_, rfl⟩
    have b5' : H5.blk nx = some ⟨37, 4, true, false, m5.cs⟩ := by rw [hm5]; exact b5
    have nol4 : bid m4.lv ≠ some nx := by rw [hm4]; exact nol
    have noc4 : bid m4.cv ≠ some nx := by rw [hm4]; show bid y4 ≠ _; rw [yb4]; exact noc
    have g5' : MR m5 H5 (nx1 + 2) := by rw [hm5]; exact g5.other k5 (by show bid y5 ≠ _; rw [yb5]; exact nol4) noc4
    have hc5 : m5.c.length ≤ 140 := by rw [hm5]; exact hc4
    have hL5 : m5.L.length ≤ 20 := by rw [hm5]; show (m4.L.take j2).length ≤ 20; rw [List.length_take]; omega
    have l54 := fun lg => ld_sub (n := 4) (o := 0) b5' (show nx < nx1 + 2 by omega) (vs := m5.cs) rfl lg
    obtain ⟨H6, sH6, b6, k6⟩ := st_var H5 (nx1 + 2) (t := 37) (sz := 4) (n := 4) (g := false) [.int .i64 0, .int .i64 0, .nils, .nils] m5.cs rfl rfl g5'.one
    obtain ⟨H7, eH7, b7, k7⟩ := mkvar H6 (nx1 + 3) ⟨5, 1, true, false, []⟩
    have g7 : MR m5 H7 (nx1 + 4) := (g5'.keeps (nx' := nx1 + 3) (by omega) k6).keeps (by omega) k7
    have b7n : H7.blk nx = some ⟨37, 4, true, false, m5.cs⟩ := by rw [k7 nx (by omega), k6 nx (by omega)]; exact b5'
    have l73 := fun lg => ld_at b7n (show nx < nx1 + 4 by omega) (o := 3) (v := m5.cv) rfl lg
    have lc7 := g7.lenC
    obtain ⟨K2, hK2⟩ : ∃ K2 : Nat, K2 = m5.c.length / 2 * 2 := ⟨_, rfl⟩
    have wq : IntKind.i64.wrap ((m5.c.length : Int) / 2) = ((m5.c.length / 2 : Nat) : Int) := by rw [IntKind.wrap_i64]; omega
    obtain ⟨q5, hq5⟩ : ∃ q5 : Nat, q5 = m5.c.length / 2 := ⟨_, rfl⟩
    rw [← hq5] at wq
    have wm : IntKind.i64.wrap ((q5 : Int) * 2) = (K2 : Int) := by rw [IntKind.wrap_i64]; omega
    obtain ⟨y8, g8, yb8, cu8⟩ := g7.cutC (j := K2) (by omega)
    obtain ⟨tc8, cu8⟩ := cu8 0
    have o7 : OW 1 (.slc (nx1 + 3) 0 0 (some 0)) H7 (nx1 + 4) [] := .inr (.inl ⟨nx1 + 3, rfl, rfl, by omega, _, b7⟩)
    obtain ⟨c9, H9, n9, tc9, wr9, e9, hn9, o9, k9, d9, _, _⟩ := OW.cat (sz := 1) (by decide) 5 1 o7 g8.c (fun k hk => fits_few (by rw [u8s_len, List.length_take] at hk; simp at hk; omega) (by omega)) (u8s_one _) 0
    rw [List.nil_append] at o9
    obtain ⟨cA, HA, nA, tcA, wrA, eA, hnA, oA, kA, dA, _⟩ := cat2 o9 (by rw [List.length_take]; omega) 19 0 0
    have kk9 : ∀ q, q < nx1 + 3 → H9.blk q = H6.blk q := fun q hq => (k9 q (by omega) (fun e => by cases e; omega)).trans (k7 q hq)
    have own9 : ∀ q, bid c9 = some q → nx1 + 2 < q := fun q hq => by
      rcases d9 q hq with e | e
      · cases e; omega
      · omega
    have kkA : ∀ q, q < nx1 + 3 → HA.blk q = H6.blk q := fun q hq => (kA q (by omega) (fun e => by have := own9 q e; omega)).trans (kk9 q hq)
    have ownA : ∀ q, bid cA = some q → nx1 + 2 < q := fun q hq => by
      rcases dA q hq with e | e
      · exact own9 q e
      · omega
    obtain ⟨HB, sHB, bB, kB⟩ := stF (n := nA) (b := nx1 + 2) ((kkA (nx1 + 2) (by omega)).trans b6) (by omega) (j := 3) (by simp [M.cs]) cA oA.one.1 oA.one.2
    obtain ⟨bc, hbc⟩ : ∃ bc, bid cA = some bc := by
      rcases oA.form with ⟨rfl, e⟩ | ⟨b, c, rfl⟩
      · have := congrArg List.length e
        rw [u8s_len, List.length_append, List.length_nil] at this
        simp at this
      · exact ⟨b, rfl⟩
    have hbcl := ownA bc hbc
    have lB3 := fun lg => ld_at bB (show nx1 + 2 < nA by omega) (o := 3) (v := cA) rfl lg
    have lcB := oA.lenOp
    obtain ⟨K, hK⟩ : ∃ K, K = (m5.c.take K2 ++ [19, 0]).length := ⟨_, rfl⟩
    have hK1 : K ≤ 142 := by rw [hK, List.length_append, List.length_take]; simp; omega
    rw [u8s_len, ← hK] at lcB
    have oB : OW 1 cA HB nA (u8s (m5.c.take K2 ++ [19, 0])) := oA.keep (Nat.le_refl _) fun q hq => kB q (by have := ownA q hq; omega)
    have okB : Ok8 (m5.c.take K2 ++ [19, 0]) := fun x hx => by
      rcases List.mem_append.1 hx with hx | hx
      · exact g7.ok x (List.mem_of_mem_take hx)
      · simp only [List.mem_cons, List.not_mem_nil, or_false] at hx
        rcases hx with rfl | rfl <;> omega
    simp (maxSteps := 4000000) (maxDischargeDepth := 6) [l42, ll4, mn2, cu5, sH5, l54, sH6, eH7, l73, lc7, wq, wm, cu8, e9, eA, sHB, lB3, lcB, L4_0]
    refine Post.loop (tl_round (w := .int .i64 what) (a := .int .i64 at0) (n := .int .i64 n) (nx := nx) (m5 := m5) bB rfl hbc hbcl (K := K) (by omega)) K ⟨0, _, rfl, by omega, ?_, ?_, ?_, ?_, ?_, ?_, ?_, ?_, ?_, ?_, rfl, oB, okB, hK.symm, fun _ _ => rfl⟩ ?_ ?_
    any_goals simp (maxDischargeDepth := 6) [len_setT, sl_same, sl_ne, sl_frame, len_frame]
    · omega
    rintro e ts2 HC nC tcC wrC ⟨rfl, l, hlen, t2, t3, t4, t11, t13, t14, t15, rfl, oC, okl, hlK, kC⟩
    have blk : ∀ q, q < nx1 + 2 → HC.blk q = H5.blk q := fun q hq => by rw [kC q (by omega), kB q (by omega), kkA q (by omega), k6 q (by omega)]
    have bCn : HC.blk nx = some ⟨37, 4, true, false, m5.cs⟩ := by rw [blk nx (by omega)]; exact b5'
    have bC1 : HC.blk nx1 = some ⟨27, 5, true, false, u.cs⟩ := by rw [blk nx1 (by omega), k5 nx1 (by omega), k4 nx1 (by omega), k3 nx1 (by omega)]; exact b2
    have bC2 : HC.blk (nx1 + 1) = some ⟨37, 4, true, false, m1.cs⟩ := by rw [blk (nx1 + 1) (by omega), k5 (nx1 + 1) (by omega), k4 (nx1 + 1) (by omega)]; exact b3
    have bC3 : HC.blk (nx1 + 2) = some ⟨37, 4, true, false, m5.cs.set 3 cA⟩ := by rw [kC (nx1 + 2) (by omega)]; exact bB
    have lr0 := fun lg => ld_at bCn (show nx < nC by omega) (o := 0) (v := .int .i64 m5.a) rfl lg
    have lr1 := fun lg => ld_at bCn (show nx < nC by omega) (o := 1) (v := .int .i64 m5.t) rfl lg
    have a3 : Go.bits .and .i64 m5.a 3 = m5.a % 4 := and_mask .i64 2 (by decide) m5.a
    have b3' : Go.bits .and .i64 m5.t 3 = m5.t % 4 := and_mask .i64 2 (by decide) m5.t
    obtain ⟨HD, sHD, bD, kD⟩ := stF (n := nC) (b := nx1 + 2) bC3 (by omega) (j := 0) (by simp [M.cs]) (.int .i64 (m5.a % 4)) rfl rfl
    obtain ⟨HE, sHE, bE, kE⟩ := stF (n := nC) (b := nx1 + 2) bD (by omega) (j := 1) (by simp [M.cs]) (.int .i64 (m5.t % 4)) rfl rfl
    have kE' : ∀ q, q ≠ nx1 + 2 → HE.blk q = HC.blk q := fun q hq => (kE q hq).trans (kD q hq)
    have l41 := fun lg => ld_sub (n := 4) (o := 0) ((kE' (nx1 + 1) (by omega)).trans bC2) (show nx1 + 1 < nC by omega) (vs := m1.cs) rfl lg
    have l51 := fun lg => ld_sub (n := 5) (o := 0) ((kE' nx1 (by omega)).trans bC1) (show nx1 < nC by omega) (vs := u.cs) rfl lg
    have at63 : Go.bits .and .i64 at0 63 = at0 % 64 := and_mask .i64 6 (by decide) at0
    have at31 : Go.bits .and .i64 at0 31 = at0 % 32 := and_mask .i64 5 (by decide) at0
    have n31 : Go.bits .and .i64 n 31 = n % 32 := and_mask .i64 5 (by decide) n
    simp (maxSteps := 4000000) (maxDischargeDepth := 6) [hlen, t2, t3, t4, t11, t13, t14, t15, lr0, lr1, a3, b3', sHD, sHE, l41, l51, at63]
    refine ⟨bit_bit (by omega), ?_⟩
    have g1a : MR m1 H3 (nx1 + 2) := (g1'.keeps (by omega) k3)
    have g1b : MR m1 H5 (nx1 + 2) := dodgeM (dodgeM g1a hL1 g0 k4 b3n) hL1 g4' k5 b4'
    have kCE : ∀ q, q < nx1 + 2 → HE.blk q = H5.blk q := fun q hq => (kE' q (by omega)).trans (blk q hq)
    have gM1 : MR m1 HE nC := g1b.keeps (by omega) kCE
    have gM5 : MR m5 HE nC := g5'.keeps (by omega) kCE
    obtain ⟨m6, hm6⟩ : ∃ m6 : M, m6 = ⟨m5.a % 4, m5.t % 4, m5.lv, m5.L, cA, l⟩ := ⟨_, rfl⟩
    have bE6 : HE.blk (nx1 + 2) = some ⟨37, 4, true, false, m6.cs⟩ := by rw [hm6]; exact bE
    have gM6 : MR m6 HE nC := by
      rw [hm6]
      exact ⟨gM5.l, (oC.keep (h' := HE) (Nat.le_refl _) fun q hq => kE' q (by have := ownA q hq; omega)).rd (by decide), okl, by show l.length ≤ big; unfold big; omega⟩
    have B1 := (kE' (nx1 + 1) (by omega)).trans bC2
    have B2 := (kE' nx1 (by omega)).trans bC1
    have B3 := (kE' nx (by omega)).trans bCn
    have aE : ∀ q, q < nC → HE.blk q = HE.blk q := fun _ _ => rfl
    have hnE : nC ≤ nC := Nat.le_refl _
    refine (same_nw ul gM1 (at0 % 64)).post (by omega) (by omega) ?_
    rintro _ HF nF tcF wrF rfl hnF kF wF
    have aF : ∀ q, q < nC → HF.blk q = HE.blk q := fun q hq => (kF q (by omega)).trans (aE q hq)
    have l4F := fun lg => ld_sub (n := 4) (o := 0) ((aF (nx1 + 1) (by omega)).trans B1) (show nx1 + 1 < nF by omega) (vs := m1.cs) rfl lg
    simp (maxSteps := 4000000) (maxDischargeDepth := 6) [hlen, t2, t3, t4, t11, t13, t14, t15, l4F]
    refine (odd_nw (gM1.keeps (by omega) aF) (by omega) (by omega) what at0 n).post (by omega) (by omega) ?_
    rintro _ HG nG tcG wrG ⟨mG, rfl, gG, hcG, hLG⟩ hnG kG wG
    have aG : ∀ q, q < nC → HG.blk q = HE.blk q := fun q hq => (kG q (by omega)).trans (aF q hq)
    have l5G := fun lg => ld_sub (n := 5) (o := 0) ((aG nx1 (by omega)).trans B2) (show nx1 < nG by omega) (vs := u.cs) rfl lg
    simp (maxSteps := 4000000) (maxDischargeDepth := 6) [hlen, t2, t3, t4, t11, t13, t14, t15, l5G]
    refine (same_nw ul gG n).post (by omega) (by omega) ?_
    rintro _ HH_ nH_ tcH_ wrH_ rfl hnH_ kH_ wH_
    have aH_ : ∀ q, q < nC → HH_.blk q = HE.blk q := fun q hq => (kH_ q (by omega)).trans (aG q hq)
    have l4H_ := fun lg => ld_sub (n := 4) (o := 0) ((aH_ (nx1 + 1) (by omega)).trans B1) (show nx1 + 1 < nH_ by omega) (vs := m1.cs) rfl lg
    simp (maxSteps := 4000000) (maxDischargeDepth := 6) [hlen, t2, t3, t4, t11, t13, t14, t15, l4H_, n31]
    refine (odd_nw (gM1.keeps (by omega) aH_) (by omega) (by omega) what at0 (n % 32)).post (by omega) (by omega) ?_
    rintro _ HI nI tcI wrI ⟨mI, rfl, gI, hcI, hLI⟩ hnI kI wI
    have aI : ∀ q, q < nC → HI.blk q = HE.blk q := fun q hq => (kI q (by omega)).trans (aH_ q hq)
    have l5I := fun lg => ld_sub (n := 5) (o := 0) ((aI nx1 (by omega)).trans B2) (show nx1 < nI by omega) (vs := u.cs) rfl lg
    simp (maxSteps := 4000000) (maxDischargeDepth := 6) [hlen, t2, t3, t4, t11, t13, t14, t15, l5I, at31]
    refine (same_nw ul gI (at0 % 32)).post (by omega) (by omega) ?_
    rintro _ HJ nJ tcJ wrJ rfl hnJ kJ wJ
    have aJ : ∀ q, q < nC → HJ.blk q = HE.blk q := fun q hq => (kJ q (by omega)).trans (aI q hq)
    have l4J := fun lg => ld_sub (n := 4) (o := 0) ((aJ (nx1 + 1) (by omega)).trans B1) (show nx1 + 1 < nJ by omega) (vs := m1.cs) rfl lg
    simp (maxSteps := 4000000) (maxDischargeDepth := 6) [hlen, t2, t3, t4, t11, t13, t14, t15, l4J, n31]
    refine (odd_nw (gM1.keeps (by omega) aJ) (by omega) (by omega) 2 at0 (n % 32)).post (by omega) (by omega) ?_
    rintro _ HK_ nK_ tcK_ wrK_ ⟨mK_, rfl, gK_, hcK_, hLK_⟩ hnK_ kK_ wK_
    have aK_ : ∀ q, q < nC → HK_.blk q = HE.blk q := fun q hq => (kK_ q (by omega)).trans (aJ q hq)
    simp (maxSteps := 4000000) (maxDischargeDepth := 6) [hlen, t2, t3, t4, t11, t13, t14, t15, at31]
    refine (odd_nw gK_ (by omega) (by omega) what n (at0 % 32)).post (by omega) (by omega) ?_
    rintro _ HL_ nL_ tcL_ wrL_ ⟨mL_, rfl, gL_, hcL_, hLL_⟩ hnL_ kL_ wL_
    have aL_ : ∀ q, q < nC → HL_.blk q = HE.blk q := fun q hq => (kL_ q (by omega)).trans (aK_ q hq)
    have l5L_ := fun lg => ld_sub (n := 5) (o := 0) ((aL_ nx1 (by omega)).trans B2) (show nx1 < nL_ by omega) (vs := u.cs) rfl lg
    simp (maxSteps := 4000000) (maxDischargeDepth := 6) [hlen, t2, t3, t4, t11, t13, t14, t15, l5L_]
    refine (same_nw ul gL_ 2).post (by omega) (by omega) ?_
    rintro _ HM_ nM_ tcM_ wrM_ rfl hnM_ kM_ wM_
    have aM_ : ∀ q, q < nC → HM_.blk q = HE.blk q := fun q hq => (kM_ q (by omega)).trans (aL_ q hq)
    have l4M_ := fun lg => ld_sub (n := 4) (o := 0) ((aM_ nx (by omega)).trans B3) (show nx < nM_ by omega) (vs := m5.cs) rfl lg
    have l5M_ := fun lg => ld_sub (n := 5) (o := 0) ((aM_ nx1 (by omega)).trans B2) (show nx1 < nM_ by omega) (vs := u.cs) rfl lg
    simp (maxSteps := 4000000) (maxDischargeDepth := 6) [hlen, t2, t3, t4, t11, t13, t14, t15, l4M_, l5M_]
    refine (same_nw ul (gM5.keeps (by omega) aM_) at0).post (by omega) (by omega) ?_
    rintro _ HN_ nN_ tcN_ wrN_ rfl hnN_ kN_ wN_
    have aN_ : ∀ q, q < nC → HN_.blk q = HE.blk q := fun q hq => (kN_ q (by omega)).trans (aM_ q hq)
    have l4N_ := fun lg => ld_sub (n := 4) (o := 0) ((aN_ (nx1 + 2) (by omega)).trans bE6) (show nx1 + 2 < nN_ by omega) (vs := m6.cs) rfl lg
    have l5N_ := fun lg => ld_sub (n := 5) (o := 0) ((aN_ nx1 (by omega)).trans B2) (show nx1 < nN_ by omega) (vs := u.cs) rfl lg
    simp (maxSteps := 4000000) (maxDischargeDepth := 6) [hlen, t2, t3, t4, t11, t13, t14, t15, l4N_, l5N_, at31]
    refine (same_nw ul (gM6.keeps (by omega) aN_) (at0 % 32)).post (by omega) (by omega) ?_
    rintro _ HO_ nO_ tcO_ wrO_ rfl hnO_ kO_ wO_
    have aO_ : ∀ q, q < nC → HO_.blk q = HE.blk q := fun q hq => (kO_ q (by omega)).trans (aN_ q hq)
    simp (maxSteps := 4000000) (maxDischargeDepth := 6) [hlen, t2, t3, t4, t11, t13, t14, t15]
    refine (known_nw HO_ nO_).post (by omega) (by omega) ?_
    rintro _ HP nP tcP wrP rfl hnP kP wP
    simp (maxSteps := 4000000) (maxDischargeDepth := 6) [hlen]
    refine ⟨⟨by rw [Nat.and_comm]; exact ap3 (wG nx1 (by omega)) (new_lo (by omega)), by rw [Nat.and_comm]; exact ap3 (wI nx1 (by omega)) (new_lo (by omega)), by rw [Nat.and_comm]; exact ap3 (wK_ nx1 (by omega)) (new_lo (by omega)), by rw [Nat.and_comm]; exact ap3 (wL_ nx1 (by omega)) (new_lo (by omega))⟩, ?_⟩
    simp (maxSteps := 4000000) (maxDischargeDepth := 6) [F4, hlen]
end Go.Proofs.YtlbjdkhpabpmiaaT
