/- The tape: a piece of code (printed by gen.py). -/
import Derived.Test.YtlbjdkhpabpmiaaTp
namespace Go.Proofs.YtlbjdkhpabpmiaaT
open Go Go.Proofs.YtlbjdkhpabpmiaaE Go.Proofs.YtlbjdkhpabpmiaaB
set_option linter.unusedSimpArgs false
set_option linter.unusedVariables false
attribute [local congr] Post_cg PostL_cg condP_cg
attribute [local simp ↓] P_skip P_exit P_ret P_seq P_cond P_blk P_reg P_draw P_nil P_cons op_len Post.some Post_bind Post_ret Post_draw PostL_nil PostL_cons op_islc step_none step_t step_f step_nt step_nf op_load op_store op_slice op_app
attribute [local simp] condP_t condP_f dum_ab stepR want_none want_some opRun ev_t ev_c put_none put_some resAll res_tmp res_cell oneOf minI maxI min2A max2A mn2 mx2 mx3 rdBlk wrBlk newBlk partA abin ibin isShift AV.cells AV.one lay sub fillA lenA toN allApart apartFrom Nat.testBit Mem.blk_set_same Mem.blk_set_ne Mem.set_set bit_zero bit_self lowBits_or lowBits_zero len_setT sl_same sl_ne len_frame sl_frame lenOp_slc lenOp_nils Post_fail ofOpt_some ofOpt_none eA_b eA_i eA_s eA_nn eA_np eA_pn eA_lnn eA_lnp eA_lpn eA_i2 eA_i3 blt_dec Nat.add_assoc keeps_refl keeps_at keeps_up new_one and_pow bit_hi lowBits_pow ble_dec fr_refl fr_at fr_up fr_p reps

/-- What a piece may write; what it may touch. -/
def XP (p : Nat) (c : AV) (q : Nat) : Prop := q = p ∨ bid c = some q
def YP (p : Nat) (c s : AV) (q : Nat) : Prop := XP p c q ∨ bid s = some q
theorem XP.no {p : Nat} {c : AV} {q : Nat} (h : ¬ XP p c q) : ¬ q = p ∧ ¬ bid c = some q := ⟨fun e => h (.inl e), fun e => h (.inr e)⟩
theorem YP.no {p : Nat} {c s : AV} {q : Nat} (h : ¬ YP p c s q) : ¬ bid s = some q ∧ ¬ XP p c q := ⟨fun e => h (.inr e), fun e => h (.inl e)⟩
theorem Sp.no {p : Nat} {s : AV} {L : List Int} {h0 : Mem} {nx0 : Nat} {c0 : AV} {h : Mem} {nx : Nat} {c : AV} {l : List Int} (g : Sp p s L h0 nx0 c0 h nx c l) (q : Nat) (hq : q < nx0) (hc : ¬ bid c0 = some q) : ¬ bid c = some q := fun e => by
  rcases g.own q e with e | e
  · exact hc e
  · omega
theorem Sp.base {p : Nat} {s : AV} {L : List Int} {h0 : Mem} {nx0 : Nat} {c0 : AV} {h : Mem} {nx : Nat} {c : AV} {l : List Int} (g : Sp p s L h0 nx0 c0 h nx c l) : Sp p s L h nx c h nx c l :=
  ⟨g.tp, g.ow, g.ok, g.len, g.cp, g.cs, fun b hb => .inl hb, Nat.le_refl _, fun q hq _ _ => rfl⟩
theorem Sp.under {p : Nat} {s : AV} {L : List Int} {h0 : Mem} {nx0 : Nat} {c0 : AV} {h : Mem} {nx : Nat} {c : AV} {l : List Int} (g : Sp p s L h0 nx0 c0 h nx c l) {h' : Mem} {nx' : Nat} {c' : AV} {l' : List Int} (g' : Sp p s L h nx c h' nx' c' l') : Sp p s L h0 nx0 c0 h' nx' c' l' :=
  ⟨g'.tp, g'.ow, g'.ok, g'.len, g'.cp, g'.cs, fun b hb => by
    rcases g'.own b hb with e | e
    · exact g.own b e
    · have := g.n; right; omega, by have := g.n; have := g'.n; omega, fun q hq a b => by
    have := g.n
    exact (g'.k q (by omega) a (g.no q hq b)).trans (g.k q hq a b)⟩
theorem flat_one : ∀ m : List Int, (i64s m).flatten = m.map (AV.int .i64 ·)
  | [] => rfl
  | x :: m => by
    have := flat_one m
    unfold i64s at this ⊢
    rw [List.map_cons, List.flatten_cons, this]
    rfl
/-- A place of a row of numbers that stand in the code. -/
theorem lit_el {h : Mem} {nx b : Nat} {t z : Nat} {o g : Bool} (m : List Int) (hb : h.blk b = some ⟨t, z, o, g, m.map (AV.int .i64 ·)⟩) (hn : b < nx) (r : Nat) (hr : r < m.length) : ∃ o x, islcA 1 (.slc b 0 m.length (some m.length)) (.int .i64 r) = A.ret (.ptr b o) ∧ ∀ lg, ldA none (.ptr b o) h nx lg = some ⟨.int .i64 x, h, nx, bit lg b, 0⟩ := by
  have g : RD 1 (.slc b 0 m.length (some m.length)) h nx (i64s m) := by
    refine RD.lit (M := i64s m) (i64s_len m).symm (t := t) (z := z) (o := o) (g := g) (fun y hy => ?_) hn (hb.trans ?_)
    · unfold i64s at hy
      obtain ⟨x, _, rfl⟩ := List.mem_map.1 hy
      rfl
    · congr 2
      exact (flat_one m).symm
  obtain ⟨b', o, el⟩ := g.el (i := r) (by rw [i64s_len]; exact hr)
  rw [i64s_at] at el
  have hbd := el.bd
  cases hbd
  exact ⟨o, _, el.pl, fun lg => el.fst rfl lg⟩
set_option maxHeartbeats 64000000 in
theorem piece_fx {p : Nat} {s : AV} {L : List Int} {h0 : Mem} {nx0 : Nat} {c0 : AV} {h : Mem} {nx : Nat} {c : AV} {l : List Int} (gg : Sp p s L h0 nx0 c0 h nx c l) (hl : l.length ≤ 800) : FxC 200 35 [.ptr p 0, c] h nx (XP p c) (YP p c s) fun v h' nx' => ∃ l', Sp p s L h nx c h' nx' v l' ∧ l'.length ≤ l.length + 12 := by
  have g0 := gg.base
  intro lg hlg
  rw [xF_fr T35]
  simp (maxSteps := 4000000) (maxDischargeDepth := 6) [F35]
  refine (next_sp g0 20 (by decide) (by decide)).post (by omega) (by omega) ?_
  rintro _ h1 nx1 tc1 wr1 ⟨r1, rfl, hr1, g1⟩ n1 k1 w1 t1
  simp (maxSteps := 4000000) (maxDischargeDepth := 6) [F35]
  refine (next_sp g1 22 (by decide) (by decide)).post (by omega) (by omega) ?_
  rintro _ h2 nx2 tc2 wr2 ⟨r2, rfl, hr2, g2⟩ n2 k2 w2 t2
  have hr : r2 = 0 ∨ r2 = 1 ∨ r2 = 2 ∨ r2 = 3 ∨ r2 = 4 ∨ r2 = 5 ∨ r2 = 6 ∨ r2 = 7 ∨ r2 = 8 ∨ r2 = 9 ∨ r2 = 10 ∨ r2 = 11 ∨ r2 = 12 ∨ r2 = 13 ∨ r2 = 14 ∨ r2 = 15 ∨ r2 = 16 ∨ r2 = 17 ∨ r2 = 18 ∨ r2 = 19 ∨ r2 = 20 ∨ r2 = 21 := by omega
  rcases hr with rfl | rfl | rfl | rfl | rfl | rfl | rfl | rfl | rfl | rfl | rfl | rfl | rfl | rfl | rfl | rfl | rfl | rfl | rfl | rfl | rfl | rfl
  · simp (maxSteps := 4000000) (maxDischargeDepth := 6) [F35]
    refine (op_sp g2 (by first | omega | (simp only [List.length_append, List.length_cons, List.length_nil]; omega)) _ _).post (by omega) (by omega) ?_
    intro v3 h3 nx3 tc3 wr3 g3 n3 k3 w3 t3
    simp (maxSteps := 4000000) (maxDischargeDepth := 6) [F35]
    refine (op_sp g3 (by first | omega | (simp only [List.length_append, List.length_cons, List.length_nil]; omega)) _ _).post (by omega) (by omega) ?_
    intro v4 h4 nx4 tc4 wr4 g4 n4 k4 w4 t4
    simp (maxSteps := 4000000) (maxDischargeDepth := 6) [F35]
    refine (op_sp g4 (by first | omega | (simp only [List.length_append, List.length_cons, List.length_nil]; omega)) _ _).post (by omega) (by omega) ?_
    intro v5 h5 nx5 tc5 wr5 g5 n5 k5 w5 t5
    simp (maxSteps := 4000000) (maxDischargeDepth := 6) [F35]
    refine ⟨⟨_, g5, by simp only [List.length_append, List.length_cons, List.length_nil]; omega⟩, by omega, fun q hq hx => g5.k q hq (XP.no hx).1 (XP.no hx).2, fun q hq hx => ?_, fun q hq hx => ?_⟩
    · have ⟨xp, xc⟩ := XP.no hx
      have W1 := w1 q (by omega) xp
      have W2 := w2 q (by omega) xp
      have W3 := w3 q (by omega) (g2.no q (by omega) xc)
      have W4 := w4 q (by omega) (g3.no q (by omega) xc)
      have W5 := w5 q (by omega) (g4.no q (by omega) xc)
      simp only [Nat.and_or_distrib_right, W1, W2, W3, W4, W5, Nat.or_zero, Nat.zero_or, Nat.zero_and]
    · have ⟨xs, hx⟩ := YP.no hx
      have ⟨xp, xc⟩ := XP.no hx
      have T1 := t1 q (by omega) (fun e => e.elim xp xs)
      have T2 := t2 q (by omega) (fun e => e.elim xp xs)
      have T3 := t3 q (by omega) (g2.no q (by omega) xc)
      have T4 := t4 q (by omega) (g3.no q (by omega) xc)
      have T5 := t5 q (by omega) (g4.no q (by omega) xc)
      simp only [Nat.and_or_distrib_right, T1, T2, T3, T4, T5, Nat.or_zero, Nat.zero_or, Nat.zero_and]
  · simp (maxSteps := 4000000) (maxDischargeDepth := 6) [F35]
    refine (op_sp g2 (by first | omega | (simp only [List.length_append, List.length_cons, List.length_nil]; omega)) _ _).post (by omega) (by omega) ?_
    intro v3 h3 nx3 tc3 wr3 g3 n3 k3 w3 t3
    simp (maxSteps := 4000000) (maxDischargeDepth := 6) [F35]
    refine (op_sp g3 (by first | omega | (simp only [List.length_append, List.length_cons, List.length_nil]; omega)) _ _).post (by omega) (by omega) ?_
    intro v4 h4 nx4 tc4 wr4 g4 n4 k4 w4 t4
    simp (maxSteps := 4000000) (maxDischargeDepth := 6) [F35]
    refine (op_sp g4 (by first | omega | (simp only [List.length_append, List.length_cons, List.length_nil]; omega)) _ _).post (by omega) (by omega) ?_
    intro v5 h5 nx5 tc5 wr5 g5 n5 k5 w5 t5
    simp (maxSteps := 4000000) (maxDischargeDepth := 6) [F35]
    refine ⟨⟨_, g5, by simp only [List.length_append, List.length_cons, List.length_nil]; omega⟩, by omega, fun q hq hx => g5.k q hq (XP.no hx).1 (XP.no hx).2, fun q hq hx => ?_, fun q hq hx => ?_⟩
    · have ⟨xp, xc⟩ := XP.no hx
      have W1 := w1 q (by omega) xp
      have W2 := w2 q (by omega) xp
      have W3 := w3 q (by omega) (g2.no q (by omega) xc)
      have W4 := w4 q (by omega) (g3.no q (by omega) xc)
      have W5 := w5 q (by omega) (g4.no q (by omega) xc)
      simp only [Nat.and_or_distrib_right, W1, W2, W3, W4, W5, Nat.or_zero, Nat.zero_or, Nat.zero_and]
    · have ⟨xs, hx⟩ := YP.no hx
      have ⟨xp, xc⟩ := XP.no hx
      have T1 := t1 q (by omega) (fun e => e.elim xp xs)
      have T2 := t2 q (by omega) (fun e => e.elim xp xs)
      have T3 := t3 q (by omega) (g2.no q (by omega) xc)
      have T4 := t4 q (by omega) (g3.no q (by omega) xc)
      have T5 := t5 q (by omega) (g4.no q (by omega) xc)
      simp only [Nat.and_or_distrib_right, T1, T2, T3, T4, T5, Nat.or_zero, Nat.zero_or, Nat.zero_and]
  · simp (maxSteps := 4000000) (maxDischargeDepth := 6) [F35]
    refine (op_sp g2 (by first | omega | (simp only [List.length_append, List.length_cons, List.length_nil]; omega)) _ _).post (by omega) (by omega) ?_
    intro v3 h3 nx3 tc3 wr3 g3 n3 k3 w3 t3
    simp (maxSteps := 4000000) (maxDischargeDepth := 6) [F35]
    refine (next_sp (g3.new _) 3 (by decide) (by decide)).post (by omega) (by omega) ?_
    rintro _ h4 nx4 tc4 wr4 ⟨r4, rfl, hr4, g4⟩ n4 k4 w4 t4
    have hp4 := g3.tp.hp
    obtain ⟨o4, x4, e4, f4⟩ := lit_el (b := nx3) (nx := nx4) [4, 8, 9] ((k4 nx3 (by omega) (by omega)).trans (Mem.blk_set_same ..)) (by omega) r4 (by simp; omega)
    simp only [List.length_cons, List.length_nil, Nat.reduceAdd] at e4
    simp (maxSteps := 4000000) (maxDischargeDepth := 6) [F35, e4, f4]
    refine (op_sp g4 (by first | omega | (simp only [List.length_append, List.length_cons, List.length_nil]; omega)) _ _).post (by omega) (by omega) ?_
    intro v5 h5 nx5 tc5 wr5 g5 n5 k5 w5 t5
    simp (maxSteps := 4000000) (maxDischargeDepth := 6) [F35, e4, f4]
    refine (op_sp g5 (by first | omega | (simp only [List.length_append, List.length_cons, List.length_nil]; omega)) _ _).post (by omega) (by omega) ?_
    intro v6 h6 nx6 tc6 wr6 g6 n6 k6 w6 t6
    simp (maxSteps := 4000000) (maxDischargeDepth := 6) [F35, e4, f4]
    refine ⟨⟨_, g6, by simp only [List.length_append, List.length_cons, List.length_nil]; omega⟩, by omega, fun q hq hx => g6.k q hq (XP.no hx).1 (XP.no hx).2, fun q hq hx => ?_, fun q hq hx => ?_⟩
    · have ⟨xp, xc⟩ := XP.no hx
      have W1 := w1 q (by omega) xp
      have W2 := w2 q (by omega) xp
      have W3 := w3 q (by omega) (g2.no q (by omega) xc)
      have W4 := w4 q (by omega) xp
      have W5 := w5 q (by omega) (g4.no q (by omega) xc)
      have W6 := w6 q (by omega) (g5.no q (by omega) xc)
      simp only [Nat.and_or_distrib_right, W1, W2, W3, W4, W5, W6, Nat.or_zero, Nat.zero_or, Nat.zero_and]
    · have ⟨xs, hx⟩ := YP.no hx
      have ⟨xp, xc⟩ := XP.no hx
      have T1 := t1 q (by omega) (fun e => e.elim xp xs)
      have T2 := t2 q (by omega) (fun e => e.elim xp xs)
      have T3 := t3 q (by omega) (g2.no q (by omega) xc)
      have T4 := t4 q (by omega) (fun e => e.elim xp xs)
      have T5 := t5 q (by omega) (g4.no q (by omega) xc)
      have T6 := t6 q (by omega) (g5.no q (by omega) xc)
      have B3 := bit_and (lg := lg) (a := nx3) (b := q) (by omega)
      simp only [Nat.and_or_distrib_right, T1, T2, T3, T4, T5, T6, B3, Nat.or_zero, Nat.zero_or, Nat.zero_and]
  · simp (maxSteps := 4000000) (maxDischargeDepth := 6) [F35]
    refine (op_sp g2 (by first | omega | (simp only [List.length_append, List.length_cons, List.length_nil]; omega)) _ _).post (by omega) (by omega) ?_
    intro v3 h3 nx3 tc3 wr3 g3 n3 k3 w3 t3
    simp (maxSteps := 4000000) (maxDischargeDepth := 6) [F35]
    refine (op_sp g3 (by first | omega | (simp only [List.length_append, List.length_cons, List.length_nil]; omega)) _ _).post (by omega) (by omega) ?_
    intro v4 h4 nx4 tc4 wr4 g4 n4 k4 w4 t4
    simp (maxSteps := 4000000) (maxDischargeDepth := 6) [F35]
    refine (next_sp g4 2 (by decide) (by decide)).post (by omega) (by omega) ?_
    rintro _ h5 nx5 tc5 wr5 ⟨r5, rfl, hr5, g5⟩ n5 k5 w5 t5
    simp (maxSteps := 4000000) (maxDischargeDepth := 6) [F35]
    refine (op_sp g5 (by first | omega | (simp only [List.length_append, List.length_cons, List.length_nil]; omega)) _ _).post (by omega) (by omega) ?_
    intro v6 h6 nx6 tc6 wr6 g6 n6 k6 w6 t6
    simp (maxSteps := 4000000) (maxDischargeDepth := 6) [F35]
    refine (op_sp g6 (by first | omega | (simp only [List.length_append, List.length_cons, List.length_nil]; omega)) _ _).post (by omega) (by omega) ?_
    intro v7 h7 nx7 tc7 wr7 g7 n7 k7 w7 t7
    simp (maxSteps := 4000000) (maxDischargeDepth := 6) [F35]
    refine (op_sp g7 (by first | omega | (simp only [List.length_append, List.length_cons, List.length_nil]; omega)) _ _).post (by omega) (by omega) ?_
    intro v8 h8 nx8 tc8 wr8 g8 n8 k8 w8 t8
    simp (maxSteps := 4000000) (maxDischargeDepth := 6) [F35]
    refine ⟨⟨_, g8, by simp only [List.length_append, List.length_cons, List.length_nil]; omega⟩, by omega, fun q hq hx => g8.k q hq (XP.no hx).1 (XP.no hx).2, fun q hq hx => ?_, fun q hq hx => ?_⟩
    · have ⟨xp, xc⟩ := XP.no hx
      have W1 := w1 q (by omega) xp
      have W2 := w2 q (by omega) xp
      have W3 := w3 q (by omega) (g2.no q (by omega) xc)
      have W4 := w4 q (by omega) (g3.no q (by omega) xc)
      have W5 := w5 q (by omega) xp
      have W6 := w6 q (by omega) (g5.no q (by omega) xc)
      have W7 := w7 q (by omega) (g6.no q (by omega) xc)
      have W8 := w8 q (by omega) (g7.no q (by omega) xc)
      simp only [Nat.and_or_distrib_right, W1, W2, W3, W4, W5, W6, W7, W8, Nat.or_zero, Nat.zero_or, Nat.zero_and]
    · have ⟨xs, hx⟩ := YP.no hx
      have ⟨xp, xc⟩ := XP.no hx
      have T1 := t1 q (by omega) (fun e => e.elim xp xs)
      have T2 := t2 q (by omega) (fun e => e.elim xp xs)
      have T3 := t3 q (by omega) (g2.no q (by omega) xc)
      have T4 := t4 q (by omega) (g3.no q (by omega) xc)
      have T5 := t5 q (by omega) (fun e => e.elim xp xs)
      have T6 := t6 q (by omega) (g5.no q (by omega) xc)
      have T7 := t7 q (by omega) (g6.no q (by omega) xc)
      have T8 := t8 q (by omega) (g7.no q (by omega) xc)
      simp only [Nat.and_or_distrib_right, T1, T2, T3, T4, T5, T6, T7, T8, Nat.or_zero, Nat.zero_or, Nat.zero_and]
  · simp (maxSteps := 4000000) (maxDischargeDepth := 6) [F35]
    refine (next_sp g2 4 (by decide) (by decide)).post (by omega) (by omega) ?_
    rintro _ h3 nx3 tc3 wr3 ⟨r3, rfl, hr3, g3⟩ n3 k3 w3 t3
    simp (maxSteps := 4000000) (maxDischargeDepth := 6) [F35]
    refine (op_sp g3 (by first | omega | (simp only [List.length_append, List.length_cons, List.length_nil]; omega)) _ _).post (by omega) (by omega) ?_
    intro v4 h4 nx4 tc4 wr4 g4 n4 k4 w4 t4
    simp (maxSteps := 4000000) (maxDischargeDepth := 6) [F35]
    refine (op_sp g4 (by first | omega | (simp only [List.length_append, List.length_cons, List.length_nil]; omega)) _ _).post (by omega) (by omega) ?_
    intro v5 h5 nx5 tc5 wr5 g5 n5 k5 w5 t5
    simp (maxSteps := 4000000) (maxDischargeDepth := 6) [F35]
    refine (next_sp g5 6 (by decide) (by decide)).post (by omega) (by omega) ?_
    rintro _ h6 nx6 tc6 wr6 ⟨r6, rfl, hr6, g6⟩ n6 k6 w6 t6
    simp (maxSteps := 4000000) (maxDischargeDepth := 6) [F35]
    refine (op_sp g6 (by first | omega | (simp only [List.length_append, List.length_cons, List.length_nil]; omega)) _ _).post (by omega) (by omega) ?_
    intro v7 h7 nx7 tc7 wr7 g7 n7 k7 w7 t7
    simp (maxSteps := 4000000) (maxDischargeDepth := 6) [F35]
    refine (op_sp g7 (by first | omega | (simp only [List.length_append, List.length_cons, List.length_nil]; omega)) _ _).post (by omega) (by omega) ?_
    intro v8 h8 nx8 tc8 wr8 g8 n8 k8 w8 t8
    simp (maxSteps := 4000000) (maxDischargeDepth := 6) [F35]
    refine (op_sp g8 (by first | omega | (simp only [List.length_append, List.length_cons, List.length_nil]; omega)) _ _).post (by omega) (by omega) ?_
    intro v9 h9 nx9 tc9 wr9 g9 n9 k9 w9 t9
    simp (maxSteps := 4000000) (maxDischargeDepth := 6) [F35]
    refine ⟨⟨_, g9, by simp only [List.length_append, List.length_cons, List.length_nil]; omega⟩, by omega, fun q hq hx => g9.k q hq (XP.no hx).1 (XP.no hx).2, fun q hq hx => ?_, fun q hq hx => ?_⟩
    · have ⟨xp, xc⟩ := XP.no hx
      have W1 := w1 q (by omega) xp
      have W2 := w2 q (by omega) xp
      have W3 := w3 q (by omega) xp
      have W4 := w4 q (by omega) (g3.no q (by omega) xc)
      have W5 := w5 q (by omega) (g4.no q (by omega) xc)
      have W6 := w6 q (by omega) xp
      have W7 := w7 q (by omega) (g6.no q (by omega) xc)
      have W8 := w8 q (by omega) (g7.no q (by omega) xc)
      have W9 := w9 q (by omega) (g8.no q (by omega) xc)
      simp only [Nat.and_or_distrib_right, W1, W2, W3, W4, W5, W6, W7, W8, W9, Nat.or_zero, Nat.zero_or, Nat.zero_and]
    · have ⟨xs, hx⟩ := YP.no hx
      have ⟨xp, xc⟩ := XP.no hx
      have T1 := t1 q (by omega) (fun e => e.elim xp xs)
      have T2 := t2 q (by omega) (fun e => e.elim xp xs)
      have T3 := t3 q (by omega) (fun e => e.elim xp xs)
      have T4 := t4 q (by omega) (g3.no q (by omega) xc)
      have T5 := t5 q (by omega) (g4.no q (by omega) xc)
      have T6 := t6 q (by omega) (fun e => e.elim xp xs)
      have T7 := t7 q (by omega) (g6.no q (by omega) xc)
      have T8 := t8 q (by omega) (g7.no q (by omega) xc)
      have T9 := t9 q (by omega) (g8.no q (by omega) xc)
      simp only [Nat.and_or_distrib_right, T1, T2, T3, T4, T5, T6, T7, T8, T9, Nat.or_zero, Nat.zero_or, Nat.zero_and]
  · simp (maxSteps := 4000000) (maxDischargeDepth := 6) [F35]
    refine (next_sp g2 2 (by decide) (by decide)).post (by omega) (by omega) ?_
    rintro _ h3 nx3 tc3 wr3 ⟨r3, rfl, hr3, g3⟩ n3 k3 w3 t3
    simp (maxSteps := 4000000) (maxDischargeDepth := 6) [F35]
    refine (op_sp g3 (by first | omega | (simp only [List.length_append, List.length_cons, List.length_nil]; omega)) _ _).post (by omega) (by omega) ?_
    intro v4 h4 nx4 tc4 wr4 g4 n4 k4 w4 t4
    simp (maxSteps := 4000000) (maxDischargeDepth := 6) [F35]
    refine (next_sp g4 2 (by decide) (by decide)).post (by omega) (by omega) ?_
    rintro _ h5 nx5 tc5 wr5 ⟨r5, rfl, hr5, g5⟩ n5 k5 w5 t5
    simp (maxSteps := 4000000) (maxDischargeDepth := 6) [F35]
    refine (op_sp g5 (by first | omega | (simp only [List.length_append, List.length_cons, List.length_nil]; omega)) _ _).post (by omega) (by omega) ?_
    intro v6 h6 nx6 tc6 wr6 g6 n6 k6 w6 t6
    simp (maxSteps := 4000000) (maxDischargeDepth := 6) [F35]
    refine (op_sp g6 (by first | omega | (simp only [List.length_append, List.length_cons, List.length_nil]; omega)) _ _).post (by omega) (by omega) ?_
    intro v7 h7 nx7 tc7 wr7 g7 n7 k7 w7 t7
    simp (maxSteps := 4000000) (maxDischargeDepth := 6) [F35]
    refine ⟨⟨_, g7, by simp only [List.length_append, List.length_cons, List.length_nil]; omega⟩, by omega, fun q hq hx => g7.k q hq (XP.no hx).1 (XP.no hx).2, fun q hq hx => ?_, fun q hq hx => ?_⟩
    · have ⟨xp, xc⟩ := XP.no hx
      have W1 := w1 q (by omega) xp
      have W2 := w2 q (by omega) xp
      have W3 := w3 q (by omega) xp
      have W4 := w4 q (by omega) (g3.no q (by omega) xc)
      have W5 := w5 q (by omega) xp
      have W6 := w6 q (by omega) (g5.no q (by omega) xc)
      have W7 := w7 q (by omega) (g6.no q (by omega) xc)
      simp only [Nat.and_or_distrib_right, W1, W2, W3, W4, W5, W6, W7, Nat.or_zero, Nat.zero_or, Nat.zero_and]
    · have ⟨xs, hx⟩ := YP.no hx
      have ⟨xp, xc⟩ := XP.no hx
      have T1 := t1 q (by omega) (fun e => e.elim xp xs)
      have T2 := t2 q (by omega) (fun e => e.elim xp xs)
      have T3 := t3 q (by omega) (fun e => e.elim xp xs)
      have T4 := t4 q (by omega) (g3.no q (by omega) xc)
      have T5 := t5 q (by omega) (fun e => e.elim xp xs)
      have T6 := t6 q (by omega) (g5.no q (by omega) xc)
      have T7 := t7 q (by omega) (g6.no q (by omega) xc)
      simp only [Nat.and_or_distrib_right, T1, T2, T3, T4, T5, T6, T7, Nat.or_zero, Nat.zero_or, Nat.zero_and]
  · simp (maxSteps := 4000000) (maxDischargeDepth := 6) [F35]
    refine (next_sp g2 2 (by decide) (by decide)).post (by omega) (by omega) ?_
    rintro _ h3 nx3 tc3 wr3 ⟨r3, rfl, hr3, g3⟩ n3 k3 w3 t3
    simp (maxSteps := 4000000) (maxDischargeDepth := 6) [F35]
    refine (op_sp g3 (by first | omega | (simp only [List.length_append, List.length_cons, List.length_nil]; omega)) _ _).post (by omega) (by omega) ?_
    intro v4 h4 nx4 tc4 wr4 g4 n4 k4 w4 t4
    simp (maxSteps := 4000000) (maxDischargeDepth := 6) [F35]
    refine (next_sp g4 2 (by decide) (by decide)).post (by omega) (by omega) ?_
    rintro _ h5 nx5 tc5 wr5 ⟨r5, rfl, hr5, g5⟩ n5 k5 w5 t5
    simp (maxSteps := 4000000) (maxDischargeDepth := 6) [F35]
    refine (op_sp g5 (by first | omega | (simp only [List.length_append, List.length_cons, List.length_nil]; omega)) _ _).post (by omega) (by omega) ?_
    intro v6 h6 nx6 tc6 wr6 g6 n6 k6 w6 t6
    simp (maxSteps := 4000000) (maxDischargeDepth := 6) [F35]
    refine (op_sp g6 (by first | omega | (simp only [List.length_append, List.length_cons, List.length_nil]; omega)) _ _).post (by omega) (by omega) ?_
    intro v7 h7 nx7 tc7 wr7 g7 n7 k7 w7 t7
    simp (maxSteps := 4000000) (maxDischargeDepth := 6) [F35]
    refine ⟨⟨_, g7, by simp only [List.length_append, List.length_cons, List.length_nil]; omega⟩, by omega, fun q hq hx => g7.k q hq (XP.no hx).1 (XP.no hx).2, fun q hq hx => ?_, fun q hq hx => ?_⟩
    · have ⟨xp, xc⟩ := XP.no hx
      have W1 := w1 q (by omega) xp
      have W2 := w2 q (by omega) xp
      have W3 := w3 q (by omega) xp
      have W4 := w4 q (by omega) (g3.no q (by omega) xc)
      have W5 := w5 q (by omega) xp
      have W6 := w6 q (by omega) (g5.no q (by omega) xc)
      have W7 := w7 q (by omega) (g6.no q (by omega) xc)
      simp only [Nat.and_or_distrib_right, W1, W2, W3, W4, W5, W6, W7, Nat.or_zero, Nat.zero_or, Nat.zero_and]
    · have ⟨xs, hx⟩ := YP.no hx
      have ⟨xp, xc⟩ := XP.no hx
      have T1 := t1 q (by omega) (fun e => e.elim xp xs)
      have T2 := t2 q (by omega) (fun e => e.elim xp xs)
      have T3 := t3 q (by omega) (fun e => e.elim xp xs)
      have T4 := t4 q (by omega) (g3.no q (by omega) xc)
      have T5 := t5 q (by omega) (fun e => e.elim xp xs)
      have T6 := t6 q (by omega) (g5.no q (by omega) xc)
      have T7 := t7 q (by omega) (g6.no q (by omega) xc)
      simp only [Nat.and_or_distrib_right, T1, T2, T3, T4, T5, T6, T7, Nat.or_zero, Nat.zero_or, Nat.zero_and]
  · simp (maxSteps := 4000000) (maxDischargeDepth := 6) [F35]
    refine (op_sp g2 (by first | omega | (simp only [List.length_append, List.length_cons, List.length_nil]; omega)) _ _).post (by omega) (by omega) ?_
    intro v3 h3 nx3 tc3 wr3 g3 n3 k3 w3 t3
    simp (maxSteps := 4000000) (maxDischargeDepth := 6) [F35]
    refine (op_sp g3 (by first | omega | (simp only [List.length_append, List.length_cons, List.length_nil]; omega)) _ _).post (by omega) (by omega) ?_
    intro v4 h4 nx4 tc4 wr4 g4 n4 k4 w4 t4
    simp (maxSteps := 4000000) (maxDischargeDepth := 6) [F35]
    refine (next_sp g4 2 (by decide) (by decide)).post (by omega) (by omega) ?_
    rintro _ h5 nx5 tc5 wr5 ⟨r5, rfl, hr5, g5⟩ n5 k5 w5 t5
    simp (maxSteps := 4000000) (maxDischargeDepth := 6) [F35]
    refine (op_sp g5 (by first | omega | (simp only [List.length_append, List.length_cons, List.length_nil]; omega)) _ _).post (by omega) (by omega) ?_
    intro v6 h6 nx6 tc6 wr6 g6 n6 k6 w6 t6
    simp (maxSteps := 4000000) (maxDischargeDepth := 6) [F35]
    refine (op_sp g6 (by first | omega | (simp only [List.length_append, List.length_cons, List.length_nil]; omega)) _ _).post (by omega) (by omega) ?_
    intro v7 h7 nx7 tc7 wr7 g7 n7 k7 w7 t7
    simp (maxSteps := 4000000) (maxDischargeDepth := 6) [F35]
    refine ⟨⟨_, g7, by simp only [List.length_append, List.length_cons, List.length_nil]; omega⟩, by omega, fun q hq hx => g7.k q hq (XP.no hx).1 (XP.no hx).2, fun q hq hx => ?_, fun q hq hx => ?_⟩
    · have ⟨xp, xc⟩ := XP.no hx
      have W1 := w1 q (by omega) xp
      have W2 := w2 q (by omega) xp
      have W3 := w3 q (by omega) (g2.no q (by omega) xc)
      have W4 := w4 q (by omega) (g3.no q (by omega) xc)
      have W5 := w5 q (by omega) xp
      have W6 := w6 q (by omega) (g5.no q (by omega) xc)
      have W7 := w7 q (by omega) (g6.no q (by omega) xc)
      simp only [Nat.and_or_distrib_right, W1, W2, W3, W4, W5, W6, W7, Nat.or_zero, Nat.zero_or, Nat.zero_and]
    · have ⟨xs, hx⟩ := YP.no hx
      have ⟨xp, xc⟩ := XP.no hx
      have T1 := t1 q (by omega) (fun e => e.elim xp xs)
      have T2 := t2 q (by omega) (fun e => e.elim xp xs)
      have T3 := t3 q (by omega) (g2.no q (by omega) xc)
      have T4 := t4 q (by omega) (g3.no q (by omega) xc)
      have T5 := t5 q (by omega) (fun e => e.elim xp xs)
      have T6 := t6 q (by omega) (g5.no q (by omega) xc)
      have T7 := t7 q (by omega) (g6.no q (by omega) xc)
      simp only [Nat.and_or_distrib_right, T1, T2, T3, T4, T5, T6, T7, Nat.or_zero, Nat.zero_or, Nat.zero_and]
  · simp (maxSteps := 4000000) (maxDischargeDepth := 6) [F35]
    refine (op_sp g2 (by first | omega | (simp only [List.length_append, List.length_cons, List.length_nil]; omega)) _ _).post (by omega) (by omega) ?_
    intro v3 h3 nx3 tc3 wr3 g3 n3 k3 w3 t3
    simp (maxSteps := 4000000) (maxDischargeDepth := 6) [F35]
    refine (op_sp g3 (by first | omega | (simp only [List.length_append, List.length_cons, List.length_nil]; omega)) _ _).post (by omega) (by omega) ?_
    intro v4 h4 nx4 tc4 wr4 g4 n4 k4 w4 t4
    simp (maxSteps := 4000000) (maxDischargeDepth := 6) [F35]
    refine (next_sp g4 2 (by decide) (by decide)).post (by omega) (by omega) ?_
    rintro _ h5 nx5 tc5 wr5 ⟨r5, rfl, hr5, g5⟩ n5 k5 w5 t5
    simp (maxSteps := 4000000) (maxDischargeDepth := 6) [F35]
    refine (op_sp g5 (by first | omega | (simp only [List.length_append, List.length_cons, List.length_nil]; omega)) _ _).post (by omega) (by omega) ?_
    intro v6 h6 nx6 tc6 wr6 g6 n6 k6 w6 t6
    simp (maxSteps := 4000000) (maxDischargeDepth := 6) [F35]
    refine (op_sp g6 (by first | omega | (simp only [List.length_append, List.length_cons, List.length_nil]; omega)) _ _).post (by omega) (by omega) ?_
    intro v7 h7 nx7 tc7 wr7 g7 n7 k7 w7 t7
    simp (maxSteps := 4000000) (maxDischargeDepth := 6) [F35]
    refine ⟨⟨_, g7, by simp only [List.length_append, List.length_cons, List.length_nil]; omega⟩, by omega, fun q hq hx => g7.k q hq (XP.no hx).1 (XP.no hx).2, fun q hq hx => ?_, fun q hq hx => ?_⟩
    · have ⟨xp, xc⟩ := XP.no hx
      have W1 := w1 q (by omega) xp
      have W2 := w2 q (by omega) xp
      have W3 := w3 q (by omega) (g2.no q (by omega) xc)
      have W4 := w4 q (by omega) (g3.no q (by omega) xc)
      have W5 := w5 q (by omega) xp
      have W6 := w6 q (by omega) (g5.no q (by omega) xc)
      have W7 := w7 q (by omega) (g6.no q (by omega) xc)
      simp only [Nat.and_or_distrib_right, W1, W2, W3, W4, W5, W6, W7, Nat.or_zero, Nat.zero_or, Nat.zero_and]
    · have ⟨xs, hx⟩ := YP.no hx
      have ⟨xp, xc⟩ := XP.no hx
      have T1 := t1 q (by omega) (fun e => e.elim xp xs)
      have T2 := t2 q (by omega) (fun e => e.elim xp xs)
      have T3 := t3 q (by omega) (g2.no q (by omega) xc)
      have T4 := t4 q (by omega) (g3.no q (by omega) xc)
      have T5 := t5 q (by omega) (fun e => e.elim xp xs)
      have T6 := t6 q (by omega) (g5.no q (by omega) xc)
      have T7 := t7 q (by omega) (g6.no q (by omega) xc)
      simp only [Nat.and_or_distrib_right, T1, T2, T3, T4, T5, T6, T7, Nat.or_zero, Nat.zero_or, Nat.zero_and]
  · simp (maxSteps := 4000000) (maxDischargeDepth := 6) [F35]
    refine (next_sp g2 2 (by decide) (by decide)).postL (by omega) (by omega) ?_
    rintro _ h3 nx3 tc3 wr3 ⟨r3, rfl, hr3, g3⟩ n3 k3 w3 t3 i3
    simp (maxSteps := 4000000) (maxDischargeDepth := 6) [F35]
    refine (op_sp g3 (by first | omega | (simp only [List.length_append, List.length_cons, List.length_nil]; omega)) _ _).postL (by omega) (by omega) ?_
    intro v4 h4 nx4 tc4 wr4 g4 n4 k4 w4 t4 i4
    simp (maxSteps := 4000000) (maxDischargeDepth := 6) [F35]
    refine (next_sp g4 5 (by decide) (by decide)).postL (by omega) (by omega) ?_
    rintro _ h5 nx5 tc5 wr5 ⟨r5, rfl, hr5, g5⟩ n5 k5 w5 t5 i5
    simp (maxSteps := 4000000) (maxDischargeDepth := 6) [F35]
    refine (op_sp g5 (by first | omega | (simp only [List.length_append, List.length_cons, List.length_nil]; omega)) _ _).postL (by omega) (by omega) ?_
    intro v6 h6 nx6 tc6 wr6 g6 n6 k6 w6 t6 i6
    simp (maxSteps := 4000000) (maxDischargeDepth := 6) [F35]
    refine (next_sp (g6.new _) 2 (by decide) (by decide)).postL (by omega) (by omega) ?_
    rintro _ h7 nx7 tc7 wr7 ⟨r7, rfl, hr7, g7⟩ n7 k7 w7 t7 i7
    have hp7 := g6.tp.hp
    obtain ⟨o7, x7, e7, f7⟩ := lit_el (b := nx6) (nx := nx7) [7, 0] ((k7 nx6 (by omega) (by omega)).trans (Mem.blk_set_same ..)) (by omega) r7 (by simp; omega)
    simp only [List.length_cons, List.length_nil, Nat.reduceAdd] at e7
    simp (maxSteps := 4000000) (maxDischargeDepth := 6) [F35, e7, f7]
    refine (next_sp g7 2 (by decide) (by decide)).postL (by omega) (by omega) ?_
    rintro _ h8 nx8 tc8 wr8 ⟨r8, rfl, hr8, g8⟩ n8 k8 w8 t8 i8
    simp (maxSteps := 4000000) (maxDischargeDepth := 6) [F35, e7, f7]
    refine (op_sp g8 (by first | omega | (simp only [List.length_append, List.length_cons, List.length_nil]; omega)) _ _).postL (by omega) (by omega) ?_
    intro v9 h9 nx9 tc9 wr9 g9 n9 k9 w9 t9 i9
    simp (maxSteps := 4000000) (maxDischargeDepth := 6) [F35, e7, f7]
    refine (op_sp g9 (by first | omega | (simp only [List.length_append, List.length_cons, List.length_nil]; omega)) _ _).postL (by omega) (by omega) ?_
    intro v10 h10 nx10 tc10 wr10 g10 n10 k10 w10 t10 i10
    simp (maxSteps := 4000000) (maxDischargeDepth := 6) [F35, e7, f7]
    refine (op_sp g10 (by first | omega | (simp only [List.length_append, List.length_cons, List.length_nil]; omega)) _ _).postL (by omega) (by omega) ?_
    intro v11 h11 nx11 tc11 wr11 g11 n11 k11 w11 t11 i11
    simp (maxSteps := 4000000) (maxDischargeDepth := 6) [F35, e7, f7]
    refine ⟨⟨⟨⟨ap1 (i3 nx6 (by omega)).2 (new_hi (by omega)), ap1 (i3 nx6 (by omega)).1 (new_hi (by omega))⟩, ⟨ap1 (i4 nx6 (by omega)).2 (new_hi (by omega)), ap1 (i4 nx6 (by omega)).1 (new_hi (by omega))⟩, ⟨ap1 (i5 nx6 (by omega)).2 (new_hi (by omega)), ap1 (i5 nx6 (by omega)).1 (new_hi (by omega))⟩, ⟨ap1 (i6 nx6 (by omega)).2 (new_hi (by omega)), ap1 (i6 nx6 (by omega)).1 (new_hi (by omega))⟩⟩, ⟨ap2 (t7 nx6 (by omega) (fun e => by rcases e with e | e; exact absurd e (by omega); exact absurd (g6.tp.row.lt e) (by omega))) (new_lo (by omega)), ap2 (w7 nx6 (by omega) (by omega)) (new_lo (by omega))⟩, ⟨ap2 (t8 nx6 (by omega) (fun e => by rcases e with e | e; exact absurd e (by omega); exact absurd (g6.tp.row.lt e) (by omega))) (new_lo (by omega)), ap2 (w8 nx6 (by omega) (by omega)) (new_lo (by omega))⟩, ap3 (w8 nx6 (by omega) (by omega)) (new_lo (by omega))⟩, ⟨_, g11, by simp only [List.length_append, List.length_cons, List.length_nil]; omega⟩, by omega, fun q hq hx => g11.k q hq (XP.no hx).1 (XP.no hx).2, fun q hq hx => ?_, fun q hq hx => ?_⟩
    · have ⟨xp, xc⟩ := XP.no hx
      have W1 := w1 q (by omega) xp
      have W2 := w2 q (by omega) xp
      have W3 := low_z (lg := lg) (w3 q (by omega) xp)
      have W4 := low_z (lg := lg) (w4 q (by omega) (g3.no q (by omega) xc))
      have W5 := low_z (lg := lg) (w5 q (by omega) xp)
      have W6 := low_z (lg := lg) (w6 q (by omega) (g5.no q (by omega) xc))
      have W7 := low_z (lg := lg) (w7 q (by omega) xp)
      have W8 := low_z (lg := lg) (w8 q (by omega) xp)
      have W9 := low_z (lg := lg) (w9 q (by omega) (g8.no q (by omega) xc))
      have W10 := low_z (lg := lg) (w10 q (by omega) (g9.no q (by omega) xc))
      have W11 := low_z (lg := lg) (w11 q (by omega) (g10.no q (by omega) xc))
      simp only [Nat.and_or_distrib_right, W1, W2, W3, W4, W5, W6, W7, W8, W9, W10, W11, Nat.or_zero, Nat.zero_or, Nat.zero_and]
    · have ⟨xs, hx⟩ := YP.no hx
      have ⟨xp, xc⟩ := XP.no hx
      have T1 := t1 q (by omega) (fun e => e.elim xp xs)
      have T2 := t2 q (by omega) (fun e => e.elim xp xs)
      have T3 := low_z (lg := lg) (t3 q (by omega) (fun e => e.elim xp xs))
      have T4 := low_z (lg := lg) (t4 q (by omega) (g3.no q (by omega) xc))
      have T5 := low_z (lg := lg) (t5 q (by omega) (fun e => e.elim xp xs))
      have T6 := low_z (lg := lg) (t6 q (by omega) (g5.no q (by omega) xc))
      have T7 := low_z (lg := lg) (t7 q (by omega) (fun e => e.elim xp xs))
      have T8 := low_z (lg := lg) (t8 q (by omega) (fun e => e.elim xp xs))
      have T9 := low_z (lg := lg) (t9 q (by omega) (g8.no q (by omega) xc))
      have T10 := low_z (lg := lg) (t10 q (by omega) (g9.no q (by omega) xc))
      have T11 := low_z (lg := lg) (t11 q (by omega) (g10.no q (by omega) xc))
      have B6 := low_z (lg := lg) (bit_and (lg := nx7) (a := nx6) (b := q) (by omega))
      simp only [Nat.and_or_distrib_right, T1, T2, T3, T4, T5, T6, T7, T8, T9, T10, T11, B6, Nat.or_zero, Nat.zero_or, Nat.zero_and]
  · simp (maxSteps := 4000000) (maxDischargeDepth := 6) [F35]
    refine (next_sp g2 2 (by decide) (by decide)).postL (by omega) (by omega) ?_
    rintro _ h3 nx3 tc3 wr3 ⟨r3, rfl, hr3, g3⟩ n3 k3 w3 t3 i3
    simp (maxSteps := 4000000) (maxDischargeDepth := 6) [F35]
    refine (op_sp g3 (by first | omega | (simp only [List.length_append, List.length_cons, List.length_nil]; omega)) _ _).postL (by omega) (by omega) ?_
    intro v4 h4 nx4 tc4 wr4 g4 n4 k4 w4 t4 i4
    simp (maxSteps := 4000000) (maxDischargeDepth := 6) [F35]
    refine (next_sp g4 5 (by decide) (by decide)).postL (by omega) (by omega) ?_
    rintro _ h5 nx5 tc5 wr5 ⟨r5, rfl, hr5, g5⟩ n5 k5 w5 t5 i5
    simp (maxSteps := 4000000) (maxDischargeDepth := 6) [F35]
    refine (op_sp g5 (by first | omega | (simp only [List.length_append, List.length_cons, List.length_nil]; omega)) _ _).postL (by omega) (by omega) ?_
    intro v6 h6 nx6 tc6 wr6 g6 n6 k6 w6 t6 i6
    simp (maxSteps := 4000000) (maxDischargeDepth := 6) [F35]
    refine (next_sp (g6.new _) 2 (by decide) (by decide)).postL (by omega) (by omega) ?_
    rintro _ h7 nx7 tc7 wr7 ⟨r7, rfl, hr7, g7⟩ n7 k7 w7 t7 i7
    have hp7 := g6.tp.hp
    obtain ⟨o7, x7, e7, f7⟩ := lit_el (b := nx6) (nx := nx7) [7, 0] ((k7 nx6 (by omega) (by omega)).trans (Mem.blk_set_same ..)) (by omega) r7 (by simp; omega)
    simp only [List.length_cons, List.length_nil, Nat.reduceAdd] at e7
    simp (maxSteps := 4000000) (maxDischargeDepth := 6) [F35, e7, f7]
    refine (next_sp g7 2 (by decide) (by decide)).postL (by omega) (by omega) ?_
    rintro _ h8 nx8 tc8 wr8 ⟨r8, rfl, hr8, g8⟩ n8 k8 w8 t8 i8
    simp (maxSteps := 4000000) (maxDischargeDepth := 6) [F35, e7, f7]
    refine (op_sp g8 (by first | omega | (simp only [List.length_append, List.length_cons, List.length_nil]; omega)) _ _).postL (by omega) (by omega) ?_
    intro v9 h9 nx9 tc9 wr9 g9 n9 k9 w9 t9 i9
    simp (maxSteps := 4000000) (maxDischargeDepth := 6) [F35, e7, f7]
    refine (op_sp g9 (by first | omega | (simp only [List.length_append, List.length_cons, List.length_nil]; omega)) _ _).postL (by omega) (by omega) ?_
    intro v10 h10 nx10 tc10 wr10 g10 n10 k10 w10 t10 i10
    simp (maxSteps := 4000000) (maxDischargeDepth := 6) [F35, e7, f7]
    refine (op_sp g10 (by first | omega | (simp only [List.length_append, List.length_cons, List.length_nil]; omega)) _ _).postL (by omega) (by omega) ?_
    intro v11 h11 nx11 tc11 wr11 g11 n11 k11 w11 t11 i11
    simp (maxSteps := 4000000) (maxDischargeDepth := 6) [F35, e7, f7]
    refine ⟨⟨⟨⟨ap1 (i3 nx6 (by omega)).2 (new_hi (by omega)), ap1 (i3 nx6 (by omega)).1 (new_hi (by omega))⟩, ⟨ap1 (i4 nx6 (by omega)).2 (new_hi (by omega)), ap1 (i4 nx6 (by omega)).1 (new_hi (by omega))⟩, ⟨ap1 (i5 nx6 (by omega)).2 (new_hi (by omega)), ap1 (i5 nx6 (by omega)).1 (new_hi (by omega))⟩, ⟨ap1 (i6 nx6 (by omega)).2 (new_hi (by omega)), ap1 (i6 nx6 (by omega)).1 (new_hi (by omega))⟩⟩, ⟨ap2 (t7 nx6 (by omega) (fun e => by rcases e with e | e; exact absurd e (by omega); exact absurd (g6.tp.row.lt e) (by omega))) (new_lo (by omega)), ap2 (w7 nx6 (by omega) (by omega)) (new_lo (by omega))⟩, ⟨ap2 (t8 nx6 (by omega) (fun e => by rcases e with e | e; exact absurd e (by omega); exact absurd (g6.tp.row.lt e) (by omega))) (new_lo (by omega)), ap2 (w8 nx6 (by omega) (by omega)) (new_lo (by omega))⟩, ap3 (w8 nx6 (by omega) (by omega)) (new_lo (by omega))⟩, ⟨_, g11, by simp only [List.length_append, List.length_cons, List.length_nil]; omega⟩, by omega, fun q hq hx => g11.k q hq (XP.no hx).1 (XP.no hx).2, fun q hq hx => ?_, fun q hq hx => ?_⟩
    · have ⟨xp, xc⟩ := XP.no hx
      have W1 := w1 q (by omega) xp
      have W2 := w2 q (by omega) xp
      have W3 := low_z (lg := lg) (w3 q (by omega) xp)
      have W4 := low_z (lg := lg) (w4 q (by omega) (g3.no q (by omega) xc))
      have W5 := low_z (lg := lg) (w5 q (by omega) xp)
      have W6 := low_z (lg := lg) (w6 q (by omega) (g5.no q (by omega) xc))
      have W7 := low_z (lg := lg) (w7 q (by omega) xp)
      have W8 := low_z (lg := lg) (w8 q (by omega) xp)
      have W9 := low_z (lg := lg) (w9 q (by omega) (g8.no q (by omega) xc))
      have W10 := low_z (lg := lg) (w10 q (by omega) (g9.no q (by omega) xc))
      have W11 := low_z (lg := lg) (w11 q (by omega) (g10.no q (by omega) xc))
      simp only [Nat.and_or_distrib_right, W1, W2, W3, W4, W5, W6, W7, W8, W9, W10, W11, Nat.or_zero, Nat.zero_or, Nat.zero_and]
    · have ⟨xs, hx⟩ := YP.no hx
      have ⟨xp, xc⟩ := XP.no hx
      have T1 := t1 q (by omega) (fun e => e.elim xp xs)
      have T2 := t2 q (by omega) (fun e => e.elim xp xs)
      have T3 := low_z (lg := lg) (t3 q (by omega) (fun e => e.elim xp xs))
      have T4 := low_z (lg := lg) (t4 q (by omega) (g3.no q (by omega) xc))
      have T5 := low_z (lg := lg) (t5 q (by omega) (fun e => e.elim xp xs))
      have T6 := low_z (lg := lg) (t6 q (by omega) (g5.no q (by omega) xc))
      have T7 := low_z (lg := lg) (t7 q (by omega) (fun e => e.elim xp xs))
      have T8 := low_z (lg := lg) (t8 q (by omega) (fun e => e.elim xp xs))
      have T9 := low_z (lg := lg) (t9 q (by omega) (g8.no q (by omega) xc))
      have T10 := low_z (lg := lg) (t10 q (by omega) (g9.no q (by omega) xc))
      have T11 := low_z (lg := lg) (t11 q (by omega) (g10.no q (by omega) xc))
      have B6 := low_z (lg := lg) (bit_and (lg := nx7) (a := nx6) (b := q) (by omega))
      simp only [Nat.and_or_distrib_right, T1, T2, T3, T4, T5, T6, T7, T8, T9, T10, T11, B6, Nat.or_zero, Nat.zero_or, Nat.zero_and]
  · simp (maxSteps := 4000000) (maxDischargeDepth := 6) [F35]
    refine (next_sp g2 2 (by decide) (by decide)).post (by omega) (by omega) ?_
    rintro _ h3 nx3 tc3 wr3 ⟨r3, rfl, hr3, g3⟩ n3 k3 w3 t3
    simp (maxSteps := 4000000) (maxDischargeDepth := 6) [F35]
    refine (op_sp g3 (by first | omega | (simp only [List.length_append, List.length_cons, List.length_nil]; omega)) _ _).post (by omega) (by omega) ?_
    intro v4 h4 nx4 tc4 wr4 g4 n4 k4 w4 t4
    simp (maxSteps := 4000000) (maxDischargeDepth := 6) [F35]
    refine (next_sp g4 4 (by decide) (by decide)).post (by omega) (by omega) ?_
    rintro _ h5 nx5 tc5 wr5 ⟨r5, rfl, hr5, g5⟩ n5 k5 w5 t5
    simp (maxSteps := 4000000) (maxDischargeDepth := 6) [F35]
    refine (op_sp g5 (by first | omega | (simp only [List.length_append, List.length_cons, List.length_nil]; omega)) _ _).post (by omega) (by omega) ?_
    intro v6 h6 nx6 tc6 wr6 g6 n6 k6 w6 t6
    simp (maxSteps := 4000000) (maxDischargeDepth := 6) [F35]
    refine (op_sp g6 (by first | omega | (simp only [List.length_append, List.length_cons, List.length_nil]; omega)) _ _).post (by omega) (by omega) ?_
    intro v7 h7 nx7 tc7 wr7 g7 n7 k7 w7 t7
    simp (maxSteps := 4000000) (maxDischargeDepth := 6) [F35]
    refine (op_sp g7 (by first | omega | (simp only [List.length_append, List.length_cons, List.length_nil]; omega)) _ _).post (by omega) (by omega) ?_
    intro v8 h8 nx8 tc8 wr8 g8 n8 k8 w8 t8
    simp (maxSteps := 4000000) (maxDischargeDepth := 6) [F35]
    refine ⟨⟨_, g8, by simp only [List.length_append, List.length_cons, List.length_nil]; omega⟩, by omega, fun q hq hx => g8.k q hq (XP.no hx).1 (XP.no hx).2, fun q hq hx => ?_, fun q hq hx => ?_⟩
    · have ⟨xp, xc⟩ := XP.no hx
      have W1 := w1 q (by omega) xp
      have W2 := w2 q (by omega) xp
      have W3 := w3 q (by omega) xp
      have W4 := w4 q (by omega) (g3.no q (by omega) xc)
      have W5 := w5 q (by omega) xp
      have W6 := w6 q (by omega) (g5.no q (by omega) xc)
      have W7 := w7 q (by omega) (g6.no q (by omega) xc)
      have W8 := w8 q (by omega) (g7.no q (by omega) xc)
      simp only [Nat.and_or_distrib_right, W1, W2, W3, W4, W5, W6, W7, W8, Nat.or_zero, Nat.zero_or, Nat.zero_and]
    · have ⟨xs, hx⟩ := YP.no hx
      have ⟨xp, xc⟩ := XP.no hx
      have T1 := t1 q (by omega) (fun e => e.elim xp xs)
      have T2 := t2 q (by omega) (fun e => e.elim xp xs)
      have T3 := t3 q (by omega) (fun e => e.elim xp xs)
      have T4 := t4 q (by omega) (g3.no q (by omega) xc)
      have T5 := t5 q (by omega) (fun e => e.elim xp xs)
      have T6 := t6 q (by omega) (g5.no q (by omega) xc)
      have T7 := t7 q (by omega) (g6.no q (by omega) xc)
      have T8 := t8 q (by omega) (g7.no q (by omega) xc)
      simp only [Nat.and_or_distrib_right, T1, T2, T3, T4, T5, T6, T7, T8, Nat.or_zero, Nat.zero_or, Nat.zero_and]
  · simp (maxSteps := 4000000) (maxDischargeDepth := 6) [F35]
    refine (op_sp g2 (by first | omega | (simp only [List.length_append, List.length_cons, List.length_nil]; omega)) _ _).post (by omega) (by omega) ?_
    intro v3 h3 nx3 tc3 wr3 g3 n3 k3 w3 t3
    simp (maxSteps := 4000000) (maxDischargeDepth := 6) [F35]
    refine (op_sp g3 (by first | omega | (simp only [List.length_append, List.length_cons, List.length_nil]; omega)) _ _).post (by omega) (by omega) ?_
    intro v4 h4 nx4 tc4 wr4 g4 n4 k4 w4 t4
    simp (maxSteps := 4000000) (maxDischargeDepth := 6) [F35]
    refine (op_sp g4 (by first | omega | (simp only [List.length_append, List.length_cons, List.length_nil]; omega)) _ _).post (by omega) (by omega) ?_
    intro v5 h5 nx5 tc5 wr5 g5 n5 k5 w5 t5
    simp (maxSteps := 4000000) (maxDischargeDepth := 6) [F35]
    refine ⟨⟨_, g5, by simp only [List.length_append, List.length_cons, List.length_nil]; omega⟩, by omega, fun q hq hx => g5.k q hq (XP.no hx).1 (XP.no hx).2, fun q hq hx => ?_, fun q hq hx => ?_⟩
    · have ⟨xp, xc⟩ := XP.no hx
      have W1 := w1 q (by omega) xp
      have W2 := w2 q (by omega) xp
      have W3 := w3 q (by omega) (g2.no q (by omega) xc)
      have W4 := w4 q (by omega) (g3.no q (by omega) xc)
      have W5 := w5 q (by omega) (g4.no q (by omega) xc)
      simp only [Nat.and_or_distrib_right, W1, W2, W3, W4, W5, Nat.or_zero, Nat.zero_or, Nat.zero_and]
    · have ⟨xs, hx⟩ := YP.no hx
      have ⟨xp, xc⟩ := XP.no hx
      have T1 := t1 q (by omega) (fun e => e.elim xp xs)
      have T2 := t2 q (by omega) (fun e => e.elim xp xs)
      have T3 := t3 q (by omega) (g2.no q (by omega) xc)
      have T4 := t4 q (by omega) (g3.no q (by omega) xc)
      have T5 := t5 q (by omega) (g4.no q (by omega) xc)
      simp only [Nat.and_or_distrib_right, T1, T2, T3, T4, T5, Nat.or_zero, Nat.zero_or, Nat.zero_and]
  · simp (maxSteps := 4000000) (maxDischargeDepth := 6) [F35]
    refine (op_sp g2 (by first | omega | (simp only [List.length_append, List.length_cons, List.length_nil]; omega)) _ _).post (by omega) (by omega) ?_
    intro v3 h3 nx3 tc3 wr3 g3 n3 k3 w3 t3
    simp (maxSteps := 4000000) (maxDischargeDepth := 6) [F35]
    refine (op_sp g3 (by first | omega | (simp only [List.length_append, List.length_cons, List.length_nil]; omega)) _ _).post (by omega) (by omega) ?_
    intro v4 h4 nx4 tc4 wr4 g4 n4 k4 w4 t4
    simp (maxSteps := 4000000) (maxDischargeDepth := 6) [F35]
    refine (op_sp g4 (by first | omega | (simp only [List.length_append, List.length_cons, List.length_nil]; omega)) _ _).post (by omega) (by omega) ?_
    intro v5 h5 nx5 tc5 wr5 g5 n5 k5 w5 t5
    simp (maxSteps := 4000000) (maxDischargeDepth := 6) [F35]
    refine (op_sp g5 (by first | omega | (simp only [List.length_append, List.length_cons, List.length_nil]; omega)) _ _).post (by omega) (by omega) ?_
    intro v6 h6 nx6 tc6 wr6 g6 n6 k6 w6 t6
    simp (maxSteps := 4000000) (maxDischargeDepth := 6) [F35]
    refine ⟨⟨_, g6, by simp only [List.length_append, List.length_cons, List.length_nil]; omega⟩, by omega, fun q hq hx => g6.k q hq (XP.no hx).1 (XP.no hx).2, fun q hq hx => ?_, fun q hq hx => ?_⟩
    · have ⟨xp, xc⟩ := XP.no hx
      have W1 := w1 q (by omega) xp
      have W2 := w2 q (by omega) xp
      have W3 := w3 q (by omega) (g2.no q (by omega) xc)
      have W4 := w4 q (by omega) (g3.no q (by omega) xc)
      have W5 := w5 q (by omega) (g4.no q (by omega) xc)
      have W6 := w6 q (by omega) (g5.no q (by omega) xc)
      simp only [Nat.and_or_distrib_right, W1, W2, W3, W4, W5, W6, Nat.or_zero, Nat.zero_or, Nat.zero_and]
    · have ⟨xs, hx⟩ := YP.no hx
      have ⟨xp, xc⟩ := XP.no hx
      have T1 := t1 q (by omega) (fun e => e.elim xp xs)
      have T2 := t2 q (by omega) (fun e => e.elim xp xs)
      have T3 := t3 q (by omega) (g2.no q (by omega) xc)
      have T4 := t4 q (by omega) (g3.no q (by omega) xc)
      have T5 := t5 q (by omega) (g4.no q (by omega) xc)
      have T6 := t6 q (by omega) (g5.no q (by omega) xc)
      simp only [Nat.and_or_distrib_right, T1, T2, T3, T4, T5, T6, Nat.or_zero, Nat.zero_or, Nat.zero_and]
  · simp (maxSteps := 4000000) (maxDischargeDepth := 6) [F35]
    refine (op_sp g2 (by first | omega | (simp only [List.length_append, List.length_cons, List.length_nil]; omega)) _ _).post (by omega) (by omega) ?_
    intro v3 h3 nx3 tc3 wr3 g3 n3 k3 w3 t3
    simp (maxSteps := 4000000) (maxDischargeDepth := 6) [F35]
    refine (next_sp g3 4 (by decide) (by decide)).post (by omega) (by omega) ?_
    rintro _ h4 nx4 tc4 wr4 ⟨r4, rfl, hr4, g4⟩ n4 k4 w4 t4
    simp (maxSteps := 4000000) (maxDischargeDepth := 6) [F35]
    refine (op_sp g4 (by first | omega | (simp only [List.length_append, List.length_cons, List.length_nil]; omega)) _ _).post (by omega) (by omega) ?_
    intro v5 h5 nx5 tc5 wr5 g5 n5 k5 w5 t5
    simp (maxSteps := 4000000) (maxDischargeDepth := 6) [F35]
    refine (op_sp g5 (by first | omega | (simp only [List.length_append, List.length_cons, List.length_nil]; omega)) _ _).post (by omega) (by omega) ?_
    intro v6 h6 nx6 tc6 wr6 g6 n6 k6 w6 t6
    simp (maxSteps := 4000000) (maxDischargeDepth := 6) [F35]
    refine (op_sp g6 (by first | omega | (simp only [List.length_append, List.length_cons, List.length_nil]; omega)) _ _).post (by omega) (by omega) ?_
    intro v7 h7 nx7 tc7 wr7 g7 n7 k7 w7 t7
    simp (maxSteps := 4000000) (maxDischargeDepth := 6) [F35]
    refine ⟨⟨_, g7, by simp only [List.length_append, List.length_cons, List.length_nil]; omega⟩, by omega, fun q hq hx => g7.k q hq (XP.no hx).1 (XP.no hx).2, fun q hq hx => ?_, fun q hq hx => ?_⟩
    · have ⟨xp, xc⟩ := XP.no hx
      have W1 := w1 q (by omega) xp
      have W2 := w2 q (by omega) xp
      have W3 := w3 q (by omega) (g2.no q (by omega) xc)
      have W4 := w4 q (by omega) xp
      have W5 := w5 q (by omega) (g4.no q (by omega) xc)
      have W6 := w6 q (by omega) (g5.no q (by omega) xc)
      have W7 := w7 q (by omega) (g6.no q (by omega) xc)
      simp only [Nat.and_or_distrib_right, W1, W2, W3, W4, W5, W6, W7, Nat.or_zero, Nat.zero_or, Nat.zero_and]
    · have ⟨xs, hx⟩ := YP.no hx
      have ⟨xp, xc⟩ := XP.no hx
      have T1 := t1 q (by omega) (fun e => e.elim xp xs)
      have T2 := t2 q (by omega) (fun e => e.elim xp xs)
      have T3 := t3 q (by omega) (g2.no q (by omega) xc)
      have T4 := t4 q (by omega) (fun e => e.elim xp xs)
      have T5 := t5 q (by omega) (g4.no q (by omega) xc)
      have T6 := t6 q (by omega) (g5.no q (by omega) xc)
      have T7 := t7 q (by omega) (g6.no q (by omega) xc)
      simp only [Nat.and_or_distrib_right, T1, T2, T3, T4, T5, T6, T7, Nat.or_zero, Nat.zero_or, Nat.zero_and]
  · simp (maxSteps := 4000000) (maxDischargeDepth := 6) [F35]
    refine (next_sp g2 4 (by decide) (by decide)).post (by omega) (by omega) ?_
    rintro _ h3 nx3 tc3 wr3 ⟨r3, rfl, hr3, g3⟩ n3 k3 w3 t3
    simp (maxSteps := 4000000) (maxDischargeDepth := 6) [F35]
    refine (op_sp g3 (by first | omega | (simp only [List.length_append, List.length_cons, List.length_nil]; omega)) _ _).post (by omega) (by omega) ?_
    intro v4 h4 nx4 tc4 wr4 g4 n4 k4 w4 t4
    simp (maxSteps := 4000000) (maxDischargeDepth := 6) [F35]
    refine (next_sp g4 2 (by decide) (by decide)).post (by omega) (by omega) ?_
    rintro _ h5 nx5 tc5 wr5 ⟨r5, rfl, hr5, g5⟩ n5 k5 w5 t5
    simp (maxSteps := 4000000) (maxDischargeDepth := 6) [F35]
    refine (op_sp g5 (by first | omega | (simp only [List.length_append, List.length_cons, List.length_nil]; omega)) _ _).post (by omega) (by omega) ?_
    intro v6 h6 nx6 tc6 wr6 g6 n6 k6 w6 t6
    simp (maxSteps := 4000000) (maxDischargeDepth := 6) [F35]
    refine (op_sp g6 (by first | omega | (simp only [List.length_append, List.length_cons, List.length_nil]; omega)) _ _).post (by omega) (by omega) ?_
    intro v7 h7 nx7 tc7 wr7 g7 n7 k7 w7 t7
    simp (maxSteps := 4000000) (maxDischargeDepth := 6) [F35]
    refine ⟨⟨_, g7, by simp only [List.length_append, List.length_cons, List.length_nil]; omega⟩, by omega, fun q hq hx => g7.k q hq (XP.no hx).1 (XP.no hx).2, fun q hq hx => ?_, fun q hq hx => ?_⟩
    · have ⟨xp, xc⟩ := XP.no hx
      have W1 := w1 q (by omega) xp
      have W2 := w2 q (by omega) xp
      have W3 := w3 q (by omega) xp
      have W4 := w4 q (by omega) (g3.no q (by omega) xc)
      have W5 := w5 q (by omega) xp
      have W6 := w6 q (by omega) (g5.no q (by omega) xc)
      have W7 := w7 q (by omega) (g6.no q (by omega) xc)
      simp only [Nat.and_or_distrib_right, W1, W2, W3, W4, W5, W6, W7, Nat.or_zero, Nat.zero_or, Nat.zero_and]
    · have ⟨xs, hx⟩ := YP.no hx
      have ⟨xp, xc⟩ := XP.no hx
      have T1 := t1 q (by omega) (fun e => e.elim xp xs)
      have T2 := t2 q (by omega) (fun e => e.elim xp xs)
      have T3 := t3 q (by omega) (fun e => e.elim xp xs)
      have T4 := t4 q (by omega) (g3.no q (by omega) xc)
      have T5 := t5 q (by omega) (fun e => e.elim xp xs)
      have T6 := t6 q (by omega) (g5.no q (by omega) xc)
      have T7 := t7 q (by omega) (g6.no q (by omega) xc)
      simp only [Nat.and_or_distrib_right, T1, T2, T3, T4, T5, T6, T7, Nat.or_zero, Nat.zero_or, Nat.zero_and]
  · simp (maxSteps := 4000000) (maxDischargeDepth := 6) [F35]
    refine (next_sp (g2.new _) 3 (by decide) (by decide)).post (by omega) (by omega) ?_
    rintro _ h3 nx3 tc3 wr3 ⟨r3, rfl, hr3, g3⟩ n3 k3 w3 t3
    have hp3 := g2.tp.hp
    obtain ⟨o3, x3, e3, f3⟩ := lit_el (b := nx2) (nx := nx3) [14, 21, 23] ((k3 nx2 (by omega) (by omega)).trans (Mem.blk_set_same ..)) (by omega) r3 (by simp; omega)
    simp only [List.length_cons, List.length_nil, Nat.reduceAdd] at e3
    simp (maxSteps := 4000000) (maxDischargeDepth := 6) [F35, e3, f3]
    refine (op_sp g3 (by first | omega | (simp only [List.length_append, List.length_cons, List.length_nil]; omega)) _ _).post (by omega) (by omega) ?_
    intro v4 h4 nx4 tc4 wr4 g4 n4 k4 w4 t4
    simp (maxSteps := 4000000) (maxDischargeDepth := 6) [F35, e3, f3]
    refine (op_sp g4 (by first | omega | (simp only [List.length_append, List.length_cons, List.length_nil]; omega)) _ _).post (by omega) (by omega) ?_
    intro v5 h5 nx5 tc5 wr5 g5 n5 k5 w5 t5
    simp (maxSteps := 4000000) (maxDischargeDepth := 6) [F35, e3, f3]
    refine ⟨⟨_, g5, by simp only [List.length_append, List.length_cons, List.length_nil]; omega⟩, by omega, fun q hq hx => g5.k q hq (XP.no hx).1 (XP.no hx).2, fun q hq hx => ?_, fun q hq hx => ?_⟩
    · have ⟨xp, xc⟩ := XP.no hx
      have W1 := w1 q (by omega) xp
      have W2 := w2 q (by omega) xp
      have W3 := w3 q (by omega) xp
      have W4 := w4 q (by omega) (g3.no q (by omega) xc)
      have W5 := w5 q (by omega) (g4.no q (by omega) xc)
      simp only [Nat.and_or_distrib_right, W1, W2, W3, W4, W5, Nat.or_zero, Nat.zero_or, Nat.zero_and]
    · have ⟨xs, hx⟩ := YP.no hx
      have ⟨xp, xc⟩ := XP.no hx
      have T1 := t1 q (by omega) (fun e => e.elim xp xs)
      have T2 := t2 q (by omega) (fun e => e.elim xp xs)
      have T3 := t3 q (by omega) (fun e => e.elim xp xs)
      have T4 := t4 q (by omega) (g3.no q (by omega) xc)
      have T5 := t5 q (by omega) (g4.no q (by omega) xc)
      have B2 := bit_and (lg := lg) (a := nx2) (b := q) (by omega)
      simp only [Nat.and_or_distrib_right, T1, T2, T3, T4, T5, B2, Nat.or_zero, Nat.zero_or, Nat.zero_and]
  · simp (maxSteps := 4000000) (maxDischargeDepth := 6) [F35]
    refine (next_sp g2 2 (by decide) (by decide)).post (by omega) (by omega) ?_
    rintro _ h3 nx3 tc3 wr3 ⟨r3, rfl, hr3, g3⟩ n3 k3 w3 t3
    simp (maxSteps := 4000000) (maxDischargeDepth := 6) [F35]
    refine (op_sp g3 (by first | omega | (simp only [List.length_append, List.length_cons, List.length_nil]; omega)) _ _).post (by omega) (by omega) ?_
    intro v4 h4 nx4 tc4 wr4 g4 n4 k4 w4 t4
    simp (maxSteps := 4000000) (maxDischargeDepth := 6) [F35]
    refine (op_sp g4 (by first | omega | (simp only [List.length_append, List.length_cons, List.length_nil]; omega)) _ _).post (by omega) (by omega) ?_
    intro v5 h5 nx5 tc5 wr5 g5 n5 k5 w5 t5
    simp (maxSteps := 4000000) (maxDischargeDepth := 6) [F35]
    refine (op_sp g5 (by first | omega | (simp only [List.length_append, List.length_cons, List.length_nil]; omega)) _ _).post (by omega) (by omega) ?_
    intro v6 h6 nx6 tc6 wr6 g6 n6 k6 w6 t6
    simp (maxSteps := 4000000) (maxDischargeDepth := 6) [F35]
    refine (op_sp g6 (by first | omega | (simp only [List.length_append, List.length_cons, List.length_nil]; omega)) _ _).post (by omega) (by omega) ?_
    intro v7 h7 nx7 tc7 wr7 g7 n7 k7 w7 t7
    simp (maxSteps := 4000000) (maxDischargeDepth := 6) [F35]
    refine ⟨⟨_, g7, by simp only [List.length_append, List.length_cons, List.length_nil]; omega⟩, by omega, fun q hq hx => g7.k q hq (XP.no hx).1 (XP.no hx).2, fun q hq hx => ?_, fun q hq hx => ?_⟩
    · have ⟨xp, xc⟩ := XP.no hx
      have W1 := w1 q (by omega) xp
      have W2 := w2 q (by omega) xp
      have W3 := w3 q (by omega) xp
      have W4 := w4 q (by omega) (g3.no q (by omega) xc)
      have W5 := w5 q (by omega) (g4.no q (by omega) xc)
      have W6 := w6 q (by omega) (g5.no q (by omega) xc)
      have W7 := w7 q (by omega) (g6.no q (by omega) xc)
      simp only [Nat.and_or_distrib_right, W1, W2, W3, W4, W5, W6, W7, Nat.or_zero, Nat.zero_or, Nat.zero_and]
    · have ⟨xs, hx⟩ := YP.no hx
      have ⟨xp, xc⟩ := XP.no hx
      have T1 := t1 q (by omega) (fun e => e.elim xp xs)
      have T2 := t2 q (by omega) (fun e => e.elim xp xs)
      have T3 := t3 q (by omega) (fun e => e.elim xp xs)
      have T4 := t4 q (by omega) (g3.no q (by omega) xc)
      have T5 := t5 q (by omega) (g4.no q (by omega) xc)
      have T6 := t6 q (by omega) (g5.no q (by omega) xc)
      have T7 := t7 q (by omega) (g6.no q (by omega) xc)
      simp only [Nat.and_or_distrib_right, T1, T2, T3, T4, T5, T6, T7, Nat.or_zero, Nat.zero_or, Nat.zero_and]
  · simp (maxSteps := 4000000) (maxDischargeDepth := 6) [F35]
    refine (op_sp g2 (by first | omega | (simp only [List.length_append, List.length_cons, List.length_nil]; omega)) _ _).post (by omega) (by omega) ?_
    intro v3 h3 nx3 tc3 wr3 g3 n3 k3 w3 t3
    simp (maxSteps := 4000000) (maxDischargeDepth := 6) [F35]
    refine (op_sp g3 (by first | omega | (simp only [List.length_append, List.length_cons, List.length_nil]; omega)) _ _).post (by omega) (by omega) ?_
    intro v4 h4 nx4 tc4 wr4 g4 n4 k4 w4 t4
    simp (maxSteps := 4000000) (maxDischargeDepth := 6) [F35]
    refine (next_sp g4 9 (by decide) (by decide)).post (by omega) (by omega) ?_
    rintro _ h5 nx5 tc5 wr5 ⟨r5, rfl, hr5, g5⟩ n5 k5 w5 t5
    simp (maxSteps := 4000000) (maxDischargeDepth := 6) [F35]
    refine (op_sp g5 (by first | omega | (simp only [List.length_append, List.length_cons, List.length_nil]; omega)) _ _).post (by omega) (by omega) ?_
    intro v6 h6 nx6 tc6 wr6 g6 n6 k6 w6 t6
    simp (maxSteps := 4000000) (maxDischargeDepth := 6) [F35]
    refine (op_sp g6 (by first | omega | (simp only [List.length_append, List.length_cons, List.length_nil]; omega)) _ _).post (by omega) (by omega) ?_
    intro v7 h7 nx7 tc7 wr7 g7 n7 k7 w7 t7
    simp (maxSteps := 4000000) (maxDischargeDepth := 6) [F35]
    refine (op_sp g7 (by first | omega | (simp only [List.length_append, List.length_cons, List.length_nil]; omega)) _ _).post (by omega) (by omega) ?_
    intro v8 h8 nx8 tc8 wr8 g8 n8 k8 w8 t8
    simp (maxSteps := 4000000) (maxDischargeDepth := 6) [F35]
    refine ⟨⟨_, g8, by simp only [List.length_append, List.length_cons, List.length_nil]; omega⟩, by omega, fun q hq hx => g8.k q hq (XP.no hx).1 (XP.no hx).2, fun q hq hx => ?_, fun q hq hx => ?_⟩
    · have ⟨xp, xc⟩ := XP.no hx
      have W1 := w1 q (by omega) xp
      have W2 := w2 q (by omega) xp
      have W3 := w3 q (by omega) (g2.no q (by omega) xc)
      have W4 := w4 q (by omega) (g3.no q (by omega) xc)
      have W5 := w5 q (by omega) xp
      have W6 := w6 q (by omega) (g5.no q (by omega) xc)
      have W7 := w7 q (by omega) (g6.no q (by omega) xc)
      have W8 := w8 q (by omega) (g7.no q (by omega) xc)
      simp only [Nat.and_or_distrib_right, W1, W2, W3, W4, W5, W6, W7, W8, Nat.or_zero, Nat.zero_or, Nat.zero_and]
    · have ⟨xs, hx⟩ := YP.no hx
      have ⟨xp, xc⟩ := XP.no hx
      have T1 := t1 q (by omega) (fun e => e.elim xp xs)
      have T2 := t2 q (by omega) (fun e => e.elim xp xs)
      have T3 := t3 q (by omega) (g2.no q (by omega) xc)
      have T4 := t4 q (by omega) (g3.no q (by omega) xc)
      have T5 := t5 q (by omega) (fun e => e.elim xp xs)
      have T6 := t6 q (by omega) (g5.no q (by omega) xc)
      have T7 := t7 q (by omega) (g6.no q (by omega) xc)
      have T8 := t8 q (by omega) (g7.no q (by omega) xc)
      simp only [Nat.and_or_distrib_right, T1, T2, T3, T4, T5, T6, T7, T8, Nat.or_zero, Nat.zero_or, Nat.zero_and]
  · simp (maxSteps := 4000000) (maxDischargeDepth := 6) [F35]
    refine (op_sp g2 (by first | omega | (simp only [List.length_append, List.length_cons, List.length_nil]; omega)) _ _).post (by omega) (by omega) ?_
    intro v3 h3 nx3 tc3 wr3 g3 n3 k3 w3 t3
    simp (maxSteps := 4000000) (maxDischargeDepth := 6) [F35]
    refine (op_sp g3 (by first | omega | (simp only [List.length_append, List.length_cons, List.length_nil]; omega)) _ _).post (by omega) (by omega) ?_
    intro v4 h4 nx4 tc4 wr4 g4 n4 k4 w4 t4
    simp (maxSteps := 4000000) (maxDischargeDepth := 6) [F35]
    refine (next_sp (g4.new _) 2 (by decide) (by decide)).post (by omega) (by omega) ?_
    rintro _ h5 nx5 tc5 wr5 ⟨r5, rfl, hr5, g5⟩ n5 k5 w5 t5
    have hp5 := g4.tp.hp
    obtain ⟨o5, x5, e5, f5⟩ := lit_el (b := nx4) (nx := nx5) [20, 5] ((k5 nx4 (by omega) (by omega)).trans (Mem.blk_set_same ..)) (by omega) r5 (by simp; omega)
    simp only [List.length_cons, List.length_nil, Nat.reduceAdd] at e5
    simp (maxSteps := 4000000) (maxDischargeDepth := 6) [F35, e5, f5]
    refine (op_sp g5 (by first | omega | (simp only [List.length_append, List.length_cons, List.length_nil]; omega)) _ _).post (by omega) (by omega) ?_
    intro v6 h6 nx6 tc6 wr6 g6 n6 k6 w6 t6
    simp (maxSteps := 4000000) (maxDischargeDepth := 6) [F35, e5, f5]
    refine (op_sp g6 (by first | omega | (simp only [List.length_append, List.length_cons, List.length_nil]; omega)) _ _).post (by omega) (by omega) ?_
    intro v7 h7 nx7 tc7 wr7 g7 n7 k7 w7 t7
    simp (maxSteps := 4000000) (maxDischargeDepth := 6) [F35, e5, f5]
    refine ⟨⟨_, g7, by simp only [List.length_append, List.length_cons, List.length_nil]; omega⟩, by omega, fun q hq hx => g7.k q hq (XP.no hx).1 (XP.no hx).2, fun q hq hx => ?_, fun q hq hx => ?_⟩
    · have ⟨xp, xc⟩ := XP.no hx
      have W1 := w1 q (by omega) xp
      have W2 := w2 q (by omega) xp
      have W3 := w3 q (by omega) (g2.no q (by omega) xc)
      have W4 := w4 q (by omega) (g3.no q (by omega) xc)
      have W5 := w5 q (by omega) xp
      have W6 := w6 q (by omega) (g5.no q (by omega) xc)
      have W7 := w7 q (by omega) (g6.no q (by omega) xc)
      simp only [Nat.and_or_distrib_right, W1, W2, W3, W4, W5, W6, W7, Nat.or_zero, Nat.zero_or, Nat.zero_and]
    · have ⟨xs, hx⟩ := YP.no hx
      have ⟨xp, xc⟩ := XP.no hx
      have T1 := t1 q (by omega) (fun e => e.elim xp xs)
      have T2 := t2 q (by omega) (fun e => e.elim xp xs)
      have T3 := t3 q (by omega) (g2.no q (by omega) xc)
      have T4 := t4 q (by omega) (g3.no q (by omega) xc)
      have T5 := t5 q (by omega) (fun e => e.elim xp xs)
      have T6 := t6 q (by omega) (g5.no q (by omega) xc)
      have T7 := t7 q (by omega) (g6.no q (by omega) xc)
      have B4 := bit_and (lg := lg) (a := nx4) (b := q) (by omega)
      simp only [Nat.and_or_distrib_right, T1, T2, T3, T4, T5, T6, T7, B4, Nat.or_zero, Nat.zero_or, Nat.zero_and]
  · simp (maxSteps := 4000000) (maxDischargeDepth := 6) [F35]
    refine (next_sp g2 3 (by decide) (by decide)).post (by omega) (by omega) ?_
    rintro _ h3 nx3 tc3 wr3 ⟨r3, rfl, hr3, g3⟩ n3 k3 w3 t3
    simp (maxSteps := 4000000) (maxDischargeDepth := 6) [F35]
    refine (op_sp g3 (by first | omega | (simp only [List.length_append, List.length_cons, List.length_nil]; omega)) _ _).post (by omega) (by omega) ?_
    intro v4 h4 nx4 tc4 wr4 g4 n4 k4 w4 t4
    simp (maxSteps := 4000000) (maxDischargeDepth := 6) [F35]
    refine (next_sp g4 3 (by decide) (by decide)).post (by omega) (by omega) ?_
    rintro _ h5 nx5 tc5 wr5 ⟨r5, rfl, hr5, g5⟩ n5 k5 w5 t5
    simp (maxSteps := 4000000) (maxDischargeDepth := 6) [F35]
    refine (op_sp g5 (by first | omega | (simp only [List.length_append, List.length_cons, List.length_nil]; omega)) _ _).post (by omega) (by omega) ?_
    intro v6 h6 nx6 tc6 wr6 g6 n6 k6 w6 t6
    simp (maxSteps := 4000000) (maxDischargeDepth := 6) [F35]
    refine (op_sp g6 (by first | omega | (simp only [List.length_append, List.length_cons, List.length_nil]; omega)) _ _).post (by omega) (by omega) ?_
    intro v7 h7 nx7 tc7 wr7 g7 n7 k7 w7 t7
    simp (maxSteps := 4000000) (maxDischargeDepth := 6) [F35]
    refine ⟨⟨_, g7, by simp only [List.length_append, List.length_cons, List.length_nil]; omega⟩, by omega, fun q hq hx => g7.k q hq (XP.no hx).1 (XP.no hx).2, fun q hq hx => ?_, fun q hq hx => ?_⟩
    · have ⟨xp, xc⟩ := XP.no hx
      have W1 := w1 q (by omega) xp
      have W2 := w2 q (by omega) xp
      have W3 := w3 q (by omega) xp
      have W4 := w4 q (by omega) (g3.no q (by omega) xc)
      have W5 := w5 q (by omega) xp
      have W6 := w6 q (by omega) (g5.no q (by omega) xc)
      have W7 := w7 q (by omega) (g6.no q (by omega) xc)
      simp only [Nat.and_or_distrib_right, W1, W2, W3, W4, W5, W6, W7, Nat.or_zero, Nat.zero_or, Nat.zero_and]
    · have ⟨xs, hx⟩ := YP.no hx
      have ⟨xp, xc⟩ := XP.no hx
      have T1 := t1 q (by omega) (fun e => e.elim xp xs)
      have T2 := t2 q (by omega) (fun e => e.elim xp xs)
      have T3 := t3 q (by omega) (fun e => e.elim xp xs)
      have T4 := t4 q (by omega) (g3.no q (by omega) xc)
      have T5 := t5 q (by omega) (fun e => e.elim xp xs)
      have T6 := t6 q (by omega) (g5.no q (by omega) xc)
      have T7 := t7 q (by omega) (g6.no q (by omega) xc)
      simp only [Nat.and_or_distrib_right, T1, T2, T3, T4, T5, T6, T7, Nat.or_zero, Nat.zero_or, Nat.zero_and]
  · simp (maxSteps := 4000000) (maxDischargeDepth := 6) [F35]
    refine (next_sp g2 2 (by decide) (by decide)).post (by omega) (by omega) ?_
    rintro _ h3 nx3 tc3 wr3 ⟨r3, rfl, hr3, g3⟩ n3 k3 w3 t3
    simp (maxSteps := 4000000) (maxDischargeDepth := 6) [F35]
    refine (op_sp g3 (by first | omega | (simp only [List.length_append, List.length_cons, List.length_nil]; omega)) _ _).post (by omega) (by omega) ?_
    intro v4 h4 nx4 tc4 wr4 g4 n4 k4 w4 t4
    simp (maxSteps := 4000000) (maxDischargeDepth := 6) [F35]
    refine (next_sp g4 4 (by decide) (by decide)).post (by omega) (by omega) ?_
    rintro _ h5 nx5 tc5 wr5 ⟨r5, rfl, hr5, g5⟩ n5 k5 w5 t5
    simp (maxSteps := 4000000) (maxDischargeDepth := 6) [F35]
    refine (op_sp g5 (by first | omega | (simp only [List.length_append, List.length_cons, List.length_nil]; omega)) _ _).post (by omega) (by omega) ?_
    intro v6 h6 nx6 tc6 wr6 g6 n6 k6 w6 t6
    simp (maxSteps := 4000000) (maxDischargeDepth := 6) [F35]
    refine ⟨⟨_, g6, by simp only [List.length_append, List.length_cons, List.length_nil]; omega⟩, by omega, fun q hq hx => g6.k q hq (XP.no hx).1 (XP.no hx).2, fun q hq hx => ?_, fun q hq hx => ?_⟩
    · have ⟨xp, xc⟩ := XP.no hx
      have W1 := w1 q (by omega) xp
      have W2 := w2 q (by omega) xp
      have W3 := w3 q (by omega) xp
      have W4 := w4 q (by omega) (g3.no q (by omega) xc)
      have W5 := w5 q (by omega) xp
      have W6 := w6 q (by omega) (g5.no q (by omega) xc)
      simp only [Nat.and_or_distrib_right, W1, W2, W3, W4, W5, W6, Nat.or_zero, Nat.zero_or, Nat.zero_and]
    · have ⟨xs, hx⟩ := YP.no hx
      have ⟨xp, xc⟩ := XP.no hx
      have T1 := t1 q (by omega) (fun e => e.elim xp xs)
      have T2 := t2 q (by omega) (fun e => e.elim xp xs)
      have T3 := t3 q (by omega) (fun e => e.elim xp xs)
      have T4 := t4 q (by omega) (g3.no q (by omega) xc)
      have T5 := t5 q (by omega) (fun e => e.elim xp xs)
      have T6 := t6 q (by omega) (g5.no q (by omega) xc)
      simp only [Nat.and_or_distrib_right, T1, T2, T3, T4, T5, T6, Nat.or_zero, Nat.zero_or, Nat.zero_and]
end Go.Proofs.YtlbjdkhpabpmiaaT
