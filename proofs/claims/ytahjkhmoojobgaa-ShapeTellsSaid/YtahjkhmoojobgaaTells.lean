/- Shape: ShapeTells. -/
import Derived.Test.YtahjkhmoojobgaaOdd
namespace Go.Proofs.YtahjkhmoojobgaaT
open Go Go.Proofs.YtahjkhmoojobgaaE Go.Proofs.YtahjkhmoojobgaaB
set_option linter.unusedSimpArgs false
set_option linter.unusedVariables false
attribute [local congr] Post_cg PostL_cg condP_cg

theorem pairs_of {h : Mem} {nx : Nat} : ∀ {l : List (List AV)}, (∀ y ∈ l, KdsV h nx [.l (.i .i64), .l (.i .i64)] y) → ∃ B, l = bnds B
  | [], _ => ⟨[], rfl⟩
  | y :: l, g => by
    obtain ⟨B, h1⟩ := pairs_of (l := l) fun z hz => g z (by simp [hz])
    have := g y (by simp)
    simp only [KdsV, KdV, LeafV] at this
    obtain ⟨_, _, rfl, ⟨a, rfl, _⟩, _, _, rfl, ⟨b, rfl, _⟩, rfl⟩ := this
    exact ⟨(a, b) :: B, by rw [h1]; rfl⟩
theorem cls_of {h : Mem} {nx : Nat} : ∀ {l : List (List AV)}, (∀ y ∈ l, KdsV h nx [.l .s, .l (.i .i64), .l (.i .i64), .sl [.l (.i .i64), .l (.i .i64)]] y) → ∃ L, l = css L ∧ ∀ c ∈ L, RD 2 c.bv h nx (bnds c.B) ∧ c.B.length ≤ big ∧ c.name.size ≤ big
  | [], _ => ⟨[], rfl, fun c hc => nomatch hc⟩
  | y :: l, g => by
    obtain ⟨L, h1, h2⟩ := cls_of (l := l) fun z hz => g z (by simp [hz])
    have := g y (by simp)
    simp only [KdsV] at this
    obtain ⟨x1, _, rfl, g1, x2, _, rfl, g2, x3, _, rfl, g3, x4, _, rfl, g4, rfl⟩ := this
    simp only [KdV, LeafV] at g1 g2 g3
    obtain ⟨M, r, hl, hk⟩ := g4.rd
    obtain ⟨B, rfl⟩ := pairs_of hk
    obtain ⟨s, rfl, hs⟩ := g1
    obtain ⟨a, rfl, _⟩ := g2
    obtain ⟨b, rfl, _⟩ := g3
    rw [bnds_len] at hl
    refine ⟨⟨s, a, b, x4, B⟩ :: L, by rw [h1]; rfl, fun c hc => ?_⟩
    rcases List.mem_cons.1 hc with rfl | hc
    · exact ⟨r, by unfold maxLen at hl; unfold big; omega, by unfold maxLen at hs; unfold big; omega⟩
    · exact h2 c hc
theorem classes_of {h : Mem} {nx : Nat} {v : AV} (g : KdV h nx (.sl [.l .s, .l (.i .i64), .l (.i .i64), .sl [.l (.i .i64), .l (.i .i64)]]) v) : ∃ L, CR v h nx L := by
  obtain ⟨M, r, hl, hk⟩ := g.rd
  obtain ⟨L, rfl, hb⟩ := cls_of hk
  exact ⟨L, r, by rw [css_len] at hl; unfold maxLen at hl; unfold big; omega, hb⟩
theorem BR.cut2 {v : AV} {h : Mem} {nx : Nat} {L : List (Int × Int)} (g : BR v h nx L) {j : Nat} (hj : j ≤ L.length) : ∃ y, BR y h nx (L.take j) ∧ bid y = bid v ∧ ∀ lg, ∃ tc, sliceA 2 v none (some (.int .i64 (j : Nat))) none h nx lg = some ⟨y, h, nx, tc, 0⟩ := by
  obtain ⟨y, ry, hy, e⟩ := g.r.cut (a := 0) (e := j) (Nat.zero_le _) (by rw [bnds_len]; exact hj) none _ (.inl ⟨rfl, rfl⟩) (.inr rfl)
  refine ⟨y, ⟨?_, by have := g.n; rw [List.length_take]; omega⟩, hy, fun lg => ?_⟩
  · rw [List.drop_zero, Nat.sub_zero] at ry
    have : (bnds L).take j = bnds (L.take j) := by unfold bnds; rw [List.map_take]
    rwa [this] at ry
  · obtain ⟨tc, e1, _⟩ := e lg
    exact ⟨tc, e1⟩
def F4I (v : AV) (L : List C) (a0 a1 a2 a3 a5 a6 a15 : AV) (h0 : Mem) (nx0 : Nat) (mm : Nat) (ts : List AV) (h : Mem) (nx tc wr : Nat) : Prop := ∃ (i : Nat) (u : AV) (M : List C), mm = 14 - i ∧ i ≤ 14 ∧ i ≤ L.length ∧ ts.length = 107 ∧ sl ts 1 = a1 ∧ sl ts 2 = a2 ∧ sl ts 3 = a3 ∧ sl ts 4 = v ∧ sl ts 5 = a5 ∧ sl ts 6 = a6 ∧ sl ts 15 = a15 ∧ sl ts 16 = u ∧ sl ts 17 = .int .i64 i ∧ CO u h nx M ∧ M.length = i ∧ Few 18 M ∧ (∀ x, bid u = some x → nx0 ≤ x) ∧ nx0 ≤ nx ∧ ∀ q, q < nx0 → h.blk q = h0.blk q
def F4R (v : AV) (L : List C) (a0 a1 a2 a3 a5 a6 a15 : AV) (h0 : Mem) (nx0 : Nat) (e : Ex) (ts : List AV) (h : Mem) (nx tc wr : Nat) : Prop := e = .exit 0 ∧ ∃ (u : AV) (M : List C), ts.length = 107 ∧ sl ts 1 = a1 ∧ sl ts 2 = a2 ∧ sl ts 3 = a3 ∧ sl ts 5 = a5 ∧ sl ts 6 = a6 ∧ sl ts 15 = a15 ∧ sl ts 16 = u ∧ CO u h nx M ∧ M.length ≤ 14 ∧ Few 18 M ∧ nx0 ≤ nx ∧ ∀ q, q < nx0 → h.blk q = h0.blk q
set_option maxHeartbeats 16000000 in
theorem f4_round {v : AV} {L : List C} {a0 a1 a2 a3 a5 a6 a15 : AV} {h0 : Mem} {nx0 : Nat} (g : CR v h0 nx0 L) (mm : Nat) (ts : List AV) (h : Mem) (nx tc wr : Nat) (hi : F4I v L a0 a1 a2 a3 a5 a6 a15 h0 nx0 mm ts h nx tc wr) :
    Post (xC T 60 L4_0b ts h nx 0) fun v' h' nx' tc' wr' => Round (F4I v L a0 a1 a2 a3 a5 a6 a15 h0 nx0) (F4R v L a0 a1 a2 a3 a5 a6 a15 h0 nx0) mm v' h' nx' (tc ||| tc') (wr ||| wr') := by
  obtain ⟨i, u, M, rfl, hi14, hiL, hlen, g1, g2, g3, g4, g5, g6, g15, g16, g17, co, hM, fw, own, hn, hk⟩ := hi
  have gc := g.keeps hn hk
  have lv := gc.lenOp
  by_cases c : i < L.length
  · by_cases c14 : i < 14
    · have c' : (i : Int) < (L.length : Int) := by omega
      have c14' : (i : Int) < 14 := by omega
      have ci : IntKind.i64.wrap ((i : Int) + 1) = ((i + 1 : Nat) : Int) := by rw [IntKind.wrap_i64]; omega
      obtain ⟨b, o, el⟩ := gc.el c
      have e0 := el.all 0
      have p0 := el.pl
      obtain ⟨H, st, hb, hs⟩ := cvar gc c
      have gH := gc.keeps (nx' := nx + 1) (by omega) hs
      have coH := co.keeps (nx' := nx + 1) (by omega) hs
      have hLi := List.getElem_mem c
      have gB := gH.bind hLi
      have g0B := (g.bind hLi).r
      have lB := gB.lenOp
      generalize hc : L[i] = X at *
      have l3 := fun lg => ld_at hb (show nx < nx + 1 by omega) (o := 3) (v := X.bv) rfl lg
      simp only [C.cs, cz] at e0 st
      obtain ⟨m, hm, hmB, hm18⟩ : ∃ m : Nat, m = min X.B.length 18 ∧ m ≤ X.B.length ∧ m ≤ 18 := ⟨_, rfl, by omega, by omega⟩
      have mn : (if (18 : Int) < (X.B.length : Int) then (18 : Int) else (X.B.length : Int)) = (m : Int) := by split <;> omega
      obtain ⟨y, ry, yb, cut⟩ := gB.cut2 hmB
      obtain ⟨tcc, cut⟩ := cut 0
      have yo : y.cells = [y] ∧ y.one = true := ry.r.one
      have st2 := fun lg => st_at hb (show nx < nx + 1 by omega) (n := 1) (o := 3) y (by rw [yo.1]; rfl) (by rw [yo.1]; simp only [List.all_cons, List.all_nil, yo.2]; rfl) (by simp [C.cs]) lg
      have e2 : lay X.cs 3 [y] = [AV.str X.name, AV.int .i64 X.sup, AV.int .i64 X.fld, y] := rfl
      rw [yo.1] at st2
      simp only [e2] at st2
      obtain ⟨H2, hH2⟩ : ∃ H2, H2 = H.set nx (some ⟨38, 4, true, false, [.str X.name, .int .i64 X.sup, .int .i64 X.fld, y]⟩) := ⟨_, rfl⟩
      rw [← hH2] at st2
      have k2 : ∀ q, ¬ q = nx → H2.blk q = H.blk q := fun q hq => by rw [hH2, Mem.blk_set_ne _ _ _ _ hq]
      have b2 : H2.blk nx = some ⟨38, 4, true, false, [.str X.name, .int .i64 X.sup, .int .i64 X.fld, y]⟩ := by rw [hH2, Mem.blk_set_same]
      have l4 := fun lg => ld_sub (n := 4) (o := 0) b2 (show nx < nx + 1 by omega) (vs := [.str X.name, .int .i64 X.sup, .int .i64 X.fld, y]) rfl lg
      have ult : ∀ x, bid u = some x → x < nx := fun x hx => co.ow.lt hx
      have co2 : CO u H2 (nx + 1) M := ⟨coH.ow.keep (Nat.le_refl _) fun x hx => k2 x (by have := ult x hx; omega), coH.n, fun c hc => ⟨(coH.b c hc).1.keep (Nat.le_refl _) fun x hx _ => k2 x (by have := (co.b c hc).1.lt hx; omega), (coH.b c hc).2⟩, coH.sep⟩
      have ylt : ∀ x, bid y = some x → x < nx ∧ bid u ≠ some x := fun x hx => by
        rw [yb] at hx
        have h1 := g0B.lt hx
        exact ⟨by omega, fun e => by have := own x e; omega⟩
      have ry2 : RD 2 y H2 (nx + 1) (bnds (X.B.take m)) := ry.r.keep (Nat.le_refl _) fun x hx _ => k2 x (by have := (ylt x hx).1; omega)
      obtain ⟨u3, h3, nx3, tc3, wr3, e3, n3, co3, k3, d3, _, _⟩ := co2.push (by omega) ⟨X.name, X.sup, X.fld, y, X.B.take m⟩ ry2 ⟨by rw [List.length_take]; unfold big; omega, by have := (gc.b X (by rw [← hc]; exact List.getElem_mem c)).2.2; exact this⟩ (fun x hx => (ylt x hx).2) 0
      simp only [C.cs] at e3
      simp (maxSteps := 4000000) (maxDischargeDepth := 6) [↓step_none, ↓step_t, ↓step_f, ↓step_nt, ↓step_nf, ↓op_load, ↓op_store, ↓op_slice, ↓op_app, ↓op_islc, ↓P_skip, ↓P_exit, ↓P_ret, ↓P_seq, ↓P_cond, ↓P_blk, ↓P_reg, ↓P_draw, ↓P_nil, ↓P_cons, condP_t, condP_f, dum_ab, stepR, want_none, want_some, opRun, ev_t, ev_c, put_none, put_some, resAll, res_tmp, res_cell, oneOf, minI, maxI, min2A, max2A, mn2, mx2, mx3, rdBlk, wrBlk, newBlk, partA, abin, ibin, isShift, AV.cells, AV.one, lay, sub, fillA, lenA, toN, allApart, apartFrom, Nat.testBit, Mem.blk_set_same, Mem.blk_set_ne, Mem.set_set, bit_zero, bit_self, lowBits_or, lowBits_zero, len_setT, sl_same, sl_ne, len_frame, sl_frame,↓op_len, lenOp_slc, lenOp_nils, ↓Post.some, ↓Post_bind, ↓Post_ret, ↓Post_draw, ↓PostL_nil, ↓PostL_cons, Post_fail, ofOpt_some, ofOpt_none, eA_b, eA_i, eA_s, eA_nn, eA_np, eA_pn, eA_lnn, eA_lnp, eA_lpn, eA_i2, eA_i3, blt_dec, Nat.add_assoc, keeps_refl, keeps_at, keeps_up, new_one, and_pow, bit_hi, lowBits_pow, ble_dec, fr_refl, fr_at, fr_up, fr_p, dum_ab, reps, L4_0b, hlen, g4, g16, g17, c, c', c14, c14', lv, e0, p0, st, l3, lB, mn, cut, st2, l4, e3, ci]
      have own3 : ∀ x, bid u3 = some x → nx0 ≤ x := fun x hx => by
        rcases d3 x hx with e | e
        · exact own x e
        · omega
      refine Round.nor (m' := 14 - (i + 1)) (by omega) ⟨i + 1, u3, M ++ [⟨X.name, X.sup, X.fld, y, X.B.take m⟩], rfl, by omega, by omega, ?_, ?_, ?_, ?_, ?_, ?_, ?_, ?_, ?_, ?_, co3, by rw [List.length_append, hM]; rfl, ⟨fun c hc => ?_⟩, own3, by omega, fun q hq => ?_⟩
      any_goals simp [len_setT, sl_same, sl_ne, hlen, g1, g2, g3, g4, g5, g6, g15]
      · rcases List.mem_append.1 hc with hc | hc
        · exact fw.b c hc
        · rw [List.mem_singleton.1 hc]; simp only [List.length_take]; omega
      · rw [k3 q (by omega) (fun e => by have := own q e; omega), k2 q (by omega), hs q (by omega)]
        exact hk q hq
    · have c' : (i : Int) < (L.length : Int) := by omega
      have c14' : ¬ (i : Int) < 14 := by omega
      simp (maxSteps := 4000000) (maxDischargeDepth := 6) [↓step_none, ↓step_t, ↓step_f, ↓step_nt, ↓step_nf, ↓op_load, ↓op_store, ↓op_slice, ↓op_app, ↓op_islc, ↓P_skip, ↓P_exit, ↓P_ret, ↓P_seq, ↓P_cond, ↓P_blk, ↓P_reg, ↓P_draw, ↓P_nil, ↓P_cons, condP_t, condP_f, dum_ab, stepR, want_none, want_some, opRun, ev_t, ev_c, put_none, put_some, resAll, res_tmp, res_cell, oneOf, minI, maxI, min2A, max2A, mn2, mx2, mx3, rdBlk, wrBlk, newBlk, partA, abin, ibin, isShift, AV.cells, AV.one, lay, sub, fillA, lenA, toN, allApart, apartFrom, Nat.testBit, Mem.blk_set_same, Mem.blk_set_ne, Mem.set_set, bit_zero, bit_self, lowBits_or, lowBits_zero, len_setT, sl_same, sl_ne, len_frame, sl_frame,↓op_len, lenOp_slc, lenOp_nils, ↓Post.some, ↓Post_bind, ↓Post_ret, ↓Post_draw, ↓PostL_nil, ↓PostL_cons, Post_fail, ofOpt_some, ofOpt_none, eA_b, eA_i, eA_s, eA_nn, eA_np, eA_pn, eA_lnn, eA_lnp, eA_lpn, eA_i2, eA_i3, blt_dec, Nat.add_assoc, keeps_refl, keeps_at, keeps_up, new_one, and_pow, bit_hi, lowBits_pow, ble_dec, fr_refl, fr_at, fr_up, fr_p, dum_ab, reps, L4_0b, hlen, g4, g16, g17, c, c', c14, c14', lv]
      refine Round.exit (R := F4R v L a0 a1 a2 a3 a5 a6 a15 h0 nx0) ⟨rfl, u, M, ?_, ?_, ?_, ?_, ?_, ?_, ?_, ?_, co, by omega, fw, hn, hk⟩ <;> simp [len_setT, sl_same, sl_ne, hlen, g1, g2, g3, g5, g6, g15, g16]
  · have c' : ¬ (i : Int) < (L.length : Int) := by omega
    simp (maxSteps := 4000000) (maxDischargeDepth := 6) [↓step_none, ↓step_t, ↓step_f, ↓step_nt, ↓step_nf, ↓op_load, ↓op_store, ↓op_slice, ↓op_app, ↓op_islc, ↓P_skip, ↓P_exit, ↓P_ret, ↓P_seq, ↓P_cond, ↓P_blk, ↓P_reg, ↓P_draw, ↓P_nil, ↓P_cons, condP_t, condP_f, dum_ab, stepR, want_none, want_some, opRun, ev_t, ev_c, put_none, put_some, resAll, res_tmp, res_cell, oneOf, minI, maxI, min2A, max2A, mn2, mx2, mx3, rdBlk, wrBlk, newBlk, partA, abin, ibin, isShift, AV.cells, AV.one, lay, sub, fillA, lenA, toN, allApart, apartFrom, Nat.testBit, Mem.blk_set_same, Mem.blk_set_ne, Mem.set_set, bit_zero, bit_self, lowBits_or, lowBits_zero, len_setT, sl_same, sl_ne, len_frame, sl_frame,↓op_len, lenOp_slc, lenOp_nils, ↓Post.some, ↓Post_bind, ↓Post_ret, ↓Post_draw, ↓PostL_nil, ↓PostL_cons, Post_fail, ofOpt_some, ofOpt_none, eA_b, eA_i, eA_s, eA_nn, eA_np, eA_pn, eA_lnn, eA_lnp, eA_lpn, eA_i2, eA_i3, blt_dec, Nat.add_assoc, keeps_refl, keeps_at, keeps_up, new_one, and_pow, bit_hi, lowBits_pow, ble_dec, fr_refl, fr_at, fr_up, fr_p, dum_ab, reps, L4_0b, hlen, g4, g16, g17, c, c', lv]
    refine Round.exit (R := F4R v L a0 a1 a2 a3 a5 a6 a15 h0 nx0) ⟨rfl, u, M, ?_, ?_, ?_, ?_, ?_, ?_, ?_, ?_, co, by omega, fw, hn, hk⟩ <;> simp [len_setT, sl_same, sl_ne, hlen, g1, g2, g3, g5, g6, g15, g16]
theorem Few.app {bb : Nat} {L : List C} (f : Few bb L) : ∀ c ∈ L, c.B.length ≤ bb := f.b
set_option maxHeartbeats 32000000 in
theorem tells_law (h : Mem) (nx : Nat) (avs : List AV) (g : KdsV h nx [.sl [.l (.i .i64)], .l (.i .i64), .l (.i .i64), .l (.i .i64), .sl [.l .s, .l (.i .i64), .l (.i .i64), .sl [.l (.i .i64), .l (.i .i64)]], .l (.i .i64), .l (.i .i64)] avs) : Yes T 4 avs h nx := by
  simp only [KdsV] at g
  obtain ⟨v, _, rfl, gv, w1, _, rfl, g1, w2, _, rfl, g2, w3, _, rfl, g3, rw, _, rfl, g4, w5, _, rfl, g5, w6, _, rfl, g6, rfl⟩ := g
  simp only [KdV, LeafV] at g1 g2 g3 g5 g6
  obtain ⟨what, rfl, _⟩ := g1
  obtain ⟨at0, rfl, _⟩ := g2
  obtain ⟨n, rfl, _⟩ := g3
  obtain ⟨names, rfl, _⟩ := g5
  obtain ⟨methods, rfl, _⟩ := g6
  obtain ⟨T0, rv, hT⟩ := tape_of gv
  obtain ⟨R, cr⟩ := classes_of g4
  have tp := tp_new rv hT
  have a7 : Go.bits .and .i64 at0 7 = at0 % 8 := and_mask .i64 3 (by decide) at0
  have n7 : Go.bits .and .i64 n 7 = n % 8 := and_mask .i64 3 (by decide) n
  have n31 : Go.bits .and .i64 n 31 = n % 32 := and_mask .i64 5 (by decide) n
  have n3 : Go.bits .and .i64 n 3 = n % 4 := and_mask .i64 2 (by decide) n
  have n15 : Go.bits .and .i64 n 15 = n % 16 := and_mask .i64 4 (by decide) n
  have a15 : Go.bits .and .i64 at0 15 = at0 % 16 := and_mask .i64 4 (by decide) at0
  have w15 : Go.bits .and .i64 what 15 = what % 16 := and_mask .i64 4 (by decide) what
  have m63 : Go.bits .and .i64 names 63 = names % 64 := and_mask .i64 6 (by decide) names
  have o63 : Go.bits .and .i64 methods 63 = methods % 64 := and_mask .i64 6 (by decide) methods
  refine Yes.of 8000 ?_
  rw [xF_fr T4]
  have fm := rv.form
  rcases fm with ⟨rfl, _⟩ | ⟨b, o, c, rfl⟩
  all_goals
    simp (maxSteps := 4000000) (maxDischargeDepth := 6) [↓step_none, ↓step_t, ↓step_f, ↓step_nt, ↓step_nf, ↓op_load, ↓op_store, ↓op_slice, ↓op_app, ↓op_islc, ↓P_skip, ↓P_exit, ↓P_ret, ↓P_seq, ↓P_cond, ↓P_blk, ↓P_reg, ↓P_draw, ↓P_nil, ↓P_cons, condP_t, condP_f, dum_ab, stepR, want_none, want_some, opRun, ev_t, ev_c, put_none, put_some, resAll, res_tmp, res_cell, oneOf, minI, maxI, min2A, max2A, mn2, mx2, mx3, rdBlk, wrBlk, newBlk, partA, abin, ibin, isShift, AV.cells, AV.one, lay, sub, fillA, lenA, toN, allApart, apartFrom, Nat.testBit, Mem.blk_set_same, Mem.blk_set_ne, Mem.set_set, bit_zero, bit_self, lowBits_or, lowBits_zero, len_setT, sl_same, sl_ne, len_frame, sl_frame,↓op_len, lenOp_slc, lenOp_nils, ↓Post.some, ↓Post_bind, ↓Post_ret, ↓Post_draw, ↓PostL_nil, ↓PostL_cons, Post_fail, ofOpt_some, ofOpt_none, eA_b, eA_i, eA_s, eA_nn, eA_np, eA_pn, eA_lnn, eA_lnp, eA_lpn, eA_i2, eA_i3, blt_dec, Nat.add_assoc, keeps_refl, keeps_at, keeps_up, new_one, and_pow, bit_hi, lowBits_pow, ble_dec, fr_refl, fr_at, fr_up, fr_p, dum_ab, reps, F4]
    refine (unit_tp tp).post nx (by omega) (by omega) (by omega) ?_
    rintro _ h1 nx1 tc1 wr1 ⟨nv, cv, mv, ov, L, M, rfl, t1, uq⟩ n1 k1 m1 _
    have kl := uq.kl
    have h3 := kl.n3
    have h5 := kl.n5
    have cr1 := uq.cr
    have rw1 : CR rw h1 nx1 R := cr.keeps (by omega) fun q hq => (k1 q (by omega) (by omega)).trans (Mem.blk_set_ne _ _ _ _ (by omega))
    simp (maxSteps := 4000000) (maxDischargeDepth := 6) [↓step_none, ↓step_t, ↓step_f, ↓step_nt, ↓step_nf, ↓op_load, ↓op_store, ↓op_slice, ↓op_app, ↓op_islc, ↓P_skip, ↓P_exit, ↓P_ret, ↓P_seq, ↓P_cond, ↓P_blk, ↓P_reg, ↓P_draw, ↓P_nil, ↓P_cons, condP_t, condP_f, dum_ab, stepR, want_none, want_some, opRun, ev_t, ev_c, put_none, put_some, resAll, res_tmp, res_cell, oneOf, minI, maxI, min2A, max2A, mn2, mx2, mx3, rdBlk, wrBlk, newBlk, partA, abin, ibin, isShift, AV.cells, AV.one, lay, sub, fillA, lenA, toN, allApart, apartFrom, Nat.testBit, Mem.blk_set_same, Mem.blk_set_ne, Mem.set_set, bit_zero, bit_self, lowBits_or, lowBits_zero, len_setT, sl_same, sl_ne, len_frame, sl_frame,↓op_len, lenOp_slc, lenOp_nils, ↓Post.some, ↓Post_bind, ↓Post_ret, ↓Post_draw, ↓PostL_nil, ↓PostL_cons, Post_fail, ofOpt_some, ofOpt_none, eA_b, eA_i, eA_s, eA_nn, eA_np, eA_pn, eA_lnn, eA_lnp, eA_lpn, eA_i2, eA_i3, blt_dec, Nat.add_assoc, keeps_refl, keeps_at, keeps_up, new_one, and_pow, bit_hi, lowBits_pow, ble_dec, fr_refl, fr_at, fr_up, fr_p, dum_ab, reps, L4_0]
    refine Post.loop (f4_round (v := rw) (L := R) (a0 := .nils) (a1 := .int .i64 what) (a2 := .int .i64 at0) (a3 := .int .i64 n) (a5 := .int .i64 names) (a6 := .int .i64 methods) (a15 := cv) rw1) 14 ⟨0, .nils, [], rfl, by omega, Nat.zero_le _, ?_, ?_, ?_, ?_, ?_, ?_, ?_, ?_, ?_, ?_, ⟨OW.nil .., by simp, (fun c hc => nomatch hc), (fun c hc => nomatch hc)⟩, rfl, ⟨fun c hc => nomatch hc⟩, (fun x hx => by cases hx), Nat.le_refl _, fun q _ => rfl⟩ ?_ ?_
    any_goals simp (maxDischargeDepth := 6) [len_setT, sl_same, sl_ne, sl_frame, len_frame]
    rintro e ts2 h2 nx2 tc2 wr2 ⟨rfl, u, F, hlen, a1', a2', a3', a5', a6', a15', a16', co, hF, fw, n2, k2⟩
    have cr2 := cr1.keeps n2 k2
    have fL : Few 6 L := ⟨kl.bb⟩
    simp (maxSteps := 4000000) (maxDischargeDepth := 6) [↓step_none, ↓step_t, ↓step_f, ↓step_nt, ↓step_nf, ↓op_load, ↓op_store, ↓op_slice, ↓op_app, ↓op_islc, ↓P_skip, ↓P_exit, ↓P_ret, ↓P_seq, ↓P_cond, ↓P_blk, ↓P_reg, ↓P_draw, ↓P_nil, ↓P_cons, condP_t, condP_f, dum_ab, stepR, want_none, want_some, opRun, ev_t, ev_c, put_none, put_some, resAll, res_tmp, res_cell, oneOf, minI, maxI, min2A, max2A, mn2, mx2, mx3, rdBlk, wrBlk, newBlk, partA, abin, ibin, isShift, AV.cells, AV.one, lay, sub, fillA, lenA, toN, allApart, apartFrom, Nat.testBit, Mem.blk_set_same, Mem.blk_set_ne, Mem.set_set, bit_zero, bit_self, lowBits_or, lowBits_zero, len_setT, sl_same, sl_ne, len_frame, sl_frame,↓op_len, lenOp_slc, lenOp_nils, ↓Post.some, ↓Post_bind, ↓Post_ret, ↓Post_draw, ↓PostL_nil, ↓PostL_cons, Post_fail, ofOpt_some, ofOpt_none, eA_b, eA_i, eA_s, eA_nn, eA_np, eA_pn, eA_lnn, eA_lnp, eA_lpn, eA_i2, eA_i3, blt_dec, Nat.add_assoc, keeps_refl, keeps_at, keeps_up, new_one, and_pow, bit_hi, lowBits_pow, ble_dec, fr_refl, fr_at, fr_up, fr_p, dum_ab, reps, hlen, a1', a2', a3', a5', a6', a15', a16']
    refine (same_nw 6 9 at0 n cr2 kl.bb).post (by omega) (by omega) ?_
    rintro _ h3' nx3 tc3 wr3 rfl n3' k3 w3
    have cr3 := cr2.keeps n3' k3
    simp (maxSteps := 4000000) (maxDischargeDepth := 6) [↓step_none, ↓step_t, ↓step_f, ↓step_nt, ↓step_nf, ↓op_load, ↓op_store, ↓op_slice, ↓op_app, ↓op_islc, ↓P_skip, ↓P_exit, ↓P_ret, ↓P_seq, ↓P_cond, ↓P_blk, ↓P_reg, ↓P_draw, ↓P_nil, ↓P_cons, condP_t, condP_f, dum_ab, stepR, want_none, want_some, opRun, ev_t, ev_c, put_none, put_some, resAll, res_tmp, res_cell, oneOf, minI, maxI, min2A, max2A, mn2, mx2, mx3, rdBlk, wrBlk, newBlk, partA, abin, ibin, isShift, AV.cells, AV.one, lay, sub, fillA, lenA, toN, allApart, apartFrom, Nat.testBit, Mem.blk_set_same, Mem.blk_set_ne, Mem.set_set, bit_zero, bit_self, lowBits_or, lowBits_zero, len_setT, sl_same, sl_ne, len_frame, sl_frame,↓op_len, lenOp_slc, lenOp_nils, ↓Post.some, ↓Post_bind, ↓Post_ret, ↓Post_draw, ↓PostL_nil, ↓PostL_cons, Post_fail, ofOpt_some, ofOpt_none, eA_b, eA_i, eA_s, eA_nn, eA_np, eA_pn, eA_lnn, eA_lnp, eA_lpn, eA_i2, eA_i3, blt_dec, Nat.add_assoc, keeps_refl, keeps_at, keeps_up, new_one, and_pow, bit_hi, lowBits_pow, ble_dec, fr_refl, fr_at, fr_up, fr_p, dum_ab, reps, hlen, a1', a2', a3', a5', a6', a15', a16']
    refine (odd_nw cr3 (by omega) (bb := 6) (by omega) fL what at0 n).post (by omega) (by omega) ?_
    rintro y4 h4 nx4 tc4 wr4 ⟨L4, c4, l4, f4⟩ n4 k4 w4
    have cr4 := cr3.keeps n4 k4
    simp (maxSteps := 4000000) (maxDischargeDepth := 6) [↓step_none, ↓step_t, ↓step_f, ↓step_nt, ↓step_nf, ↓op_load, ↓op_store, ↓op_slice, ↓op_app, ↓op_islc, ↓P_skip, ↓P_exit, ↓P_ret, ↓P_seq, ↓P_cond, ↓P_blk, ↓P_reg, ↓P_draw, ↓P_nil, ↓P_cons, condP_t, condP_f, dum_ab, stepR, want_none, want_some, opRun, ev_t, ev_c, put_none, put_some, resAll, res_tmp, res_cell, oneOf, minI, maxI, min2A, max2A, mn2, mx2, mx3, rdBlk, wrBlk, newBlk, partA, abin, ibin, isShift, AV.cells, AV.one, lay, sub, fillA, lenA, toN, allApart, apartFrom, Nat.testBit, Mem.blk_set_same, Mem.blk_set_ne, Mem.set_set, bit_zero, bit_self, lowBits_or, lowBits_zero, len_setT, sl_same, sl_ne, len_frame, sl_frame,↓op_len, lenOp_slc, lenOp_nils, ↓Post.some, ↓Post_bind, ↓Post_ret, ↓Post_draw, ↓PostL_nil, ↓PostL_cons, Post_fail, ofOpt_some, ofOpt_none, eA_b, eA_i, eA_s, eA_nn, eA_np, eA_pn, eA_lnn, eA_lnp, eA_lpn, eA_i2, eA_i3, blt_dec, Nat.add_assoc, keeps_refl, keeps_at, keeps_up, new_one, and_pow, bit_hi, lowBits_pow, ble_dec, fr_refl, fr_at, fr_up, fr_p, dum_ab, reps, hlen, a1', a2', a3', a5', a6', a15', a16', a7, n7]
    refine (same_nw 6 9 (at0 % 8) (n % 8) c4 f4.b).post (by omega) (by omega) ?_
    rintro _ h5' nx5 tc5 wr5 rfl n5 k5 w5
    have cr5 := cr4.keeps n5 k5
    simp (maxSteps := 4000000) (maxDischargeDepth := 6) [↓step_none, ↓step_t, ↓step_f, ↓step_nt, ↓step_nf, ↓op_load, ↓op_store, ↓op_slice, ↓op_app, ↓op_islc, ↓P_skip, ↓P_exit, ↓P_ret, ↓P_seq, ↓P_cond, ↓P_blk, ↓P_reg, ↓P_draw, ↓P_nil, ↓P_cons, condP_t, condP_f, dum_ab, stepR, want_none, want_some, opRun, ev_t, ev_c, put_none, put_some, resAll, res_tmp, res_cell, oneOf, minI, maxI, min2A, max2A, mn2, mx2, mx3, rdBlk, wrBlk, newBlk, partA, abin, ibin, isShift, AV.cells, AV.one, lay, sub, fillA, lenA, toN, allApart, apartFrom, Nat.testBit, Mem.blk_set_same, Mem.blk_set_ne, Mem.set_set, bit_zero, bit_self, lowBits_or, lowBits_zero, len_setT, sl_same, sl_ne, len_frame, sl_frame,↓op_len, lenOp_slc, lenOp_nils, ↓Post.some, ↓Post_bind, ↓Post_ret, ↓Post_draw, ↓PostL_nil, ↓PostL_cons, Post_fail, ofOpt_some, ofOpt_none, eA_b, eA_i, eA_s, eA_nn, eA_np, eA_pn, eA_lnn, eA_lnp, eA_lpn, eA_i2, eA_i3, blt_dec, Nat.add_assoc, keeps_refl, keeps_at, keeps_up, new_one, and_pow, bit_hi, lowBits_pow, ble_dec, fr_refl, fr_at, fr_up, fr_p, dum_ab, reps, hlen, a1', a2', a3', a5', a6', a15', a16', n31]
    refine (odd_nw cr5 (by omega) (bb := 6) (by omega) fL what at0 (n % 32)).post (by omega) (by omega) ?_
    rintro y6 h6 nx6 tc6 wr6 ⟨L6, c6, l6, f6⟩ n6 k6 w6
    simp (maxSteps := 4000000) (maxDischargeDepth := 6) [↓step_none, ↓step_t, ↓step_f, ↓step_nt, ↓step_nf, ↓op_load, ↓op_store, ↓op_slice, ↓op_app, ↓op_islc, ↓P_skip, ↓P_exit, ↓P_ret, ↓P_seq, ↓P_cond, ↓P_blk, ↓P_reg, ↓P_draw, ↓P_nil, ↓P_cons, condP_t, condP_f, dum_ab, stepR, want_none, want_some, opRun, ev_t, ev_c, put_none, put_some, resAll, res_tmp, res_cell, oneOf, minI, maxI, min2A, max2A, mn2, mx2, mx3, rdBlk, wrBlk, newBlk, partA, abin, ibin, isShift, AV.cells, AV.one, lay, sub, fillA, lenA, toN, allApart, apartFrom, Nat.testBit, Mem.blk_set_same, Mem.blk_set_ne, Mem.set_set, bit_zero, bit_self, lowBits_or, lowBits_zero, len_setT, sl_same, sl_ne, len_frame, sl_frame,↓op_len, lenOp_slc, lenOp_nils, ↓Post.some, ↓Post_bind, ↓Post_ret, ↓Post_draw, ↓PostL_nil, ↓PostL_cons, Post_fail, ofOpt_some, ofOpt_none, eA_b, eA_i, eA_s, eA_nn, eA_np, eA_pn, eA_lnn, eA_lnp, eA_lpn, eA_i2, eA_i3, blt_dec, Nat.add_assoc, keeps_refl, keeps_at, keeps_up, new_one, and_pow, bit_hi, lowBits_pow, ble_dec, fr_refl, fr_at, fr_up, fr_p, dum_ab, reps, hlen, a1', a2', a3', a5', a6', a15', a16', w15]
    refine (odd_nw c6 (by omega) (bb := 38) (by omega) f6 n at0 (what % 16)).post (by omega) (by omega) ?_
    rintro y7 h7 nx7 tc7 wr7 ⟨L7, c7, l7, f7⟩ n7' k7 w7
    simp (maxSteps := 4000000) (maxDischargeDepth := 6) [↓step_none, ↓step_t, ↓step_f, ↓step_nt, ↓step_nf, ↓op_load, ↓op_store, ↓op_slice, ↓op_app, ↓op_islc, ↓P_skip, ↓P_exit, ↓P_ret, ↓P_seq, ↓P_cond, ↓P_blk, ↓P_reg, ↓P_draw, ↓P_nil, ↓P_cons, condP_t, condP_f, dum_ab, stepR, want_none, want_some, opRun, ev_t, ev_c, put_none, put_some, resAll, res_tmp, res_cell, oneOf, minI, maxI, min2A, max2A, mn2, mx2, mx3, rdBlk, wrBlk, newBlk, partA, abin, ibin, isShift, AV.cells, AV.one, lay, sub, fillA, lenA, toN, allApart, apartFrom, Nat.testBit, Mem.blk_set_same, Mem.blk_set_ne, Mem.set_set, bit_zero, bit_self, lowBits_or, lowBits_zero, len_setT, sl_same, sl_ne, len_frame, sl_frame,↓op_len, lenOp_slc, lenOp_nils, ↓Post.some, ↓Post_bind, ↓Post_ret, ↓Post_draw, ↓PostL_nil, ↓PostL_cons, Post_fail, ofOpt_some, ofOpt_none, eA_b, eA_i, eA_s, eA_nn, eA_np, eA_pn, eA_lnn, eA_lnp, eA_lpn, eA_i2, eA_i3, blt_dec, Nat.add_assoc, keeps_refl, keeps_at, keeps_up, new_one, and_pow, bit_hi, lowBits_pow, ble_dec, fr_refl, fr_at, fr_up, fr_p, dum_ab, reps, hlen, a1', a2', a3', a5', a6', a15', a16', a7, n3]
    refine (same_nw 6 9 (at0 % 8) (n % 4) c7 f7.b).post (by omega) (by omega) ?_
    rintro _ h8 nx8 tc8 wr8 rfl n8 k8 w8
    have fr8 := co.cr.keeps (h' := h8) (nx' := nx8) (by omega) fun q hq => by rw [k8 q (by omega), k7 q (by omega), k6 q (by omega), k5 q (by omega), k4 q (by omega), k3 q (by omega)]
    simp (maxSteps := 4000000) (maxDischargeDepth := 6) [↓step_none, ↓step_t, ↓step_f, ↓step_nt, ↓step_nf, ↓op_load, ↓op_store, ↓op_slice, ↓op_app, ↓op_islc, ↓P_skip, ↓P_exit, ↓P_ret, ↓P_seq, ↓P_cond, ↓P_blk, ↓P_reg, ↓P_draw, ↓P_nil, ↓P_cons, condP_t, condP_f, dum_ab, stepR, want_none, want_some, opRun, ev_t, ev_c, put_none, put_some, resAll, res_tmp, res_cell, oneOf, minI, maxI, min2A, max2A, mn2, mx2, mx3, rdBlk, wrBlk, newBlk, partA, abin, ibin, isShift, AV.cells, AV.one, lay, sub, fillA, lenA, toN, allApart, apartFrom, Nat.testBit, Mem.blk_set_same, Mem.blk_set_ne, Mem.set_set, bit_zero, bit_self, lowBits_or, lowBits_zero, len_setT, sl_same, sl_ne, len_frame, sl_frame,↓op_len, lenOp_slc, lenOp_nils, ↓Post.some, ↓Post_bind, ↓Post_ret, ↓Post_draw, ↓PostL_nil, ↓PostL_cons, Post_fail, ofOpt_some, ofOpt_none, eA_b, eA_i, eA_s, eA_nn, eA_np, eA_pn, eA_lnn, eA_lnp, eA_lpn, eA_i2, eA_i3, blt_dec, Nat.add_assoc, keeps_refl, keeps_at, keeps_up, new_one, and_pow, bit_hi, lowBits_pow, ble_dec, fr_refl, fr_at, fr_up, fr_p, dum_ab, reps, hlen, a1', a2', a3', a5', a6', a15', a16']
    refine (same_nw names methods at0 n fr8 fw.b).post (by omega) (by omega) ?_
    rintro _ h9 nx9 tc9 wr9 rfl n9 k9 w9
    have fr9 := fr8.keeps n9 k9
    simp (maxSteps := 4000000) (maxDischargeDepth := 6) [↓step_none, ↓step_t, ↓step_f, ↓step_nt, ↓step_nf, ↓op_load, ↓op_store, ↓op_slice, ↓op_app, ↓op_islc, ↓P_skip, ↓P_exit, ↓P_ret, ↓P_seq, ↓P_cond, ↓P_blk, ↓P_reg, ↓P_draw, ↓P_nil, ↓P_cons, condP_t, condP_f, dum_ab, stepR, want_none, want_some, opRun, ev_t, ev_c, put_none, put_some, resAll, res_tmp, res_cell, oneOf, minI, maxI, min2A, max2A, mn2, mx2, mx3, rdBlk, wrBlk, newBlk, partA, abin, ibin, isShift, AV.cells, AV.one, lay, sub, fillA, lenA, toN, allApart, apartFrom, Nat.testBit, Mem.blk_set_same, Mem.blk_set_ne, Mem.set_set, bit_zero, bit_self, lowBits_or, lowBits_zero, len_setT, sl_same, sl_ne, len_frame, sl_frame,↓op_len, lenOp_slc, lenOp_nils, ↓Post.some, ↓Post_bind, ↓Post_ret, ↓Post_draw, ↓PostL_nil, ↓PostL_cons, Post_fail, ofOpt_some, ofOpt_none, eA_b, eA_i, eA_s, eA_nn, eA_np, eA_pn, eA_lnn, eA_lnp, eA_lpn, eA_i2, eA_i3, blt_dec, Nat.add_assoc, keeps_refl, keeps_at, keeps_up, new_one, and_pow, bit_hi, lowBits_pow, ble_dec, fr_refl, fr_at, fr_up, fr_p, dum_ab, reps, hlen, a1', a2', a3', a5', a6', a15', a16', m63, o63, a15, n15]
    refine (same_nw (names % 64) (methods % 64) (at0 % 16) (n % 16) fr9 fw.b).post (by omega) (by omega) ?_
    rintro _ hA nxA tcA wrA rfl nA kA wA
    simp (maxSteps := 4000000) (maxDischargeDepth := 6) [↓step_none, ↓step_t, ↓step_f, ↓step_nt, ↓step_nf, ↓op_load, ↓op_store, ↓op_slice, ↓op_app, ↓op_islc, ↓P_skip, ↓P_exit, ↓P_ret, ↓P_seq, ↓P_cond, ↓P_blk, ↓P_reg, ↓P_draw, ↓P_nil, ↓P_cons, condP_t, condP_f, dum_ab, stepR, want_none, want_some, opRun, ev_t, ev_c, put_none, put_some, resAll, res_tmp, res_cell, oneOf, minI, maxI, min2A, max2A, mn2, mx2, mx3, rdBlk, wrBlk, newBlk, partA, abin, ibin, isShift, AV.cells, AV.one, lay, sub, fillA, lenA, toN, allApart, apartFrom, Nat.testBit, Mem.blk_set_same, Mem.blk_set_ne, Mem.set_set, bit_zero, bit_self, lowBits_or, lowBits_zero, len_setT, sl_same, sl_ne, len_frame, sl_frame,↓op_len, lenOp_slc, lenOp_nils, ↓Post.some, ↓Post_bind, ↓Post_ret, ↓Post_draw, ↓PostL_nil, ↓PostL_cons, Post_fail, ofOpt_some, ofOpt_none, eA_b, eA_i, eA_s, eA_nn, eA_np, eA_pn, eA_lnn, eA_lnp, eA_lpn, eA_i2, eA_i3, blt_dec, Nat.add_assoc, keeps_refl, keeps_at, keeps_up, new_one, and_pow, bit_hi, lowBits_pow, ble_dec, fr_refl, fr_at, fr_up, fr_p, dum_ab, reps, hlen]
    refine (known_nw hA nxA).post (by omega) (by omega) ?_
    rintro _ hB nxB tcB wrB rfl nB kB wB
    simp (maxSteps := 4000000) (maxDischargeDepth := 6) [↓step_none, ↓step_t, ↓step_f, ↓step_nt, ↓step_nf, ↓op_load, ↓op_store, ↓op_slice, ↓op_app, ↓op_islc, ↓P_skip, ↓P_exit, ↓P_ret, ↓P_seq, ↓P_cond, ↓P_blk, ↓P_reg, ↓P_draw, ↓P_nil, ↓P_cons, condP_t, condP_f, dum_ab, stepR, want_none, want_some, opRun, ev_t, ev_c, put_none, put_some, resAll, res_tmp, res_cell, oneOf, minI, maxI, min2A, max2A, mn2, mx2, mx3, rdBlk, wrBlk, newBlk, partA, abin, ibin, isShift, AV.cells, AV.one, lay, sub, fillA, lenA, toN, allApart, apartFrom, Nat.testBit, Mem.blk_set_same, Mem.blk_set_ne, Mem.set_set, bit_zero, bit_self, lowBits_or, lowBits_zero, len_setT, sl_same, sl_ne, len_frame, sl_frame,↓op_len, lenOp_slc, lenOp_nils, ↓Post.some, ↓Post_bind, ↓Post_ret, ↓Post_draw, ↓PostL_nil, ↓PostL_cons, Post_fail, ofOpt_some, ofOpt_none, eA_b, eA_i, eA_s, eA_nn, eA_np, eA_pn, eA_lnn, eA_lnp, eA_lpn, eA_i2, eA_i3, blt_dec, Nat.add_assoc, keeps_refl, keeps_at, keeps_up, new_one, and_pow, bit_hi, lowBits_pow, ble_dec, fr_refl, fr_at, fr_up, fr_p, dum_ab, reps, hlen]
end Go.Proofs.YtahjkhmoojobgaaT
