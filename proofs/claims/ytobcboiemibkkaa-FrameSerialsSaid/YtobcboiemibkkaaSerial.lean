/- Frame: FrameSerials. -/
import Derived.Test.YtobcboiemibkkaaSlots
namespace Go.Proofs.YtobcboiemibkkaaT
open Go Go.Proofs.YtobcboiemibkkaaE Go.Proofs.YtobcboiemibkkaaB
set_option linter.unusedSimpArgs false
set_option linter.unusedVariables false
attribute [local congr] Post_cg PostL_cg condP_cg

def mputA (q : EqK) (x i v : AV) : A AV := match keyA q i with
    | false => A.fail
    | true => match x with
      | .map b => A.bind (rdBlk b) fun k => match findA q i k.cells 0 with
        | some (some (j, _)) => match sameA (k.cells.getD j .nilm) i with
          | true => A.bind (wrMap b (k.cells.set (j + 1) v)) fun _ => A.ret (.tup [])
          | false => A.fail
        | some none => A.bind (wrMap b (k.cells ++ [i, v])) fun _ => A.ret (.tup [])
        | none => A.fail
      | _ => A.fail
theorem op_mput (c : FuncId → List AV → A AV) (ts : List AV) (q : EqK) (x i v : X) : opRun c ts (.mput q x i v) = mputA q (x.ev ts) (i.ev ts) (v.ev ts) := Eq.trans rfl rfl
def mgetA (q : EqK) (z : AV) (ok : Bool) (x i : AV) : A AV := match keyA q i with
    | false => A.fail
    | true => match x with
      | .nilm => A.ret (okA ok z false)
      | .map b => A.bind (rdBlk b) fun k => match findA q i k.cells 0 with
        | some (some (_, v)) => A.ret (okA ok v true)
        | some none => A.ret (okA ok z false)
        | none => A.fail
      | _ => A.fail
theorem op_mget (c : FuncId → List AV → A AV) (ts : List AV) (q : EqK) (z : AV) (ok : Bool) (x i : X) : opRun c ts (.mget q z ok x i) = mgetA q z ok (x.ev ts) (i.ev ts) := Eq.trans rfl rfl
def ms : List Int → List AV
  | [] => []
  | k :: r => .int .i64 k :: .int .i64 1 :: ms r
theorem ms_app : ∀ a b : List Int, ms (a ++ b) = ms a ++ ms b
  | [], _ => rfl
  | k :: r, b => by simp only [List.cons_append, ms, ms_app r b]
theorem find_s (x : Int) : ∀ (M : List Int) (o : Nat), x ∉ M → findA .i (.int .i64 x) (ms M) o = some none
  | [], _, _ => rfl
  | k :: r, o, h => by
    have ih := find_s x r (o + 2) (fun e => h (by simp [e]))
    have ne : (x == k) = false := beq_eq_false_iff_ne.2 fun e => h (by simp [e])
    unfold ms findA
    rw [eA_i, ne]
    exact ih
theorem mput_s {h : Mem} {nx q : Nat} {M : List Int} (hq : h.blk q = some ⟨0, 0, true, false, ms M⟩) (hn : q < nx) (x : Int) (hx : x ∉ M) : mputA .i (.map q) (.int .i64 x) (.int .i64 1) h nx 0 = some ⟨.tup [], h.set q (some ⟨0, 0, true, false, ms (M ++ [x])⟩), nx, 0, 0⟩ := by
  unfold mputA
  have e : ms [x] = [.int .i64 x, .int .i64 1] := rfl
  simp [keyA, A.bind, rdBlk, blt_of hn, hq, find_s x M 0 hx, wrMap, A.ret, bit_zero, ms_app, e]
theorem mget_s {h : Mem} {nx q : Nat} {M : List Int} (hq : h.blk q = some ⟨0, 0, true, false, ms M⟩) (hn : q < nx) (x : Int) (hx : x ∉ M) : mgetA .i (.int .i64 0) false (.map q) (.int .i64 x) h nx 0 = some ⟨.int .i64 0, h, nx, 0, 0⟩ := by
  unfold mgetA
  simp [keyA, A.bind, rdBlk, blt_of hn, hq, find_s x M 0 hx, A.ret, okA, bit_zero]
theorem cf_cons (b : Bool) (U : List Bool) : cf (b :: U) = cond b 0 1 + cf U := by
  unfold cf
  cases b
  · simp; omega
  · simp
theorem cf_off : ∀ (U : List Bool) (i : Nat) (h : i < U.length), U[i] = true → cf (U.set i false) = cf U + 1
  | b :: U, 0, _, e => by
    simp only [List.getElem_cons_zero] at e
    subst e
    simp only [List.set_cons_zero, cf_cons, cond_true, cond_false]
    omega
  | b :: U, i + 1, h, e => by
    have := cf_off U i (by simpa using h) (by simpa using e)
    simp only [List.set_cons_succ, cf_cons, this]
    omega
theorem cf_on : ∀ (U : List Bool) (i : Nat) (h : i < U.length), U[i] = false → cf (U.set i true) + 1 = cf U
  | b :: U, 0, _, e => by
    simp only [List.getElem_cons_zero] at e
    subst e
    simp only [List.set_cons_zero, cf_cons, cond_true, cond_false]
    omega
  | b :: U, i + 1, h, e => by
    have := cf_on U i (by simpa using h) (by simpa using e)
    simp only [List.set_cons_succ, cf_cons]
    omega
theorem cf_full {U : List Bool} (h : ¬ ff U < U.length) : cf U = 0 := by
  unfold cf
  rw [List.length_eq_zero_iff, List.filter_eq_nil_iff]
  intro a ha hn
  exact h (List.findIdx_lt_length_of_exists ⟨a, ha, hn⟩)
theorem cf_top (U : List Bool) : cf U ≤ U.length := List.length_filter_le _ _
structure SE (h : Mem) (nx base p q : Nat) (F : List Fr) (U : List Bool) (s : Nat) (A B : List (List Int)) (M : List Int) : Prop where
  ps : PS h nx p F U s A B
  mq : h.blk q = some ⟨0, 0, true, false, ms M⟩
  nq : q < nx ∧ q ≠ p ∧ ¬ Own F q
  mm : ∀ k ∈ M, k ≤ s
  lo : base ≤ p ∧ base ≤ q ∧ ∀ b, Own F b → base ≤ b
/-- A call of the pool's. -/
theorem SE.call {h h' : Mem} {nx nx' base p q : Nat} {F F' : List Fr} {U U' : List Bool} {s s' : Nat} {A A' B B' : List (List Int)} {M : List Int} {wr : Nat} (e : SE h nx base p q F U s A B M) (hb : base ≤ nx) (hs : s ≤ s') (ps' : PS h' nx' p F' U' s' A' B') (hn : nx ≤ nx') (ow : ∀ b, Own F' b → Own F b ∨ nx ≤ b) (fr : ∀ b, b ≠ p → ¬ Own F b → wr &&& 2 ^ b = 0 ∧ (b < nx → h'.blk b = h.blk b)) :
    SE h' nx' base p q F' U' s' A' B' M ∧ ∀ b, b < base → h'.blk b = h.blk b := by
  obtain ⟨l1, l2, l3⟩ := e.lo
  refine ⟨⟨ps', ((fr q e.nq.2.1 e.nq.2.2).2 e.nq.1).trans e.mq, ⟨by have := e.nq.1; omega, e.nq.2.1, fun h => ?_⟩, fun k hk => by have := e.mm k hk; omega, ⟨l1, l2, fun b hb => ?_⟩⟩, fun b hb => (fr b (by omega) (fun h => by have := l3 b h; omega)).2 (by omega)⟩
  · rcases ow q h with h | h
    · exact e.nq.2.2 h
    · have := e.nq.1; omega
  · rcases ow b hb with h | h
    · exact l3 b h
    · omega
def SeI (va : AV) (l : List (List AV)) (h0 : Mem) (base p q : Nat) (m : Nat) (ts : List AV) (h : Mem) (nx tc wr : Nat) : Prop := ∃ (i s : Nat) (F : List Fr) (U : List Bool) (A B : List (List Int)) (M : List Int), m = 100 - i ∧ i ≤ 100 ∧ s ≤ i ∧ ts.length = 89 ∧ sl ts 0 = va ∧ sl ts 3 = .ptr p 0 ∧ sl ts 4 = .map q ∧ sl ts 5 = .int .i64 (24 - (cf U : Int)) ∧ sl ts 6 = .int .i64 i ∧ base ≤ nx ∧ SE h nx base p q F U s A B M ∧ ∀ b, b < base → h.blk b = h0.blk b
def SeR (h0 : Mem) (base p q : Nat) (e : Ex) (ts : List AV) (h : Mem) (nx tc wr : Nat) : Prop := e = .exit 0 ∧ ∃ (s : Nat) (F : List Fr) (U : List Bool) (A B : List (List Int)) (M : List Int), ts.length = 89 ∧ sl ts 3 = .ptr p 0 ∧ sl ts 5 = .int .i64 (24 - (cf U : Int)) ∧ base ≤ nx ∧ SE h nx base p q F U s A B M ∧ ∀ b, b < base → h.blk b = h0.blk b
set_option maxHeartbeats 16000000 in
theorem se_round (va : AV) (l : List (List AV)) (h0 : Mem) (base p q : Nat) (hr : SRow 5 va h0 base l) (hl : ∀ y ∈ l, ∃ k i j w s, y = ask k i j w s) (m : Nat) (ts : List AV) (h : Mem) (nx tc wr : Nat) (hi : SeI va l h0 base p q m ts h nx tc wr) :
    Post (xC T 300 L5_0b ts h nx 0) fun v' h' nx' tc' wr' => Round (SeI va l h0 base p q) (SeR h0 base p q) m v' h' nx' (tc ||| tc') (wr ||| wr') := by
  obtain ⟨i, s, F, U, A, B, M, rfl, hi, hs, hlen, g0, g3, g4, g5, g6, hbn, se, kp⟩ := hi
  have lv := hr.lenOp
  by_cases c1 : i < l.length
  · by_cases c2 : i < 100
    · have c1' : (i : Int) < (l.length : Int) := by omega
      have c2' : (i : Int) < 100 := by omega
      have ci : IntKind.i64.wrap ((i : Int) + 1) = ((i + 1 : Nat) : Int) := by rw [IntKind.wrap_i64]; omega
      obtain ⟨bb, c, K, rfl, hb, hK, hs1, hs'⟩ := hr.at c1
      obtain ⟨y0, y1, y2, y3, y4, hx⟩ := hl _ (List.getElem_mem c1)
      rw [hx] at hs1 hs'
      have k0 := hs' 0 _ rfl
      have k1 := hs' 1 _ rfl
      simp only [Nat.add_zero] at k0
      have kb : h.blk bb = some K := (kp bb hb).trans hK
      have m0 := fun lg => ld_at kb (show bb < nx by omega) k0 lg
      have m1 := fun lg => ld_at kb (show bb < nx by omega) k1 lg
      have am : Go.bits .and .i64 y0 1 = y0 % 2 := and_mask .i64 1 (by decide) y0
      have hU := se.ps.hU
      have hF := se.ps.hF
      have hA := se.ps.hA
      have hB := se.ps.hB
      have ct := cf_top U
      have hp := se.ps.hp
      by_cases co : y0 % 2 = 1
      · obtain ⟨j, j1, j2, wi⟩ := within_ex y1 0 23 (by omega) (by omega) (by omega)
        obtain ⟨n, rfl⟩ : ∃ n : Nat, j = (n : Int) := ⟨j.toNat, by omega⟩
        have hn : n < U.length := by omega
        cases hu : U[n] with
        | true =>
          obtain ⟨h1, nx1, tc1, wr1, x1, n1, ps1, ow1, fr1⟩ := (give_yes se.ps n hn hu).at 0 (by omega)
          obtain ⟨S, ks⟩ := se.call hbn (Nat.le_refl s) ps1 n1 ow1 fr1
          have cu := cf_off U n hn hu
          have w1 : IntKind.i64.wrap (24 - (cf U : Int) - 1) = 24 - (cf (U.set n false) : Int) := by rw [IntKind.wrap_i64, cu]; omega
          simp (maxSteps := 4000000) [↓step_none, ↓step_t, ↓step_f, ↓step_nt, ↓step_nf, ↓op_load, ↓op_store, ↓op_slice, ↓op_app, ↓P_skip, ↓P_exit, ↓P_ret, ↓P_seq, ↓P_cond, ↓P_blk, ↓P_reg, ↓P_draw, ↓P_nil, ↓P_cons, condP_t, condP_f, dum_ab, stepR, want_none, want_some, opRun, ev_t, ev_c, put_none, put_some, resAll, res_tmp, res_cell, oneOf, minI, maxI, min2A, max2A, mn2, mx2, mx3, rdBlk, wrBlk, newBlk, partA, abin, ibin, isShift, AV.cells, AV.one, lay, sub, fillA, lenA, toN, allApart, apartFrom, Nat.testBit, Mem.blk_set_same, Mem.blk_set_ne, Mem.set_set, bit_zero, bit_self, lowBits_or, lowBits_zero, len_setT, sl_same, sl_ne, len_frame, sl_frame,↓op_len, lenOp_slc, lenOp_nils, ↓Post.some, ↓Post_bind, ↓Post_ret, ↓Post_draw, ↓PostL_nil, ↓PostL_cons, Post_fail, ofOpt_some, ofOpt_none, eA_b, eA_i, eA_s, eA_nn, eA_np, eA_pn, eA_lnn, eA_lnp, eA_lpn, eA_i2, eA_i3, blt_dec, Nat.add_assoc, keeps_refl, keeps_at, keeps_up, new_one, and_pow, bit_hi, lowBits_pow, ble_dec, fr_refl, fr_at, fr_up, fr_p, dum_ab, L5_0b, reps, hlen, g0, g3, g5, g6, c1, c1', c2', m0, m1, am, co, wi, x1, w1, ci]
          exact Round.nor (m' := 100 - (i + 1)) (by omega) ⟨i + 1, s, F, U.set n false, A, B, M, rfl, by omega, by omega, by simp [len_setT, sl_same, sl_ne, hlen], by simp [len_setT, sl_same, sl_ne, hlen, g0], by simp [len_setT, sl_same, sl_ne, hlen, g3], by simp [len_setT, sl_same, sl_ne, hlen, g4], by simp [len_setT, sl_same, sl_ne, hlen], by simp [len_setT, sl_same, sl_ne, hlen], by omega, S, fun b hb => (ks b hb).trans (kp b hb)⟩
        | false =>
          obtain ⟨tc1, x1⟩ := (give_no (by have := is_in se.ps n hn; rwa [hu] at this)).at 0 (by omega)
          simp (maxSteps := 4000000) [↓step_none, ↓step_t, ↓step_f, ↓step_nt, ↓step_nf, ↓op_load, ↓op_store, ↓op_slice, ↓op_app, ↓P_skip, ↓P_exit, ↓P_ret, ↓P_seq, ↓P_cond, ↓P_blk, ↓P_reg, ↓P_draw, ↓P_nil, ↓P_cons, condP_t, condP_f, dum_ab, stepR, want_none, want_some, opRun, ev_t, ev_c, put_none, put_some, resAll, res_tmp, res_cell, oneOf, minI, maxI, min2A, max2A, mn2, mx2, mx3, rdBlk, wrBlk, newBlk, partA, abin, ibin, isShift, AV.cells, AV.one, lay, sub, fillA, lenA, toN, allApart, apartFrom, Nat.testBit, Mem.blk_set_same, Mem.blk_set_ne, Mem.set_set, bit_zero, bit_self, lowBits_or, lowBits_zero, len_setT, sl_same, sl_ne, len_frame, sl_frame,↓op_len, lenOp_slc, lenOp_nils, ↓Post.some, ↓Post_bind, ↓Post_ret, ↓Post_draw, ↓PostL_nil, ↓PostL_cons, Post_fail, ofOpt_some, ofOpt_none, eA_b, eA_i, eA_s, eA_nn, eA_np, eA_pn, eA_lnn, eA_lnp, eA_lpn, eA_i2, eA_i3, blt_dec, Nat.add_assoc, keeps_refl, keeps_at, keeps_up, new_one, and_pow, bit_hi, lowBits_pow, ble_dec, fr_refl, fr_at, fr_up, fr_p, dum_ab, L5_0b, reps, hlen, g0, g3, g5, g6, c1, c1', c2', m0, m1, am, co, wi, x1, ci]
          exact Round.nor (m' := 100 - (i + 1)) (by omega) ⟨i + 1, s, F, U, A, B, M, rfl, by omega, by omega, by simp [len_setT, sl_same, sl_ne, hlen], by simp [len_setT, sl_same, sl_ne, hlen, g0], by simp [len_setT, sl_same, sl_ne, hlen, g3], by simp [len_setT, sl_same, sl_ne, hlen, g4], by simp [len_setT, sl_same, sl_ne, hlen, g5], by simp [len_setT, sl_same, sl_ne, hlen], hbn, se, kp⟩
      · have co2 : (y0 % 2 == 1) = false := beq_eq_false_iff_ne.2 co
        by_cases cU : ff U < 24
        · obtain ⟨sl, c3⟩ := take_yes se.ps 1 (-1) (-1) 2 .nils [] (.inl ⟨rfl, rfl, rfl⟩) (fun h => by cases h) cU (by decide)
          rw [if_pos rfl] at c3
          obtain ⟨h1, nx1, tc1, wr1, x1, n1, ps1, ow1, fr1⟩ := c3.at 0 (by omega)
          have hw : IntKind.i64.wrap ((s : Int) + 1) = ((s + 1 : Nat) : Int) := by rw [IntKind.wrap_i64]; omega
          rw [hw] at ps1 ow1
          have uf : U[ff U]'(by omega) = false := ff_free (by omega)
          have cu := cf_on U (ff U) (by omega) uf
          clear uf c3
          generalize hnn : ff U = n at *
          obtain ⟨F', hF'⟩ : ∃ F', F' = F.set n ⟨1, 0, -1, (n : Int), ((s + 1 : Nat) : Int), 2, sl, .nils⟩ := ⟨_, rfl⟩
          rw [← hF'] at ps1 ow1
          obtain ⟨S, ks⟩ := se.call hbn (Nat.le_succ s) ps1 n1 ow1 fr1
          have fn : F'[n]'(by rw [hF', List.length_set]; omega) = ⟨1, 0, -1, (n : Int), ((s + 1 : Nat) : Int), 2, sl, .nils⟩ := by subst hF'; rw [List.getElem_set_self]
          have hA' : n < (A.set n []).length := by rw [List.length_set]; omega
          have hB' : n < (B.set n []).length := by rw [List.length_set]; omega
          obtain ⟨a7, b7, h7, nx7, tc7, wr7, x7, n7, ra7, rb7, k7, lo7, lp7, fa7, fb7⟩ := at_yes ps1 n (by rw [List.length_set]; omega) (by rw [hF', List.length_set]; omega) hA' hB' (by rw [List.getElem_set_self]) (by rw [List.getElem_set_self]; decide) (by rw [List.getElem_set_self]; decide) 0 (by omega)
          rw [fn] at x7
          have q7 := ps1.keeps n7 k7
          obtain ⟨f0, hf0⟩ : ∃ f : Fr, f = ⟨1, 0, -1, (n : Int), ((s + 1 : Nat) : Int), 2, sl, .nils⟩ := ⟨_, rfl⟩
          rw [← hf0] at x7
          obtain ⟨H7, hH7⟩ : ∃ H7, H7 = h7.set nx7 (some ⟨36, 8, true, false, (fr8 f0 a7 b7).cells⟩) := ⟨_, rfl⟩
          have s7 : stA 8 (.ptr nx7 0) (fr8 f0 a7 b7) (h7.set nx7 (some ⟨36, 8, true, false, fzero⟩)) (nx7 + 1) 0 = some ⟨.tup [], H7, nx7 + 1, bit 0 nx7, bit 0 nx7⟩ := by rw [hH7]; exact st_new h7 nx7 f0 fa7 fb7 0
          have kH7 : ∀ b, b < nx1 → H7.blk b = h1.blk b := fun b hb => by rw [hH7, Mem.blk_set_ne _ _ _ _ (by omega), k7 b hb]
          have bl7 : H7.blk nx7 = some ⟨36, 8, true, false, (fr8 f0 a7 b7).cells⟩ := by rw [hH7, Mem.blk_set_same]
          have cc3 : ((fr8 f0 a7 b7).cells)[3]? = some (.int .i64 n) := by
            subst hf0
            rcases fa7 with rfl | ⟨q, n, rfl⟩ <;> rcases fb7 with rfl | ⟨q2, n2, rfl⟩ <;> rfl
          have cc4 : ((fr8 f0 a7 b7).cells)[4]? = some (.int .i64 ((s + 1 : Nat) : Int)) := by
            subst hf0
            rcases fa7 with rfl | ⟨q, n, rfl⟩ <;> rcases fb7 with rfl | ⟨q2, n2, rfl⟩ <;> rfl
          obtain ⟨z, hz⟩ : ∃ z : Int, z = ((s + 1 : Nat) : Int) := ⟨_, rfl⟩
          have d3 := fun lg => ld_at bl7 (show nx7 < nx7 + 1 by omega) cc3 lg
          have d4 := fun lg => ld_at bl7 (show nx7 < nx7 + 1 by omega) cc4 lg
          rw [← hz] at d4
          have hxM : z ∉ M := fun h => by have := se.mm z h; omega
          have hq1 := S.nq.1
          have mq7 : H7.blk q = some ⟨0, 0, true, false, ms M⟩ := (kH7 q hq1).trans S.mq
          have mg := mget_s mq7 (show q < nx7 + 1 by omega) z hxM
          have mp := mput_s mq7 (show q < nx7 + 1 by omega) z hxM
          have S' : SE (H7.set q (some ⟨0, 0, true, false, ms (M ++ [z])⟩)) (nx7 + 1) base p q F' (U.set n true) (s + 1) (A.set n []) (B.set n []) (M ++ [z]) := by
            refine ⟨ps1.keep (by omega) fun b hb => ?_, Mem.blk_set_same .., ⟨by omega, S.nq.2⟩, fun k hk => ?_, S.lo⟩
            · have hne : b ≠ q := fun e => by
                subst e
                rcases hb with hb | hb
                · exact S.nq.2.1 hb
                · exact S.nq.2.2 hb
              rw [Mem.blk_set_ne _ _ _ _ hne, kH7 b (ps1.lt hb)]
            · rcases List.mem_append.1 hk with hk | hk
              · exact S.mm k hk
              · rw [List.mem_singleton.1 hk, hz]; exact Int.le_refl _
          have kk : ∀ b, b < base → (H7.set q (some ⟨0, 0, true, false, ms (M ++ [z])⟩)).blk b = h0.blk b := fun b hb => by
            rw [Mem.blk_set_ne _ _ _ _ (by have := se.lo.2.1; omega), kH7 b (by omega), ks b hb, kp b hb]
          have w1 : IntKind.i64.wrap (24 - (cf U : Int) + 1) = 24 - (cf (U.set n true) : Int) := by rw [IntKind.wrap_i64]; omega
          have z1 : ¬ z < 1 := by omega
          have n0 : ¬ (n : Int) < 0 := by omega
          have cfn : ¬ cf U = 0 := by omega
          have c24 : ((24 : Int) - (cf U : Int) == 24) = false := beq_eq_false_iff_ne.2 (by omega)
          simp only [fr8, fzero] at x7 s7
          clear hz
          simp (maxSteps := 4000000) [↓step_none, ↓step_t, ↓step_f, ↓step_nt, ↓step_nf, ↓op_load, ↓op_store, ↓op_slice, ↓op_app, ↓op_mput, ↓op_mget, ↓P_skip, ↓P_exit, ↓P_ret, ↓P_seq, ↓P_cond, ↓P_blk, ↓P_reg, ↓P_draw, ↓P_nil, ↓P_cons, condP_t, condP_f, dum_ab, stepR, want_none, want_some, opRun, ev_t, ev_c, put_none, put_some, resAll, res_tmp, res_cell, oneOf, minI, maxI, min2A, max2A, mn2, mx2, mx3, rdBlk, wrBlk, newBlk, partA, abin, ibin, isShift, AV.cells, AV.one, lay, sub, fillA, lenA, toN, allApart, apartFrom, Nat.testBit, Mem.blk_set_same, Mem.blk_set_ne, Mem.set_set, bit_zero, bit_self, lowBits_or, lowBits_zero, len_setT, sl_same, sl_ne, len_frame, sl_frame,↓op_len, lenOp_slc, lenOp_nils, ↓Post.some, ↓Post_bind, ↓Post_ret, ↓Post_draw, ↓PostL_nil, ↓PostL_cons, Post_fail, ofOpt_some, ofOpt_none, eA_b, eA_i, eA_s, eA_nn, eA_np, eA_pn, eA_lnn, eA_lnp, eA_lpn, eA_i2, eA_i3, blt_dec, Nat.add_assoc, keeps_refl, keeps_at, keeps_up, new_one, and_pow, bit_hi, lowBits_pow, ble_dec, fr_refl, fr_at, fr_up, fr_p, dum_ab, L5_0b, reps, hlen, g0, g3, g4, g5, g6, c1, c1', c2', m0, m1, am, co2, x1, n0, cfn, c24, w1, x7, s7, d3, d4, mg, mp, z1, ci]
          exact Round.nor (m' := 100 - (i + 1)) (by omega) ⟨i + 1, s + 1, F', U.set n true, A.set n [], B.set n [], M ++ [z], rfl, by omega, by omega, by simp [len_setT, sl_same, sl_ne, hlen], by simp [len_setT, sl_same, sl_ne, hlen, g0], by simp [len_setT, sl_same, sl_ne, hlen, g3], by simp [len_setT, sl_same, sl_ne, hlen, g4], by simp [len_setT, sl_same, sl_ne, hlen], by simp [len_setT, sl_same, sl_ne, hlen], by omega, S', kk⟩
        · obtain ⟨tc1, x1⟩ := (take_no se.ps 1 (-1) (-1) 2 .nils [] (.inl ⟨rfl, rfl, rfl⟩) (.inl cU)).at 0 (by omega)
          have cz := cf_full (U := U) (by omega)
          have cz' : (cf U : Int) = 0 := by omega
          simp (maxSteps := 4000000) [↓step_none, ↓step_t, ↓step_f, ↓step_nt, ↓step_nf, ↓op_load, ↓op_store, ↓op_slice, ↓op_app, ↓P_skip, ↓P_exit, ↓P_ret, ↓P_seq, ↓P_cond, ↓P_blk, ↓P_reg, ↓P_draw, ↓P_nil, ↓P_cons, condP_t, condP_f, dum_ab, stepR, want_none, want_some, opRun, ev_t, ev_c, put_none, put_some, resAll, res_tmp, res_cell, oneOf, minI, maxI, min2A, max2A, mn2, mx2, mx3, rdBlk, wrBlk, newBlk, partA, abin, ibin, isShift, AV.cells, AV.one, lay, sub, fillA, lenA, toN, allApart, apartFrom, Nat.testBit, Mem.blk_set_same, Mem.blk_set_ne, Mem.set_set, bit_zero, bit_self, lowBits_or, lowBits_zero, len_setT, sl_same, sl_ne, len_frame, sl_frame,↓op_len, lenOp_slc, lenOp_nils, ↓Post.some, ↓Post_bind, ↓Post_ret, ↓Post_draw, ↓PostL_nil, ↓PostL_cons, Post_fail, ofOpt_some, ofOpt_none, eA_b, eA_i, eA_s, eA_nn, eA_np, eA_pn, eA_lnn, eA_lnp, eA_lpn, eA_i2, eA_i3, blt_dec, Nat.add_assoc, keeps_refl, keeps_at, keeps_up, new_one, and_pow, bit_hi, lowBits_pow, ble_dec, fr_refl, fr_at, fr_up, fr_p, dum_ab, L5_0b, reps, hlen, g0, g3, g4, g5, g6, c1, c1', c2', m0, m1, am, co2, x1, cz, cz', ci]
          exact Round.nor (m' := 100 - (i + 1)) (by omega) ⟨i + 1, s, F, U, A, B, M, rfl, by omega, by omega, by simp [len_setT, sl_same, sl_ne, hlen], by simp [len_setT, sl_same, sl_ne, hlen, g0], by simp [len_setT, sl_same, sl_ne, hlen, g3], by simp [len_setT, sl_same, sl_ne, hlen, g4], by simp [len_setT, sl_same, sl_ne, hlen, g5], by simp [len_setT, sl_same, sl_ne, hlen], hbn, se, kp⟩
    · have c1' : (i : Int) < (l.length : Int) := by omega
      have c2' : ¬ (i : Int) < 100 := by omega
      simp (maxSteps := 4000000) [↓step_none, ↓step_t, ↓step_f, ↓step_nt, ↓step_nf, ↓op_load, ↓op_store, ↓op_slice, ↓op_app, ↓P_skip, ↓P_exit, ↓P_ret, ↓P_seq, ↓P_cond, ↓P_blk, ↓P_reg, ↓P_draw, ↓P_nil, ↓P_cons, condP_t, condP_f, dum_ab, stepR, want_none, want_some, opRun, ev_t, ev_c, put_none, put_some, resAll, res_tmp, res_cell, oneOf, minI, maxI, min2A, max2A, mn2, mx2, mx3, rdBlk, wrBlk, newBlk, partA, abin, ibin, isShift, AV.cells, AV.one, lay, sub, fillA, lenA, toN, allApart, apartFrom, Nat.testBit, Mem.blk_set_same, Mem.blk_set_ne, Mem.set_set, bit_zero, bit_self, lowBits_or, lowBits_zero, len_setT, sl_same, sl_ne, len_frame, sl_frame,↓op_len, lenOp_slc, lenOp_nils, ↓Post.some, ↓Post_bind, ↓Post_ret, ↓Post_draw, ↓PostL_nil, ↓PostL_cons, Post_fail, ofOpt_some, ofOpt_none, eA_b, eA_i, eA_s, eA_nn, eA_np, eA_pn, eA_lnn, eA_lnp, eA_lpn, eA_i2, eA_i3, blt_dec, Nat.add_assoc, keeps_refl, keeps_at, keeps_up, new_one, and_pow, bit_hi, lowBits_pow, ble_dec, fr_refl, fr_at, fr_up, fr_p, dum_ab, L5_0b, hlen, g0, g6, lv, c1', c2']
      exact Round.exit (R := SeR h0 base p q) ⟨rfl, s, F, U, A, B, M, by simp [len_setT, sl_same, sl_ne, hlen], by simp [len_setT, sl_same, sl_ne, hlen, g3], by simp [len_setT, sl_same, sl_ne, hlen, g5], hbn, se, kp⟩
  · have c1' : ¬ (i : Int) < (l.length : Int) := by omega
    simp (maxSteps := 4000000) [↓step_none, ↓step_t, ↓step_f, ↓step_nt, ↓step_nf, ↓op_load, ↓op_store, ↓op_slice, ↓op_app, ↓P_skip, ↓P_exit, ↓P_ret, ↓P_seq, ↓P_cond, ↓P_blk, ↓P_reg, ↓P_draw, ↓P_nil, ↓P_cons, condP_t, condP_f, dum_ab, stepR, want_none, want_some, opRun, ev_t, ev_c, put_none, put_some, resAll, res_tmp, res_cell, oneOf, minI, maxI, min2A, max2A, mn2, mx2, mx3, rdBlk, wrBlk, newBlk, partA, abin, ibin, isShift, AV.cells, AV.one, lay, sub, fillA, lenA, toN, allApart, apartFrom, Nat.testBit, Mem.blk_set_same, Mem.blk_set_ne, Mem.set_set, bit_zero, bit_self, lowBits_or, lowBits_zero, len_setT, sl_same, sl_ne, len_frame, sl_frame,↓op_len, lenOp_slc, lenOp_nils, ↓Post.some, ↓Post_bind, ↓Post_ret, ↓Post_draw, ↓PostL_nil, ↓PostL_cons, Post_fail, ofOpt_some, ofOpt_none, eA_b, eA_i, eA_s, eA_nn, eA_np, eA_pn, eA_lnn, eA_lnp, eA_lpn, eA_i2, eA_i3, blt_dec, Nat.add_assoc, keeps_refl, keeps_at, keeps_up, new_one, and_pow, bit_hi, lowBits_pow, ble_dec, fr_refl, fr_at, fr_up, fr_p, dum_ab, L5_0b, hlen, g0, g6, lv, c1']
    exact Round.exit (R := SeR h0 base p q) ⟨rfl, s, F, U, A, B, M, by simp [len_setT, sl_same, sl_ne, hlen], by simp [len_setT, sl_same, sl_ne, hlen, g3], by simp [len_setT, sl_same, sl_ne, hlen, g5], hbn, se, kp⟩
set_option maxHeartbeats 8000000 in
theorem serials_law (h0 : Mem) (p : Nat) (avs : List AV) (g : KdsV h0 p [.sl ka] avs) : Yes T 5 avs h0 p := by
  simp only [KdsV] at g
  obtain ⟨va, _, rfl, ga, rfl⟩ := g
  obtain ⟨la, ra, la1, la2⟩ := ga.srow
  have hla : ∀ y ∈ la, ∃ k i j w s, y = ask k i j w s := fun y hy => ask_of (la2 y hy)
  obtain ⟨h1, x1, ps1, k1⟩ := new_at h0 p 0
  obtain ⟨H2, hH2⟩ : ∃ H2, H2 = h1.set (p + 1) (some ⟨0, 0, true, false, []⟩) := ⟨_, rfl⟩
  have ps2 : PS H2 (p + 1 + 1) p F0 U0 0 A0 A0 := by rw [hH2]; exact ps1.new _
  have lw0 : ∀ b, ¬ Own F0 b := fun b ⟨i, hi, hb⟩ => by
    have e : F0[i] = ⟨0, 0, 0, 0, 0, 0, .nils, .nils⟩ := List.getElem_replicate ..
    rw [e] at hb
    rcases hb with hb | hb <;> cases hb
  have S : SE H2 (p + 2) p p (p + 1) F0 U0 0 A0 A0 [] := ⟨ps2, by rw [hH2, Mem.blk_set_same]; rfl, ⟨by omega, by omega, lw0 _⟩, (fun k hk => nomatch hk), ⟨Nat.le_refl _, by omega, fun b hb => absurd hb (lw0 b)⟩⟩
  have kA : ∀ b, b < p → H2.blk b = h0.blk b := fun b hb => by rw [hH2, Mem.blk_set_ne _ _ _ _ (by omega), k1 b hb]
  have s2 := hH2.symm
  refine Yes.of 2000 ?_
  rw [xF_fr T5]
  simp (maxSteps := 8000000) [↓step_none, ↓step_t, ↓step_f, ↓step_nt, ↓step_nf, ↓op_load, ↓op_store, ↓op_slice, ↓op_app, ↓P_skip, ↓P_exit, ↓P_ret, ↓P_seq, ↓P_cond, ↓P_blk, ↓P_reg, ↓P_draw, ↓P_nil, ↓P_cons, condP_t, condP_f, dum_ab, stepR, want_none, want_some, opRun, ev_t, ev_c, put_none, put_some, resAll, res_tmp, res_cell, oneOf, minI, maxI, min2A, max2A, mn2, mx2, mx3, rdBlk, wrBlk, newBlk, partA, abin, ibin, isShift, AV.cells, AV.one, lay, sub, fillA, lenA, toN, allApart, apartFrom, Nat.testBit, Mem.blk_set_same, Mem.blk_set_ne, Mem.set_set, bit_zero, bit_self, lowBits_or, lowBits_zero, len_setT, sl_same, sl_ne, len_frame, sl_frame,↓op_len, lenOp_slc, lenOp_nils, ↓Post.some, ↓Post_bind, ↓Post_ret, ↓Post_draw, ↓PostL_nil, ↓PostL_cons, Post_fail, ofOpt_some, ofOpt_none, eA_b, eA_i, eA_s, eA_nn, eA_np, eA_pn, eA_lnn, eA_lnp, eA_lpn, eA_i2, eA_i3, blt_dec, Nat.add_assoc, keeps_refl, keeps_at, keeps_up, new_one, and_pow, bit_hi, lowBits_pow, ble_dec, fr_refl, fr_at, fr_up, fr_p, dum_ab, F5, reps, x1, s2]
  refine Post.loop (se_round va la h0 p p (p + 1) ra hla) 100 ⟨0, 0, F0, U0, A0, A0, [], rfl, by omega, by omega, by simp [len_setT, sl_same, sl_ne, len_frame], by simp [len_setT, sl_same, sl_ne, len_frame, sl_frame], by simp [len_setT, sl_same, sl_ne, len_frame, sl_frame], by simp [len_setT, sl_same, sl_ne, len_frame, sl_frame], by simp [len_setT, sl_same, sl_ne, len_frame, sl_frame]; decide, by simp [len_setT, sl_same, sl_ne, len_frame, sl_frame], by omega, S, kA⟩ (by omega) ?_
  rintro e ts2 h5 nx5 tc5 wr5 ⟨rfl, s, F, U, A, B, M, hlen, g3, g5, hbn, se, kp⟩
  obtain ⟨tc6, x6⟩ := (free_rd se.ps).at 0 (by omega)
  obtain ⟨h8, nx8, tc8, wr8, x8, n8, k8⟩ := known_at h5 nx5 0 (Nat.zero_le _)
  have ct := cf_top U
  have hU := se.ps.hU
  have w1 : IntKind.i64.wrap (24 - (24 - (cf U : Int))) = (cf U : Int) := by rw [IntKind.wrap_i64]; omega
  simp (maxSteps := 8000000) [↓step_none, ↓step_t, ↓step_f, ↓step_nt, ↓step_nf, ↓op_load, ↓op_store, ↓op_slice, ↓op_app, ↓P_skip, ↓P_exit, ↓P_ret, ↓P_seq, ↓P_cond, ↓P_blk, ↓P_reg, ↓P_draw, ↓P_nil, ↓P_cons, condP_t, condP_f, dum_ab, stepR, want_none, want_some, opRun, ev_t, ev_c, put_none, put_some, resAll, res_tmp, res_cell, oneOf, minI, maxI, min2A, max2A, mn2, mx2, mx3, rdBlk, wrBlk, newBlk, partA, abin, ibin, isShift, AV.cells, AV.one, lay, sub, fillA, lenA, toN, allApart, apartFrom, Nat.testBit, Mem.blk_set_same, Mem.blk_set_ne, Mem.set_set, bit_zero, bit_self, lowBits_or, lowBits_zero, len_setT, sl_same, sl_ne, len_frame, sl_frame,↓op_len, lenOp_slc, lenOp_nils, ↓Post.some, ↓Post_bind, ↓Post_ret, ↓Post_draw, ↓PostL_nil, ↓PostL_cons, Post_fail, ofOpt_some, ofOpt_none, eA_b, eA_i, eA_s, eA_nn, eA_np, eA_pn, eA_lnn, eA_lnp, eA_lpn, eA_i2, eA_i3, blt_dec, Nat.add_assoc, keeps_refl, keeps_at, keeps_up, new_one, and_pow, bit_hi, lowBits_pow, ble_dec, fr_refl, fr_at, fr_up, fr_p, dum_ab, reps, hlen, g3, g5, x6, w1, x8]
end Go.Proofs.YtobcboiemibkkaaT
