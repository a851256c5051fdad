/- Frame: FrameNumbers: play is so for any asks, so for these. -/
import Derived.Test.YtobcboiemibkkaaPlay
namespace Go.Proofs.YtobcboiemibkkaaT
open Go Go.Proofs.YtobcboiemibkkaaE Go.Proofs.YtobcboiemibkkaaB
set_option linter.unusedSimpArgs false
set_option linter.unusedVariables false
attribute [local congr] Post_cg PostL_cg condP_cg

/-- Some elements more; every other block stays. -/
theorem app_n {sz : Nat} (hsz : 0 < sz) {s : AV} {h : Mem} {lo nx : Nat} (lg : Nat) {l M : List (List AV)} (ty bytes : Nat) (g : SGRow sz s h lo nx l) (hlo : lo ≤ nx) (hM : ∀ x ∈ M, x.length = sz) (hne : 0 < M.length) (hf : fits (l.length + M.length) bytes = true) (hx : M.flatten.all AV.one = true) :
    Post (appA ty sz bytes M.length s M.flatten h nx lg) fun s' h' nx' tc wr => nx' = nx + 1 ∧ SGRow sz s' h' lo (nx + 1) (l ++ M) ∧ s' = .slc nx 0 (l.length + M.length) none ∧ (∀ b, b < nx → bid s ≠ some b → h'.blk b = h.blk b) := by
  have hn1 : Nat.beq M.length 0 = false := by cases hc : M.length with | zero => omega | succ n => rfl
  have fM := flat_len hM
  rcases g with ⟨rfl, rfl⟩ | ⟨hs, b, t, h1, h2, rfl, h4⟩
  · have e : appA ty sz bytes M.length .nils M.flatten h nx lg = some ⟨.slc nx 0 M.length none, h.set nx (some ⟨ty, sz, true, true, M.flatten⟩), nx + 1, 0, 0⟩ := by
      have hf' : fits M.length bytes = true := by simpa using hf
      unfold appA
      rw [hn1]
      simp [hf', A.bind, newBlk, A.ret]
    exact Post.of e ⟨rfl, .inr ⟨by simpa using hM, nx, ty, hlo, by omega, by simp, by simpa using Mem.blk_set_same ..⟩, by simp, fun b hb _ => Mem.blk_set_ne _ _ _ _ (by omega)⟩
  · have hb1 : Nat.blt b nx = true := blt_of h2
    have hfl := flat_len hs
    have hble : Nat.ble (0 + (l.length + M.length) * sz) l.flatten.length = false := by
      cases hc : Nat.ble (0 + (l.length + M.length) * sz) l.flatten.length with
      | false => rfl
      | true =>
        have h0 := Nat.le_of_ble_eq_true hc
        have h1 : 0 < M.length * sz := Nat.mul_pos hne hsz
        rw [hfl, Nat.add_mul] at h0
        omega
    have e : appA ty sz bytes M.length (.slc b 0 l.length none) M.flatten h nx lg = some ⟨.slc nx 0 (l.length + M.length) none, (h.set b none).set nx (some ⟨t, sz, true, true, l.flatten ++ M.flatten⟩), nx + 1, bit lg b ||| bit lg b, bit lg b⟩ := by
      have hsub := sub_all l.flatten (l.length * sz) (by omega)
      unfold appA
      rw [hn1]
      simp only [A.bind, rdBlk, hb1, h4, Nat.beq_refl, Bool.true_and, hx, hble, hf, hsub, A.ofOpt, A.ret, movBlk]
      simp
    refine Post.of e ⟨rfl, .inr ⟨?_, nx, t, by omega, by omega, by rw [List.length_append], ?_⟩, rfl, fun c hc hn => by rw [Mem.blk_set_ne _ _ _ _ (by omega), Mem.blk_set_ne _ _ _ _ (bidne hn)]⟩
    · intro y hy
      rcases List.mem_append.1 hy with hy | hy
      · exact hs y hy
      · exact hM y hy
    · rw [Mem.blk_set_same]; simp
def Nl (y : List AV) : Prop := ∃ k i j w, y = ask k i j w .nils
theorem nl5 {y : List AV} (g : Nl y) : y.length = 5 := by obtain ⟨_, _, _, _, e⟩ := g; rw [e]; rfl
theorem grow_n {u : AV} {h : Mem} {nx base : Nat} {L M : List (List AV)} (g : SGRow 5 u h base nx L) (hb : base ≤ nx) (hl : L.length ≤ 1000) (hm : M.length ≤ 1000) (h5 : ∀ y ∈ M, y.length = 5) (hne : 0 < M.length) (ho : M.flatten.all AV.one = true) {n : Nat} (hn : n = M.length) : ∃ u' h' tc wr, appOp 26 5 56 u (.slc nx 0 n (some n)) (h.set nx (some ⟨26, 5, true, false, M.flatten⟩)) (nx + 1) 0 = some ⟨u', h', nx + 2, tc, wr⟩ ∧ SGRow 5 u' h' base (nx + 2) (L ++ M) ∧ (∀ b, b < nx → bid u ≠ some b → h'.blk b = h.blk b) ∧ bid u' = some (nx + 1) := by
  subst hn
  have g1 : SGRow 5 u (h.set nx (some ⟨26, 5, true, false, M.flatten⟩)) base (nx + 1) L := g.new _
  obtain ⟨s', h', nx', tc, wr, e, rfl, g2, rfl, k2⟩ := (app_n (by decide) 0 26 56 g1 (by omega) h5 hne (fits_few (by omega) (by omega)) ho).inv
  have fM := flat_len h5
  have hr : rdEls 5 M.length (.slc nx 0 M.length (some M.length)) (h.set nx (some ⟨26, 5, true, false, M.flatten⟩)) (nx + 1) 0 = some ⟨M.flatten, h.set nx (some ⟨26, 5, true, false, M.flatten⟩), nx + 1, 0, 0⟩ := by
    have e1 : sub M.flatten 0 (M.length * 5) = some M.flatten := by
      unfold sub
      rw [fM, Nat.ble_eq_true_of_le (by omega)]
      simp only [List.drop_zero, ite_true]
      rw [List.take_of_length_le (by omega)]
    have e2 : Nat.ble M.length M.length = true := Nat.ble_eq_true_of_le (Nat.le_refl _)
    obtain ⟨q, hq⟩ : ∃ q, M.length = q + 1 := ⟨M.length - 1, by omega⟩
    rw [hq] at e1 e2 ⊢
    simp only [rdEls, e2, A.bind, rdBlk, blt_of (show nx < nx + 1 by omega), Mem.blk_set_same, e1, A.ofOpt, A.ret, bit_zero, Nat.or_zero]
  have := appOp_of (ty := 26) (bytes := 56) (s := u) (x := .slc nx 0 M.length (some M.length)) rfl hr e
  refine ⟨_, h', _, _, by simpa using this, g2, fun b hb hn => by rw [k2 b (by omega) hn, Mem.blk_set_ne _ _ _ _ (by omega)], rfl⟩
theorem grow_el {u : AV} {h : Mem} {nx base : Nat} {L : List (List AV)} (g : SGRow 5 u h base nx L) (hb : base ≤ nx) (hl : L.length ≤ 1000) (y : List AV) (hy : y.length = 5) (ho : y.all AV.one = true) : ∃ u' h' tc wr, appOp 26 5 56 u (.slc nx 0 1 (some 1)) (h.set nx (some ⟨26, 5, true, false, y⟩)) (nx + 1) 0 = some ⟨u', h', nx + 2, tc, wr⟩ ∧ SGRow 5 u' h' base (nx + 2) (L ++ [y]) ∧ (∀ b, b < nx → bid u ≠ some b → h'.blk b = h.blk b) ∧ bid u' = some (nx + 1) := by
  have := grow_n (M := [y]) g hb hl (by simp) (fun z hz => by rw [List.mem_singleton.1 hz]; exact hy) (by simp) (by simpa using ho) (n := 1) rfl
  simpa using this
def mkslA (ty sz bytes : Nat) (z : List AV) (l c : AV) : A AV := match l, c with
    | .int _ l, .int _ c => match toNle (2 ^ 46) c with
      | some c => match toNle c l with
        | some l => match Nat.ble (bytes * c) (2 ^ 46) with
          | true => A.bind (newBlk ty sz false (reps c z)) fun b => A.ret (.slc b 0 l (some c))
          | false => A.fail
        | none => A.fail
      | none => A.fail
    | _, _ => A.fail
theorem op_mksl (f : FuncId → List AV → A AV) (ts : List AV) (ty sz bytes : Nat) (z : List AV) (l c : X) : opRun f ts (.mksl ty sz bytes z l c) = mkslA ty sz bytes z (l.ev ts) (c.ev ts) := Eq.trans rfl rfl
theorem reps_u32 (c : Nat) : reps c [.int .u32 0] = u32s (List.replicate c 0) := by
  induction c with
  | zero => rfl
  | succ c ih => rw [reps, ih]; rfl
theorem mksl_at {c : Nat} (hc : c ≤ 100) (h : Mem) (nx lg : Nat) : mkslA 23 1 4 [.int .u32 0] (.int .i64 c) (.int .i64 c) h nx lg = some ⟨.slc nx 0 c (some c), h.set nx (some ⟨23, 1, true, false, u32s (List.replicate c 0)⟩), nx + 1, 0, 0⟩ := by
  have e1 : toNle (2 ^ 46) (c : Int) = some c := toNle_nat (by omega)
  have e2 : toNle c (c : Int) = some c := toNle_nat (Nat.le_refl _)
  simp only [mkslA, e1, e2, Nat.ble_eq_true_of_le (show 4 * c ≤ 2 ^ 46 by omega), A.bind, newBlk, A.ret, Nat.or_zero, reps_u32]
/-- An ask whose row is noughts, laid in a block that is not the row's of asks. -/
def Zs (h : Mem) (nx : Nat) (u : AV) (y : List AV) : Prop := ∃ k i j w b c, y = ask k i j w (.slc b 0 c (some c)) ∧ c ≤ 100 ∧ b < nx ∧ h.blk b = some ⟨23, 1, true, false, u32s (List.replicate c 0)⟩ ∧ bid u ≠ some b
theorem Zs.ask {h : Mem} {nx : Nat} {u : AV} {y : List AV} (g : Zs h nx u y) : Askv h nx y := by
  obtain ⟨k, i, j, w, b, c, rfl, hc, hb, hK, _⟩ := g
  refine ⟨k, i, j, w, _, rfl, rfl, rfl, c, rfl, fun q hq => ⟨.slc b 0 q (some c), List.replicate q 0, by simp, .inl ?_, fun b' hb' => by cases hb'; exact hb, fun h' nx' lg => ?_⟩⟩
  · refine .inr ⟨b, 0, some c, _, Nat.zero_le _, hb, by simp, hK, ?_⟩
    unfold sub
    rw [Nat.ble_eq_true_of_le (by simp [u32s_len]; omega)]
    simp only [List.length_replicate, Nat.mul_one, List.drop_zero, ite_true, Option.some.injEq]
    unfold u32s
    rw [List.map_replicate, List.map_replicate, List.take_replicate, Nat.min_eq_left hq]
  · have c0 : (0 : Int) ≤ (q : Int) := by omega
    have c1 : (q : Int) ≤ (c : Int) := by omega
    simp [sliceA, bnd, toNle, c1, c0, hq, A.ret]
theorem Nl.ask {h : Mem} {nx : Nat} {y : List AV} (g : Nl y) : Askv h nx y := by
  obtain ⟨k, i, j, w, rfl⟩ := g
  refine ⟨k, i, j, w, _, rfl, rfl, rfl, 0, rfl, fun q hq => ?_⟩
  obtain rfl : q = 0 := by omega
  exact ⟨.nils, [], rfl, .inl (.inl ⟨rfl, rfl, rfl⟩), (fun b hb => by cases hb), fun _ _ _ => rfl⟩
def MkI (k : Int) (m : Nat) (ts : List AV) (h : Mem) (nx tc wr : Nat) : Prop := ∃ (i : Nat) (u : AV) (L : List (List AV)), SGRow 5 u h 0 nx L ∧ (∀ y ∈ L, Zs h nx u y) ∧ L.length = i ∧ m = 90 - i ∧ i ≤ 90 ∧ ts.length = 92 ∧ sl ts 3 = .int .i64 i ∧ sl ts 2 = u ∧ sl ts 1 = .int .i64 k
def MkR (k : Int) (e : Ex) (ts : List AV) (h : Mem) (nx tc wr : Nat) : Prop := e = .exit 2 ∧ ∃ (u : AV) (L : List (List AV)), SGRow 5 u h 0 nx L ∧ (∀ y ∈ L, Zs h nx u y) ∧ ts.length = 92 ∧ sl ts 2 = u ∧ sl ts 1 = .int .i64 k
set_option maxHeartbeats 8000000 in
theorem mk_round (k : Int) (m : Nat) (ts : List AV) (h : Mem) (nx tc wr : Nat) (hi : MkI k m ts h nx tc wr) :
    Post (xC T 100 L3_2b ts h nx 0) fun v' h' nx' tc' wr' => Round (MkI k) (MkR k) m v' h' nx' (tc ||| tc') (wr ||| wr') := by
  obtain ⟨i, u, L, gr, gl, hL, rfl, hi, hlen, g3, g2, g1⟩ := hi
  by_cases c1 : i < 90
  · have c1' : (i : Int) < 90 := by omega
    have ci : IntKind.i64.wrap ((i : Int) + 1) = ((i + 1 : Nat) : Int) := by rw [IntKind.wrap_i64]; omega
    obtain ⟨c, hc⟩ : ∃ c, c = i % 10 := ⟨_, rfl⟩
    have t10 : (i : Int).tmod 10 = (c : Int) := by rw [Int.tmod_eq_emod_of_nonneg (by omega)]; omega
    have t10' : (i : Int) % 10 = (c : Int) := by omega
    have mk := fun h nx lg => mksl_at (c := c) (by omega) h nx lg
    obtain ⟨H1, hH1⟩ : ∃ H1, H1 = h.set nx (some ⟨23, 1, true, false, u32s (List.replicate c 0)⟩) := ⟨_, rfl⟩
    have b1 : H1.blk nx = some ⟨23, 1, true, false, u32s (List.replicate c 0)⟩ := by rw [hH1, Mem.blk_set_same]
    have k1 : ∀ b, b < nx → H1.blk b = h.blk b := fun b hb => by rw [hH1, Mem.blk_set_ne _ _ _ _ (by omega)]
    have gr1 : SGRow 5 u H1 0 (nx + 1) L := gr.keep (by omega) fun b _ hb => k1 b hb
    have ub : ∀ b, bid u = some b → b < nx := fun b hb => by
      rcases gr with ⟨rfl, _⟩ | ⟨_, b', ty, _, h2, rfl, _⟩
      · cases hb
      · cases hb; exact h2
    have key : ∀ a1 a2 a3 a4 : Int, ∃ u' h' tc wr, appOp 26 5 56 u (.slc (nx + 1) 0 1 (some 1)) (H1.set (nx + 1) (some ⟨26, 5, true, false, ask a1 a2 a3 a4 (.slc nx 0 c (some c))⟩)) (nx + 2) 0 = some ⟨u', h', nx + 3, tc, wr⟩ ∧ SGRow 5 u' h' 0 (nx + 3) (L ++ [ask a1 a2 a3 a4 (.slc nx 0 c (some c))]) ∧ ∀ y ∈ L ++ [ask a1 a2 a3 a4 (.slc nx 0 c (some c))], Zs h' (nx + 3) u' y := by
      intro a1 a2 a3 a4
      obtain ⟨u', h', tc', wr', x, g', kk, bu⟩ := grow_el gr1 (by omega) (by omega) (ask a1 a2 a3 a4 (.slc nx 0 c (some c))) rfl rfl
      refine ⟨u', h', tc', wr', x, g', fun y hy => ?_⟩
      rcases List.mem_append.1 hy with hy | hy
      · obtain ⟨k', i', j', w', b', c', e, hc', hb', hK', hn'⟩ := gl y hy
        exact ⟨k', i', j', w', b', c', e, hc', by omega, by rw [kk b' (by omega) hn', k1 b' hb', hK'], fun h => by rw [bu] at h; cases h; omega⟩
      · rw [List.mem_singleton.1 hy]
        exact ⟨a1, a2, a3, a4, nx, c, rfl, by omega, by omega, by rw [kk nx (by omega) (fun h => by have := ub nx h; omega), b1], fun h => by rw [bu] at h; cases h⟩
    have hH1' := hH1.symm
    simp (maxSteps := 4000000) [↓op_mksl, ↓step_none, ↓step_t, ↓step_f, ↓step_nt, ↓step_nf, ↓op_load, ↓op_store, ↓op_slice, ↓op_app, ↓P_skip, ↓P_exit, ↓P_ret, ↓P_seq, ↓P_cond, ↓P_blk, ↓P_reg, ↓P_draw, ↓P_nil, ↓P_cons, condP_t, condP_f, dum_ab, stepR, want_none, want_some, opRun, ev_t, ev_c, put_none, put_some, resAll, res_tmp, res_cell, oneOf, minI, maxI, min2A, max2A, mn2, mx2, mx3, rdBlk, wrBlk, newBlk, partA, abin, ibin, isShift, AV.cells, AV.one, lay, sub, fillA, lenA, toN, allApart, apartFrom, Nat.testBit, Mem.blk_set_same, Mem.blk_set_ne, Mem.set_set, bit_zero, bit_self, lowBits_or, lowBits_zero, len_setT, sl_same, sl_ne, len_frame, sl_frame,↓op_len, lenOp_slc, lenOp_nils, ↓Post.some, ↓Post_bind, ↓Post_ret, ↓Post_draw, ↓PostL_nil, ↓PostL_cons, Post_fail, ofOpt_some, ofOpt_none, eA_b, eA_i, eA_s, eA_nn, eA_np, eA_pn, eA_lnn, eA_lnp, eA_lpn, eA_i2, eA_i3, blt_dec, Nat.add_assoc, keeps_refl, keeps_at, keeps_up, new_one, and_pow, bit_hi, lowBits_pow, ble_dec, fr_refl, fr_at, fr_up, fr_p, dum_ab, L3_2b, reps, hlen, g1, g2, g3, c1', t10, t10', mk, hH1']
    generalize (IntKind.i64.wrap (IntKind.i64.wrap (IntKind.i64.wrap ((i : Int) * (i : Int)) + IntKind.i64.wrap (k * (i : Int))) + k)).tmod 8 = a1
    generalize (IntKind.i64.wrap (IntKind.i64.wrap ((i : Int) * 3) + k)).tmod 26 = a2
    generalize IntKind.i64.wrap ((i : Int).tmod 5 - 1) = a3
    generalize IntKind.u32.wrap (IntKind.i64.wrap ((i : Int) * k)) = a4
    obtain ⟨u', h', tc', wr', kx, kg, kz⟩ := key a1 a2 a3 a4
    simp only [ask] at kx
    simp (maxSteps := 4000000) [↓step_none, ↓step_t, ↓step_f, ↓step_nt, ↓step_nf, ↓op_load, ↓op_store, ↓op_slice, ↓op_app, ↓P_skip, ↓P_exit, ↓P_ret, ↓P_seq, ↓P_cond, ↓P_blk, ↓P_reg, ↓P_draw, ↓P_nil, ↓P_cons, condP_t, condP_f, dum_ab, stepR, want_none, want_some, opRun, ev_t, ev_c, put_none, put_some, resAll, res_tmp, res_cell, oneOf, minI, maxI, min2A, max2A, mn2, mx2, mx3, rdBlk, wrBlk, newBlk, partA, abin, ibin, isShift, AV.cells, AV.one, lay, sub, fillA, lenA, toN, allApart, apartFrom, Nat.testBit, Mem.blk_set_same, Mem.blk_set_ne, Mem.set_set, bit_zero, bit_self, lowBits_or, lowBits_zero, len_setT, sl_same, sl_ne, len_frame, sl_frame,↓op_len, lenOp_slc, lenOp_nils, ↓Post.some, ↓Post_bind, ↓Post_ret, ↓Post_draw, ↓PostL_nil, ↓PostL_cons, Post_fail, ofOpt_some, ofOpt_none, eA_b, eA_i, eA_s, eA_nn, eA_np, eA_pn, eA_lnn, eA_lnp, eA_lpn, eA_i2, eA_i3, blt_dec, Nat.add_assoc, keeps_refl, keeps_at, keeps_up, new_one, and_pow, bit_hi, lowBits_pow, ble_dec, fr_refl, fr_at, fr_up, fr_p, dum_ab, reps, hlen, g1, g2, g3, kx, ci]
    exact Round.nor (m' := 90 - (i + 1)) (by omega) ⟨i + 1, u', _, kg, kz, by rw [List.length_append, hL]; rfl, rfl, by omega, by simp [len_setT, sl_same, sl_ne, hlen], by simp [len_setT, sl_same, sl_ne, hlen], by simp [len_setT, sl_same, sl_ne, hlen], by simp [len_setT, sl_same, sl_ne, hlen, g1]⟩
  · have c1' : ¬ (i : Int) < 90 := by omega
    simp (maxSteps := 4000000) [↓step_none, ↓step_t, ↓step_f, ↓step_nt, ↓step_nf, ↓op_load, ↓op_store, ↓op_slice, ↓op_app, ↓P_skip, ↓P_exit, ↓P_ret, ↓P_seq, ↓P_cond, ↓P_blk, ↓P_reg, ↓P_draw, ↓P_nil, ↓P_cons, condP_t, condP_f, dum_ab, stepR, want_none, want_some, opRun, ev_t, ev_c, put_none, put_some, resAll, res_tmp, res_cell, oneOf, minI, maxI, min2A, max2A, mn2, mx2, mx3, rdBlk, wrBlk, newBlk, partA, abin, ibin, isShift, AV.cells, AV.one, lay, sub, fillA, lenA, toN, allApart, apartFrom, Nat.testBit, Mem.blk_set_same, Mem.blk_set_ne, Mem.set_set, bit_zero, bit_self, lowBits_or, lowBits_zero, len_setT, sl_same, sl_ne, len_frame, sl_frame,↓op_len, lenOp_slc, lenOp_nils, ↓Post.some, ↓Post_bind, ↓Post_ret, ↓Post_draw, ↓PostL_nil, ↓PostL_cons, Post_fail, ofOpt_some, ofOpt_none, eA_b, eA_i, eA_s, eA_nn, eA_np, eA_pn, eA_lnn, eA_lnp, eA_lpn, eA_i2, eA_i3, blt_dec, Nat.add_assoc, keeps_refl, keeps_at, keeps_up, new_one, and_pow, bit_hi, lowBits_pow, ble_dec, fr_refl, fr_at, fr_up, fr_p, dum_ab, L3_2b, hlen, g3, c1']
    exact Round.exit (R := MkR k) ⟨rfl, u, L, gr, gl, by simp [len_setT, sl_same, sl_ne, hlen], by simp [len_setT, sl_same, sl_ne, hlen, g2], by simp [len_setT, sl_same, sl_ne, hlen, g1]⟩
def KsI (m : Nat) (ts : List AV) (h : Mem) (nx tc wr : Nat) : Prop := ∃ j : Nat, m = 30 - j ∧ j ≤ 30 ∧ ts.length = 92 ∧ sl ts 1 = .int .i64 j
def KsR (e : Ex) (ts : List AV) (h : Mem) (nx tc wr : Nat) : Prop := e = .exit 0 ∧ ts.length = 92
set_option maxHeartbeats 4000000 in
theorem ks_round (m : Nat) (ts : List AV) (h : Mem) (nx tc wr : Nat) (hi : KsI m ts h nx tc wr) :
    Post (xC T 2000 L3_3b ts h nx 0) fun v' h' nx' tc' wr' => Round KsI KsR m v' h' nx' (tc ||| tc') (wr ||| wr') := by
  obtain ⟨j, rfl, hj, hlen, g1⟩ := hi
  by_cases c1 : j < 30
  · have c1' : (j : Int) < 30 := by omega
    have ci : IntKind.i64.wrap ((j : Int) + 1) = ((j + 1 : Nat) : Int) := by rw [IntKind.wrap_i64]; omega
    simp [↓step_none, ↓step_t, ↓step_f, ↓step_nt, ↓step_nf, ↓op_load, ↓op_store, ↓op_slice, ↓op_app, ↓P_skip, ↓P_exit, ↓P_ret, ↓P_seq, ↓P_cond, ↓P_blk, ↓P_reg, ↓P_draw, ↓P_nil, ↓P_cons, condP_t, condP_f, dum_ab, stepR, want_none, want_some, opRun, ev_t, ev_c, put_none, put_some, resAll, res_tmp, res_cell, oneOf, minI, maxI, min2A, max2A, mn2, mx2, mx3, rdBlk, wrBlk, newBlk, partA, abin, ibin, isShift, AV.cells, AV.one, lay, sub, fillA, lenA, toN, allApart, apartFrom, Nat.testBit, Mem.blk_set_same, Mem.blk_set_ne, Mem.set_set, bit_zero, bit_self, lowBits_or, lowBits_zero, len_setT, sl_same, sl_ne, len_frame, sl_frame,↓op_len, lenOp_slc, lenOp_nils, ↓Post.some, ↓Post_bind, ↓Post_ret, ↓Post_draw, ↓PostL_nil, ↓PostL_cons, Post_fail, ofOpt_some, ofOpt_none, eA_b, eA_i, eA_s, eA_nn, eA_np, eA_pn, eA_lnn, eA_lnp, eA_lpn, eA_i2, eA_i3, blt_dec, Nat.add_assoc, keeps_refl, keeps_at, keeps_up, new_one, and_pow, bit_hi, lowBits_pow, ble_dec, fr_refl, fr_at, fr_up, fr_p, dum_ab, L3_3b, hlen, g1, c1']
    refine Post.loop (mk_round j) 90 ⟨0, .nils, [], SGRow.nil .., (fun _ h => nomatch h), rfl, rfl, by omega, by simp [↓P_skip, ↓P_exit, ↓P_ret, ↓P_seq, ↓P_cond, ↓P_blk, ↓P_reg, ↓P_draw, ↓P_nil, ↓P_cons, condP_t, condP_f, dum_ab, stepR, want_none, want_some, opRun, ev_t, ev_c, put_none, put_some, resAll, res_tmp, res_cell, oneOf, minI, maxI, min2A, max2A, mn2, mx2, mx3, rdBlk, wrBlk, newBlk, partA, abin, ibin, isShift, AV.cells, AV.one, lay, sub, fillA, lenA, toN, allApart, apartFrom, Nat.testBit, Mem.blk_set_same, Mem.blk_set_ne, Mem.set_set, bit_zero, bit_self, lowBits_or, lowBits_zero, len_setT, sl_same, sl_ne, len_frame, sl_frame,↓op_len, lenOp_slc, lenOp_nils, ↓Post.some, ↓Post_bind, ↓Post_ret, ↓Post_draw, ↓PostL_nil, ↓PostL_cons, Post_fail, ofOpt_some, ofOpt_none, eA_b, eA_i, eA_s, eA_nn, eA_np, eA_pn, eA_lnn, eA_lnp, eA_lpn, eA_i2, eA_i3, blt_dec, Nat.add_assoc, keeps_refl, keeps_at, keeps_up, hlen], by simp [↓P_skip, ↓P_exit, ↓P_ret, ↓P_seq, ↓P_cond, ↓P_blk, ↓P_reg, ↓P_draw, ↓P_nil, ↓P_cons, condP_t, condP_f, dum_ab, stepR, want_none, want_some, opRun, ev_t, ev_c, put_none, put_some, resAll, res_tmp, res_cell, oneOf, minI, maxI, min2A, max2A, mn2, mx2, mx3, rdBlk, wrBlk, newBlk, partA, abin, ibin, isShift, AV.cells, AV.one, lay, sub, fillA, lenA, toN, allApart, apartFrom, Nat.testBit, Mem.blk_set_same, Mem.blk_set_ne, Mem.set_set, bit_zero, bit_self, lowBits_or, lowBits_zero, len_setT, sl_same, sl_ne, len_frame, sl_frame,↓op_len, lenOp_slc, lenOp_nils, ↓Post.some, ↓Post_bind, ↓Post_ret, ↓Post_draw, ↓PostL_nil, ↓PostL_cons, Post_fail, ofOpt_some, ofOpt_none, eA_b, eA_i, eA_s, eA_nn, eA_np, eA_pn, eA_lnn, eA_lnp, eA_lpn, eA_i2, eA_i3, blt_dec, Nat.add_assoc, keeps_refl, keeps_at, keeps_up, hlen], by simp [↓P_skip, ↓P_exit, ↓P_ret, ↓P_seq, ↓P_cond, ↓P_blk, ↓P_reg, ↓P_draw, ↓P_nil, ↓P_cons, condP_t, condP_f, dum_ab, stepR, want_none, want_some, opRun, ev_t, ev_c, put_none, put_some, resAll, res_tmp, res_cell, oneOf, minI, maxI, min2A, max2A, mn2, mx2, mx3, rdBlk, wrBlk, newBlk, partA, abin, ibin, isShift, AV.cells, AV.one, lay, sub, fillA, lenA, toN, allApart, apartFrom, Nat.testBit, Mem.blk_set_same, Mem.blk_set_ne, Mem.set_set, bit_zero, bit_self, lowBits_or, lowBits_zero, len_setT, sl_same, sl_ne, len_frame, sl_frame,↓op_len, lenOp_slc, lenOp_nils, ↓Post.some, ↓Post_bind, ↓Post_ret, ↓Post_draw, ↓PostL_nil, ↓PostL_cons, Post_fail, ofOpt_some, ofOpt_none, eA_b, eA_i, eA_s, eA_nn, eA_np, eA_pn, eA_lnn, eA_lnp, eA_lpn, eA_i2, eA_i3, blt_dec, Nat.add_assoc, keeps_refl, keeps_at, keeps_up, hlen], by simp [↓P_skip, ↓P_exit, ↓P_ret, ↓P_seq, ↓P_cond, ↓P_blk, ↓P_reg, ↓P_draw, ↓P_nil, ↓P_cons, condP_t, condP_f, dum_ab, stepR, want_none, want_some, opRun, ev_t, ev_c, put_none, put_some, resAll, res_tmp, res_cell, oneOf, minI, maxI, min2A, max2A, mn2, mx2, mx3, rdBlk, wrBlk, newBlk, partA, abin, ibin, isShift, AV.cells, AV.one, lay, sub, fillA, lenA, toN, allApart, apartFrom, Nat.testBit, Mem.blk_set_same, Mem.blk_set_ne, Mem.set_set, bit_zero, bit_self, lowBits_or, lowBits_zero, len_setT, sl_same, sl_ne, len_frame, sl_frame,↓op_len, lenOp_slc, lenOp_nils, ↓Post.some, ↓Post_bind, ↓Post_ret, ↓Post_draw, ↓PostL_nil, ↓PostL_cons, Post_fail, ofOpt_some, ofOpt_none, eA_b, eA_i, eA_s, eA_nn, eA_np, eA_pn, eA_lnn, eA_lnp, eA_lpn, eA_i2, eA_i3, blt_dec, Nat.add_assoc, keeps_refl, keeps_at, keeps_up, hlen, g1]⟩ (by omega) ?_
    rintro e ts' h' nx' tc' wr' ⟨rfl, u, L, gr, gl, hlen', h2', h1'⟩
    obtain ⟨h6, nx6, tc6, wr6, x6, n6, k6⟩ := play_ok u L h' nx' gr.srow (fun y hy => (gl y hy).ask)
    simp [↓step_none, ↓step_t, ↓step_f, ↓step_nt, ↓step_nf, ↓op_load, ↓op_store, ↓op_slice, ↓op_app, ↓P_skip, ↓P_exit, ↓P_ret, ↓P_seq, ↓P_cond, ↓P_blk, ↓P_reg, ↓P_draw, ↓P_nil, ↓P_cons, condP_t, condP_f, dum_ab, stepR, want_none, want_some, opRun, ev_t, ev_c, put_none, put_some, resAll, res_tmp, res_cell, oneOf, minI, maxI, min2A, max2A, mn2, mx2, mx3, rdBlk, wrBlk, newBlk, partA, abin, ibin, isShift, AV.cells, AV.one, lay, sub, fillA, lenA, toN, allApart, apartFrom, Nat.testBit, Mem.blk_set_same, Mem.blk_set_ne, Mem.set_set, bit_zero, bit_self, lowBits_or, lowBits_zero, len_setT, sl_same, sl_ne, len_frame, sl_frame,↓op_len, lenOp_slc, lenOp_nils, ↓Post.some, ↓Post_bind, ↓Post_ret, ↓Post_draw, ↓PostL_nil, ↓PostL_cons, Post_fail, ofOpt_some, ofOpt_none, eA_b, eA_i, eA_s, eA_nn, eA_np, eA_pn, eA_lnn, eA_lnp, eA_lpn, eA_i2, eA_i3, blt_dec, Nat.add_assoc, keeps_refl, keeps_at, keeps_up, new_one, and_pow, bit_hi, lowBits_pow, ble_dec, fr_refl, fr_at, fr_up, fr_p, dum_ab, hlen', h2', h1', x6, ci]
    exact Round.nor (m' := 30 - (j + 1)) (by omega) ⟨j + 1, rfl, by omega, by simp [↓P_skip, ↓P_exit, ↓P_ret, ↓P_seq, ↓P_cond, ↓P_blk, ↓P_reg, ↓P_draw, ↓P_nil, ↓P_cons, condP_t, condP_f, dum_ab, stepR, want_none, want_some, opRun, ev_t, ev_c, put_none, put_some, resAll, res_tmp, res_cell, oneOf, minI, maxI, min2A, max2A, mn2, mx2, mx3, rdBlk, wrBlk, newBlk, partA, abin, ibin, isShift, AV.cells, AV.one, lay, sub, fillA, lenA, toN, allApart, apartFrom, Nat.testBit, Mem.blk_set_same, Mem.blk_set_ne, Mem.set_set, bit_zero, bit_self, lowBits_or, lowBits_zero, len_setT, sl_same, sl_ne, len_frame, sl_frame,↓op_len, lenOp_slc, lenOp_nils, ↓Post.some, ↓Post_bind, ↓Post_ret, ↓Post_draw, ↓PostL_nil, ↓PostL_cons, Post_fail, ofOpt_some, ofOpt_none, eA_b, eA_i, eA_s, eA_nn, eA_np, eA_pn, eA_lnn, eA_lnp, eA_lpn, eA_i2, eA_i3, blt_dec, Nat.add_assoc, keeps_refl, keeps_at, keeps_up, hlen'], by simp [↓P_skip, ↓P_exit, ↓P_ret, ↓P_seq, ↓P_cond, ↓P_blk, ↓P_reg, ↓P_draw, ↓P_nil, ↓P_cons, condP_t, condP_f, dum_ab, stepR, want_none, want_some, opRun, ev_t, ev_c, put_none, put_some, resAll, res_tmp, res_cell, oneOf, minI, maxI, min2A, max2A, mn2, mx2, mx3, rdBlk, wrBlk, newBlk, partA, abin, ibin, isShift, AV.cells, AV.one, lay, sub, fillA, lenA, toN, allApart, apartFrom, Nat.testBit, Mem.blk_set_same, Mem.blk_set_ne, Mem.set_set, bit_zero, bit_self, lowBits_or, lowBits_zero, len_setT, sl_same, sl_ne, len_frame, sl_frame,↓op_len, lenOp_slc, lenOp_nils, ↓Post.some, ↓Post_bind, ↓Post_ret, ↓Post_draw, ↓PostL_nil, ↓PostL_cons, Post_fail, ofOpt_some, ofOpt_none, eA_b, eA_i, eA_s, eA_nn, eA_np, eA_pn, eA_lnn, eA_lnp, eA_lpn, eA_i2, eA_i3, blt_dec, Nat.add_assoc, keeps_refl, keeps_at, keeps_up, hlen']⟩
  · have c1' : ¬ (j : Int) < 30 := by omega
    simp [↓step_none, ↓step_t, ↓step_f, ↓step_nt, ↓step_nf, ↓op_load, ↓op_store, ↓op_slice, ↓op_app, ↓P_skip, ↓P_exit, ↓P_ret, ↓P_seq, ↓P_cond, ↓P_blk, ↓P_reg, ↓P_draw, ↓P_nil, ↓P_cons, condP_t, condP_f, dum_ab, stepR, want_none, want_some, opRun, ev_t, ev_c, put_none, put_some, resAll, res_tmp, res_cell, oneOf, minI, maxI, min2A, max2A, mn2, mx2, mx3, rdBlk, wrBlk, newBlk, partA, abin, ibin, isShift, AV.cells, AV.one, lay, sub, fillA, lenA, toN, allApart, apartFrom, Nat.testBit, Mem.blk_set_same, Mem.blk_set_ne, Mem.set_set, bit_zero, bit_self, lowBits_or, lowBits_zero, len_setT, sl_same, sl_ne, len_frame, sl_frame,↓op_len, lenOp_slc, lenOp_nils, ↓Post.some, ↓Post_bind, ↓Post_ret, ↓Post_draw, ↓PostL_nil, ↓PostL_cons, Post_fail, ofOpt_some, ofOpt_none, eA_b, eA_i, eA_s, eA_nn, eA_np, eA_pn, eA_lnn, eA_lnp, eA_lpn, eA_i2, eA_i3, blt_dec, Nat.add_assoc, keeps_refl, keeps_at, keeps_up, new_one, and_pow, bit_hi, lowBits_pow, ble_dec, fr_refl, fr_at, fr_up, fr_p, dum_ab, L3_3b, hlen, g1, c1']
    exact Round.exit (R := KsR) ⟨rfl, by simp [↓P_skip, ↓P_exit, ↓P_ret, ↓P_seq, ↓P_cond, ↓P_blk, ↓P_reg, ↓P_draw, ↓P_nil, ↓P_cons, condP_t, condP_f, dum_ab, stepR, want_none, want_some, opRun, ev_t, ev_c, put_none, put_some, resAll, res_tmp, res_cell, oneOf, minI, maxI, min2A, max2A, mn2, mx2, mx3, rdBlk, wrBlk, newBlk, partA, abin, ibin, isShift, AV.cells, AV.one, lay, sub, fillA, lenA, toN, allApart, apartFrom, Nat.testBit, Mem.blk_set_same, Mem.blk_set_ne, Mem.set_set, bit_zero, bit_self, lowBits_or, lowBits_zero, len_setT, sl_same, sl_ne, len_frame, sl_frame,↓op_len, lenOp_slc, lenOp_nils, ↓Post.some, ↓Post_bind, ↓Post_ret, ↓Post_draw, ↓PostL_nil, ↓PostL_cons, Post_fail, ofOpt_some, ofOpt_none, eA_b, eA_i, eA_s, eA_nn, eA_np, eA_pn, eA_lnn, eA_lnp, eA_lpn, eA_i2, eA_i3, blt_dec, Nat.add_assoc, keeps_refl, keeps_at, keeps_up, hlen]⟩
def MaI (m : Nat) (ts : List AV) (h : Mem) (nx tc wr : Nat) : Prop := ∃ (i : Nat) (u : AV) (L : List (List AV)), SGRow 5 u h 0 nx L ∧ (∀ y ∈ L, Nl y) ∧ L.length = i ∧ m = 27 - i ∧ i ≤ 27 ∧ ts.length = 92 ∧ sl ts 6 = .int .i64 i ∧ sl ts 4 = u ∧ sl ts 5 = .nils
def MaR (e : Ex) (ts : List AV) (h : Mem) (nx tc wr : Nat) : Prop := e = .exit 4 ∧ ∃ (u : AV) (L : List (List AV)), SGRow 5 u h 0 nx L ∧ (∀ y ∈ L, Nl y) ∧ L.length ≤ 27 ∧ ts.length = 92 ∧ sl ts 4 = u ∧ sl ts 5 = .nils
set_option maxHeartbeats 8000000 in
theorem ma_round (m : Nat) (ts : List AV) (h : Mem) (nx tc wr : Nat) (hi : MaI m ts h nx tc wr) :
    Post (xC T 100 L3_1b ts h nx 0) fun v' h' nx' tc' wr' => Round MaI MaR m v' h' nx' (tc ||| tc') (wr ||| wr') := by
  obtain ⟨i, u, L, gr, gl, rfl, rfl, hi, hlen, g6, g4, g5⟩ := hi
  by_cases c1 : L.length < 27
  · have c1' : (L.length : Int) < 27 := by omega
    have ci : IntKind.i64.wrap ((L.length : Int) + 1) = ((L.length + 1 : Nat) : Int) := by rw [IntKind.wrap_i64]; omega
    generalize hw : IntKind.u32.wrap (L.length : Int) = w
    obtain ⟨u', h', tc', wr', x, g', _, _⟩ := grow_el gr (Nat.zero_le _) (by omega) (ask 0 (L.length : Nat) 0 w .nils) rfl rfl
    simp only [ask] at x
    simp (maxSteps := 4000000) [↓step_none, ↓step_t, ↓step_f, ↓step_nt, ↓step_nf, ↓op_load, ↓op_store, ↓op_slice, ↓op_app, ↓P_skip, ↓P_exit, ↓P_ret, ↓P_seq, ↓P_cond, ↓P_blk, ↓P_reg, ↓P_draw, ↓P_nil, ↓P_cons, condP_t, condP_f, dum_ab, stepR, want_none, want_some, opRun, ev_t, ev_c, put_none, put_some, resAll, res_tmp, res_cell, oneOf, minI, maxI, min2A, max2A, mn2, mx2, mx3, rdBlk, wrBlk, newBlk, partA, abin, ibin, isShift, AV.cells, AV.one, lay, sub, fillA, lenA, toN, allApart, apartFrom, Nat.testBit, Mem.blk_set_same, Mem.blk_set_ne, Mem.set_set, bit_zero, bit_self, lowBits_or, lowBits_zero, len_setT, sl_same, sl_ne, len_frame, sl_frame,↓op_len, lenOp_slc, lenOp_nils, ↓Post.some, ↓Post_bind, ↓Post_ret, ↓Post_draw, ↓PostL_nil, ↓PostL_cons, Post_fail, ofOpt_some, ofOpt_none, eA_b, eA_i, eA_s, eA_nn, eA_np, eA_pn, eA_lnn, eA_lnp, eA_lpn, eA_i2, eA_i3, blt_dec, Nat.add_assoc, keeps_refl, keeps_at, keeps_up, new_one, and_pow, bit_hi, lowBits_pow, ble_dec, fr_refl, fr_at, fr_up, fr_p, dum_ab, L3_1b, reps, hlen, g4, g5, g6, c1', hw, x, ci]
    refine Round.nor (m' := 27 - (L.length + 1)) (by omega) ⟨L.length + 1, u', _, g', fun y hy => ?_, by rw [List.length_append]; rfl, rfl, by omega, by simp [len_setT, sl_same, sl_ne, hlen], by simp [len_setT, sl_same, sl_ne, hlen], by simp [len_setT, sl_same, sl_ne, hlen], by simp [len_setT, sl_same, sl_ne, hlen, g5]⟩
    rcases List.mem_append.1 hy with hy | hy
    · exact gl y hy
    · rw [List.mem_singleton.1 hy]; exact ⟨_, _, _, _, rfl⟩
  · have c1' : ¬ (L.length : Int) < 27 := by omega
    simp (maxSteps := 4000000) [↓step_none, ↓step_t, ↓step_f, ↓step_nt, ↓step_nf, ↓op_load, ↓op_store, ↓op_slice, ↓op_app, ↓P_skip, ↓P_exit, ↓P_ret, ↓P_seq, ↓P_cond, ↓P_blk, ↓P_reg, ↓P_draw, ↓P_nil, ↓P_cons, condP_t, condP_f, dum_ab, stepR, want_none, want_some, opRun, ev_t, ev_c, put_none, put_some, resAll, res_tmp, res_cell, oneOf, minI, maxI, min2A, max2A, mn2, mx2, mx3, rdBlk, wrBlk, newBlk, partA, abin, ibin, isShift, AV.cells, AV.one, lay, sub, fillA, lenA, toN, allApart, apartFrom, Nat.testBit, Mem.blk_set_same, Mem.blk_set_ne, Mem.set_set, bit_zero, bit_self, lowBits_or, lowBits_zero, len_setT, sl_same, sl_ne, len_frame, sl_frame,↓op_len, lenOp_slc, lenOp_nils, ↓Post.some, ↓Post_bind, ↓Post_ret, ↓Post_draw, ↓PostL_nil, ↓PostL_cons, Post_fail, ofOpt_some, ofOpt_none, eA_b, eA_i, eA_s, eA_nn, eA_np, eA_pn, eA_lnn, eA_lnp, eA_lpn, eA_i2, eA_i3, blt_dec, Nat.add_assoc, keeps_refl, keeps_at, keeps_up, new_one, and_pow, bit_hi, lowBits_pow, ble_dec, fr_refl, fr_at, fr_up, fr_p, dum_ab, L3_1b, hlen, g6, c1']
    exact Round.exit (R := MaR) ⟨rfl, u, L, gr, gl, hi, by simp [len_setT, sl_same, sl_ne, hlen], by simp [len_setT, sl_same, sl_ne, hlen, g4], by simp [len_setT, sl_same, sl_ne, hlen, g5]⟩
def DeI (u4 : AV) (L4 : List (List AV)) (base : Nat) (m : Nat) (ts : List AV) (h : Mem) (nx tc wr : Nat) : Prop := ∃ (i : Nat) (u : AV) (L : List (List AV)), SGRow 5 u h base nx L ∧ (∀ y ∈ L, Nl y) ∧ L.length = i + 1 ∧ m = 10 - i ∧ i ≤ 10 ∧ ts.length = 92 ∧ sl ts 7 = .int .i64 i ∧ sl ts 5 = u ∧ sl ts 4 = u4 ∧ base ≤ nx ∧ SGRow 5 u4 h 0 base L4
def DeR (u4 : AV) (L4 : List (List AV)) (base : Nat) (e : Ex) (ts : List AV) (h : Mem) (nx tc wr : Nat) : Prop := e = .exit 6 ∧ ∃ (u : AV) (L : List (List AV)), SGRow 5 u h base nx L ∧ (∀ y ∈ L, Nl y) ∧ L.length ≤ 11 ∧ ts.length = 92 ∧ sl ts 5 = u ∧ sl ts 4 = u4 ∧ base ≤ nx ∧ SGRow 5 u4 h 0 base L4
set_option maxHeartbeats 8000000 in
theorem de_round (u4 : AV) (L4 : List (List AV)) (base : Nat) (m : Nat) (ts : List AV) (h : Mem) (nx tc wr : Nat) (hi : DeI u4 L4 base m ts h nx tc wr) :
    Post (xC T 100 L3_0b ts h nx 0) fun v' h' nx' tc' wr' => Round (DeI u4 L4 base) (DeR u4 L4 base) m v' h' nx' (tc ||| tc') (wr ||| wr') := by
  obtain ⟨i, u, L, gr, gl, hL, rfl, hi, hlen, g7, g5, g4, hbn, gm⟩ := hi
  by_cases c1 : i < 10
  · have c1' : (i : Int) < 10 := by omega
    have ci : IntKind.i64.wrap ((i : Int) + 1) = ((i + 1 : Nat) : Int) := by rw [IntKind.wrap_i64]; omega
    generalize hw : IntKind.u32.wrap (i : Int) = w
    obtain ⟨u', h', tc', wr', x, g', kk, _⟩ := grow_el gr hbn (by omega) (ask 4 0 0 w .nils) rfl rfl
    have ub : ∀ b, bid u = some b → base ≤ b := fun b hb => by
      rcases gr with ⟨rfl, _⟩ | ⟨_, b', ty, h1, h2, rfl, _⟩
      · cases hb
      · cases hb; exact h1
    simp only [ask] at x
    simp (maxSteps := 4000000) [↓step_none, ↓step_t, ↓step_f, ↓step_nt, ↓step_nf, ↓op_load, ↓op_store, ↓op_slice, ↓op_app, ↓P_skip, ↓P_exit, ↓P_ret, ↓P_seq, ↓P_cond, ↓P_blk, ↓P_reg, ↓P_draw, ↓P_nil, ↓P_cons, condP_t, condP_f, dum_ab, stepR, want_none, want_some, opRun, ev_t, ev_c, put_none, put_some, resAll, res_tmp, res_cell, oneOf, minI, maxI, min2A, max2A, mn2, mx2, mx3, rdBlk, wrBlk, newBlk, partA, abin, ibin, isShift, AV.cells, AV.one, lay, sub, fillA, lenA, toN, allApart, apartFrom, Nat.testBit, Mem.blk_set_same, Mem.blk_set_ne, Mem.set_set, bit_zero, bit_self, lowBits_or, lowBits_zero, len_setT, sl_same, sl_ne, len_frame, sl_frame,↓op_len, lenOp_slc, lenOp_nils, ↓Post.some, ↓Post_bind, ↓Post_ret, ↓Post_draw, ↓PostL_nil, ↓PostL_cons, Post_fail, ofOpt_some, ofOpt_none, eA_b, eA_i, eA_s, eA_nn, eA_np, eA_pn, eA_lnn, eA_lnp, eA_lpn, eA_i2, eA_i3, blt_dec, Nat.add_assoc, keeps_refl, keeps_at, keeps_up, new_one, and_pow, bit_hi, lowBits_pow, ble_dec, fr_refl, fr_at, fr_up, fr_p, dum_ab, L3_0b, reps, hlen, g4, g5, g7, c1', hw, x, ci]
    refine Round.nor (m' := 10 - (i + 1)) (by omega) ⟨i + 1, u', _, g', fun y hy => ?_, by rw [List.length_append, hL]; rfl, rfl, by omega, by simp [len_setT, sl_same, sl_ne, hlen], by simp [len_setT, sl_same, sl_ne, hlen], by simp [len_setT, sl_same, sl_ne, hlen], by simp [len_setT, sl_same, sl_ne, hlen, g4], by omega, gm.keep (Nat.le_refl _) fun b _ hb => kk b (by omega) fun h => by have := ub b h; omega⟩
    rcases List.mem_append.1 hy with hy | hy
    · exact gl y hy
    · rw [List.mem_singleton.1 hy]; exact ⟨_, _, _, _, rfl⟩
  · have c1' : ¬ (i : Int) < 10 := by omega
    simp (maxSteps := 4000000) [↓step_none, ↓step_t, ↓step_f, ↓step_nt, ↓step_nf, ↓op_load, ↓op_store, ↓op_slice, ↓op_app, ↓P_skip, ↓P_exit, ↓P_ret, ↓P_seq, ↓P_cond, ↓P_blk, ↓P_reg, ↓P_draw, ↓P_nil, ↓P_cons, condP_t, condP_f, dum_ab, stepR, want_none, want_some, opRun, ev_t, ev_c, put_none, put_some, resAll, res_tmp, res_cell, oneOf, minI, maxI, min2A, max2A, mn2, mx2, mx3, rdBlk, wrBlk, newBlk, partA, abin, ibin, isShift, AV.cells, AV.one, lay, sub, fillA, lenA, toN, allApart, apartFrom, Nat.testBit, Mem.blk_set_same, Mem.blk_set_ne, Mem.set_set, bit_zero, bit_self, lowBits_or, lowBits_zero, len_setT, sl_same, sl_ne, len_frame, sl_frame,↓op_len, lenOp_slc, lenOp_nils, ↓Post.some, ↓Post_bind, ↓Post_ret, ↓Post_draw, ↓PostL_nil, ↓PostL_cons, Post_fail, ofOpt_some, ofOpt_none, eA_b, eA_i, eA_s, eA_nn, eA_np, eA_pn, eA_lnn, eA_lnp, eA_lpn, eA_i2, eA_i3, blt_dec, Nat.add_assoc, keeps_refl, keeps_at, keeps_up, new_one, and_pow, bit_hi, lowBits_pow, ble_dec, fr_refl, fr_at, fr_up, fr_p, dum_ab, L3_0b, hlen, g7, c1']
    exact Round.exit (R := DeR u4 L4 base) ⟨rfl, u, L, gr, gl, by omega, by simp [len_setT, sl_same, sl_ne, hlen], by simp [len_setT, sl_same, sl_ne, hlen, g5], by simp [len_setT, sl_same, sl_ne, hlen, g4], hbn, gm⟩
theorem nl_one {M : List (List AV)} (gM : ∀ y ∈ M, Nl y) : M.flatten.all AV.one = true := by
  rw [List.all_eq_true]
  intro x hx
  obtain ⟨y, hy, hxy⟩ := List.mem_flatten.1 hx
  obtain ⟨k, i, j, w, rfl⟩ := gM y hy
  simp only [ask, List.mem_cons, List.mem_nil_iff, or_false] at hxy
  rcases hxy with rfl | rfl | rfl | rfl | rfl <;> rfl
theorem nl_app {L M : List (List AV)} (gl : ∀ y ∈ L, Nl y) (gM : ∀ y ∈ M, Nl y) : ∀ y ∈ L ++ M, Nl y := fun y hy => by
  rcases List.mem_append.1 hy with hy | hy
  · exact gl y hy
  · exact gM y hy
set_option maxHeartbeats 8000000 in
theorem numbers_law (h0 : Mem) (p : Nat) : Yes T 3 [] h0 p := by
  refine Yes.of 2500 ?_
  rw [xF_fr T3]
  simp (maxSteps := 4000000) [↓step_none, ↓step_t, ↓step_f, ↓step_nt, ↓step_nf, ↓op_load, ↓op_store, ↓op_slice, ↓op_app, ↓P_skip, ↓P_exit, ↓P_ret, ↓P_seq, ↓P_cond, ↓P_blk, ↓P_reg, ↓P_draw, ↓P_nil, ↓P_cons, condP_t, condP_f, dum_ab, stepR, want_none, want_some, opRun, ev_t, ev_c, put_none, put_some, resAll, res_tmp, res_cell, oneOf, minI, maxI, min2A, max2A, mn2, mx2, mx3, rdBlk, wrBlk, newBlk, partA, abin, ibin, isShift, AV.cells, AV.one, lay, sub, fillA, lenA, toN, allApart, apartFrom, Nat.testBit, Mem.blk_set_same, Mem.blk_set_ne, Mem.set_set, bit_zero, bit_self, lowBits_or, lowBits_zero, len_setT, sl_same, sl_ne, len_frame, sl_frame,↓op_len, lenOp_slc, lenOp_nils, ↓Post.some, ↓Post_bind, ↓Post_ret, ↓Post_draw, ↓PostL_nil, ↓PostL_cons, Post_fail, ofOpt_some, ofOpt_none, eA_b, eA_i, eA_s, eA_nn, eA_np, eA_pn, eA_lnn, eA_lnp, eA_lpn, eA_i2, eA_i3, blt_dec, Nat.add_assoc, keeps_refl, keeps_at, keeps_up, new_one, and_pow, bit_hi, lowBits_pow, ble_dec, fr_refl, fr_at, fr_up, fr_p, dum_ab, F3]
  refine Post.loop ks_round 30 ⟨0, rfl, by omega, by simp [↓P_skip, ↓P_exit, ↓P_ret, ↓P_seq, ↓P_cond, ↓P_blk, ↓P_reg, ↓P_draw, ↓P_nil, ↓P_cons, condP_t, condP_f, dum_ab, stepR, want_none, want_some, opRun, ev_t, ev_c, put_none, put_some, resAll, res_tmp, res_cell, oneOf, minI, maxI, min2A, max2A, mn2, mx2, mx3, rdBlk, wrBlk, newBlk, partA, abin, ibin, isShift, AV.cells, AV.one, lay, sub, fillA, lenA, toN, allApart, apartFrom, Nat.testBit, Mem.blk_set_same, Mem.blk_set_ne, Mem.set_set, bit_zero, bit_self, lowBits_or, lowBits_zero, len_setT, sl_same, sl_ne, len_frame, sl_frame,↓op_len, lenOp_slc, lenOp_nils, ↓Post.some, ↓Post_bind, ↓Post_ret, ↓Post_draw, ↓PostL_nil, ↓PostL_cons, Post_fail, ofOpt_some, ofOpt_none, eA_b, eA_i, eA_s, eA_nn, eA_np, eA_pn, eA_lnn, eA_lnp, eA_lpn, eA_i2, eA_i3, blt_dec, Nat.add_assoc, keeps_refl, keeps_at, keeps_up], by simp [↓P_skip, ↓P_exit, ↓P_ret, ↓P_seq, ↓P_cond, ↓P_blk, ↓P_reg, ↓P_draw, ↓P_nil, ↓P_cons, condP_t, condP_f, dum_ab, stepR, want_none, want_some, opRun, ev_t, ev_c, put_none, put_some, resAll, res_tmp, res_cell, oneOf, minI, maxI, min2A, max2A, mn2, mx2, mx3, rdBlk, wrBlk, newBlk, partA, abin, ibin, isShift, AV.cells, AV.one, lay, sub, fillA, lenA, toN, allApart, apartFrom, Nat.testBit, Mem.blk_set_same, Mem.blk_set_ne, Mem.set_set, bit_zero, bit_self, lowBits_or, lowBits_zero, len_setT, sl_same, sl_ne, len_frame, sl_frame,↓op_len, lenOp_slc, lenOp_nils, ↓Post.some, ↓Post_bind, ↓Post_ret, ↓Post_draw, ↓PostL_nil, ↓PostL_cons, Post_fail, ofOpt_some, ofOpt_none, eA_b, eA_i, eA_s, eA_nn, eA_np, eA_pn, eA_lnn, eA_lnp, eA_lpn, eA_i2, eA_i3, blt_dec, Nat.add_assoc, keeps_refl, keeps_at, keeps_up]⟩ (by omega) ?_
  rintro e ts1 h1 nx1 tc1 wr1 ⟨rfl, hl1⟩
  simp (maxSteps := 4000000) [↓step_none, ↓step_t, ↓step_f, ↓step_nt, ↓step_nf, ↓op_load, ↓op_store, ↓op_slice, ↓op_app, ↓P_skip, ↓P_exit, ↓P_ret, ↓P_seq, ↓P_cond, ↓P_blk, ↓P_reg, ↓P_draw, ↓P_nil, ↓P_cons, condP_t, condP_f, dum_ab, stepR, want_none, want_some, opRun, ev_t, ev_c, put_none, put_some, resAll, res_tmp, res_cell, oneOf, minI, maxI, min2A, max2A, mn2, mx2, mx3, rdBlk, wrBlk, newBlk, partA, abin, ibin, isShift, AV.cells, AV.one, lay, sub, fillA, lenA, toN, allApart, apartFrom, Nat.testBit, Mem.blk_set_same, Mem.blk_set_ne, Mem.set_set, bit_zero, bit_self, lowBits_or, lowBits_zero, len_setT, sl_same, sl_ne, len_frame, sl_frame,↓op_len, lenOp_slc, lenOp_nils, ↓Post.some, ↓Post_bind, ↓Post_ret, ↓Post_draw, ↓PostL_nil, ↓PostL_cons, Post_fail, ofOpt_some, ofOpt_none, eA_b, eA_i, eA_s, eA_nn, eA_np, eA_pn, eA_lnn, eA_lnp, eA_lpn, eA_i2, eA_i3, blt_dec, Nat.add_assoc, keeps_refl, keeps_at, keeps_up, new_one, and_pow, bit_hi, lowBits_pow, ble_dec, fr_refl, fr_at, fr_up, fr_p, dum_ab, hl1]
  refine Post.loop ma_round 27 ⟨0, .nils, [], SGRow.nil .., (fun _ h => nomatch h), rfl, rfl, by omega, by simp [↓P_skip, ↓P_exit, ↓P_ret, ↓P_seq, ↓P_cond, ↓P_blk, ↓P_reg, ↓P_draw, ↓P_nil, ↓P_cons, condP_t, condP_f, dum_ab, stepR, want_none, want_some, opRun, ev_t, ev_c, put_none, put_some, resAll, res_tmp, res_cell, oneOf, minI, maxI, min2A, max2A, mn2, mx2, mx3, rdBlk, wrBlk, newBlk, partA, abin, ibin, isShift, AV.cells, AV.one, lay, sub, fillA, lenA, toN, allApart, apartFrom, Nat.testBit, Mem.blk_set_same, Mem.blk_set_ne, Mem.set_set, bit_zero, bit_self, lowBits_or, lowBits_zero, len_setT, sl_same, sl_ne, len_frame, sl_frame,↓op_len, lenOp_slc, lenOp_nils, ↓Post.some, ↓Post_bind, ↓Post_ret, ↓Post_draw, ↓PostL_nil, ↓PostL_cons, Post_fail, ofOpt_some, ofOpt_none, eA_b, eA_i, eA_s, eA_nn, eA_np, eA_pn, eA_lnn, eA_lnp, eA_lpn, eA_i2, eA_i3, blt_dec, Nat.add_assoc, keeps_refl, keeps_at, keeps_up, hl1], by simp [↓P_skip, ↓P_exit, ↓P_ret, ↓P_seq, ↓P_cond, ↓P_blk, ↓P_reg, ↓P_draw, ↓P_nil, ↓P_cons, condP_t, condP_f, dum_ab, stepR, want_none, want_some, opRun, ev_t, ev_c, put_none, put_some, resAll, res_tmp, res_cell, oneOf, minI, maxI, min2A, max2A, mn2, mx2, mx3, rdBlk, wrBlk, newBlk, partA, abin, ibin, isShift, AV.cells, AV.one, lay, sub, fillA, lenA, toN, allApart, apartFrom, Nat.testBit, Mem.blk_set_same, Mem.blk_set_ne, Mem.set_set, bit_zero, bit_self, lowBits_or, lowBits_zero, len_setT, sl_same, sl_ne, len_frame, sl_frame,↓op_len, lenOp_slc, lenOp_nils, ↓Post.some, ↓Post_bind, ↓Post_ret, ↓Post_draw, ↓PostL_nil, ↓PostL_cons, Post_fail, ofOpt_some, ofOpt_none, eA_b, eA_i, eA_s, eA_nn, eA_np, eA_pn, eA_lnn, eA_lnp, eA_lpn, eA_i2, eA_i3, blt_dec, Nat.add_assoc, keeps_refl, keeps_at, keeps_up, hl1], by simp [↓P_skip, ↓P_exit, ↓P_ret, ↓P_seq, ↓P_cond, ↓P_blk, ↓P_reg, ↓P_draw, ↓P_nil, ↓P_cons, condP_t, condP_f, dum_ab, stepR, want_none, want_some, opRun, ev_t, ev_c, put_none, put_some, resAll, res_tmp, res_cell, oneOf, minI, maxI, min2A, max2A, mn2, mx2, mx3, rdBlk, wrBlk, newBlk, partA, abin, ibin, isShift, AV.cells, AV.one, lay, sub, fillA, lenA, toN, allApart, apartFrom, Nat.testBit, Mem.blk_set_same, Mem.blk_set_ne, Mem.set_set, bit_zero, bit_self, lowBits_or, lowBits_zero, len_setT, sl_same, sl_ne, len_frame, sl_frame,↓op_len, lenOp_slc, lenOp_nils, ↓Post.some, ↓Post_bind, ↓Post_ret, ↓Post_draw, ↓PostL_nil, ↓PostL_cons, Post_fail, ofOpt_some, ofOpt_none, eA_b, eA_i, eA_s, eA_nn, eA_np, eA_pn, eA_lnn, eA_lnp, eA_lpn, eA_i2, eA_i3, blt_dec, Nat.add_assoc, keeps_refl, keeps_at, keeps_up, hl1], by simp [↓P_skip, ↓P_exit, ↓P_ret, ↓P_seq, ↓P_cond, ↓P_blk, ↓P_reg, ↓P_draw, ↓P_nil, ↓P_cons, condP_t, condP_f, dum_ab, stepR, want_none, want_some, opRun, ev_t, ev_c, put_none, put_some, resAll, res_tmp, res_cell, oneOf, minI, maxI, min2A, max2A, mn2, mx2, mx3, rdBlk, wrBlk, newBlk, partA, abin, ibin, isShift, AV.cells, AV.one, lay, sub, fillA, lenA, toN, allApart, apartFrom, Nat.testBit, Mem.blk_set_same, Mem.blk_set_ne, Mem.set_set, bit_zero, bit_self, lowBits_or, lowBits_zero, len_setT, sl_same, sl_ne, len_frame, sl_frame,↓op_len, lenOp_slc, lenOp_nils, ↓Post.some, ↓Post_bind, ↓Post_ret, ↓Post_draw, ↓PostL_nil, ↓PostL_cons, Post_fail, ofOpt_some, ofOpt_none, eA_b, eA_i, eA_s, eA_nn, eA_np, eA_pn, eA_lnn, eA_lnp, eA_lpn, eA_i2, eA_i3, blt_dec, Nat.add_assoc, keeps_refl, keeps_at, keeps_up, hl1]⟩ (by omega) ?_
  rintro e ts2 h2 nx2 tc2 wr2 ⟨rfl, u4, L4, g4, l4, n4, hl2, s4, s5⟩
  obtain ⟨u5, h3, tc3, wr3, x3, g5, k5, b5⟩ := grow_el (u := .nils) (h := h2) (nx := nx2) (base := nx2) (L := []) (SGRow.nil ..) (Nat.le_refl _) (by simp) (ask 0 0 0 0 .nils) rfl rfl
  simp only [ask] at x3
  simp (maxSteps := 4000000) [↓step_none, ↓step_t, ↓step_f, ↓step_nt, ↓step_nf, ↓op_load, ↓op_store, ↓op_slice, ↓op_app, ↓P_skip, ↓P_exit, ↓P_ret, ↓P_seq, ↓P_cond, ↓P_blk, ↓P_reg, ↓P_draw, ↓P_nil, ↓P_cons, condP_t, condP_f, dum_ab, stepR, want_none, want_some, opRun, ev_t, ev_c, put_none, put_some, resAll, res_tmp, res_cell, oneOf, minI, maxI, min2A, max2A, mn2, mx2, mx3, rdBlk, wrBlk, newBlk, partA, abin, ibin, isShift, AV.cells, AV.one, lay, sub, fillA, lenA, toN, allApart, apartFrom, Nat.testBit, Mem.blk_set_same, Mem.blk_set_ne, Mem.set_set, bit_zero, bit_self, lowBits_or, lowBits_zero, len_setT, sl_same, sl_ne, len_frame, sl_frame,↓op_len, lenOp_slc, lenOp_nils, ↓Post.some, ↓Post_bind, ↓Post_ret, ↓Post_draw, ↓PostL_nil, ↓PostL_cons, Post_fail, ofOpt_some, ofOpt_none, eA_b, eA_i, eA_s, eA_nn, eA_np, eA_pn, eA_lnn, eA_lnp, eA_lpn, eA_i2, eA_i3, blt_dec, Nat.add_assoc, keeps_refl, keeps_at, keeps_up, new_one, and_pow, bit_hi, lowBits_pow, ble_dec, fr_refl, fr_at, fr_up, fr_p, dum_ab, reps, hl2, s4, s5, x3]
  refine Post.loop (de_round u4 L4 nx2) 10 ⟨0, u5, _, g5, (fun y hy => by rw [List.mem_singleton.1 hy]; exact ⟨_, _, _, _, rfl⟩), rfl, rfl, by omega, by simp [len_setT, sl_same, sl_ne, hl2], by simp [len_setT, sl_same, sl_ne, hl2], by simp [len_setT, sl_same, sl_ne, hl2], by simp [len_setT, sl_same, sl_ne, hl2, s4], by omega, g4.keep (Nat.le_refl _) fun b _ hb => k5 b hb fun h => by cases h⟩ (by omega) ?_
  rintro e ts4 h4 nx4 tc4 wr4 ⟨rfl, u6, L6, g6, l6, n6, hl4, s6, s7, hb4, g7⟩
  have z2 : ∀ y ∈ [ask 2 7 0 0 .nils, ask 0 99 0 0 .nils], Nl y := fun y hy => by
    simp only [List.mem_cons, List.mem_nil_iff, or_false] at hy
    rcases hy with rfl | rfl <;> exact ⟨_, _, _, _, rfl⟩
  obtain ⟨u8, h8, tc8, wr8, x8, g8, k8, b8⟩ := grow_n (M := [ask 2 7 0 0 .nils, ask 0 99 0 0 .nils]) (g7.keep hb4 fun _ _ _ => rfl) (Nat.zero_le nx4) (by omega) (by simp) (fun y hy => nl5 (z2 y hy)) (by simp) (nl_one z2) (n := 2) rfl
  have bu4 : ∀ b, bid u4 = some b → b < nx2 := fun b hb => by
    rcases g7 with ⟨rfl, _⟩ | ⟨_, b', ty, _, h2, rfl, _⟩
    · cases hb
    · cases hb; exact h2
  obtain ⟨h9, nx9, tc9, wr9, x9, n9, k9⟩ := play_ok u8 _ h8 (nx4 + 2) g8.srow (fun y hy => (nl_app l4 z2 y hy).ask)
  have g10 : SGRow 5 u6 h9 nx2 nx9 L6 := g6.keep (by omega) fun b h1 h2 => by rw [k9 b (by omega), k8 b h2 fun h => by have := bu4 b h; omega]
  have z4 : ∀ y ∈ [ask 6 0 0 0 .nils, ask 3 0 (-9223372036854775808) 0 .nils, ask 7 0 9223372036854775807 0 .nils, ask 2 (-9223372036854775808) 0 0 .nils], Nl y := fun y hy => by
    simp only [List.mem_cons, List.mem_nil_iff, or_false] at hy
    rcases hy with rfl | rfl | rfl | rfl <;> exact ⟨_, _, _, _, rfl⟩
  obtain ⟨u10, h10, tc10, wr10, x10, g11, k10, b10⟩ := grow_n (M := [ask 6 0 0 0 .nils, ask 3 0 (-9223372036854775808) 0 .nils, ask 7 0 9223372036854775807 0 .nils, ask 2 (-9223372036854775808) 0 0 .nils]) g10 (by omega) (by omega) (by simp) (fun y hy => nl5 (z4 y hy)) (by simp) (nl_one z4) (n := 4) rfl
  obtain ⟨h12, nx12, tc12, wr12, x12, n12, k12⟩ := play_ok u10 _ h10 (nx9 + 2) g11.srow (fun y hy => (nl_app l6 z4 y hy).ask)
  obtain ⟨h13, nx13, tc13, wr13, x13, n13, k13⟩ := known_at h12 nx12 0 (Nat.zero_le _)
  simp only [ask, List.flatten_cons, List.flatten_nil, List.cons_append, List.nil_append, List.append_nil] at x8 x10
  simp (maxSteps := 8000000) [↓step_none, ↓step_t, ↓step_f, ↓step_nt, ↓step_nf, ↓op_load, ↓op_store, ↓op_slice, ↓op_app, ↓P_skip, ↓P_exit, ↓P_ret, ↓P_seq, ↓P_cond, ↓P_blk, ↓P_reg, ↓P_draw, ↓P_nil, ↓P_cons, condP_t, condP_f, dum_ab, stepR, want_none, want_some, opRun, ev_t, ev_c, put_none, put_some, resAll, res_tmp, res_cell, oneOf, minI, maxI, min2A, max2A, mn2, mx2, mx3, rdBlk, wrBlk, newBlk, partA, abin, ibin, isShift, AV.cells, AV.one, lay, sub, fillA, lenA, toN, allApart, apartFrom, Nat.testBit, Mem.blk_set_same, Mem.blk_set_ne, Mem.set_set, bit_zero, bit_self, lowBits_or, lowBits_zero, len_setT, sl_same, sl_ne, len_frame, sl_frame,↓op_len, lenOp_slc, lenOp_nils, ↓Post.some, ↓Post_bind, ↓Post_ret, ↓Post_draw, ↓PostL_nil, ↓PostL_cons, Post_fail, ofOpt_some, ofOpt_none, eA_b, eA_i, eA_s, eA_nn, eA_np, eA_pn, eA_lnn, eA_lnp, eA_lpn, eA_i2, eA_i3, blt_dec, Nat.add_assoc, keeps_refl, keeps_at, keeps_up, new_one, and_pow, bit_hi, lowBits_pow, ble_dec, fr_refl, fr_at, fr_up, fr_p, dum_ab, reps, hl4, s6, s7, x8, x9, x10, x12, x13]
end Go.Proofs.YtobcboiemibkkaaT
