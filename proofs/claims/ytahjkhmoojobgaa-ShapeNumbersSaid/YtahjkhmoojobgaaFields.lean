/- Shape: ShapeFields. -/
import Derived.Test.YtahjkhmoojobgaaChains
namespace Go.Proofs.YtahjkhmoojobgaaT
open Go Go.Proofs.YtahjkhmoojobgaaE Go.Proofs.YtahjkhmoojobgaaB
set_option linter.unusedSimpArgs false
set_option linter.unusedVariables false
attribute [local congr] Post_cg PostL_cg condP_cg

/-- Classes in a row of one's own. -/
structure CO (v : AV) (h : Mem) (nx : Nat) (L : List C) : Prop where
  ow : OW 4 v h nx (css L)
  n : L.length ≤ 1000
  b : ∀ c ∈ L, RD 2 c.bv h nx (bnds c.B) ∧ c.B.length ≤ big ∧ c.name.size ≤ big
  sep : ∀ c ∈ L, ∀ x, bid c.bv = some x → bid v ≠ some x
theorem CO.cr {v : AV} {h : Mem} {nx : Nat} {L : List C} (g : CO v h nx L) : CR v h nx L := ⟨g.ow.rd (by decide), by have := g.n; unfold big; omega, g.b⟩
theorem CO.keeps {v : AV} {h h' : Mem} {nx nx' : Nat} {L : List C} (g : CO v h nx L) (hn : nx ≤ nx') (e : ∀ q, q < nx → h'.blk q = h.blk q) : CO v h' nx' L :=
  ⟨g.ow.keeps hn e, g.n, fun c hc => ⟨(g.b c hc).1.keeps hn e, (g.b c hc).2⟩, g.sep⟩
theorem CR.one' {v : AV} {h : Mem} {nx : Nat} {L : List C} (g : CR v h nx L) : ∀ {M : List C}, (∀ c ∈ M, c ∈ L) → (css M).flatten.all AV.one = true
  | [], _ => rfl
  | c :: M, hm => by
    have h1 := g.one (hm c (by simp))
    have h2 := g.one' (M := M) fun x hx => hm x (by simp [hx])
    unfold css at h2 ⊢
    rw [List.map_cons, List.flatten_cons, List.all_append, h1, h2]
    rfl
/-- A copy of classes. -/
theorem CO.copy {v : AV} {h : Mem} {nx : Nat} {L : List C} (g : CR v h nx L) (hl : L.length ≤ 900) {u : AV} {M : List C} (gu : CO u h nx M) (hM : M.length ≤ 50) (hub : ∀ c ∈ L, ∀ x, bid c.bv = some x → bid u ≠ some x) (lg : Nat) :
    ∃ u' h' nx' tc wr, appOp 38 4 56 u v h nx lg = some ⟨u', h', nx', tc, wr⟩ ∧ nx ≤ nx' ∧ CO u' h' nx' (M ++ L) ∧ (∀ b, b < nx → bid u ≠ some b → h'.blk b = h.blk b) ∧ (∀ b, bid u' = some b → bid u = some b ∨ nx ≤ b) ∧ (∀ q, bid u ≠ some q → bid v ≠ some q → tc &&& 2 ^ q = 0) ∧ (∀ q, bid u ≠ some q → wr &&& 2 ^ q = 0) := by
  obtain ⟨u', h', nx', tc, wr, e, n1, o1, k1, d1, t1, w1⟩ := OW.cat (sz := 4) (by decide) 38 56 gu.ow g.r (fun k hk => fits_few (by rw [css_len, css_len] at hk; omega) (by omega)) (g.one' fun _ h => h) lg
  have ea : css M ++ css L = css (M ++ L) := by unfold css; rw [List.map_append]
  rw [ea] at o1
  refine ⟨u', h', nx', tc, wr, e, n1, ⟨o1, by rw [List.length_append]; omega, fun c hc => ?_, fun c hc x hx hu' => ?_⟩, k1, d1, t1, w1⟩
  · rcases List.mem_append.1 hc with hc | hc
    · obtain ⟨r, r2⟩ := gu.b c hc
      exact ⟨r.keep n1 fun x hx hl => k1 x hl (gu.sep c hc x hx), r2⟩
    · obtain ⟨r, r2⟩ := g.b c hc
      exact ⟨r.keep n1 fun x hx hl => k1 x hl (hub c hc x hx), r2⟩
  · rcases List.mem_append.1 hc with hc | hc
    · rcases d1 x hu' with e | e
      · exact gu.sep c hc x hx e
      · have := (gu.b c hc).1.lt hx; omega
    · rcases d1 x hu' with e | e
      · exact hub c hc x hx e
      · have := (g.b c hc).1.lt hx; omega
/-- One class more. -/
theorem CO.push {u : AV} {h : Mem} {nx : Nat} {M : List C} (gu : CO u h nx M) (hM : M.length ≤ 900) (X : C) (rX : RD 2 X.bv h nx (bnds X.B)) (lX : X.B.length ≤ big ∧ X.name.size ≤ big) (sX : ∀ x, bid X.bv = some x → bid u ≠ some x) (lg : Nat) :
    ∃ u' h' nx' tc wr, appOp 38 4 56 u (.slc nx 0 1 (some 1)) (h.set nx (some ⟨38, 4, true, false, X.cs⟩)) (nx + 1) lg = some ⟨u', h', nx', tc, wr⟩ ∧ nx + 1 ≤ nx' ∧ CO u' h' nx' (M ++ [X]) ∧ (∀ b, b < nx → bid u ≠ some b → h'.blk b = h.blk b) ∧ (∀ b, bid u' = some b → bid u = some b ∨ nx < b) ∧ (∀ q, bid u ≠ some q → nx ≠ q → tc &&& 2 ^ q = 0) ∧ (∀ q, bid u ≠ some q → wr &&& 2 ^ q = 0) := by
  have oX : X.cs.all AV.one = true := by
    have := rX.one.2
    have e : X.cs.all AV.one = X.bv.one := by
      unfold C.cs
      simp only [List.all_cons, List.all_nil, Bool.and_true]
      rfl
    rw [e, this]
  obtain ⟨u', h', nx', tc, wr, e, n1, o1, k1, d1, t1, w1⟩ := OW.push (sz := 4) (by decide) 38 56 gu.ow X.cs rfl (fun k hk => fits_few (by rw [css_len] at hk; omega) (by omega)) oX 38 4 lg
  have ea : css M ++ [X.cs] = css (M ++ [X]) := by unfold css; rw [List.map_append]; rfl
  rw [ea] at o1
  refine ⟨u', h', nx', tc, wr, e, n1, ⟨o1, by rw [List.length_append]; simp; omega, fun c hc => ?_, fun c hc x hx hu' => ?_⟩, k1, d1, t1, w1⟩
  · rcases List.mem_append.1 hc with hc | hc
    · obtain ⟨r, r2⟩ := gu.b c hc
      exact ⟨r.keep (by omega) fun x hx hl => k1 x hl (gu.sep c hc x hx), r2⟩
    · rw [List.mem_singleton.1 hc]
      exact ⟨rX.keep (by omega) fun x hx hl => k1 x hl (sX x hx), lX⟩
  · rcases List.mem_append.1 hc with hc | hc
    · rcases d1 x hu' with e | e
      · exact gu.sep c hc x hx e
      · have := (gu.b c hc).1.lt hx; omega
    · rw [List.mem_singleton.1 hc] at hx
      rcases d1 x hu' with e | e
      · exact sX x hx e
      · have := rX.lt hx; omega
/-- A class is laid anew, in one cell. -/
theorem CO.at {u : AV} {h : Mem} {nx : Nat} {M : List C} (gu : CO u h nx M) {i : Nat} (hi : i < M.length) : ∃ b, bid u = some b ∧ b < nx ∧ islcA 4 u (.int .i64 (i : Int)) = A.ret (.ptr b (i * 4)) ∧
    (∀ j v, M[i].cs[j]? = some v → ∀ lg, ldA none (.ptr b (i * 4 + j)) h nx lg = some ⟨v, h, nx, bit lg b, 0⟩) ∧
    ∀ j, j < 4 → ∀ x, x.cells = [x] → x.one = true → ∀ X : C, X.cs = M[i].cs.set j x → RD 2 X.bv h nx (bnds X.B) → X.B.length ≤ big → X.name.size ≤ big → (∀ y, bid X.bv = some y → bid u ≠ some y) →
      ∃ H, (∀ lg, stA 1 (.ptr b (i * 4 + j)) x h nx lg = some ⟨.tup [], H, nx, bit lg b, bit lg b⟩) ∧ CO u H nx (M.set i X) ∧ ∀ q, ¬ q = b → H.blk q = h.blk q := by
  obtain ⟨b, hb, hbn, pl, lds, st⟩ := gu.ow.at (i := i) (by rw [css_len]; exact hi)
  refine ⟨b, hb, hbn, pl, fun j v hv => lds j v (by rw [css_at]; exact hv), fun j hj x hx h1 X hX rX lX sX sep => ?_⟩
  obtain ⟨H, sH, oH, kH⟩ := st j hj x hx h1
  rw [css_at, ← hX] at oH
  rw [← css_set] at oH
  refine ⟨H, sH, ⟨oH, by rw [List.length_set]; exact gu.n, fun c hc => ?_, fun c hc y hy => ?_⟩, kH⟩
  · rcases List.mem_or_eq_of_mem_set hc with hc | rfl
    · obtain ⟨r, r2⟩ := gu.b c hc
      exact ⟨r.keep (Nat.le_refl _) fun y hy _ => kH y fun e => gu.sep c hc y hy (e ▸ hb), r2⟩
    · exact ⟨rX.keep (Nat.le_refl _) fun y hy _ => kH y fun e => sep y hy (e ▸ hb), lX, sX⟩
  · rcases List.mem_or_eq_of_mem_set hc with hc | rfl
    · exact gu.sep c hc y hy
    · exact sep y hy
theorem CO.nil (h : Mem) (nx : Nat) (t : TypeId) (z : Nat) : CO (.slc nx 0 0 (some 0)) (h.set nx (some ⟨t, z, true, false, []⟩)) (nx + 1) [] := ⟨OW.new h nx t z, by simp, (fun c hc => nomatch hc), (fun c hc => nomatch hc)⟩
/-- The last class is laid anew. -/
theorem CO.last {u : AV} {h : Mem} {nx : Nat} {L : List C} {X : C} (co : CO u h nx (L ++ [X])) {j : Nat} (hj : j < 4) (x : AV) (hx : x.cells = [x]) (h1 : x.one = true) (X' : C) (e : X'.cs = X.cs.set j x) (e1 : X'.bv = .nils) (e2 : X'.B = []) (sz : X'.name.size ≤ big) :
    ∃ b H, bid u = some b ∧ b < nx ∧ islcA 4 u (.int .i64 (L.length : Int)) = A.ret (.ptr b (L.length * 4)) ∧ (∀ lg, stA 1 (.ptr b (L.length * 4 + j)) x h nx lg = some ⟨.tup [], H, nx, bit lg b, bit lg b⟩) ∧ CO u H nx (L ++ [X']) ∧ ∀ q, ¬ q = b → H.blk q = h.blk q := by
  have hl : L.length < (L ++ [X]).length := by rw [List.length_append]; simp
  obtain ⟨b, hb, hbn, pl, _, st⟩ := co.at hl
  have el : (L ++ [X])[L.length] = X := by rw [List.getElem_append_right (by omega)]; simp
  obtain ⟨H, sH, cH, kH⟩ := st j hj x hx h1 X' (by rw [el]; exact e) (by rw [e1, e2]; exact RD.nil ..) (by rw [e2]; exact Nat.zero_le _) sz (by rw [e1]; intro y hy; cases hy)
  have es : (L ++ [X]).set L.length X' = L ++ [X'] := by
    rw [List.set_append_right _ _ (by omega)]
    simp
  rw [es] at cH
  exact ⟨b, H, hb, hbn, pl, sH, cH, kH⟩
/-- One that is read, of those ahead of the last. -/
theorem CO.rdk {u : AV} {h : Mem} {nx : Nat} {L : List C} {X : C} (co : CO u h nx (L ++ [X])) {k : Nat} (hk : k < L.length) : ∃ b, bid u = some b ∧ islcA 4 u (.int .i64 (k : Int)) = A.ret (.ptr b (k * 4)) ∧ (∀ lg, ldA none (.ptr b (k * 4 + 2)) h nx lg = some ⟨.int .i64 L[k].fld, h, nx, bit lg b, 0⟩) ∧ (∀ lg, ldA none (.ptr b (k * 4)) h nx lg = some ⟨.str L[k].name, h, nx, bit lg b, 0⟩) := by
  obtain ⟨b, hb, hbn, pl, ld, _⟩ := co.at (i := k) (by rw [List.length_append]; omega)
  have e : (L ++ [X])[k]'(by rw [List.length_append]; omega) = L[k] := List.getElem_append_left hk
  exact ⟨b, hb, pl, fun lg => ld 2 _ (by rw [e]; rfl) lg, fun lg => ld 0 _ (by rw [e]; rfl) lg⟩
theorem app_at {L : List C} (X : C) : ∀ j (hj : j < L.length), ∃ h' : j < (L ++ [X]).length, (L ++ [X])[j] = L[j] := fun j hj => ⟨by rw [List.length_append]; omega, List.getElem_append_left hj⟩
theorem app_last (L : List C) (X : C) (h : L.length < (L ++ [X]).length) : (L ++ [X])[L.length] = X := by
  rw [List.getElem_append_right (by omega)]
  simp
theorem app_gd {L : List C} (kl : KlsF L) (X : C) : ∀ i (h : i < (L ++ [X]).length), i < L.length → Gd (L ++ [X]) i (L ++ [X])[i] := fun i h hi => by
  rw [List.getElem_append_left hi]
  exact kl.gd _ i hi fun j hj _ => app_at X j hj
theorem app_head {L : List C} (kl : KlsF L) (X : C) : headBad (L ++ [X]) = false := kl.head _ (fun j hj _ => app_at X j hj) (by have := kl.n3; rw [List.length_append]; omega)
def below (k : Nat) (f : Int) : C := ⟨nmF 5, k, f, .nils, []⟩
theorem app_ok {L : List C} (kl : KlsF L) {k : Nat} (hk : k < L.length) {f : Int} (f1 : L[k].fld ≤ f) (f2 : f ≤ L[k].fld + 1) : rightV (L ++ [below k f]) 6 9 = 0 := by
  have h5 := kl.n5
  have g := kl.gd L k hk fun j hj _ => ⟨hj, rfl⟩
  have f3 : L[k].fld ≤ 40 := kl.fld_le k hk
  refine right_gd (by rw [List.length_append]; simp; have := kl.n3; omega) (by rw [List.length_append]; simp; omega) (app_head kl _) fun i h => ?_
  by_cases hi : i < L.length
  · exact app_gd kl _ i h hi
  · obtain rfl : i = L.length := by rw [List.length_append, List.length_singleton] at h; omega
    rw [app_last]
    have f0 := g.f1
    refine ⟨?_, ?_, ?_, ?_, ?_, ?_, .inr fun hh => ?_, by show bindsV [] 6 9 = true; decide +kernel⟩
    · have := nmF_size 5 (by decide)
      simp only [below, eq_iff_iff, iff_false]; omega
    · refine anyN_names fun j hj hji => ?_
      obtain ⟨h', e⟩ := app_at (L := L) (below k f) j hji
      rw [e, kl.name j hji]
      exact nmF_ne 5 (by decide) j (by omega)
    · simp only [below]; omega
    · simp only [below]; omega
    · simp only [below]; omega
    · simp only [below]; omega
    · have : (below k f).sup.toNat = k := by simp [below]
      obtain ⟨h', e⟩ := app_at (L := L) (below k f) k hk
      simp only [this, e]
      exact f1
theorem app_less {L : List C} (kl : KlsF L) {k : Nat} (hk : k < L.length) : rightV (L ++ [below k (L[k].fld - 1)]) 6 9 = 14 := by
  have h5 := kl.n5
  have h3 := kl.n3
  have hl : (L ++ [below k (L[k].fld - 1)]).length = L.length + 1 := by rw [List.length_append]; rfl
  have g := kl.gd L k hk fun j hj _ => ⟨hj, rfl⟩
  refine right_bad 14 (by decide) (by omega) (by omega) (app_head kl _) ?_ fun i h hi => app_gd kl _ i h (by omega)
  rw [hl, Nat.add_sub_cancel, errAt_at (by omega), app_last]
  have n1 : nameBad (L ++ [below k (L[k].fld - 1)]) L.length (below k (L[k].fld - 1)) = false := by
    unfold nameBad
    have := nmF_size 5 (by decide)
    have a : anyN ((L ++ [below k (L[k].fld - 1)]).take L.length) (below k (L[k].fld - 1)) = false := anyN_names fun j hj hji => by
      obtain ⟨h', e⟩ := app_at (L := L) (below k (L[k].fld - 1)) j hji
      rw [e, kl.name j hji]
      exact nmF_ne 5 (by decide) j (by omega)
    rw [a]
    have h1 : ¬ (below k (L[k].fld - 1)).name.size < 1 := by simp only [below]; omega
    have h2 : ¬ 16 < (below k (L[k].fld - 1)).name.size := by simp only [below]; omega
    simp [h1, h2]
  have s1 : supB (L ++ [below k (L[k].fld - 1)]) L.length = false := by
    obtain ⟨X, hX⟩ : ∃ X, X = below k (L[k].fld - 1) := ⟨_, rfl⟩
    have sX : X.sup = k := by rw [hX]; rfl
    have fX : X.fld = L[k].fld - 1 := by rw [hX]; rfl
    rw [← hX] at hl ⊢
    unfold supB
    rw [List.getElem?_eq_getElem (by omega), app_last]
    obtain ⟨h', e⟩ := app_at (L := L) X k hk
    have c : ((k : Int) == -1) = false := beq_eq_false_iff_ne.2 (by omega)
    have t : ((k : Int)).toNat = k := by simp
    have f : ¬ L[k].fld ≤ L[k].fld - 1 := by omega
    simp only [sX, fX, c, t, List.getElem?_eq_getElem h', e, Bool.false_or, f, decide_false, Bool.and_false]
  rw [n1, s1]
  rfl
theorem app_name {L : List C} (kl : KlsF L) {k : Nat} (hk : k < L.length) : rightV (L ++ [⟨L[k].name, k, L[k].fld, .nils, []⟩]) 6 9 = 13 := by
  have h5 := kl.n5
  have h3 := kl.n3
  have hl : (L ++ [(⟨L[k].name, k, L[k].fld, .nils, []⟩ : C)]).length = L.length + 1 := by rw [List.length_append]; rfl
  refine right_bad 13 (by decide) (by omega) (by omega) (app_head kl _) ?_ fun i h hi => app_gd kl _ i h (by omega)
  rw [hl, Nat.add_sub_cancel, errAt_at (by omega), app_last]
  have n1 : nameBad (L ++ [(⟨L[k].name, k, L[k].fld, .nils, []⟩ : C)]) L.length ⟨L[k].name, k, L[k].fld, .nils, []⟩ = true := by
    unfold nameBad
    have a : anyN ((L ++ [(⟨L[k].name, k, L[k].fld, .nils, []⟩ : C)]).take L.length) ⟨L[k].name, k, L[k].fld, .nils, []⟩ = true := by
      rw [List.take_append_of_le_length (Nat.le_refl _), List.take_of_length_le (Nat.le_refl _)]
      exact anyN_t hk (beq_self_eq_true _)
    rw [a]
    simp
  rw [n1]
  rfl
set_option maxHeartbeats 16000000 in
theorem fields_law (h : Mem) (nx : Nat) (avs : List AV) (g : KdsV h nx [.sl [.l (.i .i64)], .l (.i .i64)] avs) : Yes T 6 avs h nx := by
  simp only [KdsV, KdV, LeafV] at g
  obtain ⟨v, _, rfl, gv, _, _, rfl, ⟨at0, rfl, _⟩, rfl⟩ := g
  obtain ⟨T0, rv, hT⟩ := tape_of (v := v) (by simp only [KdV]; exact gv)
  have tp := tp_new (h := h.set nx (some ⟨38, 4, true, false, []⟩)) (nx := nx + 1) (rv.keeps (by omega) fun q hq => Mem.blk_set_ne _ _ _ _ (by omega)) hT
  have c0 := CO.nil h nx 38 4
  refine Yes.of 8000 ?_
  rw [xF_fr T6]
  have fm := rv.form
  rcases fm with ⟨rfl, _⟩ | ⟨b, o, c, rfl⟩
  all_goals
    simp (maxSteps := 4000000) (maxDischargeDepth := 6) [↓step_none, ↓step_t, ↓step_f, ↓step_nt, ↓step_nf, ↓op_load, ↓op_store, ↓op_slice, ↓op_app, ↓op_islc, ↓P_skip, ↓P_exit, ↓P_ret, ↓P_seq, ↓P_cond, ↓P_blk, ↓P_reg, ↓P_draw, ↓P_nil, ↓P_cons, condP_t, condP_f, dum_ab, stepR, want_none, want_some, opRun, ev_t, ev_c, put_none, put_some, resAll, res_tmp, res_cell, oneOf, minI, maxI, min2A, max2A, mn2, mx2, mx3, rdBlk, wrBlk, newBlk, partA, abin, ibin, isShift, AV.cells, AV.one, lay, sub, fillA, lenA, toN, allApart, apartFrom, Nat.testBit, Mem.blk_set_same, Mem.blk_set_ne, Mem.set_set, bit_zero, bit_self, lowBits_or, lowBits_zero, len_setT, sl_same, sl_ne, len_frame, sl_frame,↓op_len, lenOp_slc, lenOp_nils, ↓Post.some, ↓Post_bind, ↓Post_ret, ↓Post_draw, ↓PostL_nil, ↓PostL_cons, Post_fail, ofOpt_some, ofOpt_none, eA_b, eA_i, eA_s, eA_nn, eA_np, eA_pn, eA_lnn, eA_lnp, eA_lpn, eA_i2, eA_i3, blt_dec, Nat.add_assoc, keeps_refl, keeps_at, keeps_up, new_one, and_pow, bit_hi, lowBits_pow, ble_dec, fr_refl, fr_at, fr_up, fr_p, dum_ab, reps, F6]
    refine (unit_tp tp).post nx (by omega) (by omega) (by omega) ?_
    rintro _ h1 nx1 tc1 wr1 ⟨nv, cv, mv, ov, L, M, rfl, t1, uq⟩ n1 k1 m1 _
    have kl := uq.kl
    have h3 := kl.n3
    have h5 := kl.n5
    have cr1 := uq.cr
    have c1 : CO (.slc nx 0 0 (some 0)) h1 nx1 [] := ⟨c0.ow.keep (by omega) fun x hx => by cases hx; rw [k1 nx (by omega) (by omega), Mem.blk_set_ne _ _ _ _ (by omega)], by simp, (fun c hc => nomatch hc), (fun c hc => nomatch hc)⟩
    obtain ⟨u2, h2, nx2, tc2, wr2, e2, n2, co2, k2, d2, _, _⟩ := CO.copy cr1 (by omega) c1 (by simp) (fun c hc x hx e => by cases e; have := uq.lo c hc nx hx; omega) 0
    rw [List.nil_append] at co2
    have l2 := co2.cr.lenOp
    have wl : IntKind.i64.wrap ((L.length : Int) - 1) = (L.length : Int) - 1 := by rw [IntKind.wrap_i64]; omega
    obtain ⟨wi, wi1, wi2, _, wx⟩ := within_ex at0 2 ((L.length : Int) - 1) (by omega) (by omega) (by omega)
    obtain ⟨k, rfl⟩ : ∃ i : Nat, wi = i := ⟨wi.toNat, by omega⟩
    have hk : k < L.length := by omega
    obtain ⟨b2, hb2, hb2n, pl2, ld2, _⟩ := co2.at hk
    have lf2 := fun lg => ld2 2 (.int .i64 L[k].fld) rfl lg
    have gk := kl.gd L k hk fun j hj _ => ⟨hj, rfl⟩
    have fk1 := gk.f1
    have fk2 := kl.fld_le k hk
    simp (maxSteps := 4000000) (maxDischargeDepth := 6) [↓step_none, ↓step_t, ↓step_f, ↓step_nt, ↓step_nf, ↓op_load, ↓op_store, ↓op_slice, ↓op_app, ↓op_islc, ↓P_skip, ↓P_exit, ↓P_ret, ↓P_seq, ↓P_cond, ↓P_blk, ↓P_reg, ↓P_draw, ↓P_nil, ↓P_cons, condP_t, condP_f, dum_ab, stepR, want_none, want_some, opRun, ev_t, ev_c, put_none, put_some, resAll, res_tmp, res_cell, oneOf, minI, maxI, min2A, max2A, mn2, mx2, mx3, rdBlk, wrBlk, newBlk, partA, abin, ibin, isShift, AV.cells, AV.one, lay, sub, fillA, lenA, toN, allApart, apartFrom, Nat.testBit, Mem.blk_set_same, Mem.blk_set_ne, Mem.set_set, bit_zero, bit_self, lowBits_or, lowBits_zero, len_setT, sl_same, sl_ne, len_frame, sl_frame,↓op_len, lenOp_slc, lenOp_nils, ↓Post.some, ↓Post_bind, ↓Post_ret, ↓Post_draw, ↓PostL_nil, ↓PostL_cons, Post_fail, ofOpt_some, ofOpt_none, eA_b, eA_i, eA_s, eA_nn, eA_np, eA_pn, eA_lnn, eA_lnp, eA_lpn, eA_i2, eA_i3, blt_dec, Nat.add_assoc, keeps_refl, keeps_at, keeps_up, new_one, and_pow, bit_hi, lowBits_pow, ble_dec, fr_refl, fr_at, fr_up, fr_p, dum_ab, reps, e2, l2, wl, wx, pl2, lf2]
    obtain ⟨u3, h3', nx3, tc3, wr3, e3, n3, co3, k3, d3, _, _⟩ := co2.push (by omega) (below k L[k].fld) (RD.nil ..) ⟨Nat.zero_le _, by show (nmF 5).size ≤ big; decide +kernel⟩ (fun x hx => by cases hx) 0
    simp only [below, C.cs, nmF] at e3
    have rb : ∀ X : C, X.B = [] → ∀ c ∈ L ++ [X], c.B.length ≤ 6 := fun X hX c hc => by
      rcases List.mem_append.1 hc with hc | hc
      · exact kl.bb c hc
      · rw [List.mem_singleton.1 hc, hX]; decide
    simp (maxSteps := 4000000) (maxDischargeDepth := 6) [↓step_none, ↓step_t, ↓step_f, ↓step_nt, ↓step_nf, ↓op_load, ↓op_store, ↓op_slice, ↓op_app, ↓op_islc, ↓P_skip, ↓P_exit, ↓P_ret, ↓P_seq, ↓P_cond, ↓P_blk, ↓P_reg, ↓P_draw, ↓P_nil, ↓P_cons, condP_t, condP_f, dum_ab, stepR, want_none, want_some, opRun, ev_t, ev_c, put_none, put_some, resAll, res_tmp, res_cell, oneOf, minI, maxI, min2A, max2A, mn2, mx2, mx3, rdBlk, wrBlk, newBlk, partA, abin, ibin, isShift, AV.cells, AV.one, lay, sub, fillA, lenA, toN, allApart, apartFrom, Nat.testBit, Mem.blk_set_same, Mem.blk_set_ne, Mem.set_set, bit_zero, bit_self, lowBits_or, lowBits_zero, len_setT, sl_same, sl_ne, len_frame, sl_frame,↓op_len, lenOp_slc, lenOp_nils, ↓Post.some, ↓Post_bind, ↓Post_ret, ↓Post_draw, ↓PostL_nil, ↓PostL_cons, Post_fail, ofOpt_some, ofOpt_none, eA_b, eA_i, eA_s, eA_nn, eA_np, eA_pn, eA_lnn, eA_lnp, eA_lpn, eA_i2, eA_i3, blt_dec, Nat.add_assoc, keeps_refl, keeps_at, keeps_up, new_one, and_pow, bit_hi, lowBits_pow, ble_dec, fr_refl, fr_at, fr_up, fr_p, dum_ab, reps, e3]
    refine (right_nw 6 9 co3.cr (rb _ rfl)).post (by omega) (by omega) ?_
    rintro _ h4 nx4 tc4 wr4 rfl n4 k4 w4
    have co4 := co3.keeps n4 k4
    rw [app_ok kl hk (Int.le_refl _) (by omega)]
    obtain ⟨q1, qe1, qp1, qf1, _⟩ := co4.rdk hk
    have wa : IntKind.i64.wrap (L[k].fld + 1) = L[k].fld + 1 := by rw [IntKind.wrap_i64]; omega
    obtain ⟨q2, H5, qe2, _, qp2, st5, co5, _⟩ := co4.last (j := 2) (by decide) (.int .i64 (L[k].fld + 1)) rfl rfl (below k (L[k].fld + 1)) rfl rfl rfl (by show (nmF 5).size ≤ big; decide +kernel)
    rw [qe1] at qe2; cases qe2
    simp (maxSteps := 4000000) (maxDischargeDepth := 6) [↓step_none, ↓step_t, ↓step_f, ↓step_nt, ↓step_nf, ↓op_load, ↓op_store, ↓op_slice, ↓op_app, ↓op_islc, ↓P_skip, ↓P_exit, ↓P_ret, ↓P_seq, ↓P_cond, ↓P_blk, ↓P_reg, ↓P_draw, ↓P_nil, ↓P_cons, condP_t, condP_f, dum_ab, stepR, want_none, want_some, opRun, ev_t, ev_c, put_none, put_some, resAll, res_tmp, res_cell, oneOf, minI, maxI, min2A, max2A, mn2, mx2, mx3, rdBlk, wrBlk, newBlk, partA, abin, ibin, isShift, AV.cells, AV.one, lay, sub, fillA, lenA, toN, allApart, apartFrom, Nat.testBit, Mem.blk_set_same, Mem.blk_set_ne, Mem.set_set, bit_zero, bit_self, lowBits_or, lowBits_zero, len_setT, sl_same, sl_ne, len_frame, sl_frame,↓op_len, lenOp_slc, lenOp_nils, ↓Post.some, ↓Post_bind, ↓Post_ret, ↓Post_draw, ↓PostL_nil, ↓PostL_cons, Post_fail, ofOpt_some, ofOpt_none, eA_b, eA_i, eA_s, eA_nn, eA_np, eA_pn, eA_lnn, eA_lnp, eA_lpn, eA_i2, eA_i3, blt_dec, Nat.add_assoc, keeps_refl, keeps_at, keeps_up, new_one, and_pow, bit_hi, lowBits_pow, ble_dec, fr_refl, fr_at, fr_up, fr_p, dum_ab, reps, qp1, qf1, wa, qp2, st5]
    refine (right_nw 6 9 co5.cr (rb _ rfl)).post (by omega) (by omega) ?_
    rintro _ h6 nx6 tc6 wr6 rfl n6 k6 w6
    have co6 := co5.keeps n6 k6
    rw [app_ok kl hk (by omega) (Int.le_refl _)]
    obtain ⟨q3, qe3, qp3, qf3, _⟩ := co6.rdk hk
    have ws : IntKind.i64.wrap (L[k].fld - 1) = L[k].fld - 1 := by rw [IntKind.wrap_i64]; omega
    obtain ⟨q4, H7, qe4, _, qp4, st7, co7, _⟩ := co6.last (j := 2) (by decide) (.int .i64 (L[k].fld - 1)) rfl rfl (below k (L[k].fld - 1)) rfl rfl rfl (by show (nmF 5).size ≤ big; decide +kernel)
    rw [qe3] at qe4; cases qe4
    simp (maxSteps := 4000000) (maxDischargeDepth := 6) [↓step_none, ↓step_t, ↓step_f, ↓step_nt, ↓step_nf, ↓op_load, ↓op_store, ↓op_slice, ↓op_app, ↓op_islc, ↓P_skip, ↓P_exit, ↓P_ret, ↓P_seq, ↓P_cond, ↓P_blk, ↓P_reg, ↓P_draw, ↓P_nil, ↓P_cons, condP_t, condP_f, dum_ab, stepR, want_none, want_some, opRun, ev_t, ev_c, put_none, put_some, resAll, res_tmp, res_cell, oneOf, minI, maxI, min2A, max2A, mn2, mx2, mx3, rdBlk, wrBlk, newBlk, partA, abin, ibin, isShift, AV.cells, AV.one, lay, sub, fillA, lenA, toN, allApart, apartFrom, Nat.testBit, Mem.blk_set_same, Mem.blk_set_ne, Mem.set_set, bit_zero, bit_self, lowBits_or, lowBits_zero, len_setT, sl_same, sl_ne, len_frame, sl_frame,↓op_len, lenOp_slc, lenOp_nils, ↓Post.some, ↓Post_bind, ↓Post_ret, ↓Post_draw, ↓PostL_nil, ↓PostL_cons, Post_fail, ofOpt_some, ofOpt_none, eA_b, eA_i, eA_s, eA_nn, eA_np, eA_pn, eA_lnn, eA_lnp, eA_lpn, eA_i2, eA_i3, blt_dec, Nat.add_assoc, keeps_refl, keeps_at, keeps_up, new_one, and_pow, bit_hi, lowBits_pow, ble_dec, fr_refl, fr_at, fr_up, fr_p, dum_ab, reps, qp3, qf3, ws, qp4, st7]
    refine (right_nw 6 9 co7.cr (rb _ rfl)).post (by omega) (by omega) ?_
    rintro _ h8 nx8 tc8 wr8 rfl n8 k8 w8
    have co8 := co7.keeps n8 k8
    rw [app_less kl hk]
    obtain ⟨q5, qe5, qp5, qf5, qn5⟩ := co8.rdk hk
    obtain ⟨q6, H9, qe6, hq6, qp6, st9, co9, _⟩ := co8.last (j := 2) (by decide) (.int .i64 L[k].fld) rfl rfl (below k L[k].fld) rfl rfl rfl (by show (nmF 5).size ≤ big; decide +kernel)
    rw [qe5] at qe6; cases qe6
    have nsz : L[k].name.size ≤ big := (uq.cr.b _ (List.getElem_mem hk)).2.2
    obtain ⟨q7, HA, qe7, _, qp7, stA', coA, _⟩ := co9.last (j := 0) (by decide) (.str L[k].name) rfl rfl ⟨L[k].name, k, L[k].fld, .nils, []⟩ rfl rfl rfl nsz
    rw [qe5] at qe7; cases qe7
    simp only [Nat.add_zero] at stA'
    simp (maxSteps := 4000000) (maxDischargeDepth := 6) [↓step_none, ↓step_t, ↓step_f, ↓step_nt, ↓step_nf, ↓op_load, ↓op_store, ↓op_slice, ↓op_app, ↓op_islc, ↓P_skip, ↓P_exit, ↓P_ret, ↓P_seq, ↓P_cond, ↓P_blk, ↓P_reg, ↓P_draw, ↓P_nil, ↓P_cons, condP_t, condP_f, dum_ab, stepR, want_none, want_some, opRun, ev_t, ev_c, put_none, put_some, resAll, res_tmp, res_cell, oneOf, minI, maxI, min2A, max2A, mn2, mx2, mx3, rdBlk, wrBlk, newBlk, partA, abin, ibin, isShift, AV.cells, AV.one, lay, sub, fillA, lenA, toN, allApart, apartFrom, Nat.testBit, Mem.blk_set_same, Mem.blk_set_ne, Mem.set_set, bit_zero, bit_self, lowBits_or, lowBits_zero, len_setT, sl_same, sl_ne, len_frame, sl_frame,↓op_len, lenOp_slc, lenOp_nils, ↓Post.some, ↓Post_bind, ↓Post_ret, ↓Post_draw, ↓PostL_nil, ↓PostL_cons, Post_fail, ofOpt_some, ofOpt_none, eA_b, eA_i, eA_s, eA_nn, eA_np, eA_pn, eA_lnn, eA_lnp, eA_lpn, eA_i2, eA_i3, blt_dec, Nat.add_assoc, keeps_refl, keeps_at, keeps_up, new_one, and_pow, bit_hi, lowBits_pow, ble_dec, fr_refl, fr_at, fr_up, fr_p, dum_ab, reps, qp5, qf5, qn5, qp6, st9, qp7, stA']
    refine (right_nw 6 9 coA.cr (rb _ rfl)).post (by omega) (by omega) ?_
    rintro _ hB nxB tcB wrB rfl nB kB wB
    rw [app_name kl hk]
    simp (maxSteps := 4000000) (maxDischargeDepth := 6) [↓step_none, ↓step_t, ↓step_f, ↓step_nt, ↓step_nf, ↓op_load, ↓op_store, ↓op_slice, ↓op_app, ↓op_islc, ↓P_skip, ↓P_exit, ↓P_ret, ↓P_seq, ↓P_cond, ↓P_blk, ↓P_reg, ↓P_draw, ↓P_nil, ↓P_cons, condP_t, condP_f, dum_ab, stepR, want_none, want_some, opRun, ev_t, ev_c, put_none, put_some, resAll, res_tmp, res_cell, oneOf, minI, maxI, min2A, max2A, mn2, mx2, mx3, rdBlk, wrBlk, newBlk, partA, abin, ibin, isShift, AV.cells, AV.one, lay, sub, fillA, lenA, toN, allApart, apartFrom, Nat.testBit, Mem.blk_set_same, Mem.blk_set_ne, Mem.set_set, bit_zero, bit_self, lowBits_or, lowBits_zero, len_setT, sl_same, sl_ne, len_frame, sl_frame,↓op_len, lenOp_slc, lenOp_nils, ↓Post.some, ↓Post_bind, ↓Post_ret, ↓Post_draw, ↓PostL_nil, ↓PostL_cons, Post_fail, ofOpt_some, ofOpt_none, eA_b, eA_i, eA_s, eA_nn, eA_np, eA_pn, eA_lnn, eA_lnp, eA_lpn, eA_i2, eA_i3, blt_dec, Nat.add_assoc, keeps_refl, keeps_at, keeps_up, new_one, and_pow, bit_hi, lowBits_pow, ble_dec, fr_refl, fr_at, fr_up, fr_p, dum_ab, reps, ]
    refine (known_nw hB nxB).post (by omega) (by omega) ?_
    rintro _ hC nxC tcC wrC rfl nC kC wC
    simp (maxSteps := 4000000) (maxDischargeDepth := 6) [↓step_none, ↓step_t, ↓step_f, ↓step_nt, ↓step_nf, ↓op_load, ↓op_store, ↓op_slice, ↓op_app, ↓op_islc, ↓P_skip, ↓P_exit, ↓P_ret, ↓P_seq, ↓P_cond, ↓P_blk, ↓P_reg, ↓P_draw, ↓P_nil, ↓P_cons, condP_t, condP_f, dum_ab, stepR, want_none, want_some, opRun, ev_t, ev_c, put_none, put_some, resAll, res_tmp, res_cell, oneOf, minI, maxI, min2A, max2A, mn2, mx2, mx3, rdBlk, wrBlk, newBlk, partA, abin, ibin, isShift, AV.cells, AV.one, lay, sub, fillA, lenA, toN, allApart, apartFrom, Nat.testBit, Mem.blk_set_same, Mem.blk_set_ne, Mem.set_set, bit_zero, bit_self, lowBits_or, lowBits_zero, len_setT, sl_same, sl_ne, len_frame, sl_frame,↓op_len, lenOp_slc, lenOp_nils, ↓Post.some, ↓Post_bind, ↓Post_ret, ↓Post_draw, ↓PostL_nil, ↓PostL_cons, Post_fail, ofOpt_some, ofOpt_none, eA_b, eA_i, eA_s, eA_nn, eA_np, eA_pn, eA_lnn, eA_lnp, eA_lpn, eA_i2, eA_i3, blt_dec, Nat.add_assoc, keeps_refl, keeps_at, keeps_up, new_one, and_pow, bit_hi, lowBits_pow, ble_dec, fr_refl, fr_at, fr_up, fr_p, dum_ab, reps, ]
end Go.Proofs.YtahjkhmoojobgaaT
