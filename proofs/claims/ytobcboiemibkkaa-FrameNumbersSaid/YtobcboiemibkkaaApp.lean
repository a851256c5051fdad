/- Frame: append; clone; clip; cut. -/
import Derived.Test.YtobcboiemibkkaaFn
namespace Go.Proofs.YtobcboiemibkkaaT
open Go Go.Proofs.YtobcboiemibkkaaE Go.Proofs.YtobcboiemibkkaaB
set_option linter.unusedSimpArgs false
set_option linter.unusedVariables false
attribute [local congr] Post_cg PostL_cg condP_cg

theorem bit_and {lg a b : Nat} (h : b ≠ a) : bit lg a &&& 2 ^ b = 0 := by
  unfold bit
  cases Nat.blt a lg
  · exact Nat.zero_and _
  · exact and_pow (Ne.symm h)
theorem bidne {b q o n : Nat} {c : Option Nat} (h : bid (.slc b o n c) ≠ some q) : q ≠ b := fun e => h (by rw [e]; rfl)
/-- What is read as a row of words; an empty one may have no memory. -/
def SV (x : AV) (h : Mem) (nx : Nat) (l : List Int) : Prop := RV 1 l.length x h 0 nx (u32s l) ∨ (l = [] ∧ ∃ b c, x = .slc b 0 0 c)
theorem SV.lenA {x : AV} {h : Mem} {nx : Nat} {l : List Int} (g : SV x h nx l) : lenA x = some l.length := by
  rcases g with g | ⟨rfl, b, c, rfl⟩
  · exact g.lenA
  · rfl
theorem SV.lenOp {x : AV} {h : Mem} {nx : Nat} {l : List Int} (g : SV x h nx l) : lenOp x = A.ret (.int .i64 l.length) := by
  rcases g with g | ⟨rfl, b, c, rfl⟩
  · exact g.lenOp
  · rfl
theorem SV.form {x : AV} {h : Mem} {nx : Nat} {l : List Int} (g : SV x h nx l) : (x = .nils ∧ l.length = 0) ∨ ∃ b o c, x = .slc b o l.length c := by
  rcases g with g | ⟨rfl, b, c, rfl⟩
  · exact g.form
  · exact .inr ⟨b, 0, c, rfl⟩
theorem read_b {x : AV} {H : Mem} {nx : Nat} {m : List Int} (gx : SV x H nx m) (lg : Nat) : ∃ msk, rdEls 1 m.length x H nx lg = some ⟨u32s m, H, nx, msk, 0⟩ ∧ ∀ q, bid x ≠ some q → msk &&& 2 ^ q = 0 := by
  rcases gx with (⟨rfl, h1, h2⟩ | ⟨b, o, c, K, _, h1, rfl, h2, h3⟩) | ⟨rfl, b, c, rfl⟩
  · refine ⟨0, ?_, fun q _ => Nat.zero_and _⟩
    unfold rdEls
    rw [h1, h2]
    rfl
  · cases m with
    | nil => exact ⟨0, rfl, fun q _ => Nat.zero_and _⟩
    | cons i m =>
    refine ⟨bit lg b, ?_, fun q hq => bit_and (bidne hq)⟩
    have hb : Nat.ble (m.length + 1) (m.length + 1) = true := Nat.ble_eq_true_of_le (Nat.le_refl _)
    rw [List.length_cons] at h3 ⊢
    simp only [rdEls, hb, A.bind, rdBlk, blt_of h1, h2, h3, A.ofOpt, A.ret, Nat.or_zero]
  · exact ⟨0, rfl, fun q _ => Nat.zero_and _⟩
theorem appOp_of {ty sz bytes : Nat} {s x : AV} {H : Mem} {nx lg n : Nat} {m : List AV} {msk : Nat} {r : Rs AV} (hl : lenA x = some n) (hr : rdEls sz n x H nx lg = some ⟨m, H, nx, msk, 0⟩) (ha : appA ty sz bytes n s m H nx lg = some r) : appOp ty sz bytes s x H nx lg = some ⟨r.v, r.h, r.nx, msk ||| r.tc, r.wr⟩ := by
  unfold appOp
  rw [hl]
  unfold A.bind
  simp only [hr, ha, Nat.zero_or]
theorem cat_sv {s : AV} {H : Mem} {nx : Nat} {l : List Int} (g : OR s H nx l) {x : AV} {m : List Int} (gx : SV x H nx m) (hl : l.length + m.length ≤ 1000) (lg : Nat) :
    ∃ s' h' nx' tc wr, appOp 23 1 4 s x H nx lg = some ⟨s', h', nx', tc, wr⟩ ∧ nx ≤ nx' ∧ OR s' h' nx' (l ++ m) ∧ (∀ b, b < nx → bid s ≠ some b → h'.blk b = H.blk b) ∧ (∀ b, bid s' = some b → bid s = some b ∨ nx ≤ b) ∧ (∀ q, bid s ≠ some q → bid x ≠ some q → tc &&& 2 ^ q = 0) ∧ (∀ q, bid s ≠ some q → wr &&& 2 ^ q = 0) := by
  obtain ⟨msk, hr, hm⟩ := read_b gx lg
  have hlen := gx.lenA
  by_cases m0 : m = []
  · subst m0
    have ha : appA 23 1 4 0 s [] H nx lg = some ⟨s, H, nx, 0, 0⟩ := by
      rcases g with ⟨rfl, rfl⟩ | ⟨b, rfl, rfl, hb, K, hK⟩ | ⟨b, t, r, rfl, hb, hK⟩ <;> rfl
    exact ⟨_, _, _, _, _, appOp_of hlen hr ha, Nat.le_refl _, by rw [List.append_nil]; exact g, fun _ _ _ => rfl, fun b hb => .inl hb, fun q h1 h2 => by rw [Nat.or_zero]; exact hm q h2, fun q _ => Nat.zero_and _⟩
  · have mp : 0 < m.length := List.length_pos_iff.2 m0
    have n0 : Nat.beq m.length 0 = false := by cases h : m.length with | zero => omega | succ n => rfl
    have hf : ∀ k, k ≤ 1000 → fits k 4 = true := fun k hk => fits_few (by omega) (by omega)
    have one := u32s_one m
    rcases g with ⟨rfl, rfl⟩ | ⟨b, rfl, rfl, hb, K, hK⟩ | ⟨b, t, r, rfl, hb, hK⟩
    · have ha : appA 23 1 4 m.length .nils (u32s m) H nx lg = some ⟨.slc nx 0 m.length none, H.set nx (some ⟨23, 1, true, true, u32s m⟩), nx + 1, 0, 0⟩ := by
        unfold appA
        rw [n0]
        simp only [hf m.length (by omega), A.bind, newBlk, A.ret, Nat.or_zero]
      refine ⟨_, _, _, _, _, appOp_of hlen hr ha, by simp only; omega, .inr (.inr ⟨nx, 23, [], by simp, by simp only; omega, by rw [Mem.blk_set_same]; simp⟩), fun b hb _ => Mem.blk_set_ne _ _ _ _ (by omega), fun b hb => ?_, fun q h1 h2 => by rw [Nat.or_zero]; exact hm q h2, fun q _ => Nat.zero_and _⟩
      cases hb; exact .inr (Nat.le_refl _)
    · have hble : Nat.ble (0 + m.length) 0 = false := by
        cases hc : Nat.ble (0 + m.length) 0 with
        | false => rfl
        | true => have := Nat.le_of_ble_eq_true hc; omega
      have hsub : sub K.cells 0 (0 * 1) = some [] := by unfold sub; rw [Nat.ble_eq_true_of_le (by simp)]; simp
      have ha : appA 23 1 4 m.length (.slc b 0 0 (some 0)) (u32s m) H nx lg = some ⟨.slc nx 0 (0 + m.length) none, H.set nx (some ⟨23, 1, true, true, [] ++ u32s m⟩), nx + 1, bit lg b, 0⟩ := by
        unfold appA
        rw [n0]
        simp only [hble, hf (0 + m.length) (by omega), A.bind, rdBlk, blt_of hb, hK, hsub, A.ofOpt, newBlk, A.ret, Nat.or_zero, Nat.zero_or]
      refine ⟨_, _, _, _, _, appOp_of hlen hr ha, by simp only; omega, .inr (.inr ⟨nx, 23, [], by simp, by simp only; omega, by rw [Mem.blk_set_same]; simp⟩), fun b hb _ => Mem.blk_set_ne _ _ _ _ (by omega), fun b hb => ?_, fun q h1 h2 => ?_, fun q _ => Nat.zero_and _⟩
      · cases hb; exact .inr (Nat.le_refl _)
      · rw [Nat.and_or_distrib_right, hm q h2, bit_and (bidne h1)]; rfl
    · have blk1 : Nat.beq 1 1 = true := rfl
      have cl : (u32s l ++ r).length = l.length + r.length := by simp [u32s_len]
      by_cases c : l.length + m.length ≤ l.length + r.length
      · have hble : Nat.ble (0 + (l.length + m.length) * 1) (u32s l ++ r).length = true := Nat.ble_eq_true_of_le (by rw [cl]; omega)
        have e3 : lay (u32s l ++ r) (0 + l.length * 1) (u32s m) = u32s (l ++ m) ++ r.drop m.length := by
          rw [Nat.zero_add, Nat.mul_one, show l.length = l.length + 0 from rfl, lay_skip _ _ _ _ _ (u32s_len l).symm, u32s_app, List.append_assoc]
          unfold lay
          simp [u32s_len]
        have e4 : Nat.beq (lay (u32s l ++ r) (0 + l.length * 1) (u32s m)).length (u32s l ++ r).length = true := by
          rw [e3, cl]
          simp only [List.length_append, u32s_len, List.length_drop]
          rw [show l.length + m.length + (r.length - m.length) = l.length + r.length by omega]
          exact Nat.beq_refl _
        rw [e3] at e4
        have ha : appA 23 1 4 m.length (.slc b 0 l.length none) (u32s m) H nx lg = some ⟨.slc b 0 (l.length + m.length) none, H.set b (some ⟨t, 1, true, true, u32s (l ++ m) ++ r.drop m.length⟩), nx, bit lg b, bit lg b⟩ := by
          unfold appA
          rw [n0]
          simp only [A.bind, rdBlk, blt_of hb, hK, blk1, Bool.and_self, one, hble, wrBlk, e3, e4, A.ret, Nat.or_zero, Nat.zero_or, Nat.or_self]
        refine ⟨_, _, _, _, _, appOp_of hlen hr ha, Nat.le_refl _, .inr (.inr ⟨b, t, r.drop m.length, by simp, hb, by rw [Mem.blk_set_same]⟩), fun b' hb' hne => Mem.blk_set_ne _ _ _ _ (bidne hne), fun b' hb' => ?_, fun q h1 h2 => ?_, fun q h1 => bit_and (bidne h1)⟩
        · cases hb'; exact .inl rfl
        · rw [Nat.and_or_distrib_right, hm q h2, bit_and (bidne h1)]; rfl
      · have hble : Nat.ble (0 + (l.length + m.length) * 1) (u32s l ++ r).length = false := by
          cases hc : Nat.ble (0 + (l.length + m.length) * 1) (u32s l ++ r).length with
          | false => rfl
          | true => have := Nat.le_of_ble_eq_true hc; rw [cl] at this; omega
        have hsub : sub (u32s l ++ r) 0 (l.length * 1) = some (u32s l) := by
          unfold sub
          rw [Nat.ble_eq_true_of_le (by rw [cl]; omega), Nat.mul_one, List.drop_zero, List.take_append_of_le_length (by rw [u32s_len]; exact Nat.le_refl _), List.take_of_length_le (by rw [u32s_len]; exact Nat.le_refl _)]
        have ha : appA 23 1 4 m.length (.slc b 0 l.length none) (u32s m) H nx lg = some ⟨.slc nx 0 (l.length + m.length) none, (H.set b none).set nx (some ⟨t, 1, true, true, u32s l ++ u32s m⟩), nx + 1, bit lg b, bit lg b⟩ := by
          unfold appA
          rw [n0]
          simp only [A.bind, rdBlk, blt_of hb, hK, blk1, Bool.and_self, one, hble, hf (l.length + m.length) (by omega), hsub, A.ofOpt, movBlk, A.ret, Nat.or_zero, Nat.zero_or, Nat.or_self]
        refine ⟨_, _, _, _, _, appOp_of hlen hr ha, by simp only; omega, .inr (.inr ⟨nx, t, [], by simp, by simp only; omega, by rw [Mem.blk_set_same, u32s_app]; simp⟩), fun b' hb' hne => ?_, fun b' hb' => ?_, fun q h1 h2 => ?_, fun q h1 => bit_and (bidne h1)⟩
        · rw [Mem.blk_set_ne _ _ _ _ (by omega), Mem.blk_set_ne _ _ _ _ (bidne hne)]
        · cases hb'; exact .inr (Nat.le_refl _)
        · rw [Nat.and_or_distrib_right, hm q h2, bit_and (bidne h1)]; rfl
theorem cat_or {s : AV} {H : Mem} {nx : Nat} {l : List Int} (g : OR s H nx l) {x : AV} {m : List Int} (gx : RV 1 m.length x H 0 nx (u32s m)) (hl : l.length + m.length ≤ 1000) (lg : Nat) :
    ∃ s' h' nx' tc wr, appOp 23 1 4 s x H nx lg = some ⟨s', h', nx', tc, wr⟩ ∧ nx ≤ nx' ∧ OR s' h' nx' (l ++ m) ∧ (∀ b, b < nx → bid s ≠ some b → h'.blk b = H.blk b) ∧ (∀ b, bid s' = some b → bid s = some b ∨ nx ≤ b) ∧ (∀ q, bid s ≠ some q → bid x ≠ some q → tc &&& 2 ^ q = 0) ∧ (∀ q, bid s ≠ some q → wr &&& 2 ^ q = 0) := cat_sv g (.inl gx) hl lg
/-- An empty row that is made. -/
theorem or_new (h : Mem) (nx : Nat) : OR (.slc nx 0 0 (some 0)) (h.set nx (some ⟨23, 1, true, false, []⟩)) (nx + 1) [] := .inr (.inl ⟨nx, rfl, rfl, by omega, _, Mem.blk_set_same ..⟩)
theorem rv_keep {x : AV} {h h' : Mem} {nx nx' : Nat} {m : List Int} (g : RV 1 m.length x h 0 nx (u32s m)) (hn : nx ≤ nx') (e : ∀ b, b < nx → bid x = some b → h'.blk b = h.blk b) : RV 1 m.length x h' 0 nx' (u32s m) := by
  rcases g with g | ⟨b, o, c, K, h1, h2, rfl, h4, h5⟩
  · exact .inl g
  · exact .inr ⟨b, o, c, K, h1, by omega, rfl, by rw [e b h2 rfl]; exact h4, h5⟩
theorem sv_keep {x : AV} {h h' : Mem} {nx nx' : Nat} {m : List Int} (g : SV x h nx m) (hn : nx ≤ nx') (e : ∀ b, b < nx → bid x = some b → h'.blk b = h.blk b) : SV x h' nx' m := by
  rcases g with g | g
  · exact .inl (rv_keep g hn e)
  · exact .inr g
theorem rv_lit {h : Mem} {nx b : Nat} {t : TypeId} {o g : Bool} {m : List Int} (hb : b < nx) (e : h.blk b = some ⟨t, 1, o, g, u32s m⟩) (c : Option Nat) : RV 1 m.length (.slc b 0 m.length c) h 0 nx (u32s m) := by
  refine .inr ⟨b, 0, c, _, by omega, hb, rfl, e, ?_⟩
  unfold sub
  rw [Nat.ble_eq_true_of_le (by simp [u32s_len])]
  simp [u32s_len]
  exact List.take_of_length_le (by rw [u32s_len]; exact Nat.le_refl _)
/-- Clone. -/
theorem clone_sv {x : AV} {h : Mem} {nx : Nat} {l : List Int} (g : SV x h nx l) (hl : l.length ≤ 100) (lg : Nat) (hlg : lg ≤ nx) :
    ∃ v h' nx' tc, (∀ k, xF T (k + 20) 31 [x] h nx lg = some ⟨v, h', nx', tc, 0⟩) ∧ nx ≤ nx' ∧ OR v h' nx' l ∧ (∀ b, b < nx → h'.blk b = h.blk b) ∧ (∀ b, bid v = some b → nx ≤ b) ∧ (∀ q, bid x ≠ some q → tc &&& 2 ^ q = 0) := by
  rcases g.form with ⟨rfl, hz⟩ | ⟨b, o, c, rfl⟩
  · have : l = [] := List.eq_nil_of_length_eq_zero hz
    subst this
    refine ⟨.nils, h, nx, 0, fun k => ?_, Nat.le_refl _, .inl ⟨rfl, rfl⟩, fun _ _ => rfl, (fun b hb => by cases hb), fun q _ => Nat.zero_and _⟩
    rw [xF_fr T31]; apply eq_of_Post
    simp (maxSteps := 4000000) [↓P_skip, ↓P_exit, ↓P_ret, ↓P_seq, ↓P_cond, ↓P_blk, ↓P_reg, ↓P_draw, ↓P_nil, ↓P_cons, condP_t, condP_f, dum_ab, stepR, want_none, want_some, opRun, ev_t, ev_c, put_none, put_some, resAll, res_tmp, res_cell, oneOf, minI, maxI, min2A, max2A, mn2, mx2, mx3, rdBlk, wrBlk, newBlk, partA, abin, ibin, isShift, AV.cells, AV.one, lay, sub, fillA, lenA, toN, allApart, apartFrom, Nat.testBit, Mem.blk_set_same, Mem.blk_set_ne, Mem.set_set, bit_zero, bit_self, lowBits_or, lowBits_zero, len_setT, sl_same, sl_ne, len_frame, sl_frame,↓op_len, lenOp_slc, lenOp_nils, ↓Post.some, ↓Post_bind, ↓Post_ret, ↓Post_draw, ↓PostL_nil, ↓PostL_cons, Post_fail, ofOpt_some, ofOpt_none, eA_b, eA_i, eA_s, eA_nn, eA_np, eA_pn, eA_lnn, eA_lnp, eA_lpn, eA_i2, eA_i3, blt_dec, Nat.add_assoc, keeps_refl, keeps_at, keeps_up, new_one, and_pow, bit_hi, lowBits_pow, ble_dec, fr_refl, fr_at, fr_up, fr_p, dum_ab, F31]
  · have g' := sv_keep (h' := h.set nx (some ⟨23, 1, true, false, []⟩)) g (show nx ≤ nx + 1 by omega) fun b hb _ => Mem.blk_set_ne _ _ _ _ (by omega)
    obtain ⟨v, h', nx', tc, wr, e, e1, e2, e3, e4, e5, e6⟩ := cat_sv (or_new h nx) g' (by simp; omega) lg
    rw [List.nil_append] at e2
    have b0 : bit lg nx = 0 := bit_up hlg
    have frm : ∀ b, b < nx → h'.blk b = h.blk b := fun b hb => by
      rw [e3 b (by omega) (fun h => by cases h; omega), Mem.blk_set_ne _ _ _ _ (by omega)]
    have low : ∀ b, bid v = some b → nx ≤ b := fun b hb => by
      rcases e4 b hb with h | h
      · cases h; exact Nat.le_refl _
      · omega
    have F := Foot.op (call := fun _ _ => A.fail) (fun _ _ => Foot.fail) [] (.app 23 1 4 (.c (.slc nx 0 0 (some 0))) (.c (.slc b o l.length c))) (h.set nx (some ⟨23, 1, true, false, []⟩)) (nx + 1) lg _ (by omega) e
    have w0 : wr = 0 := by
      apply Nat.eq_of_testBit_eq
      intro q
      rw [Nat.zero_testBit]
      cases hq : wr.testBit q with
      | false => rfl
      | true =>
        have h1 := F.low q (F.sub q hq)
        have h2 := e6 q (fun h => by cases h; omega)
        have := congrArg (fun m => m.testBit q) h2
        simp [Nat.testBit_and, hq, Nat.testBit_two_pow_self] at this
    subst w0
    refine ⟨v, h', nx', tc, fun k => ?_, by omega, e2, frm, low, fun q hq => ?_⟩
    · rw [xF_fr T31]; apply eq_of_Post
      simp (maxSteps := 4000000) [↓step_none, ↓op_slice, ↓op_app, ↓P_skip, ↓P_exit, ↓P_ret, ↓P_seq, ↓P_cond, ↓P_blk, ↓P_reg, ↓P_draw, ↓P_nil, ↓P_cons, condP_t, condP_f, dum_ab, stepR, want_none, want_some, opRun, ev_t, ev_c, put_none, put_some, resAll, res_tmp, res_cell, oneOf, minI, maxI, min2A, max2A, mn2, mx2, mx3, rdBlk, wrBlk, newBlk, partA, abin, ibin, isShift, AV.cells, AV.one, lay, sub, fillA, lenA, toN, allApart, apartFrom, Nat.testBit, Mem.blk_set_same, Mem.blk_set_ne, Mem.set_set, bit_zero, bit_self, lowBits_or, lowBits_zero, len_setT, sl_same, sl_ne, len_frame, sl_frame,↓op_len, lenOp_slc, lenOp_nils, ↓Post.some, ↓Post_bind, ↓Post_ret, ↓Post_draw, ↓PostL_nil, ↓PostL_cons, Post_fail, ofOpt_some, ofOpt_none, eA_b, eA_i, eA_s, eA_nn, eA_np, eA_pn, eA_lnn, eA_lnp, eA_lpn, eA_i2, eA_i3, blt_dec, Nat.add_assoc, keeps_refl, keeps_at, keeps_up, new_one, and_pow, bit_hi, lowBits_pow, ble_dec, fr_refl, fr_at, fr_up, fr_p, dum_ab, F31, e, reps, b0]
    · by_cases c : q = nx
      · subst c
        apply Nat.eq_of_testBit_eq
        intro i
        rw [Nat.testBit_and, Nat.testBit_two_pow, Nat.zero_testBit]
        by_cases ci : q = i
        · subst ci
          cases ht : tc.testBit q with
          | false => rfl
          | true => have := F.low q ht; omega
        · simp [ci]
      · exact e5 q (fun h => by cases h; exact c rfl) hq
theorem clone_or {x : AV} {h : Mem} {nx : Nat} {l : List Int} (g : RV 1 l.length x h 0 nx (u32s l)) (hl : l.length ≤ 100) (lg : Nat) (hlg : lg ≤ nx) :
    ∃ v h' nx' tc, (∀ k, xF T (k + 20) 31 [x] h nx lg = some ⟨v, h', nx', tc, 0⟩) ∧ nx ≤ nx' ∧ OR v h' nx' l ∧ (∀ b, b < nx → h'.blk b = h.blk b) ∧ (∀ b, bid v = some b → nx ≤ b) ∧ (∀ q, bid x ≠ some q → tc &&& 2 ^ q = 0) := clone_sv (.inl g) hl lg hlg
end Go.Proofs.YtobcboiemibkkaaT
