/- Ring: a ring and the document's ring, side by side. -/
import Derived.Test.YtelciflkmkpibaaRef5
import Derived.Test.YtelciflkmkpibaaIn
namespace Go.Proofs.YtelciflkmkpibaaT
open Go Go.Proofs.YtelciflkmkpibaaE Go.Proofs.YtelciflkmkpibaaB
set_option linter.unusedSimpArgs false
set_option linter.unusedVariables false
attribute [local congr] Post_cg PostL_cg condP_cg

theorem Link.inn {X Y L : List Int} (k : Link X Y L) (i : Int) : inR X i = true ↔ i ∈ L := by
  constructor
  · intro h
    obtain ⟨c1, c2⟩ := inR_in h
    by_cases c : i ∈ L
    · exact c
    · have := k.off i c1 c2 c
      unfold gx at this
      unfold inR at h
      rw [this] at h
      simp at h
  · intro h
    obtain ⟨u, v, rfl, hu⟩ := mem_split h
    obtain ⟨a, b, d⟩ := k.apart
    have e := k.ends.1.1
    unfold gx at e
    unfold inR
    simp only [b.1, b.2, e, decide_true, Bool.and_self]
theorem Link.inF {X Y L : List Int} (k : Link X Y L) {i : Int} (h : i ∉ L) : inR X i = false := by
  cases c : inR X i with
  | false => rfl
  | true => exact absurd ((k.inn i).1 c) h
theorem Link.valid {X Y L : List Int} (k : Link X Y L) : Valid X Y := by
  intro i h
  obtain ⟨u, v, rfl, hu⟩ := mem_split ((k.inn i).1 h)
  exact k.ends
theorem Link.nextI {X Y u v : List Int} {i : Int} (k : Link X Y (u ++ i :: v)) : nextO X i = (v ++ u).headD i := by
  unfold nextO
  rw [(k.inn i).2 (by simp)]
  exact k.next.1
theorem Link.nextN {X Y L : List Int} (k : Link X Y L) {i : Int} (h : i ∉ L) : nextO X i = -1 := by
  unfold nextO
  rw [k.inF h]
  rfl
theorem Link.prevI {X Y u v : List Int} {i : Int} (k : Link X Y (u ++ i :: v)) : prevO X Y i = (v ++ u).getLastD i := by
  unfold prevO
  rw [(k.inn i).2 (by simp)]
  exact k.prev
theorem Link.prevN {X Y L : List Int} (k : Link X Y L) {i : Int} (h : i ∉ L) : prevO X Y i = -1 := by
  unfold prevO
  rw [k.inF h]
  rfl
theorem Link.from {X Y u v : List Int} {i : Int} (k : Link X Y (u ++ i :: v)) {h : Mem} {nx p bn bp : Nat} {c : Int} (r : Rg h nx p bn bp X Y c) (hl : (u ++ i :: v).length ≤ 100) : Mk 300 14 [.ptr p 0, .int .i64 i] h nx (i :: (v ++ u)) := by
  refine from_in r i (v ++ u) ?_ ((k.inn i).2 (by simp)) k.next.1 k.next.2
  simp only [List.length_append, List.length_cons] at hl ⊢
  omega
theorem Link.fromN {X Y L : List Int} (k : Link X Y L) {i : Int} (hi : i ∉ L) {h : Mem} {nx p bn bp : Nat} {c : Int} (r : Rg h nx p bn bp X Y c) : Mk 300 14 [.ptr p 0, .int .i64 i] h nx [] := from_out r i (k.inF hi)

/-- A ring and the document's. -/
structure J (h : Mem) (nx p bn bp q : Nat) (X Y L : List Int) (n : Nat) : Prop where
  r : Rg h nx p bn bp X Y L.length
  k : Link X Y L
  len : X.length = n
  w : Wr h nx q n L
  lp : p < q
  lbn : bn < q
  lbp : bp < q
theorem J.keep {h h' : Mem} {nx nx' p bn bp q : Nat} {X Y L : List Int} {n : Nat} (j : J h nx p bn bp q X Y L n) (hn : nx ≤ nx') (e : Keeps nx h h') : J h' nx' p bn bp q X Y L n :=
  ⟨j.r.keep hn e, j.k, j.len, j.w.keep hn fun b _ hb => e b hb, j.lp, j.lbn, j.lbp⟩
theorem J.le {h : Mem} {nx p bn bp q : Nat} {X Y L : List Int} {n : Nat} (j : J h nx p bn bp q X Y L n) : L.length ≤ n := by
  have h1 : L.Nodup := j.k.nd
  have h2 : ∀ x ∈ L, x ∈ lits n := by
    intro x hx
    obtain ⟨a, b⟩ := j.k.dom x hx
    unfold lits
    rw [List.mem_map]
    exact ⟨x.toNat, by rw [List.mem_range]; have := j.len; omega, by omega⟩
  have := List.Nodup.length_le_of_subset h1 h2
  rw [lits_len] at this
  exact this

set_option maxHeartbeats 8000000 in
theorem same_ok {h : Mem} {nx p bn bp q : Nat} {X Y L : List Int} {n : Nat} (j : J h nx p bn bp q X Y L n) (hn : n ≤ 60) (i : Int) (lg : Nat) (hlg : lg ≤ nx) : Post (xF T 900 21 [.ptr p 0, .ptr q 0, .int .i64 i] h nx lg) fun v h' nx' tc wr => v = .bool true ∧ nx ≤ nx' ∧ Keeps nx h h' := by
  have hL := j.le
  have jr := j.r
  have jk := j.k
  have jw := j.w
  by_cases c : i ∈ L
  · obtain ⟨u, v, e, hu⟩ := mem_split c
    obtain ⟨tc1, x1⟩ := (next_rd jr i).at nx (Nat.le_refl _)
    obtain ⟨tc2, x2⟩ := (prev_rd jr i).at nx (Nat.le_refl _)
    obtain ⟨tc3, x3⟩ := (wnext_rd jw (by omega) e hu).at nx (Nat.le_refl _)
    obtain ⟨tc4, x4⟩ := (wprev_rd jw (by omega) e hu).at nx (Nat.le_refl _)
    have k' := jk
    rw [e] at k'
    rw [k'.nextI] at x1
    rw [k'.prevI] at x2
    obtain ⟨v5, h5, nx5, tc5, wr5, x5, n5, g5, kp5⟩ := (k'.from jr (by rw [← e]; omega)).at nx (Nat.le_refl _)
    have j5 := j.keep n5 kp5
    obtain ⟨v6, h6, nx6, tc6, wr6, x6, n6, g6, kp6⟩ := (wfrom_in j5.w (by omega) e hu).at nx5 (Nat.le_refl _)
    have j6 := j5.keep n6 kp6
    have g5' := g5.irow.keep (nx' := nx6) n6 kp6
    have ll : (i :: (v ++ u)).length ≤ 150 := by
      have := hL
      rw [e] at this
      simp only [List.length_append, List.length_cons] at this ⊢
      omega
    obtain ⟨tc7, wr7, x7⟩ := same_eq ll g5' g6.irow nx6 (Nat.le_refl _)
    obtain ⟨tc8, x8⟩ := (len_rd j6.r).at nx6 (Nat.le_refl _)
    obtain ⟨⟨t, s, e1, gl⟩, hq⟩ := j6.w
    have hs : (s = .nils ∧ L.length = 0) ∨ ∃ b c, s = .slc b 0 L.length c := by
      rcases gl.irow with ⟨rfl, rfl⟩ | ⟨b, c, rfl, _⟩
      · exact .inl ⟨rfl, rfl⟩
      · exact .inr ⟨b, c, rfl⟩
    generalize L.length = m at *
    rw [xF_fr T21]
    rcases hs with ⟨rfl, rfl⟩ | ⟨b, c, rfl⟩
    all_goals
      simp (maxSteps := 4000000) [↓P_skip, ↓P_exit, ↓P_ret, ↓P_seq, ↓P_cond, ↓P_blk, ↓P_reg, ↓P_draw, ↓P_nil, ↓P_cons, condP_t, condP_f, dum_ab, stepR, want_none, want_some, opRun, ev_t, ev_c, put_none, put_some, resAll, res_tmp, res_cell, oneOf, minI, maxI, min2A, max2A, mn2, mx2, mx3, rdBlk, wrBlk, newBlk, partA, abin, ibin, isShift, AV.cells, AV.one, lay, sub, fillA, lenA, toN, allApart, apartFrom, Nat.testBit, Mem.blk_set_same, Mem.blk_set_ne, Mem.set_set, bit_zero, bit_self, lowBits_or, lowBits_zero, len_setT, sl_same, sl_ne, len_frame, sl_frame,↓op_len, lenOp_slc, lenOp_nils, ↓Post.some, ↓Post_bind, ↓Post_ret, ↓Post_draw, ↓PostL_nil, ↓PostL_cons, Post_fail, ofOpt_some, ofOpt_none, eA_b, eA_i, eA_s, eA_nn, eA_np, eA_pn, eA_lnn, eA_lnp, eA_lpn, eA_i2, eA_i3, blt_dec, Nat.add_assoc, keeps_refl, keeps_at, keeps_up, new_one, and_pow, bit_hi, lowBits_pow, ble_dec, fr_refl, fr_at, fr_up, fr_p, dum_ab, F21, x1, x2, x3, x4, x5, x6, x7, x8, e1, hq]
      exact ⟨by omega, kp5.trans kp6 n5⟩
  · obtain ⟨tc1, x1⟩ := (next_rd jr i).at nx (Nat.le_refl _)
    obtain ⟨tc2, x2⟩ := (prev_rd jr i).at nx (Nat.le_refl _)
    obtain ⟨tc3, x3⟩ := (wnext_no jw (by omega) c).at nx (Nat.le_refl _)
    obtain ⟨tc4, x4⟩ := (wprev_no jw (by omega) c).at nx (Nat.le_refl _)
    rw [jk.nextN c] at x1
    rw [jk.prevN c] at x2
    obtain ⟨v5, h5, nx5, tc5, wr5, x5, n5, g5, kp5⟩ := (jk.fromN c jr).at nx (Nat.le_refl _)
    have j5 := j.keep n5 kp5
    obtain ⟨v6, h6, nx6, tc6, wr6, x6, n6, g6, kp6⟩ := (wfrom_no j5.w (by omega) c).at nx5 (Nat.le_refl _)
    have j6 := j5.keep n6 kp6
    have g5' := g5.irow.keep (nx' := nx6) n6 kp6
    obtain ⟨tc7, wr7, x7⟩ := same_eq (by simp) g5' g6.irow nx6 (Nat.le_refl _)
    obtain ⟨tc8, x8⟩ := (len_rd j6.r).at nx6 (Nat.le_refl _)
    obtain ⟨⟨t, s, e1, gl⟩, hq⟩ := j6.w
    have hs : (s = .nils ∧ L.length = 0) ∨ ∃ b c, s = .slc b 0 L.length c := by
      rcases gl.irow with ⟨rfl, rfl⟩ | ⟨b, c, rfl, _⟩
      · exact .inl ⟨rfl, rfl⟩
      · exact .inr ⟨b, c, rfl⟩
    generalize L.length = m at *
    rw [xF_fr T21]
    rcases hs with ⟨rfl, rfl⟩ | ⟨b, c, rfl⟩
    all_goals
      simp (maxSteps := 4000000) [↓P_skip, ↓P_exit, ↓P_ret, ↓P_seq, ↓P_cond, ↓P_blk, ↓P_reg, ↓P_draw, ↓P_nil, ↓P_cons, condP_t, condP_f, dum_ab, stepR, want_none, want_some, opRun, ev_t, ev_c, put_none, put_some, resAll, res_tmp, res_cell, oneOf, minI, maxI, min2A, max2A, mn2, mx2, mx3, rdBlk, wrBlk, newBlk, partA, abin, ibin, isShift, AV.cells, AV.one, lay, sub, fillA, lenA, toN, allApart, apartFrom, Nat.testBit, Mem.blk_set_same, Mem.blk_set_ne, Mem.set_set, bit_zero, bit_self, lowBits_or, lowBits_zero, len_setT, sl_same, sl_ne, len_frame, sl_frame,↓op_len, lenOp_slc, lenOp_nils, ↓Post.some, ↓Post_bind, ↓Post_ret, ↓Post_draw, ↓PostL_nil, ↓PostL_cons, Post_fail, ofOpt_some, ofOpt_none, eA_b, eA_i, eA_s, eA_nn, eA_np, eA_pn, eA_lnn, eA_lnp, eA_lpn, eA_i2, eA_i3, blt_dec, Nat.add_assoc, keeps_refl, keeps_at, keeps_up, new_one, and_pow, bit_hi, lowBits_pow, ble_dec, fr_refl, fr_at, fr_up, fr_p, dum_ab, F21, x1, x2, x3, x4, x5, x6, x7, x8, e1, hq]
      exact ⟨by omega, kp5.trans kp6 n5⟩
end Go.Proofs.YtelciflkmkpibaaT
