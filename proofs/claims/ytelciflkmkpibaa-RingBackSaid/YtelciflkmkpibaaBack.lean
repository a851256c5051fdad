/- Ring: RingBack. -/
import Derived.Test.YtelciflkmkpibaaRound
namespace Go.Proofs.YtelciflkmkpibaaT
open Go Go.Proofs.YtelciflkmkpibaaE Go.Proofs.YtelciflkmkpibaaB
set_option linter.unusedSimpArgs false
set_option linter.unusedVariables false
attribute [local congr] Post_cg PostL_cg condP_cg

theorem split_uniq {x : Int} : ∀ {a b c d : List Int}, a ++ x :: b = c ++ x :: d → (a ++ x :: b).Nodup → a = c ∧ b = d := by
  intro a
  induction a with
  | nil =>
    intro b c d e nd
    cases c with
    | nil => simp at e; exact ⟨rfl, e⟩
    | cons y c =>
      simp only [List.nil_append, List.cons_append, List.cons.injEq] at e
      obtain ⟨rfl, rfl⟩ := e
      simp at nd
  | cons y a ih =>
    intro b c d e nd
    cases c with
    | nil =>
      simp only [List.nil_append, List.cons_append, List.cons.injEq] at e
      obtain ⟨rfl, rfl⟩ := e
      simp at nd
    | cons z c =>
      simp only [List.cons_append, List.cons.injEq] at e
      obtain ⟨rfl, e⟩ := e
      rw [List.cons_append, List.nodup_cons] at nd
      obtain ⟨rfl, rfl⟩ := ih e nd.2
      exact ⟨rfl, rfl⟩
/-- From one on, round. -/
theorem turn_same {s t u v u2 v2 : List Int} {x : Int} (h1 : t ++ s = u ++ x :: v) (h2 : s ++ t = u2 ++ x :: v2) (nd : (s ++ t).Nodup) : v ++ u = v2 ++ u2 := by
  have nd2 : (t ++ s).Nodup := (List.perm_append_comm.nodup_iff).1 nd
  have hx : x ∈ s ++ t := by rw [h2]; simp
  rcases List.mem_append.1 hx with hx | hx
  · obtain ⟨s1, s2, rfl, _⟩ := mem_split hx
    have e1 : (t ++ s1) ++ x :: s2 = u ++ x :: v := by rw [← h1]; simp
    have e2 : s1 ++ x :: (s2 ++ t) = u2 ++ x :: v2 := by rw [← h2]; simp
    obtain ⟨rfl, rfl⟩ := split_uniq e1 (by rw [e1, ← h1]; exact nd2)
    obtain ⟨rfl, rfl⟩ := split_uniq e2 (by rw [e2, ← h2]; exact nd)
    simp
  · obtain ⟨t1, t2, rfl, _⟩ := mem_split hx
    have e1 : t1 ++ x :: (t2 ++ s) = u ++ x :: v := by rw [← h1]; simp
    have e2 : (s ++ t1) ++ x :: t2 = u2 ++ x :: v2 := by rw [← h2]; simp
    obtain ⟨rfl, rfl⟩ := split_uniq e1 (by rw [e1, ← h1]; exact nd2)
    obtain ⟨rfl, rfl⟩ := split_uniq e2 (by rw [e2, ← h2]; exact nd)
    simp

/-- One goes in again ahead of the one that was behind it. -/
theorem K.back {h : Mem} {nx p bn bp : Nat} {X Y u v : List Int} {x : Int} {n : Nat} (j : K h nx p bn bp X Y (u ++ v) n) (hx : 0 ≤ x ∧ x < n) (hn : n ≤ 60) (hnx : x ∉ u ++ v) (hne : v ++ u ≠ []) :
    ∃ X' Y' L', Ch 60 16 [.ptr p 0, .int .i64 x, .int .i64 ((v ++ u).headD x)] h nx p bn bp (.bool true) X' Y' L'.length ∧ Link X' Y' L' ∧ X'.length = n ∧ ((L' = u ++ x :: v) ∨ (v = [] ∧ L' = x :: u)) := by
  have hL := j.le
  have ni := j.k.inF hnx
  have go : ∀ (u1 v1 : List Int) (a : Int), u ++ v = u1 ++ a :: v1 → (v ++ u).headD x = a → ∃ X' Y', Ch 60 16 [.ptr p 0, .int .i64 x, .int .i64 ((v ++ u).headD x)] h nx p bn bp (.bool true) X' Y' (u1 ++ x :: a :: v1).length ∧ Link X' Y' (u1 ++ x :: a :: v1) ∧ X'.length = n := by
    intro u1 v1 a e ha
    rw [ha]
    have k := j.k
    rw [e] at k
    have ch := in_mid j.r j.k.valid (by omega) x a hx.1 (by rw [j.len]; exact hx.2) ni ((j.k.inn a).2 (by rw [e]; simp))
    have ln : ((u1 ++ x :: a :: v1).length : Int) = ((u ++ v).length : Int) + 1 := by rw [e]; simp; omega
    rw [← ln] at ch
    exact ⟨_, _, ch, k.put (by rw [j.len]; exact hx) (by rw [← e]; exact hnx), by rw [← j.len]; unfold inX; simp⟩
  cases v with
  | nil =>
    cases u with
    | nil => exact absurd rfl hne
    | cons a u =>
      obtain ⟨X', Y', h1, h2, h3⟩ := go [] u a (by simp) rfl
      exact ⟨X', Y', x :: a :: u, h1, h2, h3, .inr ⟨rfl, rfl⟩⟩
  | cons a v =>
    obtain ⟨X', Y', h1, h2, h3⟩ := go u v a rfl rfl
    exact ⟨X', Y', _, h1, h2, h3, .inl rfl⟩

def Rot (L n : List Int) : Prop := ∃ s t, n = s ++ t ∧ L = t ++ s
structure Two (h : Mem) (nx p bn bp p2 bn2 bp2 : Nat) (X Y L : List Int) (n : Nat) : Prop where
  a : K h nx p bn bp X Y L n
  b : K h nx p2 bn2 bp2 (newX n) (newY n) (lits n) n
  d1 : p2 ≠ p ∧ p2 ≠ bn ∧ p2 ≠ bp
  d2 : bn2 ≠ p ∧ bn2 ≠ bn ∧ bn2 ≠ bp
  d3 : bp2 ≠ p ∧ bp2 ≠ bn ∧ bp2 ≠ bp
  rot : Rot L (lits n)
theorem lits_mem {n : Nat} {x : Int} : x ∈ lits n ↔ 0 ≤ x ∧ x < n := by
  unfold lits
  rw [List.mem_map]
  constructor
  · rintro ⟨i, hi, rfl⟩
    rw [List.mem_range] at hi
    omega
  · rintro ⟨h1, h2⟩
    exact ⟨x.toNat, by rw [List.mem_range]; omega, by omega⟩
theorem Rot.mem {L n : List Int} (r : Rot L n) (x : Int) : x ∈ L ↔ x ∈ n := by
  obtain ⟨s, t, rfl, rfl⟩ := r
  simp [or_comm]
theorem Rot.len {L n : List Int} (r : Rot L n) : L.length = n.length := by
  obtain ⟨s, t, rfl, rfl⟩ := r
  simp [Nat.add_comm]
/-- Both tell the same, from a place on. -/
theorem Two.same {h : Mem} {nx p bn bp p2 bn2 bp2 : Nat} {X Y L : List Int} {n : Nat} (j : Two h nx p bn bp p2 bn2 bp2 X Y L n) (hn : n ≤ 60) {x : Int} (hx : 0 ≤ x ∧ x < n) :
    ∃ v1 h1 nx1 tc1 wr1 v2 h2 nx2 tc2 wr2 tc3 wr3, (∀ k, xF T (k + 300) 14 [.ptr p 0, .int .i64 x] h nx 0 = some ⟨v1, h1, nx1, tc1, wr1⟩) ∧ (∀ k, xF T (k + 300) 14 [.ptr p2 0, .int .i64 x] h1 nx1 0 = some ⟨v2, h2, nx2, tc2, wr2⟩) ∧ (∀ k, xF T (k + 300) 17 [v1, v2] h2 nx2 0 = some ⟨.bool true, h2, nx2, tc3, wr3⟩) ∧ nx ≤ nx2 ∧ Keeps nx h h2 := by
  have hL := j.a.le
  have m1 : x ∈ lits n := lits_mem.2 hx
  have m2 : x ∈ L := (j.rot.mem x).2 m1
  obtain ⟨u, v, e, _⟩ := mem_split m2
  obtain ⟨u2, v2, e2, _⟩ := mem_split m1
  obtain ⟨s, t, q1, q2⟩ := j.rot
  have k1 := j.a.k
  have k2 := j.b.k
  rw [e] at k1
  rw [e2] at k2
  have ts : v ++ u = v2 ++ u2 := turn_same (by rw [← q2]; exact e) (by rw [← q1]; exact e2) (by rw [← q1]; exact j.b.k.nd)
  obtain ⟨y1, h1, nx1, tc1, wr1, x1, n1, g1, kp1⟩ := (k1.from j.a.r (by rw [← e]; omega)).at 0 (by omega)
  have b1 := j.b.keep n1 kp1
  have l2 := b1.le
  obtain ⟨y2, h2, nx2, tc2, wr2, x2, n2, g2, kp2⟩ := (k2.from b1.r (by rw [← e2]; omega)).at 0 (by omega)
  rw [ts] at g1
  have ll : (x :: (v2 ++ u2)).length ≤ 150 := by
    rw [e2] at l2
    simp only [List.length_append, List.length_cons] at l2 ⊢
    omega
  obtain ⟨tc3, wr3, x3⟩ := same_eq ll (g1.irow.keep (nx' := nx2) n2 kp2) g2.irow 0 (by omega)
  exact ⟨y1, h1, nx1, tc1, wr1, y2, h2, nx2, tc2, wr2, tc3, wr3, x1, x2, x3, by omega, kp1.trans kp2 n1⟩
theorem Two.keep {h h' : Mem} {nx nx' p bn bp p2 bn2 bp2 : Nat} {X Y L : List Int} {n : Nat} (j : Two h nx p bn bp p2 bn2 bp2 X Y L n) (hn : nx ≤ nx') (e : Keeps nx h h') : Two h' nx' p bn bp p2 bn2 bp2 X Y L n := ⟨j.a.keep hn e, j.b.keep hn e, j.d1, j.d2, j.d3, j.rot⟩

def BkI (n : Nat) (v : AV) (l : List Int) (h0 : Mem) (base : Nat) (m : Nat) (ts : List AV) (h : Mem) (nx tc wr : Nat) : Prop := ∃ (i p bn bp p2 bn2 bp2 : Nat) (X Y L : List Int), m = 40 - i ∧ i ≤ 40 ∧ ts.length = 84 ∧ sl ts 8 = .int .i64 i ∧ sl ts 1 = v ∧ sl ts 5 = .int .i64 n ∧ sl ts 6 = .ptr p 0 ∧ sl ts 7 = .ptr p2 0 ∧ base ≤ p ∧ base ≤ bn ∧ base ≤ bp ∧ base ≤ nx ∧ Two h nx p bn bp p2 bn2 bp2 X Y L n ∧ Keeps base h0 h
def BkR (n : Nat) (h0 : Mem) (base : Nat) (e : Ex) (ts : List AV) (h : Mem) (nx tc wr : Nat) : Prop := e = .exit 0 ∧ ∃ (p bn bp p2 bn2 bp2 : Nat) (X Y L : List Int), ts.length = 84 ∧ sl ts 6 = .ptr p 0 ∧ sl ts 7 = .ptr p2 0 ∧ Two h nx p bn bp p2 bn2 bp2 X Y L n
set_option maxHeartbeats 16000000 in
theorem bk_round (n : Nat) (hn : 2 ≤ n ∧ n ≤ 60) (v : AV) (l : List Int) (h0 : Mem) (base : Nat) (hr : IRow .i64 v h0 base l) (m : Nat) (ts : List AV) (h : Mem) (nx tc wr : Nat) (hi : BkI n v l h0 base m ts h nx tc wr) :
    Post (xC T 500 L6_0b ts h nx 0) fun v' h' nx' tc' wr' => Round (BkI n v l h0 base) (BkR n h0 base) m v' h' nx' (tc ||| tc') (wr ||| wr') := by
  obtain ⟨i, p, bn, bp, p2, bn2, bp2, X, Y, L, rfl, hi, hlen, g8, g1, g5, g6, g7, b1, b2, b3, hbn, j, kp⟩ := hi
  by_cases c1 : i < l.length
  · have c1' : (i : Int) < (l.length : Int) := by omega
    by_cases c2 : i < 40
    · have c2' : (i : Int) < 40 := by omega
      obtain ⟨bb, c, KK, rfl, hb, hK, hx⟩ := hr.at c1
      have hK' : h.blk bb = some KK := (kp bb hb).trans hK
      have hbx : bb < nx := by omega
      have ci : IntKind.i64.wrap ((i : Int) + 1) = ((i + 1 : Nat) : Int) := by rw [IntKind.wrap_i64]; omega
      have wn : IntKind.i64.wrap ((n : Int) - 1) = (n : Int) - 1 := by rw [IntKind.wrap_i64]; omega
      generalize l[i] = x at hx
      obtain ⟨r, r1, r2, wx⟩ := within_ex x 0 ((n : Int) - 1) (by omega) (by omega) (by omega)
      have m2 : r ∈ L := (j.rot.mem r).2 (lits_mem.2 (by omega))
      have ll := j.rot.len
      rw [lits_len] at ll
      obtain ⟨b, X1, Y1, L1, ch, lk, ln, alt⟩ := j.a.out (by omega) r
      rcases alt with ⟨_, _, no⟩ | ⟨rfl, u, w, e, rfl, _, _⟩
      · exact absurd m2 no
      have k1 := j.a.k
      rw [e] at k1
      obtain ⟨_, x0⟩ := (next_rd j.a.r r).at 0 (by omega)
      rw [k1.nextI] at x0
      obtain ⟨h1, tc1, wr1, x1, rg1, f1, _⟩ := ch.at 0 (by omega)
      have nd : r ∉ u ++ w := by
        have := (k1.apart).1
        rw [List.nodup_cons] at this
        intro hh
        apply this.1
        rw [List.mem_append] at hh ⊢
        exact hh.symm
      have ne : w ++ u ≠ [] := by
        intro hh
        have : (w ++ u).length = 0 := by rw [hh]; rfl
        rw [e] at ll
        simp only [List.length_append, List.length_cons] at ll this
        omega
      have j1 : K h1 nx p bn bp X1 Y1 (u ++ w) n := ⟨rg1, lk, ln⟩
      have lu : (((u ++ w).length : Nat) : Int) = (n : Int) - 1 := by
        rw [e] at ll
        simp only [List.length_append, List.length_cons] at ll ⊢
        omega
      obtain ⟨_, x2⟩ := (len_rd rg1).at 0 (by omega)
      rw [lu] at x2
      obtain ⟨_, x3⟩ := (next_rd rg1 r).at 0 (by omega)
      rw [lk.nextN nd] at x3
      obtain ⟨X2, Y2, L2, ch2, lk2, ln2, alt2⟩ := j1.back (by omega) (by omega) nd ne
      obtain ⟨h2, tc2, wr2, x4, rg2, f2, _⟩ := ch2.at 0 (by omega)
      have rot2 : Rot L2 (lits n) := by
        rcases alt2 with rfl | ⟨rfl, rfl⟩
        · rw [← e]; exact j.rot
        · obtain ⟨s, t, q1, q2⟩ := j.rot
          rw [e] at q2
          rcases split_last s with rfl | ⟨s', z, rfl⟩
          · simp only [List.append_nil, List.nil_append] at q1 q2
            exact ⟨u, [r], by rw [q1, ← q2], rfl⟩
          · have q3 : u ++ [r] = (t ++ s') ++ [z] := by rw [q2]; simp
            obtain ⟨q4, q5⟩ := List.append_inj' q3 rfl
            subst q4
            simp only [List.cons.injEq, and_true] at q5
            subst q5
            exact ⟨s', r :: t, by rw [q1]; simp, by simp⟩
      have fr : ∀ b, b ≠ p → b ≠ bn → b ≠ bp → h2.blk b = h.blk b := fun b h1 h3 h4 => by rw [f2 b h1 h3 h4, f1 b h1 h3 h4]
      have j2 : Two h2 nx p bn bp p2 bn2 bp2 X2 Y2 L2 n := ⟨⟨rg2, lk2, ln2⟩, ⟨j.b.r.stay (Nat.le_refl _) (fr _ j.d1.1 j.d1.2.1 j.d1.2.2) (fr _ j.d2.1 j.d2.2.1 j.d2.2.2) (fr _ j.d3.1 j.d3.2.1 j.d3.2.2), j.b.k, j.b.len⟩, j.d1, j.d2, j.d3, rot2⟩
      obtain ⟨v5, h5, nx5, tc5, wr5, v6, h6, nx6, tc6, wr6, tc7, wr7, x5, x6, x7, n6, k6⟩ := j2.same (by omega) (x := r) (by omega)
      generalize (w ++ u).headD r = nxt at *
      simp (maxSteps := 4000000) [↓P_skip, ↓P_exit, ↓P_ret, ↓P_seq, ↓P_cond, ↓P_blk, ↓P_reg, ↓P_draw, ↓P_nil, ↓P_cons, condP_t, condP_f, dum_ab, stepR, want_none, want_some, opRun, ev_t, ev_c, put_none, put_some, resAll, res_tmp, res_cell, oneOf, minI, maxI, min2A, max2A, mn2, mx2, mx3, rdBlk, wrBlk, newBlk, partA, abin, ibin, isShift, AV.cells, AV.one, lay, sub, fillA, lenA, toN, allApart, apartFrom, Nat.testBit, Mem.blk_set_same, Mem.blk_set_ne, Mem.set_set, bit_zero, bit_self, lowBits_or, lowBits_zero, len_setT, sl_same, sl_ne, len_frame, sl_frame,↓op_len, lenOp_slc, lenOp_nils, ↓Post.some, ↓Post_bind, ↓Post_ret, ↓Post_draw, ↓PostL_nil, ↓PostL_cons, Post_fail, ofOpt_some, ofOpt_none, eA_b, eA_i, eA_s, eA_nn, eA_np, eA_pn, eA_lnn, eA_lnp, eA_lpn, eA_i2, eA_i3, blt_dec, Nat.add_assoc, keeps_refl, keeps_at, keeps_up, new_one, and_pow, bit_hi, lowBits_pow, ble_dec, fr_refl, fr_at, fr_up, fr_p, dum_ab, L6_0b, hlen, g1, g5, g6, g7, g8, c1, c1', c2', hbx, hK', hx, wn, wx, x0, x1, x2, x3, x4, x5, x6, x7, ci]
      exact Round.nor (m' := 40 - (i + 1)) (by omega) ⟨i + 1, p, bn, bp, p2, bn2, bp2, X2, Y2, L2, rfl, by omega, by simp [↓P_skip, ↓P_exit, ↓P_ret, ↓P_seq, ↓P_cond, ↓P_blk, ↓P_reg, ↓P_draw, ↓P_nil, ↓P_cons, condP_t, condP_f, dum_ab, stepR, want_none, want_some, opRun, ev_t, ev_c, put_none, put_some, resAll, res_tmp, res_cell, oneOf, minI, maxI, min2A, max2A, mn2, mx2, mx3, rdBlk, wrBlk, newBlk, partA, abin, ibin, isShift, AV.cells, AV.one, lay, sub, fillA, lenA, toN, allApart, apartFrom, Nat.testBit, Mem.blk_set_same, Mem.blk_set_ne, Mem.set_set, bit_zero, bit_self, lowBits_or, lowBits_zero, len_setT, sl_same, sl_ne, len_frame, sl_frame,↓op_len, lenOp_slc, lenOp_nils, ↓Post.some, ↓Post_bind, ↓Post_ret, ↓Post_draw, ↓PostL_nil, ↓PostL_cons, Post_fail, ofOpt_some, ofOpt_none, eA_b, eA_i, eA_s, eA_nn, eA_np, eA_pn, eA_lnn, eA_lnp, eA_lpn, eA_i2, eA_i3, blt_dec, Nat.add_assoc, keeps_refl, keeps_at, keeps_up, hlen], by simp [↓P_skip, ↓P_exit, ↓P_ret, ↓P_seq, ↓P_cond, ↓P_blk, ↓P_reg, ↓P_draw, ↓P_nil, ↓P_cons, condP_t, condP_f, dum_ab, stepR, want_none, want_some, opRun, ev_t, ev_c, put_none, put_some, resAll, res_tmp, res_cell, oneOf, minI, maxI, min2A, max2A, mn2, mx2, mx3, rdBlk, wrBlk, newBlk, partA, abin, ibin, isShift, AV.cells, AV.one, lay, sub, fillA, lenA, toN, allApart, apartFrom, Nat.testBit, Mem.blk_set_same, Mem.blk_set_ne, Mem.set_set, bit_zero, bit_self, lowBits_or, lowBits_zero, len_setT, sl_same, sl_ne, len_frame, sl_frame,↓op_len, lenOp_slc, lenOp_nils, ↓Post.some, ↓Post_bind, ↓Post_ret, ↓Post_draw, ↓PostL_nil, ↓PostL_cons, Post_fail, ofOpt_some, ofOpt_none, eA_b, eA_i, eA_s, eA_nn, eA_np, eA_pn, eA_lnn, eA_lnp, eA_lpn, eA_i2, eA_i3, blt_dec, Nat.add_assoc, keeps_refl, keeps_at, keeps_up, hlen], by simp [↓P_skip, ↓P_exit, ↓P_ret, ↓P_seq, ↓P_cond, ↓P_blk, ↓P_reg, ↓P_draw, ↓P_nil, ↓P_cons, condP_t, condP_f, dum_ab, stepR, want_none, want_some, opRun, ev_t, ev_c, put_none, put_some, resAll, res_tmp, res_cell, oneOf, minI, maxI, min2A, max2A, mn2, mx2, mx3, rdBlk, wrBlk, newBlk, partA, abin, ibin, isShift, AV.cells, AV.one, lay, sub, fillA, lenA, toN, allApart, apartFrom, Nat.testBit, Mem.blk_set_same, Mem.blk_set_ne, Mem.set_set, bit_zero, bit_self, lowBits_or, lowBits_zero, len_setT, sl_same, sl_ne, len_frame, sl_frame,↓op_len, lenOp_slc, lenOp_nils, ↓Post.some, ↓Post_bind, ↓Post_ret, ↓Post_draw, ↓PostL_nil, ↓PostL_cons, Post_fail, ofOpt_some, ofOpt_none, eA_b, eA_i, eA_s, eA_nn, eA_np, eA_pn, eA_lnn, eA_lnp, eA_lpn, eA_i2, eA_i3, blt_dec, Nat.add_assoc, keeps_refl, keeps_at, keeps_up, hlen, g1], by simp [↓P_skip, ↓P_exit, ↓P_ret, ↓P_seq, ↓P_cond, ↓P_blk, ↓P_reg, ↓P_draw, ↓P_nil, ↓P_cons, condP_t, condP_f, dum_ab, stepR, want_none, want_some, opRun, ev_t, ev_c, put_none, put_some, resAll, res_tmp, res_cell, oneOf, minI, maxI, min2A, max2A, mn2, mx2, mx3, rdBlk, wrBlk, newBlk, partA, abin, ibin, isShift, AV.cells, AV.one, lay, sub, fillA, lenA, toN, allApart, apartFrom, Nat.testBit, Mem.blk_set_same, Mem.blk_set_ne, Mem.set_set, bit_zero, bit_self, lowBits_or, lowBits_zero, len_setT, sl_same, sl_ne, len_frame, sl_frame,↓op_len, lenOp_slc, lenOp_nils, ↓Post.some, ↓Post_bind, ↓Post_ret, ↓Post_draw, ↓PostL_nil, ↓PostL_cons, Post_fail, ofOpt_some, ofOpt_none, eA_b, eA_i, eA_s, eA_nn, eA_np, eA_pn, eA_lnn, eA_lnp, eA_lpn, eA_i2, eA_i3, blt_dec, Nat.add_assoc, keeps_refl, keeps_at, keeps_up, hlen, g5], by simp [↓P_skip, ↓P_exit, ↓P_ret, ↓P_seq, ↓P_cond, ↓P_blk, ↓P_reg, ↓P_draw, ↓P_nil, ↓P_cons, condP_t, condP_f, dum_ab, stepR, want_none, want_some, opRun, ev_t, ev_c, put_none, put_some, resAll, res_tmp, res_cell, oneOf, minI, maxI, min2A, max2A, mn2, mx2, mx3, rdBlk, wrBlk, newBlk, partA, abin, ibin, isShift, AV.cells, AV.one, lay, sub, fillA, lenA, toN, allApart, apartFrom, Nat.testBit, Mem.blk_set_same, Mem.blk_set_ne, Mem.set_set, bit_zero, bit_self, lowBits_or, lowBits_zero, len_setT, sl_same, sl_ne, len_frame, sl_frame,↓op_len, lenOp_slc, lenOp_nils, ↓Post.some, ↓Post_bind, ↓Post_ret, ↓Post_draw, ↓PostL_nil, ↓PostL_cons, Post_fail, ofOpt_some, ofOpt_none, eA_b, eA_i, eA_s, eA_nn, eA_np, eA_pn, eA_lnn, eA_lnp, eA_lpn, eA_i2, eA_i3, blt_dec, Nat.add_assoc, keeps_refl, keeps_at, keeps_up, hlen, g6], by simp [↓P_skip, ↓P_exit, ↓P_ret, ↓P_seq, ↓P_cond, ↓P_blk, ↓P_reg, ↓P_draw, ↓P_nil, ↓P_cons, condP_t, condP_f, dum_ab, stepR, want_none, want_some, opRun, ev_t, ev_c, put_none, put_some, resAll, res_tmp, res_cell, oneOf, minI, maxI, min2A, max2A, mn2, mx2, mx3, rdBlk, wrBlk, newBlk, partA, abin, ibin, isShift, AV.cells, AV.one, lay, sub, fillA, lenA, toN, allApart, apartFrom, Nat.testBit, Mem.blk_set_same, Mem.blk_set_ne, Mem.set_set, bit_zero, bit_self, lowBits_or, lowBits_zero, len_setT, sl_same, sl_ne, len_frame, sl_frame,↓op_len, lenOp_slc, lenOp_nils, ↓Post.some, ↓Post_bind, ↓Post_ret, ↓Post_draw, ↓PostL_nil, ↓PostL_cons, Post_fail, ofOpt_some, ofOpt_none, eA_b, eA_i, eA_s, eA_nn, eA_np, eA_pn, eA_lnn, eA_lnp, eA_lpn, eA_i2, eA_i3, blt_dec, Nat.add_assoc, keeps_refl, keeps_at, keeps_up, hlen, g7], b1, b2, b3, by omega, j2.keep n6 k6, fun y hy => by rw [k6 y (by omega), fr y (by omega) (by omega) (by omega), kp y hy]⟩
    · have c2' : ¬ (i : Int) < 40 := by omega
      obtain ⟨bb, c, KK, rfl, hb, hK, _⟩ := hr.at c1
      simp [↓P_skip, ↓P_exit, ↓P_ret, ↓P_seq, ↓P_cond, ↓P_blk, ↓P_reg, ↓P_draw, ↓P_nil, ↓P_cons, condP_t, condP_f, dum_ab, stepR, want_none, want_some, opRun, ev_t, ev_c, put_none, put_some, resAll, res_tmp, res_cell, oneOf, minI, maxI, min2A, max2A, mn2, mx2, mx3, rdBlk, wrBlk, newBlk, partA, abin, ibin, isShift, AV.cells, AV.one, lay, sub, fillA, lenA, toN, allApart, apartFrom, Nat.testBit, Mem.blk_set_same, Mem.blk_set_ne, Mem.set_set, bit_zero, bit_self, lowBits_or, lowBits_zero, len_setT, sl_same, sl_ne, len_frame, sl_frame,↓op_len, lenOp_slc, lenOp_nils, ↓Post.some, ↓Post_bind, ↓Post_ret, ↓Post_draw, ↓PostL_nil, ↓PostL_cons, Post_fail, ofOpt_some, ofOpt_none, eA_b, eA_i, eA_s, eA_nn, eA_np, eA_pn, eA_lnn, eA_lnp, eA_lpn, eA_i2, eA_i3, blt_dec, Nat.add_assoc, keeps_refl, keeps_at, keeps_up, new_one, and_pow, bit_hi, lowBits_pow, ble_dec, fr_refl, fr_at, fr_up, fr_p, dum_ab, L6_0b, hlen, g1, g8, c1', c2']
      exact Round.exit (R := BkR n h0 base) ⟨rfl, p, bn, bp, p2, bn2, bp2, X, Y, L, by simp [↓P_skip, ↓P_exit, ↓P_ret, ↓P_seq, ↓P_cond, ↓P_blk, ↓P_reg, ↓P_draw, ↓P_nil, ↓P_cons, condP_t, condP_f, dum_ab, stepR, want_none, want_some, opRun, ev_t, ev_c, put_none, put_some, resAll, res_tmp, res_cell, oneOf, minI, maxI, min2A, max2A, mn2, mx2, mx3, rdBlk, wrBlk, newBlk, partA, abin, ibin, isShift, AV.cells, AV.one, lay, sub, fillA, lenA, toN, allApart, apartFrom, Nat.testBit, Mem.blk_set_same, Mem.blk_set_ne, Mem.set_set, bit_zero, bit_self, lowBits_or, lowBits_zero, len_setT, sl_same, sl_ne, len_frame, sl_frame,↓op_len, lenOp_slc, lenOp_nils, ↓Post.some, ↓Post_bind, ↓Post_ret, ↓Post_draw, ↓PostL_nil, ↓PostL_cons, Post_fail, ofOpt_some, ofOpt_none, eA_b, eA_i, eA_s, eA_nn, eA_np, eA_pn, eA_lnn, eA_lnp, eA_lpn, eA_i2, eA_i3, blt_dec, Nat.add_assoc, keeps_refl, keeps_at, keeps_up, hlen], by simp [↓P_skip, ↓P_exit, ↓P_ret, ↓P_seq, ↓P_cond, ↓P_blk, ↓P_reg, ↓P_draw, ↓P_nil, ↓P_cons, condP_t, condP_f, dum_ab, stepR, want_none, want_some, opRun, ev_t, ev_c, put_none, put_some, resAll, res_tmp, res_cell, oneOf, minI, maxI, min2A, max2A, mn2, mx2, mx3, rdBlk, wrBlk, newBlk, partA, abin, ibin, isShift, AV.cells, AV.one, lay, sub, fillA, lenA, toN, allApart, apartFrom, Nat.testBit, Mem.blk_set_same, Mem.blk_set_ne, Mem.set_set, bit_zero, bit_self, lowBits_or, lowBits_zero, len_setT, sl_same, sl_ne, len_frame, sl_frame,↓op_len, lenOp_slc, lenOp_nils, ↓Post.some, ↓Post_bind, ↓Post_ret, ↓Post_draw, ↓PostL_nil, ↓PostL_cons, Post_fail, ofOpt_some, ofOpt_none, eA_b, eA_i, eA_s, eA_nn, eA_np, eA_pn, eA_lnn, eA_lnp, eA_lpn, eA_i2, eA_i3, blt_dec, Nat.add_assoc, keeps_refl, keeps_at, keeps_up, hlen, g6], by simp [↓P_skip, ↓P_exit, ↓P_ret, ↓P_seq, ↓P_cond, ↓P_blk, ↓P_reg, ↓P_draw, ↓P_nil, ↓P_cons, condP_t, condP_f, dum_ab, stepR, want_none, want_some, opRun, ev_t, ev_c, put_none, put_some, resAll, res_tmp, res_cell, oneOf, minI, maxI, min2A, max2A, mn2, mx2, mx3, rdBlk, wrBlk, newBlk, partA, abin, ibin, isShift, AV.cells, AV.one, lay, sub, fillA, lenA, toN, allApart, apartFrom, Nat.testBit, Mem.blk_set_same, Mem.blk_set_ne, Mem.set_set, bit_zero, bit_self, lowBits_or, lowBits_zero, len_setT, sl_same, sl_ne, len_frame, sl_frame,↓op_len, lenOp_slc, lenOp_nils, ↓Post.some, ↓Post_bind, ↓Post_ret, ↓Post_draw, ↓PostL_nil, ↓PostL_cons, Post_fail, ofOpt_some, ofOpt_none, eA_b, eA_i, eA_s, eA_nn, eA_np, eA_pn, eA_lnn, eA_lnp, eA_lpn, eA_i2, eA_i3, blt_dec, Nat.add_assoc, keeps_refl, keeps_at, keeps_up, hlen, g7], j⟩
  · have c1' : ¬ (i : Int) < (l.length : Int) := by omega
    rcases hr with ⟨rfl, rfl⟩ | ⟨bb, c, rfl, _⟩
    · have c1'' : ¬ (i : Int) < 0 := by omega
      simp [↓P_skip, ↓P_exit, ↓P_ret, ↓P_seq, ↓P_cond, ↓P_blk, ↓P_reg, ↓P_draw, ↓P_nil, ↓P_cons, condP_t, condP_f, dum_ab, stepR, want_none, want_some, opRun, ev_t, ev_c, put_none, put_some, resAll, res_tmp, res_cell, oneOf, minI, maxI, min2A, max2A, mn2, mx2, mx3, rdBlk, wrBlk, newBlk, partA, abin, ibin, isShift, AV.cells, AV.one, lay, sub, fillA, lenA, toN, allApart, apartFrom, Nat.testBit, Mem.blk_set_same, Mem.blk_set_ne, Mem.set_set, bit_zero, bit_self, lowBits_or, lowBits_zero, len_setT, sl_same, sl_ne, len_frame, sl_frame,↓op_len, lenOp_slc, lenOp_nils, ↓Post.some, ↓Post_bind, ↓Post_ret, ↓Post_draw, ↓PostL_nil, ↓PostL_cons, Post_fail, ofOpt_some, ofOpt_none, eA_b, eA_i, eA_s, eA_nn, eA_np, eA_pn, eA_lnn, eA_lnp, eA_lpn, eA_i2, eA_i3, blt_dec, Nat.add_assoc, keeps_refl, keeps_at, keeps_up, new_one, and_pow, bit_hi, lowBits_pow, ble_dec, fr_refl, fr_at, fr_up, fr_p, dum_ab, L6_0b, hlen, g1, g8, c1'']
      exact Round.exit (R := BkR n h0 base) ⟨rfl, p, bn, bp, p2, bn2, bp2, X, Y, L, by simp [↓P_skip, ↓P_exit, ↓P_ret, ↓P_seq, ↓P_cond, ↓P_blk, ↓P_reg, ↓P_draw, ↓P_nil, ↓P_cons, condP_t, condP_f, dum_ab, stepR, want_none, want_some, opRun, ev_t, ev_c, put_none, put_some, resAll, res_tmp, res_cell, oneOf, minI, maxI, min2A, max2A, mn2, mx2, mx3, rdBlk, wrBlk, newBlk, partA, abin, ibin, isShift, AV.cells, AV.one, lay, sub, fillA, lenA, toN, allApart, apartFrom, Nat.testBit, Mem.blk_set_same, Mem.blk_set_ne, Mem.set_set, bit_zero, bit_self, lowBits_or, lowBits_zero, len_setT, sl_same, sl_ne, len_frame, sl_frame,↓op_len, lenOp_slc, lenOp_nils, ↓Post.some, ↓Post_bind, ↓Post_ret, ↓Post_draw, ↓PostL_nil, ↓PostL_cons, Post_fail, ofOpt_some, ofOpt_none, eA_b, eA_i, eA_s, eA_nn, eA_np, eA_pn, eA_lnn, eA_lnp, eA_lpn, eA_i2, eA_i3, blt_dec, Nat.add_assoc, keeps_refl, keeps_at, keeps_up, hlen], by simp [↓P_skip, ↓P_exit, ↓P_ret, ↓P_seq, ↓P_cond, ↓P_blk, ↓P_reg, ↓P_draw, ↓P_nil, ↓P_cons, condP_t, condP_f, dum_ab, stepR, want_none, want_some, opRun, ev_t, ev_c, put_none, put_some, resAll, res_tmp, res_cell, oneOf, minI, maxI, min2A, max2A, mn2, mx2, mx3, rdBlk, wrBlk, newBlk, partA, abin, ibin, isShift, AV.cells, AV.one, lay, sub, fillA, lenA, toN, allApart, apartFrom, Nat.testBit, Mem.blk_set_same, Mem.blk_set_ne, Mem.set_set, bit_zero, bit_self, lowBits_or, lowBits_zero, len_setT, sl_same, sl_ne, len_frame, sl_frame,↓op_len, lenOp_slc, lenOp_nils, ↓Post.some, ↓Post_bind, ↓Post_ret, ↓Post_draw, ↓PostL_nil, ↓PostL_cons, Post_fail, ofOpt_some, ofOpt_none, eA_b, eA_i, eA_s, eA_nn, eA_np, eA_pn, eA_lnn, eA_lnp, eA_lpn, eA_i2, eA_i3, blt_dec, Nat.add_assoc, keeps_refl, keeps_at, keeps_up, hlen, g6], by simp [↓P_skip, ↓P_exit, ↓P_ret, ↓P_seq, ↓P_cond, ↓P_blk, ↓P_reg, ↓P_draw, ↓P_nil, ↓P_cons, condP_t, condP_f, dum_ab, stepR, want_none, want_some, opRun, ev_t, ev_c, put_none, put_some, resAll, res_tmp, res_cell, oneOf, minI, maxI, min2A, max2A, mn2, mx2, mx3, rdBlk, wrBlk, newBlk, partA, abin, ibin, isShift, AV.cells, AV.one, lay, sub, fillA, lenA, toN, allApart, apartFrom, Nat.testBit, Mem.blk_set_same, Mem.blk_set_ne, Mem.set_set, bit_zero, bit_self, lowBits_or, lowBits_zero, len_setT, sl_same, sl_ne, len_frame, sl_frame,↓op_len, lenOp_slc, lenOp_nils, ↓Post.some, ↓Post_bind, ↓Post_ret, ↓Post_draw, ↓PostL_nil, ↓PostL_cons, Post_fail, ofOpt_some, ofOpt_none, eA_b, eA_i, eA_s, eA_nn, eA_np, eA_pn, eA_lnn, eA_lnp, eA_lpn, eA_i2, eA_i3, blt_dec, Nat.add_assoc, keeps_refl, keeps_at, keeps_up, hlen, g7], j⟩
    · simp [↓P_skip, ↓P_exit, ↓P_ret, ↓P_seq, ↓P_cond, ↓P_blk, ↓P_reg, ↓P_draw, ↓P_nil, ↓P_cons, condP_t, condP_f, dum_ab, stepR, want_none, want_some, opRun, ev_t, ev_c, put_none, put_some, resAll, res_tmp, res_cell, oneOf, minI, maxI, min2A, max2A, mn2, mx2, mx3, rdBlk, wrBlk, newBlk, partA, abin, ibin, isShift, AV.cells, AV.one, lay, sub, fillA, lenA, toN, allApart, apartFrom, Nat.testBit, Mem.blk_set_same, Mem.blk_set_ne, Mem.set_set, bit_zero, bit_self, lowBits_or, lowBits_zero, len_setT, sl_same, sl_ne, len_frame, sl_frame,↓op_len, lenOp_slc, lenOp_nils, ↓Post.some, ↓Post_bind, ↓Post_ret, ↓Post_draw, ↓PostL_nil, ↓PostL_cons, Post_fail, ofOpt_some, ofOpt_none, eA_b, eA_i, eA_s, eA_nn, eA_np, eA_pn, eA_lnn, eA_lnp, eA_lpn, eA_i2, eA_i3, blt_dec, Nat.add_assoc, keeps_refl, keeps_at, keeps_up, new_one, and_pow, bit_hi, lowBits_pow, ble_dec, fr_refl, fr_at, fr_up, fr_p, dum_ab, L6_0b, hlen, g1, g8, c1']
      exact Round.exit (R := BkR n h0 base) ⟨rfl, p, bn, bp, p2, bn2, bp2, X, Y, L, by simp [↓P_skip, ↓P_exit, ↓P_ret, ↓P_seq, ↓P_cond, ↓P_blk, ↓P_reg, ↓P_draw, ↓P_nil, ↓P_cons, condP_t, condP_f, dum_ab, stepR, want_none, want_some, opRun, ev_t, ev_c, put_none, put_some, resAll, res_tmp, res_cell, oneOf, minI, maxI, min2A, max2A, mn2, mx2, mx3, rdBlk, wrBlk, newBlk, partA, abin, ibin, isShift, AV.cells, AV.one, lay, sub, fillA, lenA, toN, allApart, apartFrom, Nat.testBit, Mem.blk_set_same, Mem.blk_set_ne, Mem.set_set, bit_zero, bit_self, lowBits_or, lowBits_zero, len_setT, sl_same, sl_ne, len_frame, sl_frame,↓op_len, lenOp_slc, lenOp_nils, ↓Post.some, ↓Post_bind, ↓Post_ret, ↓Post_draw, ↓PostL_nil, ↓PostL_cons, Post_fail, ofOpt_some, ofOpt_none, eA_b, eA_i, eA_s, eA_nn, eA_np, eA_pn, eA_lnn, eA_lnp, eA_lpn, eA_i2, eA_i3, blt_dec, Nat.add_assoc, keeps_refl, keeps_at, keeps_up, hlen], by simp [↓P_skip, ↓P_exit, ↓P_ret, ↓P_seq, ↓P_cond, ↓P_blk, ↓P_reg, ↓P_draw, ↓P_nil, ↓P_cons, condP_t, condP_f, dum_ab, stepR, want_none, want_some, opRun, ev_t, ev_c, put_none, put_some, resAll, res_tmp, res_cell, oneOf, minI, maxI, min2A, max2A, mn2, mx2, mx3, rdBlk, wrBlk, newBlk, partA, abin, ibin, isShift, AV.cells, AV.one, lay, sub, fillA, lenA, toN, allApart, apartFrom, Nat.testBit, Mem.blk_set_same, Mem.blk_set_ne, Mem.set_set, bit_zero, bit_self, lowBits_or, lowBits_zero, len_setT, sl_same, sl_ne, len_frame, sl_frame,↓op_len, lenOp_slc, lenOp_nils, ↓Post.some, ↓Post_bind, ↓Post_ret, ↓Post_draw, ↓PostL_nil, ↓PostL_cons, Post_fail, ofOpt_some, ofOpt_none, eA_b, eA_i, eA_s, eA_nn, eA_np, eA_pn, eA_lnn, eA_lnp, eA_lpn, eA_i2, eA_i3, blt_dec, Nat.add_assoc, keeps_refl, keeps_at, keeps_up, hlen, g6], by simp [↓P_skip, ↓P_exit, ↓P_ret, ↓P_seq, ↓P_cond, ↓P_blk, ↓P_reg, ↓P_draw, ↓P_nil, ↓P_cons, condP_t, condP_f, dum_ab, stepR, want_none, want_some, opRun, ev_t, ev_c, put_none, put_some, resAll, res_tmp, res_cell, oneOf, minI, maxI, min2A, max2A, mn2, mx2, mx3, rdBlk, wrBlk, newBlk, partA, abin, ibin, isShift, AV.cells, AV.one, lay, sub, fillA, lenA, toN, allApart, apartFrom, Nat.testBit, Mem.blk_set_same, Mem.blk_set_ne, Mem.set_set, bit_zero, bit_self, lowBits_or, lowBits_zero, len_setT, sl_same, sl_ne, len_frame, sl_frame,↓op_len, lenOp_slc, lenOp_nils, ↓Post.some, ↓Post_bind, ↓Post_ret, ↓Post_draw, ↓PostL_nil, ↓PostL_cons, Post_fail, ofOpt_some, ofOpt_none, eA_b, eA_i, eA_s, eA_nn, eA_np, eA_pn, eA_lnn, eA_lnp, eA_lpn, eA_i2, eA_i3, blt_dec, Nat.add_assoc, keeps_refl, keeps_at, keeps_up, hlen, g7], j⟩
set_option maxHeartbeats 8000000 in
theorem back_law (a : Int) (w0 : (Lit.int .i64 a).wf = true) (l : List Int) (v : AV) (y : l.length * 8 ≤ 140737488351232) (q : ∀ x ∈ l, (Lit.int .i64 x).wf = true) (h0 : Mem) (p : Nat) (hr : IRow .i64 v h0 p l) : Yes T 6 [.int .i64 a, v] h0 p := by
  obtain ⟨r, r1, r2, wi⟩ := within_ex a 0 40 (by omega) (by omega) (by omega)
  obtain ⟨n, hn⟩ : ∃ n : Nat, (n : Int) = 2 + r := ⟨(2 + r).toNat, by omega⟩
  have wr1 : IntKind.i64.wrap (2 + r) = (n : Int) := by rw [IntKind.wrap_i64]; omega
  obtain ⟨h1, tc1, wr1', x1, rg, kp1⟩ := new_at n (by omega) h0 p 0 (by omega)
  obtain ⟨h2, tc2, wr2', x2, rg2, kp2⟩ := new_at n (by omega) h1 (p + 3) 0 (by omega)
  have lX : (newX n).length = n := by unfold newX; simp
  have j : Two h2 (p + 3 + 3) (p + 2) p (p + 1) (p + 3 + 2) (p + 3) (p + 3 + 1) (newX n) (newY n) (lits n) n :=
    ⟨⟨by rw [lits_len]; exact rg.keep (by omega) kp2, new_link n (by omega), lX⟩, ⟨by rw [lits_len]; exact rg2, new_link n (by omega), lX⟩, by omega, by omega, by omega, ⟨[], lits n, rfl, by simp⟩⟩
  simp only [Nat.add_assoc, Nat.reduceAdd] at x2 j
  refine Yes.of 6000 ?_
  rw [xF_fr T6]
  simp (maxSteps := 4000000) [↓P_skip, ↓P_exit, ↓P_ret, ↓P_seq, ↓P_cond, ↓P_blk, ↓P_reg, ↓P_draw, ↓P_nil, ↓P_cons, condP_t, condP_f, dum_ab, stepR, want_none, want_some, opRun, ev_t, ev_c, put_none, put_some, resAll, res_tmp, res_cell, oneOf, minI, maxI, min2A, max2A, mn2, mx2, mx3, rdBlk, wrBlk, newBlk, partA, abin, ibin, isShift, AV.cells, AV.one, lay, sub, fillA, lenA, toN, allApart, apartFrom, Nat.testBit, Mem.blk_set_same, Mem.blk_set_ne, Mem.set_set, bit_zero, bit_self, lowBits_or, lowBits_zero, len_setT, sl_same, sl_ne, len_frame, sl_frame,↓op_len, lenOp_slc, lenOp_nils, ↓Post.some, ↓Post_bind, ↓Post_ret, ↓Post_draw, ↓PostL_nil, ↓PostL_cons, Post_fail, ofOpt_some, ofOpt_none, eA_b, eA_i, eA_s, eA_nn, eA_np, eA_pn, eA_lnn, eA_lnp, eA_lpn, eA_i2, eA_i3, blt_dec, Nat.add_assoc, keeps_refl, keeps_at, keeps_up, new_one, and_pow, bit_hi, lowBits_pow, ble_dec, fr_refl, fr_at, fr_up, fr_p, dum_ab, F6, wi, wr1, x1, x2]
  refine Post.loop (bk_round n (by omega) v l h0 p hr) 40 ⟨0, _, _, _, _, _, _, _, _, _, rfl, by omega, by simp [↓P_skip, ↓P_exit, ↓P_ret, ↓P_seq, ↓P_cond, ↓P_blk, ↓P_reg, ↓P_draw, ↓P_nil, ↓P_cons, condP_t, condP_f, dum_ab, stepR, want_none, want_some, opRun, ev_t, ev_c, put_none, put_some, resAll, res_tmp, res_cell, oneOf, minI, maxI, min2A, max2A, mn2, mx2, mx3, rdBlk, wrBlk, newBlk, partA, abin, ibin, isShift, AV.cells, AV.one, lay, sub, fillA, lenA, toN, allApart, apartFrom, Nat.testBit, Mem.blk_set_same, Mem.blk_set_ne, Mem.set_set, bit_zero, bit_self, lowBits_or, lowBits_zero, len_setT, sl_same, sl_ne, len_frame, sl_frame,↓op_len, lenOp_slc, lenOp_nils, ↓Post.some, ↓Post_bind, ↓Post_ret, ↓Post_draw, ↓PostL_nil, ↓PostL_cons, Post_fail, ofOpt_some, ofOpt_none, eA_b, eA_i, eA_s, eA_nn, eA_np, eA_pn, eA_lnn, eA_lnp, eA_lpn, eA_i2, eA_i3, blt_dec, Nat.add_assoc, keeps_refl, keeps_at, keeps_up], by simp [↓P_skip, ↓P_exit, ↓P_ret, ↓P_seq, ↓P_cond, ↓P_blk, ↓P_reg, ↓P_draw, ↓P_nil, ↓P_cons, condP_t, condP_f, dum_ab, stepR, want_none, want_some, opRun, ev_t, ev_c, put_none, put_some, resAll, res_tmp, res_cell, oneOf, minI, maxI, min2A, max2A, mn2, mx2, mx3, rdBlk, wrBlk, newBlk, partA, abin, ibin, isShift, AV.cells, AV.one, lay, sub, fillA, lenA, toN, allApart, apartFrom, Nat.testBit, Mem.blk_set_same, Mem.blk_set_ne, Mem.set_set, bit_zero, bit_self, lowBits_or, lowBits_zero, len_setT, sl_same, sl_ne, len_frame, sl_frame,↓op_len, lenOp_slc, lenOp_nils, ↓Post.some, ↓Post_bind, ↓Post_ret, ↓Post_draw, ↓PostL_nil, ↓PostL_cons, Post_fail, ofOpt_some, ofOpt_none, eA_b, eA_i, eA_s, eA_nn, eA_np, eA_pn, eA_lnn, eA_lnp, eA_lpn, eA_i2, eA_i3, blt_dec, Nat.add_assoc, keeps_refl, keeps_at, keeps_up], by simp [↓P_skip, ↓P_exit, ↓P_ret, ↓P_seq, ↓P_cond, ↓P_blk, ↓P_reg, ↓P_draw, ↓P_nil, ↓P_cons, condP_t, condP_f, dum_ab, stepR, want_none, want_some, opRun, ev_t, ev_c, put_none, put_some, resAll, res_tmp, res_cell, oneOf, minI, maxI, min2A, max2A, mn2, mx2, mx3, rdBlk, wrBlk, newBlk, partA, abin, ibin, isShift, AV.cells, AV.one, lay, sub, fillA, lenA, toN, allApart, apartFrom, Nat.testBit, Mem.blk_set_same, Mem.blk_set_ne, Mem.set_set, bit_zero, bit_self, lowBits_or, lowBits_zero, len_setT, sl_same, sl_ne, len_frame, sl_frame,↓op_len, lenOp_slc, lenOp_nils, ↓Post.some, ↓Post_bind, ↓Post_ret, ↓Post_draw, ↓PostL_nil, ↓PostL_cons, Post_fail, ofOpt_some, ofOpt_none, eA_b, eA_i, eA_s, eA_nn, eA_np, eA_pn, eA_lnn, eA_lnp, eA_lpn, eA_i2, eA_i3, blt_dec, Nat.add_assoc, keeps_refl, keeps_at, keeps_up], by simp [↓P_skip, ↓P_exit, ↓P_ret, ↓P_seq, ↓P_cond, ↓P_blk, ↓P_reg, ↓P_draw, ↓P_nil, ↓P_cons, condP_t, condP_f, dum_ab, stepR, want_none, want_some, opRun, ev_t, ev_c, put_none, put_some, resAll, res_tmp, res_cell, oneOf, minI, maxI, min2A, max2A, mn2, mx2, mx3, rdBlk, wrBlk, newBlk, partA, abin, ibin, isShift, AV.cells, AV.one, lay, sub, fillA, lenA, toN, allApart, apartFrom, Nat.testBit, Mem.blk_set_same, Mem.blk_set_ne, Mem.set_set, bit_zero, bit_self, lowBits_or, lowBits_zero, len_setT, sl_same, sl_ne, len_frame, sl_frame,↓op_len, lenOp_slc, lenOp_nils, ↓Post.some, ↓Post_bind, ↓Post_ret, ↓Post_draw, ↓PostL_nil, ↓PostL_cons, Post_fail, ofOpt_some, ofOpt_none, eA_b, eA_i, eA_s, eA_nn, eA_np, eA_pn, eA_lnn, eA_lnp, eA_lpn, eA_i2, eA_i3, blt_dec, Nat.add_assoc, keeps_refl, keeps_at, keeps_up], by simp [↓P_skip, ↓P_exit, ↓P_ret, ↓P_seq, ↓P_cond, ↓P_blk, ↓P_reg, ↓P_draw, ↓P_nil, ↓P_cons, condP_t, condP_f, dum_ab, stepR, want_none, want_some, opRun, ev_t, ev_c, put_none, put_some, resAll, res_tmp, res_cell, oneOf, minI, maxI, min2A, max2A, mn2, mx2, mx3, rdBlk, wrBlk, newBlk, partA, abin, ibin, isShift, AV.cells, AV.one, lay, sub, fillA, lenA, toN, allApart, apartFrom, Nat.testBit, Mem.blk_set_same, Mem.blk_set_ne, Mem.set_set, bit_zero, bit_self, lowBits_or, lowBits_zero, len_setT, sl_same, sl_ne, len_frame, sl_frame,↓op_len, lenOp_slc, lenOp_nils, ↓Post.some, ↓Post_bind, ↓Post_ret, ↓Post_draw, ↓PostL_nil, ↓PostL_cons, Post_fail, ofOpt_some, ofOpt_none, eA_b, eA_i, eA_s, eA_nn, eA_np, eA_pn, eA_lnn, eA_lnp, eA_lpn, eA_i2, eA_i3, blt_dec, Nat.add_assoc, keeps_refl, keeps_at, keeps_up], by simp [↓P_skip, ↓P_exit, ↓P_ret, ↓P_seq, ↓P_cond, ↓P_blk, ↓P_reg, ↓P_draw, ↓P_nil, ↓P_cons, condP_t, condP_f, dum_ab, stepR, want_none, want_some, opRun, ev_t, ev_c, put_none, put_some, resAll, res_tmp, res_cell, oneOf, minI, maxI, min2A, max2A, mn2, mx2, mx3, rdBlk, wrBlk, newBlk, partA, abin, ibin, isShift, AV.cells, AV.one, lay, sub, fillA, lenA, toN, allApart, apartFrom, Nat.testBit, Mem.blk_set_same, Mem.blk_set_ne, Mem.set_set, bit_zero, bit_self, lowBits_or, lowBits_zero, len_setT, sl_same, sl_ne, len_frame, sl_frame,↓op_len, lenOp_slc, lenOp_nils, ↓Post.some, ↓Post_bind, ↓Post_ret, ↓Post_draw, ↓PostL_nil, ↓PostL_cons, Post_fail, ofOpt_some, ofOpt_none, eA_b, eA_i, eA_s, eA_nn, eA_np, eA_pn, eA_lnn, eA_lnp, eA_lpn, eA_i2, eA_i3, blt_dec, Nat.add_assoc, keeps_refl, keeps_at, keeps_up], by omega, by omega, by omega, by omega, j, kp1.trans kp2 (by omega)⟩ (by omega) ?_
  rintro e ts' h' nx' tc wr ⟨rfl, p', bn, bp, p2, bn2, bp2, X, Y, L, hlen, g6, g7, j'⟩
  obtain ⟨v5, h5, nx5, tc5, wr5, v6, h6, nx6, tc6, wr6, tc7, wr7, x5, x6, x7, n6, k6⟩ := j'.same (by omega) (x := 0) (by omega)
  obtain ⟨h4, nx4, tc4, wr4, x4, n4, k4⟩ := (known_ans h6 nx6).at
  simp (maxSteps := 4000000) [↓P_skip, ↓P_exit, ↓P_ret, ↓P_seq, ↓P_cond, ↓P_blk, ↓P_reg, ↓P_draw, ↓P_nil, ↓P_cons, condP_t, condP_f, dum_ab, stepR, want_none, want_some, opRun, ev_t, ev_c, put_none, put_some, resAll, res_tmp, res_cell, oneOf, minI, maxI, min2A, max2A, mn2, mx2, mx3, rdBlk, wrBlk, newBlk, partA, abin, ibin, isShift, AV.cells, AV.one, lay, sub, fillA, lenA, toN, allApart, apartFrom, Nat.testBit, Mem.blk_set_same, Mem.blk_set_ne, Mem.set_set, bit_zero, bit_self, lowBits_or, lowBits_zero, len_setT, sl_same, sl_ne, len_frame, sl_frame,↓op_len, lenOp_slc, lenOp_nils, ↓Post.some, ↓Post_bind, ↓Post_ret, ↓Post_draw, ↓PostL_nil, ↓PostL_cons, Post_fail, ofOpt_some, ofOpt_none, eA_b, eA_i, eA_s, eA_nn, eA_np, eA_pn, eA_lnn, eA_lnp, eA_lpn, eA_i2, eA_i3, blt_dec, Nat.add_assoc, keeps_refl, keeps_at, keeps_up, new_one, and_pow, bit_hi, lowBits_pow, ble_dec, fr_refl, fr_at, fr_up, fr_p, dum_ab, hlen, g6, g7, x4, x5, x6, x7]
end Go.Proofs.YtelciflkmkpibaaT
