/- Frame: one ask, of the pool and of the reference's. -/
import Derived.Test.YtobcboiemibkkaaSm
import Derived.Test.YtobcboiemibkkaaSlLaw
namespace Go.Proofs.YtobcboiemibkkaaT
open Go Go.Proofs.YtobcboiemibkkaaE Go.Proofs.YtobcboiemibkkaaB
set_option linter.unusedSimpArgs false
set_option linter.unusedVariables false
attribute [local congr] Post_cg PostL_cg condP_cg

/-- What is plain of a frame. -/
def Fr.pl (f : Fr) : Int × Int × Int × Int × Int × Int := (f.m, f.pc, f.se, f.ho, f.sr, f.self)
theorem rf_pl (b : Bool) {f g : Fr} (e : f.pl = g.pl) (r : AV × AV) : rf b f r = rf b g r := by
  unfold Fr.pl at e
  simp only [Prod.mk.injEq] at e
  obtain ⟨e1, e2, e3, e4, e5, e6⟩ := e
  unfold rf rx
  rw [e1, e2, e3, e4, e5, e6]
theorem RPS.pl {h : Mem} {nx w : Nat} {F F' : List Fr} {U : List Bool} {s : Int} {A B : List (List Int)} {X : List (List AV)} {R : List (AV × AV)} (r : RPS h nx w F U s A B X R) (hF : F'.length = 24) (e : ∀ i (h1 : i < F.length) (h2 : i < F'.length), F[i].pl = F'[i].pl) : RPS h nx w F' U s A B X R :=
  ⟨r.hb, r.hw, r.x9, r.hR, r.hU, hF, r.hA, r.hB, fun i h1 h2 h3 h4 => by rw [r.fr i h1 h2 (by have := r.hF; omega) h4]; exact rf_pl _ (e i _ _) _, r.rA, r.rB, r.nw, r.d1, r.d2⟩
theorem set_pl (F : List Fr) (i : Nat) (hi : i < F.length) (f : Fr) (e : F[i].pl = f.pl) : ∀ j (h1 : j < F.length) (h2 : j < (F.set i f).length), F[j].pl = (F.set i f)[j].pl := fun j h1 h2 => by
  by_cases c : i = j
  · subst c; rw [List.getElem_set_self]; exact e
  · rw [List.getElem_set_ne c]
theorem Rch.of_rd {d f : Nat} {args : List AV} {h : Mem} {nx w : Nat} {F : List Fr} {U : List Bool} {s : Int} {A B : List (List Int)} {X : List (List AV)} {R : List (AV × AV)} {v : AV} (r : RPS h nx w F U s A B X R) (x : Rd d f args h nx v) : Rch d f args h nx w U R v F U s A B := fun lg hl => (x lg hl).mono fun v' h' nx' tc wr ⟨e1, e2, e3, e4⟩ => by
  subst e2; subst e3; subst e4
  exact ⟨e1, Nat.le_refl _, ⟨X, R, r, fun b h => .inl h⟩, fun b _ _ _ => ⟨Nat.zero_and _, rfl⟩⟩
theorem Rch.at {d f : Nat} {args : List AV} {h : Mem} {nx w : Nat} {U : List Bool} {R : List (AV × AV)} {v : AV} {F' : List Fr} {U' : List Bool} {s' : Int} {A' B' : List (List Int)} (c : Rch d f args h nx w U R v F' U' s' A' B') (lg : Nat) (hl : lg ≤ nx) : ∃ h' nx' tc wr, (∀ k, xF T (k + d) f args h nx lg = some ⟨v, h', nx', tc, wr⟩) ∧ nx ≤ nx' ∧ (∃ X' R', RPS h' nx' w F' U' s' A' B' X' R' ∧ ∀ b, ROwn U' R' b → ROwn U R b ∨ nx ≤ b) ∧ ∀ b, b ≠ w → ¬ ROwn U R b → b < nx → wr &&& 2 ^ b = 0 ∧ h'.blk b = h.blk b := by
  obtain ⟨v', h', nx', tc, wr, e, rfl, e1, e2, e3⟩ := (c lg hl).inv
  exact ⟨h', nx', tc, wr, fun k => xF_mono T (Nat.le_add_left ..) e, e1, e2, e3⟩
/-- The two pools; all that is theirs is from base on. -/
structure G2 (base : Nat) (h0 h : Mem) (nx p w : Nat) (F : List Fr) (U : List Bool) (s : Int) (A B : List (List Int)) (X : List (List AV)) (R : List (AV × AV)) : Prop where
  s2 : S2 h nx p w F U s A B X R
  bp : base ≤ p
  bw : base ≤ w
  bF : ∀ b, Own F b → base ≤ b
  bR : ∀ b, ROwn U R b → base ≤ b
  k : ∀ b, b < base → h.blk b = h0.blk b
def Gx (base : Nat) (h0 h : Mem) (nx p w : Nat) : Prop := ∃ F U s A B X R, G2 base h0 h nx p w F U s A B X R
def Pair (d : Bool) (Q : AV → Prop) (fP fR : Nat) (aP aR : List AV) (h : Mem) (nx c base : Nat) (h0 : Mem) (p w : Nat) : Prop := ∃ r h2 nx2 tc2 wr2 h3 nx3 tc3 wr3, Q r ∧ (∀ k, xF T (k + 200) fP aP h nx (cond d nx 0) = some ⟨r, h2, nx2, tc2, wr2⟩) ∧ (∀ k, xF T (k + 200) fR aR h2 nx2 (cond d nx2 0) = some ⟨r, h3, nx3, tc3, wr3⟩) ∧ nx ≤ nx2 ∧ nx2 ≤ nx3 ∧ wr2 &&& 2 ^ c = 0 ∧ h2.blk c = h.blk c ∧ Gx base h0 h3 nx3 p w
theorem pair_of {d : Bool} {Q : AV → Prop} {fP fR dP dR : Nat} {aP aR : List AV} {h : Mem} {nx c base : Nat} {h0 : Mem} {p w : Nat} {F F' F'' : List Fr} {U U' : List Bool} {s s' : Int} {A B A' B' : List (List Int)} {X : List (List AV)} {R : List (AV × AV)} (g : G2 base h0 h nx p w F U s A B X R) (hc : c < nx ∧ c ≠ p ∧ ¬ Own F c) {r : AV} (hq : Q r) (hdP : dP ≤ 200) (hdR : dR ≤ 200)
    (P : Pch dP fP aP h nx p F r F' U' s' A' B') (Rr : ∀ h2 nx2, nx ≤ nx2 → RPS h2 nx2 w F U s A B X R → (∀ b, b < base → h2.blk b = h0.blk b) → Rch dR fR aR h2 nx2 w U R r F'' U' s' A' B')
    (epl : ∀ i (h1 : i < F''.length) (h2 : i < F'.length), F''[i].pl = F'[i].pl) (fA' : Few A') (fB' : Few B') : Pair d Q fP fR aP aR h nx c base h0 p w := by
  obtain ⟨s2, bp, bw, bF, bR, kk⟩ := g
  have hp := s2.ps.hp
  have hw := s2.rs.hw
  obtain ⟨h2, nx2, tc2, wr2, x2, n2, ps2, ow2, fr2⟩ := P.at (cond d nx 0) (by cases d <;> simp)
  have rs2 : RPS h2 nx2 w F U s A B X R := s2.rs.keep n2 fun b hb => by
    have hb' := s2.rs.lt hb
    rcases hb with rfl | hb
    · exact (fr2 b (Ne.symm s2.pw) (fun h => (s2.d1 b h).1 rfl)).2 hb'
    · exact (fr2 b (fun e => s2.d2 (by rw [← e]; exact hb)) (fun h => (s2.d1 b h).2 hb)).2 hb'
  have k2 : ∀ b, b < base → h2.blk b = h0.blk b := fun b hb => by
    rw [(fr2 b (by omega) (fun h => by have := bF b h; omega)).2 (by omega), kk b hb]
  obtain ⟨h3, nx3, tc3, wr3, x3, n3, ⟨X', R', rs3, ow3⟩, fr3⟩ := (Rr h2 nx2 n2 rs2 k2).at (cond d nx2 0) (by cases d <;> simp)
  have nR : ∀ b, b = p ∨ Own F' b → b ≠ w ∧ ¬ ROwn U R b := fun b hb => by
    rcases hb with rfl | hb
    · exact ⟨s2.pw, s2.d2⟩
    · rcases ow2 b hb with h | h
      · exact s2.d1 b h
      · exact ⟨by omega, fun h' => by have := s2.rs.lt (.inr h'); omega⟩
  have ps3 : PS h3 nx3 p F' U' s' A' B' := ps2.keep n3 fun b hb => (fr3 b (nR b hb).1 (nR b hb).2 (ps2.lt hb)).2
  have rs3' := rs3.pl ps2.hF epl
  refine ⟨r, h2, nx2, tc2, wr2, h3, nx3, tc3, wr3, hq, fun k => ?_, fun k => ?_, n2, n3, (fr2 c hc.2.1 hc.2.2).1, (fr2 c hc.2.1 hc.2.2).2 hc.1, F', U', s', A', B', X', R', ⟨⟨ps3, rs3', fA', fB', s2.pw, fun b hb => ?_, fun h => ?_⟩, bp, bw, fun b hb => ?_, fun b hb => ?_, fun b hb => ?_⟩⟩
  · have := x2 (k + (200 - dP))
    rwa [Nat.add_assoc, show 200 - dP + dP = 200 by omega] at this
  · have := x3 (k + (200 - dR))
    rwa [Nat.add_assoc, show 200 - dR + dR = 200 by omega] at this
  · refine ⟨(nR b (.inr hb)).1, fun h => ?_⟩
    have l2 := ps2.lt (.inr hb)
    rcases ow3 b h with h | h
    · exact (nR b (.inr hb)).2 h
    · omega
  · rcases ow3 p h with h | h
    · exact s2.d2 h
    · omega
  · rcases ow2 b hb with h | h
    · exact bF b h
    · omega
  · rcases ow3 b hb with h | h
    · exact bR b h
    · omega
  · rw [(fr3 b (by omega) (fun h => by have := bR b h; omega) (by omega)).2, k2 b hb]
def isB (r : AV) : Prop := ∃ b, r = .bool b
def inU (U : List Bool) (i : Int) : Prop := ∃ n : Nat, ∃ h : n < U.length, i = (n : Int) ∧ U[n] = true
theorem in_or {h : Mem} {nx p w : Nat} {F : List Fr} {U : List Bool} {s : Int} {A B : List (List Int)} {X : List (List AV)} {R : List (AV × AV)} (g : S2 h nx p w F U s A B X R) (i : Int) : inU U i ∨ (Rd 30 29 [.ptr p 0, .int .i64 i] h nx (.bool false) ∧ ∀ h2 nx2, RPS h2 nx2 w F U s A B X R → Rd 30 33 [.ptr w 0, .int .i64 i] h2 nx2 (.bool false)) := by
  have hU := g.rs.hU
  by_cases c : 0 ≤ i ∧ i < 24
  · obtain ⟨n, rfl⟩ : ∃ n : Nat, i = (n : Int) := ⟨i.toNat, by omega⟩
    have hn : n < U.length := by omega
    cases hu : U[n] with
    | true => exact .inl ⟨n, hn, rfl, hu⟩
    | false => exact .inr ⟨by have := is_in g.ps n hn; rwa [hu] at this, fun h2 nx2 r => by have := has_in r n hn; rwa [hu] at this⟩
  · exact .inr ⟨is_out i (by omega), fun h2 nx2 r => has_out i (by omega)⟩
theorem pair_give (d : Bool) {h : Mem} {nx c base : Nat} {h0 : Mem} {p w : Nat} {F : List Fr} {U : List Bool} {s : Int} {A B : List (List Int)} {X : List (List AV)} {R : List (AV × AV)} (g : G2 base h0 h nx p w F U s A B X R) (hc : c < nx ∧ c ≠ p ∧ ¬ Own F c) (i : Int) : Pair d isB 12 21 [.ptr p 0, .int .i64 i] [.ptr w 0, .int .i64 i] h nx c base h0 p w := by
  have s2 := g.s2
  rcases in_or s2 i with ⟨n, hn, rfl, hu⟩ | ⟨y1, y2⟩
  · exact pair_of g hc ⟨_, rfl⟩ (by omega) (by omega) (give_yes s2.ps n hn hu) (fun h2 nx2 _ r _ => rgive_yes r n hn hu) (fun i h1 h2 => rfl) s2.fA s2.fB
  · exact pair_of g hc ⟨_, rfl⟩ (by omega) (by omega) (Pch.of_rd s2.ps (give_no y1)) (fun h2 nx2 _ r _ => Rch.of_rd r (rgive_no (y2 _ _ r))) (fun i h1 h2 => rfl) s2.fA s2.fB
theorem pair_goto (d : Bool) {h : Mem} {nx c base : Nat} {h0 : Mem} {p w : Nat} {F : List Fr} {U : List Bool} {s : Int} {A B : List (List Int)} {X : List (List AV)} {R : List (AV × AV)} (g : G2 base h0 h nx p w F U s A B X R) (hc : c < nx ∧ c ≠ p ∧ ¬ Own F c) (i j : Int) : Pair d isB 22 23 [.ptr p 0, .int .i64 i, .int .i64 j] [.ptr w 0, .int .i64 i, .int .i64 j] h nx c base h0 p w := by
  have s2 := g.s2
  have hF := s2.rs.hF
  have hU := s2.rs.hU
  rcases in_or s2 i with ⟨n, hn, rfl, hu⟩ | ⟨y1, y2⟩
  · exact pair_of g hc ⟨_, rfl⟩ (by omega) (by omega) (goto_yes s2.ps n hn (by omega) hu j) (fun h2 nx2 _ r _ => rgoto_yes r n hn (by omega) hu j) (fun i h1 h2 => rfl) s2.fA s2.fB
  · exact pair_of g hc ⟨_, rfl⟩ (by omega) (by omega) (Pch.of_rd s2.ps (goto_no y1 j)) (fun h2 nx2 _ r _ => Rch.of_rd r (rgoto_no (y2 _ _ r) j)) (fun i h1 h2 => rfl) s2.fA s2.fB
theorem pair_push (d : Bool) {h : Mem} {nx c base : Nat} {h0 : Mem} {p w : Nat} {F : List Fr} {U : List Bool} {s : Int} {A B : List (List Int)} {X : List (List AV)} {R : List (AV × AV)} (g : G2 base h0 h nx p w F U s A B X R) (hc : c < nx ∧ c ≠ p ∧ ¬ Own F c) (i v : Int) : Pair d isB 17 24 [.ptr p 0, .int .i64 i, .int .u32 v] [.ptr w 0, .int .i64 i, .int .u32 v] h nx c base h0 p w := by
  have s2 := g.s2
  have hF := s2.rs.hF
  have hU := s2.rs.hU
  have hA := s2.rs.hA
  have hB := s2.rs.hB
  rcases in_or s2 i with ⟨n, hn, rfl, hu⟩ | ⟨y1, y2⟩
  · have nF : n < F.length := by omega
    have nB : n < B.length := by omega
    by_cases cl : B[n].length < 8
    · obtain ⟨st, P⟩ := push_yes s2.ps n hn nF (by omega) nB hu v cl
      exact pair_of g hc ⟨_, rfl⟩ (by omega) (by omega) P (fun h2 nx2 _ r _ => rpush_yes r n hn nB hu v cl) (set_pl F n nF _ rfl) s2.fA (few_set s2.fB n _ (by simp; omega))
    · exact pair_of g hc ⟨_, rfl⟩ (by omega) (by omega) (Pch.of_rd s2.ps (push_full s2.ps n hn nF nB hu v (by omega))) (fun h2 nx2 _ r _ => Rch.of_rd r (rpush_full r n hn nB hu v (by omega))) (fun i h1 h2 => rfl) s2.fA s2.fB
  · exact pair_of g hc ⟨_, rfl⟩ (by omega) (by omega) (Pch.of_rd s2.ps (push_no y1 v)) (fun h2 nx2 _ r _ => Rch.of_rd r (rpush_no (y2 _ _ r) v)) (fun i h1 h2 => rfl) s2.fA s2.fB
theorem pair_slot (d : Bool) {h : Mem} {nx c base : Nat} {h0 : Mem} {p w : Nat} {F : List Fr} {U : List Bool} {s : Int} {A B : List (List Int)} {X : List (List AV)} {R : List (AV × AV)} (g : G2 base h0 h nx p w F U s A B X R) (hc : c < nx ∧ c ≠ p ∧ ¬ Own F c) (i k v : Int) : Pair d isB 20 26 [.ptr p 0, .int .i64 i, .int .i64 k, .int .u32 v] [.ptr w 0, .int .i64 i, .int .i64 k, .int .u32 v] h nx c base h0 p w := by
  have s2 := g.s2
  have hF := s2.rs.hF
  have hU := s2.rs.hU
  have hA := s2.rs.hA
  have hB := s2.rs.hB
  rcases in_or s2 i with ⟨n, hn, rfl, hu⟩ | ⟨y1, y2⟩
  · have nF : n < F.length := by omega
    have nA : n < A.length := by omega
    have l8 := s2.fA n nA
    by_cases cl : 0 ≤ k ∧ k < (A[n].length : Int)
    · obtain ⟨q, rfl⟩ : ∃ q : Nat, k = (q : Int) := ⟨k.toNat, by omega⟩
      have P := slot_yes s2.ps n hn nF nA (by omega) hu q (by omega) (by omega) v
      exact pair_of g hc ⟨_, rfl⟩ (by omega) (by omega) P (fun h2 nx2 _ r _ => rslot_yes r n hn nA hu q (by omega) (by omega) v) (fun i h1 h2 => rfl) (few_set s2.fA n _ (by rw [List.length_set]; exact l8)) s2.fB
    · exact pair_of g hc ⟨_, rfl⟩ (by omega) (by omega) (Pch.of_rd s2.ps (slot_out s2.ps n hn nF nA hu k v (by omega))) (fun h2 nx2 _ r _ => Rch.of_rd r (rslot_out r n hn nA hu k v (by omega))) (fun i h1 h2 => rfl) s2.fA s2.fB
  · exact pair_of g hc ⟨_, rfl⟩ (by omega) (by omega) (Pch.of_rd s2.ps (slot_no y1 k v)) (fun h2 nx2 _ r _ => Rch.of_rd r (rslot_no (y2 _ _ r) k v)) (fun i h1 h2 => rfl) s2.fA s2.fB
def isT (r : AV) : Prop := ∃ x b, r = .tup [.int .u32 x, .bool b]
theorem pair_pop (d : Bool) {h : Mem} {nx c base : Nat} {h0 : Mem} {p w : Nat} {F : List Fr} {U : List Bool} {s : Int} {A B : List (List Int)} {X : List (List AV)} {R : List (AV × AV)} (g : G2 base h0 h nx p w F U s A B X R) (hc : c < nx ∧ c ≠ p ∧ ¬ Own F c) (i : Int) : Pair d isT 16 25 [.ptr p 0, .int .i64 i] [.ptr w 0, .int .i64 i] h nx c base h0 p w := by
  have s2 := g.s2
  have hF := s2.rs.hF
  have hU := s2.rs.hU
  have hA := s2.rs.hA
  have hB := s2.rs.hB
  rcases in_or s2 i with ⟨n, hn, rfl, hu⟩ | ⟨y1, y2⟩
  · have nF : n < F.length := by omega
    have nB : n < B.length := by omega
    have l8 := s2.fB n nB
    rcases List.eq_nil_or_concat B[n] with e | ⟨l, x, e⟩
    · exact pair_of g hc ⟨_, _, rfl⟩ (by omega) (by omega) (Pch.of_rd s2.ps (pop_nil s2.ps n hn nF nB hu e)) (fun h2 nx2 _ r _ => Rch.of_rd r (rpop_nil r n hn nB hu e)) (fun i h1 h2 => rfl) s2.fA s2.fB
    · rw [List.concat_eq_append] at e
      have ll : l.length ≤ 8 := by rw [e] at l8; simp at l8; omega
      obtain ⟨st, P⟩ := pop_yes s2.ps n hn nF (by omega) nB hu e (by omega)
      exact pair_of g hc ⟨_, _, rfl⟩ (by omega) (by omega) P (fun h2 nx2 _ r _ => rpop_yes r n hn nB hu e (by omega)) (set_pl F n nF _ rfl) s2.fA (few_set s2.fB n _ ll)
  · exact pair_of g hc ⟨_, _, rfl⟩ (by omega) (by omega) (Pch.of_rd s2.ps (pop_no y1)) (fun h2 nx2 _ r _ => Rch.of_rd r (rpop_no (y2 _ _ r))) (fun i h1 h2 => rfl) s2.fA s2.fB
def isI (r : AV) : Prop := ∃ n, r = .int .i64 n
theorem take_nv {h : Mem} {nx p : Nat} {F : List Fr} {U : List Bool} {s : Int} {A B : List (List Int)} (ps : PS h nx p F U s A B) (me se ho self : Int) (v : AV) (l : List Int) (gx : SV v h nx l) (c : ¬ ff U < 24 ∨ 8 < l.length) : Rd 100 13 [.ptr p 0, .int .i64 me, .int .u32 self, v, .int .i64 se, .int .i64 ho] h nx (.int .i64 (-1)) := by
  intro lg hlg
  obtain ⟨tc, x1⟩ := (index_rd ps).at lg hlg
  have ll := gx.lenOp
  rw [xF_fr T13]
  by_cases c1 : ff U < 24
  · have c2 : 8 < l.length := by rcases c with c | c <;> omega
    have c2' : (8 : Int) < (l.length : Int) := by omega
    have c3 : ¬ (ff U : Int) < 0 := by omega
    rw [if_pos c1] at x1
    generalize l.length = Ln at *
    simp (maxSteps := 4000000) [↓step_none, ↓step_t, ↓step_f, ↓step_nt, ↓step_nf, ↓op_load, ↓op_store, ↓op_slice, ↓op_app, ↓P_skip, ↓P_exit, ↓P_ret, ↓P_seq, ↓P_cond, ↓P_blk, ↓P_reg, ↓P_draw, ↓P_nil, ↓P_cons, condP_t, condP_f, dum_ab, stepR, want_none, want_some, opRun, ev_t, ev_c, put_none, put_some, resAll, res_tmp, res_cell, oneOf, minI, maxI, min2A, max2A, mn2, mx2, mx3, rdBlk, wrBlk, newBlk, partA, abin, ibin, isShift, AV.cells, AV.one, lay, sub, fillA, lenA, toN, allApart, apartFrom, Nat.testBit, Mem.blk_set_same, Mem.blk_set_ne, Mem.set_set, bit_zero, bit_self, lowBits_or, lowBits_zero, len_setT, sl_same, sl_ne, len_frame, sl_frame,↓op_len, lenOp_slc, lenOp_nils, ↓Post.some, ↓Post_bind, ↓Post_ret, ↓Post_draw, ↓PostL_nil, ↓PostL_cons, Post_fail, ofOpt_some, ofOpt_none, eA_b, eA_i, eA_s, eA_nn, eA_np, eA_pn, eA_lnn, eA_lnp, eA_lpn, eA_i2, eA_i3, blt_dec, Nat.add_assoc, keeps_refl, keeps_at, keeps_up, new_one, and_pow, bit_hi, lowBits_pow, ble_dec, fr_refl, fr_at, fr_up, fr_p, dum_ab, F13, bnd, x1, ll, c2', c2, c3]
  · rw [if_neg c1] at x1
    simp (maxSteps := 4000000) [↓step_none, ↓step_t, ↓step_f, ↓step_nt, ↓step_nf, ↓op_load, ↓op_store, ↓op_slice, ↓op_app, ↓P_skip, ↓P_exit, ↓P_ret, ↓P_seq, ↓P_cond, ↓P_blk, ↓P_reg, ↓P_draw, ↓P_nil, ↓P_cons, condP_t, condP_f, dum_ab, stepR, want_none, want_some, opRun, ev_t, ev_c, put_none, put_some, resAll, res_tmp, res_cell, oneOf, minI, maxI, min2A, max2A, mn2, mx2, mx3, rdBlk, wrBlk, newBlk, partA, abin, ibin, isShift, AV.cells, AV.one, lay, sub, fillA, lenA, toN, allApart, apartFrom, Nat.testBit, Mem.blk_set_same, Mem.blk_set_ne, Mem.set_set, bit_zero, bit_self, lowBits_or, lowBits_zero, len_setT, sl_same, sl_ne, len_frame, sl_frame,↓op_len, lenOp_slc, lenOp_nils, ↓Post.some, ↓Post_bind, ↓Post_ret, ↓Post_draw, ↓PostL_nil, ↓PostL_cons, Post_fail, ofOpt_some, ofOpt_none, eA_b, eA_i, eA_s, eA_nn, eA_np, eA_pn, eA_lnn, eA_lnp, eA_lpn, eA_i2, eA_i3, blt_dec, Nat.add_assoc, keeps_refl, keeps_at, keeps_up, new_one, and_pow, bit_hi, lowBits_pow, ble_dec, fr_refl, fr_at, fr_up, fr_p, dum_ab, F13, bnd, x1]
theorem pair_take (d : Bool) {h : Mem} {nx c base : Nat} {h0 : Mem} {p w : Nat} {F : List Fr} {U : List Bool} {s : Int} {A B : List (List Int)} {X : List (List AV)} {R : List (AV × AV)} (g : G2 base h0 h nx p w F U s A B X R) (hc : c < nx ∧ c ≠ p ∧ ¬ Own F c) (me self se ho : Int) {v : AV} {l : List Int} (gx : SV v h0 base l) (hv : ∀ q, bid v = some q → q < base) :
    Pair d isI 13 27 [.ptr p 0, .int .i64 me, .int .u32 self, v, .int .i64 se, .int .i64 ho] [.ptr w 0, .int .i64 me, .int .u32 self, v, .int .i64 se, .int .i64 ho] h nx c base h0 p w := by
  have s2 := g.s2
  have hF := s2.rs.hF
  have hp := s2.ps.hp
  have hw := s2.rs.hw
  have bp := g.bp
  have bw := g.bw
  have vp : bid v ≠ some p := fun e => by have := hv p e; omega
  have vw : bid v ≠ some w := fun e => by have := hv w e; omega
  have up : ∀ {h2 : Mem} {nx2 : Nat}, base ≤ nx2 → (∀ b, b < base → h2.blk b = h0.blk b) → SV v h2 nx2 l := fun hn k => sv_keep gx hn fun b hb _ => k b hb
  have gP : SV v h nx l := up (by omega) g.k
  by_cases c : ff U < 24 ∧ l.length ≤ 8
  · obtain ⟨sl, P⟩ := take_sv s2.ps me se ho self v l gP vp c.1 c.2
    exact pair_of g hc ⟨_, rfl⟩ (by omega) (by omega) P (fun h2 nx2 n2 r k2 => rtake_yes r me self se ho v sl l (up (by omega) k2) vw (fun q hq => by have := hv q hq; omega) c.2 c.1) (fun i h1 h2 => rfl) (few_set s2.fA _ _ c.2) (few_set s2.fB _ _ (by simp))
  · exact pair_of g hc ⟨_, rfl⟩ (by omega) (by omega) (Pch.of_rd s2.ps (take_nv s2.ps me se ho self v l gP (by omega))) (fun h2 nx2 n2 r k2 => Rch.of_rd r (rtake_no r me self se ho v l (up (by omega) k2) vw (fun q hq => by have := hv q hq; omega) (by omega))) (fun i h1 h2 => rfl) s2.fA s2.fB
end Go.Proofs.YtobcboiemibkkaaT
