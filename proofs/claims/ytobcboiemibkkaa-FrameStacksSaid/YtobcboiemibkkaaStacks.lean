/- Frame: FrameStacks (printed by genst.py). -/
import Derived.Test.YtobcboiemibkkaaKnown
namespace Go.Proofs.YtobcboiemibkkaaT
open Go Go.Proofs.YtobcboiemibkkaaE Go.Proofs.YtobcboiemibkkaaB
set_option linter.unusedSimpArgs false
set_option linter.unusedVariables false
attribute [local congr] Post_cg PostL_cg condP_cg

def U2 : List Bool := (U0.set 0 true).set 1 true
def A2 : List (List Int) := A0.set 0 [8]
def B2 (b0 b1 : List Int) : List (List Int) := (A0.set 0 b0).set 1 b1
theorem b2_0 (b0 b1 l : List Int) : (B2 b0 b1).set 0 l = B2 l b1 := rfl
theorem b2_1 (b0 b1 l : List Int) : (B2 b0 b1).set 1 l = B2 b0 l := rfl
theorem b2_few {b0 b1 : List Int} (h0 : b0.length ≤ 8) (h1 : b1.length ≤ 8) : Few (B2 b0 b1) := few_set (few_set few_0 0 _ h0) 1 _ h1
/-- The pool, and what is wanted. -/
structure ST (h : Mem) (nx base p w : Nat) (F : List Fr) (b0 b1 : List Int) (x0 x1 : AV) : Prop where
  ps : PS h nx p F U2 2 A2 (B2 b0 b1)
  wb : h.blk w = some ⟨41, 2, true, false, [x0, x1]⟩
  r0 : OR x0 h nx b0
  r1 : OR x1 h nx b1
  wn : w < nx ∧ w ≠ p ∧ ¬ Own F w
  n0 : ∀ b, bid x0 = some b → b ≠ p ∧ b ≠ w ∧ ¬ Own F b
  n1 : ∀ b, bid x1 = some b → b ≠ p ∧ b ≠ w ∧ ¬ Own F b
  nn : ∀ b, bid x0 = some b → bid x1 ≠ some b
  lo : base ≤ p ∧ base ≤ w ∧ (∀ b, Own F b → base ≤ b) ∧ (∀ b, bid x0 = some b → base ≤ b) ∧ (∀ b, bid x1 = some b → base ≤ b)
  len : b0.length ≤ 8 ∧ b1.length ≤ 8
/-- A call of the pool's. -/
theorem ST.call {h h' : Mem} {nx nx' base p w : Nat} {F F' : List Fr} {b0 b1 c0 c1 : List Int} {x0 x1 : AV} {wr : Nat} (s : ST h nx base p w F b0 b1 x0 x1) (hb : base ≤ nx) (ps' : PS h' nx' p F' U2 2 A2 (B2 c0 c1)) (hn : nx ≤ nx') (ow : ∀ b, Own F' b → Own F b ∨ nx ≤ b) (fr : ∀ b, b ≠ p → ¬ Own F b → wr &&& 2 ^ b = 0 ∧ (b < nx → h'.blk b = h.blk b)) :
    PS h' nx' p F' U2 2 A2 (B2 c0 c1) ∧ h'.blk w = some ⟨41, 2, true, false, [x0, x1]⟩ ∧ OR x0 h' nx' b0 ∧ OR x1 h' nx' b1 ∧ (w < nx' ∧ w ≠ p ∧ ¬ Own F' w) ∧ (∀ b, bid x0 = some b → b ≠ p ∧ b ≠ w ∧ ¬ Own F' b) ∧ (∀ b, bid x1 = some b → b ≠ p ∧ b ≠ w ∧ ¬ Own F' b) ∧ (∀ b, Own F' b → base ≤ b) ∧ (∀ b, b < base → h'.blk b = h.blk b) ∧ wr &&& 2 ^ w = 0 := by
  have no : ∀ b, b < nx → ¬ Own F b → ¬ Own F' b := fun b hb h1 h2 => by rcases ow b h2 with h | h; exact h1 h; omega
  obtain ⟨l1, l2, l3, l4, l5⟩ := s.lo
  refine ⟨ps', ((fr w s.wn.2.1 s.wn.2.2).2 s.wn.1).trans s.wb, s.r0.keep hn fun b hb => (fr b (s.n0 b hb).1 (s.n0 b hb).2.2).2 (s.r0.lt hb), s.r1.keep hn fun b hb => (fr b (s.n1 b hb).1 (s.n1 b hb).2.2).2 (s.r1.lt hb), ⟨by have := s.wn.1; omega, s.wn.2.1, no w s.wn.1 s.wn.2.2⟩, fun b hb => ⟨(s.n0 b hb).1, (s.n0 b hb).2.1, no b (s.r0.lt hb) (s.n0 b hb).2.2⟩, fun b hb => ⟨(s.n1 b hb).1, (s.n1 b hb).2.1, no b (s.r1.lt hb) (s.n1 b hb).2.2⟩, fun b hb => ?_, fun b hb => (fr b (by omega) (fun h => by have := l3 b h; omega)).2 (by omega), (fr w s.wn.2.1 s.wn.2.2).1⟩
  rcases ow b hb with h | h
  · exact l3 b h
  · omega
def SkI (v vb : AV) (h0 : Mem) (base : Nat) (m : Nat) (ts : List AV) (h : Mem) (nx tc wr : Nat) : Prop := ∃ (j p w : Nat) (F : List Fr) (b0 b1 : List Int) (x0 x1 : AV), m = 40 - j ∧ j ≤ 40 ∧ ts.length = 169 ∧ sl ts 0 = v ∧ sl ts 1 = vb ∧ sl ts 5 = .ptr p 0 ∧ sl ts 6 = .ptr w 0 ∧ sl ts 7 = .int .i64 j ∧ base ≤ nx ∧ ST h nx base p w F b0 b1 x0 x1 ∧ ∀ b, b < base → h.blk b = h0.blk b
def SkR (h0 : Mem) (base : Nat) (e : Ex) (ts : List AV) (h : Mem) (nx tc wr : Nat) : Prop := e = .exit 0 ∧ ∃ (p w : Nat) (F : List Fr) (b0 b1 : List Int) (x0 x1 : AV), ts.length = 169 ∧ sl ts 5 = .ptr p 0 ∧ sl ts 6 = .ptr w 0 ∧ base ≤ nx ∧ ST h nx base p w F b0 b1 x0 x1 ∧ ∀ b, b < base → h.blk b = h0.blk b
theorem urow {v : AV} {h : Mem} {nx : Nat} {l : List Int} (r : IRow .u32 v h nx l) {i : Nat} (hi : i < l.length) : ∃ b c, v = .slc b 0 l.length c ∧ b < nx ∧ ∀ lg, ldA none (.ptr b i) h nx lg = some ⟨.int .u32 l[i], h, nx, bit lg b, 0⟩ := by
  obtain ⟨b, c, K, e, hb, hK, hc⟩ := r.at hi
  exact ⟨b, c, e, hb, fun lg => ld_at hK hb hc lg⟩
def bl (K : List Bool) : List (List AV) := K.map fun b => [.bool b]
theorem bl_of : ∀ {l : List (List AV)}, (∀ x ∈ l, LeavesV [.b] x) → ∃ K, l = bl K
  | [], _ => ⟨[], rfl⟩
  | x :: l, h => by
    obtain ⟨K, rfl⟩ := bl_of (l := l) (fun y hy => h y (List.mem_cons_of_mem _ hy))
    have := h x (by simp)
    simp only [LeavesV, LeafV] at this
    obtain ⟨_, _, rfl, ⟨b, rfl⟩, rfl⟩ := this
    exact ⟨b :: K, rfl⟩
theorem brow {v : AV} {h : Mem} {nx : Nat} {K : List Bool} (r : SRow 1 v h nx (bl K)) {i : Nat} (hi : i < K.length) : ∃ b c, v = .slc b 0 K.length c ∧ b < nx ∧ ∀ lg, ldA none (.ptr b i) h nx lg = some ⟨.bool K[i], h, nx, bit lg b, 0⟩ := by
  have hi' : i < (bl K).length := by unfold bl; rwa [List.length_map]
  obtain ⟨b, c, B, e, hb, hB, _, h2⟩ := SRow.at r hi'
  have e1 : (bl K)[i] = [.bool K[i]] := get_of (by unfold bl; rw [List.getElem?_map, List.getElem?_eq_getElem hi]; rfl) hi'
  have e2 : (bl K).length = K.length := by unfold bl; rw [List.length_map]
  have := h2 0 (.bool K[i]) (by rw [e1]; rfl)
  rw [Nat.mul_one, Nat.add_zero] at this
  rw [e2] at e
  exact ⟨b, c, e, hb, fun lg => ld_at hB hb this lg⟩
theorem rv_op {v : AV} {h : Mem} {nx : Nat} {l : List Int} (r : IRow .u32 v h nx l) : lenOp v = A.ret (.int .i64 l.length) := r.lenOp
theorem br_op {v : AV} {h : Mem} {nx : Nat} {K : List Bool} (r : SRow 1 v h nx (bl K)) : lenOp v = A.ret (.int .i64 K.length) := by
  have := r.lenOp
  have e2 : (bl K).length = K.length := by unfold bl; rw [List.length_map]
  rwa [e2] at this

/-! ### Of the first -/
theorem w_ld0 {h : Mem} {nx w : Nat} {x0 x1 : AV} (hb : h.blk w = some ⟨41, 2, true, false, [x0, x1]⟩) (hn : w < nx) (lg : Nat) : ldA none (.ptr w 0) h nx lg = some ⟨x0, h, nx, bit lg w, 0⟩ := ld_at hb hn rfl lg
theorem w_st0 {h : Mem} {nx w : Nat} {x0 x1 xx : AV} (hb : h.blk w = some ⟨41, 2, true, false, [x0, x1]⟩) (hn : w < nx) (hx : xx.cells = [xx]) (ho : xx.one = true) (lg : Nat) : stA 1 (.ptr w 0) xx h nx lg = some ⟨.tup [], h.set w (some ⟨41, 2, true, false, [xx, x1]⟩), nx, bit lg w, bit lg w⟩ := by
  have := st_at (n := 1) hb hn (o := 0) xx (by rw [hx]; rfl) (by rw [hx]; simp only [List.all_cons, List.all_nil, ho]; rfl) (by show 1 ≤ 2; omega) lg
  rw [hx] at this
  exact this
/-- What is wanted is another row. -/
theorem ST.want0 {h h' : Mem} {nx nx' base p w : Nat} {F : List Fr} {b1 c : List Int} {x0 x1 xx : AV} (ps : PS h nx p F U2 2 A2 (B2 c b1)) (ro : OR x1 h nx b1) (wn : w < nx ∧ w ≠ p ∧ ¬ Own F w) (n0 : ∀ b, bid x0 = some b → b ≠ p ∧ b ≠ w ∧ ¬ Own F b) (n1 : ∀ b, bid x1 = some b → b ≠ p ∧ b ≠ w ∧ ¬ Own F b) (nn : ∀ b, bid x0 = some b → bid x1 ≠ some b) (lo : base ≤ p ∧ base ≤ w ∧ (∀ b, Own F b → base ≤ b) ∧ (∀ b, bid x0 = some b → base ≤ b) ∧ (∀ b, bid x1 = some b → base ≤ b)) (hb : base ≤ nx)
    (hn : nx ≤ nx') (hx : bid xx = bid x0 ∨ ∀ b, bid xx = some b → nx ≤ b) (rx : OR xx (h'.set w (some ⟨41, 2, true, false, [xx, x1]⟩)) nx' c) (fr : ∀ b, b < nx → bid x0 ≠ some b → h'.blk b = h.blk b) (len : c.length ≤ 8 ∧ b1.length ≤ 8) :
    ST (h'.set w (some ⟨41, 2, true, false, [xx, x1]⟩)) nx' base p w F c b1 xx x1 := by
  have hp := ps.hp
  have dd : ∀ b, bid x0 = some b → bid x1 ≠ some b := fun b h1 h2 => nn b h1 h2
  have fx : ∀ b, bid xx = some b → bid x0 = some b ∨ nx ≤ b := fun b h => by
    rcases hx with e | e
    · exact .inl (by rw [← e]; exact h)
    · exact .inr (e b h)
  have nq : ∀ b, bid xx = some b → b ≠ p ∧ b ≠ w ∧ ¬ Own F b := fun b h => by
    rcases fx b h with h | h
    · exact n0 b h
    · exact ⟨by omega, by have := wn.1; omega, fun h2 => by have := ps.lt (.inr h2); omega⟩
  have lx : ∀ b, bid xx = some b → base ≤ b := fun b h => by
    rcases fx b h with h | h
    · exact lo.2.2.2.1 b h
    · omega
  have oo : OR x1 (h'.set w (some ⟨41, 2, true, false, [xx, x1]⟩)) nx' b1 := ro.keep hn fun b hb => by
    rw [Mem.blk_set_ne _ _ _ _ (n1 b hb).2.1]
    exact fr b (ro.lt hb) (fun h => dd b h hb)
  have dx : ∀ b, bid xx = some b → bid x1 ≠ some b := fun b h h2 => by
    rcases fx b h with h | h
    · exact dd b h h2
    · have := ro.lt h2; omega
  refine ⟨ps.keep hn fun b hb => ?_, Mem.blk_set_same .., rx, oo, ⟨by have := wn.1; omega, wn.2⟩, nq, n1, dx, ⟨lo.1, lo.2.1, lo.2.2.1, lx, lo.2.2.2.2⟩, len⟩
  have hne : b ≠ w := by
    rcases hb with rfl | hb
    · exact Ne.symm wn.2.1
    · intro e; subst e; exact wn.2.2 hb
  have hnx : bid x0 ≠ some b := fun h => by
    rcases hb with rfl | hb
    · exact (n0 b h).1 rfl
    · exact (n0 b h).2.2 hb
  rw [Mem.blk_set_ne _ _ _ _ hne, fr b (ps.lt hb) hnx]

/-! ### Of the second -/
theorem w_ld1 {h : Mem} {nx w : Nat} {x0 x1 : AV} (hb : h.blk w = some ⟨41, 2, true, false, [x0, x1]⟩) (hn : w < nx) (lg : Nat) : ldA none (.ptr w 1) h nx lg = some ⟨x1, h, nx, bit lg w, 0⟩ := ld_at hb hn rfl lg
theorem w_st1 {h : Mem} {nx w : Nat} {x0 x1 xx : AV} (hb : h.blk w = some ⟨41, 2, true, false, [x0, x1]⟩) (hn : w < nx) (hx : xx.cells = [xx]) (ho : xx.one = true) (lg : Nat) : stA 1 (.ptr w 1) xx h nx lg = some ⟨.tup [], h.set w (some ⟨41, 2, true, false, [x0, xx]⟩), nx, bit lg w, bit lg w⟩ := by
  have := st_at (n := 1) hb hn (o := 1) xx (by rw [hx]; rfl) (by rw [hx]; simp only [List.all_cons, List.all_nil, ho]; rfl) (by show 2 ≤ 2; omega) lg
  rw [hx] at this
  exact this
/-- What is wanted is another row. -/
theorem ST.want1 {h h' : Mem} {nx nx' base p w : Nat} {F : List Fr} {b0 c : List Int} {x0 x1 xx : AV} (ps : PS h nx p F U2 2 A2 (B2 b0 c)) (ro : OR x0 h nx b0) (wn : w < nx ∧ w ≠ p ∧ ¬ Own F w) (n0 : ∀ b, bid x0 = some b → b ≠ p ∧ b ≠ w ∧ ¬ Own F b) (n1 : ∀ b, bid x1 = some b → b ≠ p ∧ b ≠ w ∧ ¬ Own F b) (nn : ∀ b, bid x0 = some b → bid x1 ≠ some b) (lo : base ≤ p ∧ base ≤ w ∧ (∀ b, Own F b → base ≤ b) ∧ (∀ b, bid x0 = some b → base ≤ b) ∧ (∀ b, bid x1 = some b → base ≤ b)) (hb : base ≤ nx)
    (hn : nx ≤ nx') (hx : bid xx = bid x1 ∨ ∀ b, bid xx = some b → nx ≤ b) (rx : OR xx (h'.set w (some ⟨41, 2, true, false, [x0, xx]⟩)) nx' c) (fr : ∀ b, b < nx → bid x1 ≠ some b → h'.blk b = h.blk b) (len : c.length ≤ 8 ∧ b0.length ≤ 8) :
    ST (h'.set w (some ⟨41, 2, true, false, [x0, xx]⟩)) nx' base p w F b0 c x0 xx := by
  have hp := ps.hp
  have dd : ∀ b, bid x1 = some b → bid x0 ≠ some b := fun b h1 h2 => nn b h2 h1
  have fx : ∀ b, bid xx = some b → bid x1 = some b ∨ nx ≤ b := fun b h => by
    rcases hx with e | e
    · exact .inl (by rw [← e]; exact h)
    · exact .inr (e b h)
  have nq : ∀ b, bid xx = some b → b ≠ p ∧ b ≠ w ∧ ¬ Own F b := fun b h => by
    rcases fx b h with h | h
    · exact n1 b h
    · exact ⟨by omega, by have := wn.1; omega, fun h2 => by have := ps.lt (.inr h2); omega⟩
  have lx : ∀ b, bid xx = some b → base ≤ b := fun b h => by
    rcases fx b h with h | h
    · exact lo.2.2.2.2 b h
    · omega
  have oo : OR x0 (h'.set w (some ⟨41, 2, true, false, [x0, xx]⟩)) nx' b0 := ro.keep hn fun b hb => by
    rw [Mem.blk_set_ne _ _ _ _ (n0 b hb).2.1]
    exact fr b (ro.lt hb) (fun h => dd b h hb)
  have dx : ∀ b, bid xx = some b → bid x0 ≠ some b := fun b h h2 => by
    rcases fx b h with h | h
    · exact dd b h h2
    · have := ro.lt h2; omega
  refine ⟨ps.keep hn fun b hb => ?_, Mem.blk_set_same .., oo, rx, ⟨by have := wn.1; omega, wn.2⟩, n0, nq, fun b h1 h2 => dx b h2 h1, ⟨lo.1, lo.2.1, lo.2.2.1, lo.2.2.2.1, lx⟩, ⟨len.2, len.1⟩⟩
  have hne : b ≠ w := by
    rcases hb with rfl | hb
    · exact Ne.symm wn.2.1
    · intro e; subst e; exact wn.2.2 hb
  have hnx : bid x1 ≠ some b := fun h => by
    rcases hb with rfl | hb
    · exact (n1 b h).1 rfl
    · exact (n1 b h).2.2 hb
  rw [Mem.blk_set_ne _ _ _ _ hne, fr b (ps.lt hb) hnx]
end Go.Proofs.YtobcboiemibkkaaT
