/- Frame: what is not the pool's stays; known answers true. -/
import Derived.Test.YtobcboiemibkkaaRoots
namespace Go.Proofs.YtobcboiemibkkaaT
open Go Go.Proofs.YtobcboiemibkkaaE Go.Proofs.YtobcboiemibkkaaB
set_option linter.unusedSimpArgs false
set_option linter.unusedVariables false
attribute [local congr] Post_cg PostL_cg condP_cg

/-- A row that is not the pool's. -/
structure FR (h : Mem) (nx p : Nat) (F : List Fr) (v : AV) (l : List Int) : Prop where
  rv : RV 1 l.length v h 0 nx (u32s l)
  no : ∀ b, bid v = some b → b < nx ∧ b ≠ p ∧ ¬ Own F b
theorem FR.step {h h' : Mem} {nx nx' p : Nat} {F F' : List Fr} {v : AV} {l : List Int} {wr : Nat} (r : FR h nx p F v l) (hn : nx ≤ nx') (ow : ∀ b, Own F' b → Own F b ∨ nx ≤ b) (fr : ∀ b, b ≠ p → ¬ Own F b → wr &&& 2 ^ b = 0 ∧ (b < nx → h'.blk b = h.blk b)) : FR h' nx' p F' v l :=
  ⟨rv_keep r.rv hn fun b hb h => (fr b (r.no b h).2.1 (r.no b h).2.2).2 hb, fun b hb => by
    obtain ⟨h1, h2, h3⟩ := r.no b hb
    refine ⟨by omega, h2, fun h => ?_⟩
    rcases ow b h with h | h
    · exact h3 h
    · omega⟩
theorem FR.keeps {h h' : Mem} {nx nx' p : Nat} {F : List Fr} {v : AV} {l : List Int} (r : FR h nx p F v l) (hn : nx ≤ nx') (e : ∀ b, b < nx → h'.blk b = h.blk b) : FR h' nx' p F v l :=
  ⟨rv_keep r.rv hn fun b hb _ => e b hb, fun b hb => by obtain ⟨h1, h2, h3⟩ := r.no b hb; exact ⟨by omega, h2, h3⟩⟩
/-- A block that is not the pool's. -/
structure FB (h : Mem) (nx p : Nat) (F : List Fr) (b : Nat) (K : Blk) : Prop where
  blk : h.blk b = some K
  no : b < nx ∧ b ≠ p ∧ ¬ Own F b
theorem FB.step {h h' : Mem} {nx nx' p : Nat} {F F' : List Fr} {b : Nat} {K : Blk} {wr : Nat} (r : FB h nx p F b K) (hn : nx ≤ nx') (ow : ∀ b, Own F' b → Own F b ∨ nx ≤ b) (fr : ∀ b, b ≠ p → ¬ Own F b → wr &&& 2 ^ b = 0 ∧ (b < nx → h'.blk b = h.blk b)) : FB h' nx' p F' b K := by
  obtain ⟨h0, h1, h2, h3⟩ := r
  refine ⟨((fr b h2 h3).2 h1).trans h0, by omega, h2, fun h => ?_⟩
  rcases ow b h with h | h
  · exact h3 h
  · omega
theorem FB.keeps {h h' : Mem} {nx nx' p : Nat} {F : List Fr} {b : Nat} {K : Blk} (r : FB h nx p F b K) (hn : nx ≤ nx') (e : ∀ b, b < nx → h'.blk b = h.blk b) : FB h' nx' p F b K := by
  obtain ⟨h0, h1, h2, h3⟩ := r
  exact ⟨(e b h1).trans h0, by omega, h2, h3⟩
/-- What is new is not the pool's. -/
theorem PS.newB {h : Mem} {nx p : Nat} {F : List Fr} {U : List Bool} {s : Int} {A B : List (List Int)} (ps : PS h nx p F U s A B) (K : Blk) : FB (h.set nx (some K)) (nx + 1) p F nx K :=
  ⟨Mem.blk_set_same .., by omega, by have := ps.hp; omega, fun h => by have := ps.lt (.inr h); omega⟩
theorem PS.new {h : Mem} {nx p : Nat} {F : List Fr} {U : List Bool} {s : Int} {A B : List (List Int)} (ps : PS h nx p F U s A B) (K : Option Blk) : PS (h.set nx K) (nx + 1) p F U s A B := ps.keeps (by omega) fun b hb => Mem.blk_set_ne _ _ _ _ (by omega)
theorem PS.fr {h h' : Mem} {nx nx' p : Nat} {F : List Fr} {U : List Bool} {s : Int} {A B : List (List Int)} (ps : PS h nx p F U s A B) {v : AV} {l : List Int} (rv : RV 1 l.length v h' 0 nx' (u32s l)) (lo : ∀ b, bid v = some b → nx ≤ b) : FR h' nx' p F v l :=
  ⟨rv, fun b hb => by
    have h1 := lo b hb
    have hp := ps.hp
    refine ⟨?_, by omega, fun h => by have := ps.lt (.inr h); omega⟩
    rcases rv with ⟨rfl, _⟩ | ⟨c, o, cc, K, _, hc, rfl, _⟩
    · cases hb
    · cases hb; exact hc⟩
theorem FR.lit {h : Mem} {nx p : Nat} {F : List Fr} {b n : Nat} {t : TypeId} {o g : Bool} {m : List Int} {c : Option Nat} (r : FB h nx p F b ⟨t, 1, o, g, u32s m⟩) (hn : n = m.length) : FR h nx p F (.slc b 0 n c) m := by
  subst hn
  exact ⟨rv_lit r.no.1 r.blk c, fun q hq => by cases hq; exact r.no⟩
theorem rl2 {F : List Fr} {U : List Bool} {A B : List (List Int)} (h : ∀ i, 2 ≤ i → i < 24 → rt F U A B i = []) : rl F U A B 24 = rt F U A B 0 ++ rt F U A B 1 := by
  have step : ∀ n, n ≤ 22 → rl F U A B (2 + n) = rl F U A B 2 := by
    intro n
    induction n with
    | zero => intro _; rfl
    | succ n ih =>
      intro hn
      rw [← Nat.add_assoc, rl_succ, h (2 + n) (by omega) (by omega), List.append_nil]
      exact ih (by omega)
  have := step 22 (Nat.le_refl _)
  rw [show 2 + 22 = 24 from rfl] at this
  rw [this, rl_succ, rl_succ]
  rfl
theorem few_set {A : List (List Int)} (h : Few A) (i : Nat) (l : List Int) (hl : l.length ≤ 8) : Few (A.set i l) := by
  intro j hj
  have hj' : j < A.length := by rwa [List.length_set] at hj
  by_cases c : i = j
  · subst c; rw [List.getElem_set_self]; exact hl
  · rw [List.getElem_set_ne c]; exact h j hj'
theorem few_0 : Few A0 := fun i h => by
  have : A0[i] = [] := List.getElem_replicate ..
  rw [this]; simp
theorem st_new (h : Mem) (nx : Nat) (f : Fr) {a b : AV} (ha : a = .nils ∨ ∃ q n, a = .slc q 0 n (some n)) (hb : b = .nils ∨ ∃ q n, b = .slc q 0 n (some n)) (lg : Nat) : stA 8 (.ptr nx 0) (fr8 f a b) (h.set nx (some ⟨36, 8, true, false, fzero⟩)) (nx + 1) lg = some ⟨.tup [], h.set nx (some ⟨36, 8, true, false, (fr8 f a b).cells⟩), nx + 1, bit lg nx, bit lg nx⟩ := by
  have o1 : a.one = true := by rcases ha with rfl | ⟨_, _, rfl⟩ <;> rfl
  have o2 : b.one = true := by rcases hb with rfl | ⟨_, _, rfl⟩ <;> rfl
  have := st_at (n := 8) (h := h.set nx (some ⟨36, 8, true, false, fzero⟩)) (Mem.blk_set_same ..) (show nx < nx + 1 by omega) (o := 0) (fr8 f a b) rfl (by simp only [fr8, AV.cells, List.all_cons, List.all_nil, o1, o2, Bool.and_true]; rfl) (by show 8 ≤ 8; omega) lg
  rw [Mem.set_set] at this
  exact this
set_option maxRecDepth 20000 in
set_option maxHeartbeats 32000000 in
theorem known_post (h : Mem) (nx lg : Nat) (hlg : lg ≤ nx) : Post (xF T 1300 9 [] h nx lg) fun v h' nx' _ _ => v = .bool true ∧ nx ≤ nx' ∧ Keeps nx h h' := by
  obtain ⟨h1, x1, ps1, k1⟩ := new_at h nx lg
  -- Take(3, 9, [1, 2], -1, -1)
  have ps1a := ps1.new (some ⟨23, 1, true, false, u32s [1, 2]⟩)
  have r1 := FR.lit (n := 2) (c := some 2) (ps1.newB ⟨23, 1, true, false, u32s [1, 2]⟩) rfl
  have f0 : ff U0 = 0 := by decide
  obtain ⟨sl1, c2⟩ := take_yes ps1a 3 (-1) (-1) 9 _ [1, 2] r1.rv (fun h => (r1.no _ h).2.1 rfl) (by decide) (by decide)
  rw [f0, if_pos rfl] at c2
  obtain ⟨h2, nx2, tc2, wr2, x2, n2, ps2, ow2, fr2⟩ := c2.at lg (by omega)
  have w1 : IntKind.i64.wrap (0 + 1) = 1 := by decide
  rw [w1] at ps2 ow2
  -- Take(4, 11, nil, 0, 0)
  have f1 : ff (U0.set 0 true) = 1 := by decide
  obtain ⟨sl2, c3⟩ := take_yes ps2 4 0 0 11 .nils [] (.inl ⟨rfl, rfl, rfl⟩) (fun h => by cases h) (by rw [f1]; omega) (by decide)
  rw [f1, if_neg (by decide)] at c3
  obtain ⟨h3, nx3, tc3, wr3, x3, n3, ps3, ow3, fr3⟩ := c3.at lg (by omega)
  have w2 : IntKind.i64.wrap (1 + 1) = 2 := by decide
  rw [w2] at ps3 ow3
  -- Push(1, 5)
  obtain ⟨G3, hF3⟩ : ∃ G3, G3 = (F0.set 0 ⟨3, 0, -1, ((0 : Nat) : Int), 1, 9, sl1, .nils⟩).set 1 ⟨4, 0, 0, 0, 2, 11, sl2, .nils⟩ := ⟨_, rfl⟩
  rw [← hF3] at ps3 ow3
  have l3 : G3.length = 24 := by rw [hF3]; rfl
  have g30 : G3[0] = ⟨3, 0, -1, 0, 1, 9, sl1, .nils⟩ := by subst hF3; rfl
  have g31 : G3[1] = ⟨4, 0, 0, 0, 2, 11, sl2, .nils⟩ := by subst hF3; rfl
  obtain ⟨st4, c4⟩ := push_yes ps3 1 (by decide) (by omega) (by decide) (by decide) (by decide) 5 (by decide)
  obtain ⟨h4, nx4, tc4, wr4, x4, n4, ps4, ow4, fr4⟩ := c4.at lg (by omega)
  rw [g31] at ps4 ow4
  -- Slot(0, 1, 7)
  have c5 := slot_yes ps4 0 (by decide) (by rw [List.length_set]; omega) (by decide) (by decide) (by decide) 1 (by decide) (by decide) 7
  obtain ⟨h5, nx5, tc5, wr5, x5, n5, ps5, ow5, fr5⟩ := c5.at lg (by omega)
  -- Goto(1, 6)
  have c6 := goto_yes ps5 1 (by decide) (by rw [List.length_set]; omega) (by decide) 6
  obtain ⟨h6, nx6, tc6, wr6, x6, n6, ps6, ow6, fr6⟩ := c6.at lg (by omega)
  simp only [List.getElem_set_self, List.set_set] at ps6 ow6
  obtain ⟨G6, hF6⟩ : ∃ G6, G6 = G3.set 1 ⟨4, 6, 0, 0, 2, 11, sl2, st4⟩ := ⟨_, rfl⟩
  rw [← hF6] at ps6 ow6
  have l6 : G6.length = 24 := by rw [hF6, List.length_set]; exact l3
  have g60 : G6[0] = ⟨3, 0, -1, 0, 1, 9, sl1, .nils⟩ := by subst hF6; rw [List.getElem_set_ne (by omega)]; exact g30
  have g61 : G6[1] = ⟨4, 6, 0, 0, 2, 11, sl2, st4⟩ := by subst hF6; rw [List.getElem_set_self]
  have q6 : PS h6 nx6 nx G6 ((U0.set 0 true).set 1 true) 2 (A0.set 0 [1, 7]) (A0.set 1 [5]) := ps6
  -- At(0)
  obtain ⟨a7, b7, h7, nx7, tc7, wr7, x7, n7, ra7, rb7, k7, lo7, lp7, fa7, fb7⟩ := at_yes q6 0 (by decide) (by omega) (by decide) (by decide) (by decide) (by decide) (by decide) lg (by omega)
  rw [g60] at x7
  have e7 : FR h7 nx7 nx G6 a7 [1, 7] := q6.fr ra7 lo7
  have q7 := q6.keeps n7 k7
  obtain ⟨K7, hK7⟩ : ∃ K7 : Blk, K7 = ⟨36, 8, true, false, [.int .i64 3, .int .i64 0, .int .i64 (-1), .int .i64 0, .int .i64 1, .int .u32 9, a7, b7]⟩ := ⟨_, rfl⟩
  obtain ⟨H7, hH7⟩ : ∃ H7, H7 = h7.set nx7 (some K7) := ⟨_, rfl⟩
  have B7 : FB H7 (nx7 + 1) nx G6 nx7 K7 := by rw [hH7]; exact q7.newB K7
  have q7a : PS H7 (nx7 + 1) nx G6 ((U0.set 0 true).set 1 true) 2 (A0.set 0 [1, 7]) (A0.set 1 [5]) := by rw [hH7]; exact q7.new (some K7)
  have e7a : FR H7 (nx7 + 1) nx G6 a7 [1, 7] := by rw [hH7]; exact e7.keeps (by omega) fun b hb => Mem.blk_set_ne _ _ _ _ (by omega)
  -- At(1)
  obtain ⟨a8, b8, h8, nx8, tc8, wr8, x8, n8, ra8, rb8, k8, lo8, lp8, fa8, fb8⟩ := at_yes q7a 1 (by decide) (by omega) (by decide) (by decide) (by decide) (by decide) (by decide) lg (by omega)
  rw [g61] at x8
  have q8 := q7a.keeps n8 k8
  have B7b := B7.keeps n8 k8
  have e7b := e7a.keeps n8 k8
  have e8 : FR h8 nx8 nx G6 b8 [5] := q7a.fr rb8 lp8
  obtain ⟨K8, hK8⟩ : ∃ K8 : Blk, K8 = ⟨36, 8, true, false, [.int .i64 4, .int .i64 6, .int .i64 0, .int .i64 0, .int .i64 2, .int .u32 11, a8, b8]⟩ := ⟨_, rfl⟩
  obtain ⟨H8, hH8⟩ : ∃ H8, H8 = h8.set nx8 (some K8) := ⟨_, rfl⟩
  have B8 : FB H8 (nx8 + 1) nx G6 nx8 K8 := by rw [hH8]; exact q8.newB K8
  have q8a : PS H8 (nx8 + 1) nx G6 ((U0.set 0 true).set 1 true) 2 (A0.set 0 [1, 7]) (A0.set 1 [5]) := by rw [hH8]; exact q8.new (some K8)
  have k8a : ∀ b, b < nx8 → H8.blk b = h8.blk b := fun b hb => by rw [hH8, Mem.blk_set_ne _ _ _ _ (by omega)]
  have B7c := B7b.keeps (show nx8 ≤ nx8 + 1 by omega) k8a
  have e7c := e7b.keeps (show nx8 ≤ nx8 + 1 by omega) k8a
  -- Pop(1), Pop(1)
  obtain ⟨st9, c9⟩ := pop_yes q8a 1 (by decide) (by omega) (by decide) (by decide) (by decide) (l := []) (x := 5) rfl (by decide)
  obtain ⟨h9, nx9, tc9, wr9, x9, n9, ps9, ow9, fr9⟩ := c9.at lg (by omega)
  obtain ⟨G9, hG9⟩ : ∃ G9, G9 = G6.set 1 { G6[1] with st := st9 } := ⟨_, rfl⟩
  rw [← hG9] at ps9 ow9
  have l9 : G9.length = 24 := by rw [hG9, List.length_set]; exact l6
  have g90 : G9[0] = ⟨3, 0, -1, 0, 1, 9, sl1, .nils⟩ := by subst hG9; rw [List.getElem_set_ne (by omega)]; exact g60
  have g91 : G9[1].self = 11 := by subst hG9; rw [List.getElem_set_self, g61]
  have q9 : PS h9 nx9 nx G9 ((U0.set 0 true).set 1 true) 2 (A0.set 0 [1, 7]) A0 := ps9
  have B7d := B7c.step n9 ow9 fr9
  have e7d := e7c.step n9 ow9 fr9
  have B8d := B8.step n9 ow9 fr9
  obtain ⟨tc10, x10⟩ := (pop_nil q9 1 (by decide) (by omega) (by decide) (by decide) (by decide)).at lg (by omega)
  -- Roots
  obtain ⟨v11, h11, nx11, tc11, wr11, x11, n11, rv11, k11, lo11, _⟩ := roots_mk q9 (few_set few_0 0 _ (by decide)) few_0 lg (by omega)
  have er : rl G9 ((U0.set 0 true).set 1 true) (A0.set 0 [1, 7]) A0 24 = [9, 1, 7, 11] := by
    rw [rl2 fun i h1 h2 => rt_no (show i < ((U0.set 0 true).set 1 true).length from h2) (by
      rw [List.getElem_set_ne (by omega), List.getElem_set_ne (by omega)]
      exact List.getElem_replicate ..)]
    rw [rt_yes (i := 0) (by decide) (by omega) (by decide) (by decide) (by decide), rt_yes (i := 1) (by decide) (by omega) (by decide) (by decide) (by decide), g90, g91]
    rfl
  rw [er] at rv11
  have e11 : FR h11 nx11 nx G9 v11 [9, 1, 7, 11] := q9.fr rv11 lo11
  have q11 := q9.keeps n11 k11
  have B7e := B7d.keeps n11 k11
  have e7e := e7d.keeps n11 k11
  have B8e := B8d.keeps n11 k11
  -- Give(0), Give(0)
  obtain ⟨h12, nx12, tc12, wr12, x12, n12, ps12, ow12, fr12⟩ := (give_yes q11 0 (by decide) (by decide)).at lg (by omega)
  have q12 : PS h12 nx12 nx G9 (U0.set 1 true) 2 (A0.set 0 [1, 7]) A0 := ps12
  have B7f := B7e.step n12 ow12 fr12
  have e7f := e7e.step n12 ow12 fr12
  have B8f := B8e.step n12 ow12 fr12
  have e12 := e11.step n12 ow12 fr12
  obtain ⟨tc13, x13⟩ := (give_no (is_in q12 0 (by decide))).at lg (by omega)
  -- the comparisons
  obtain ⟨H14, hH14⟩ : ∃ H14, H14 = h12.set nx12 (some ⟨23, 1, true, false, u32s [1, 7]⟩) := ⟨_, rfl⟩
  have k14 : ∀ b, b < nx12 → H14.blk b = h12.blk b := fun b hb => by rw [hH14, Mem.blk_set_ne _ _ _ _ (by omega)]
  have r14 : FR H14 (nx12 + 1) nx G9 (.slc nx12 0 2 (some 2)) [1, 7] := FR.lit (by rw [hH14]; exact q12.newB _) rfl
  obtain ⟨tc14, x14⟩ := same_eq (by decide) (e7f.keeps (show nx12 ≤ nx12 + 1 by omega) k14).rv r14.rv lg (by omega)
  have B7g := B7f.keeps (show nx12 ≤ nx12 + 1 by omega) k14
  have B8g := B8f.keeps (show nx12 ≤ nx12 + 1 by omega) k14
  have e14 := e12.keeps (show nx12 ≤ nx12 + 1 by omega) k14
  have q14 := q12.keeps (show nx12 ≤ nx12 + 1 by omega) k14
  obtain ⟨H15, hH15⟩ : ∃ H15, H15 = H14.set (nx12 + 1) (some ⟨23, 1, true, false, u32s [9, 1, 7, 11]⟩) := ⟨_, rfl⟩
  have k15 : ∀ b, b < nx12 + 1 → H15.blk b = H14.blk b := fun b hb => by rw [hH15, Mem.blk_set_ne _ _ _ _ (by omega)]
  have r15 : FR H15 (nx12 + 1 + 1) nx G9 (.slc (nx12 + 1) 0 4 (some 4)) [9, 1, 7, 11] := FR.lit (by rw [hH15]; exact q14.newB _) rfl
  obtain ⟨tc15, x15⟩ := same_eq (by decide) (e14.keeps (show nx12 + 1 ≤ nx12 + 1 + 1 by omega) k15).rv r15.rv lg (by omega)
  have q15 := q14.keeps (show nx12 + 1 ≤ nx12 + 1 + 1 by omega) k15
  obtain ⟨tc16, x16⟩ := (free_rd q15).at lg (by omega)
  have cf16 : cf (U0.set 1 true) = 23 := by decide
  rw [cf16] at x16
  obtain ⟨H17, hH17⟩ : ∃ H17, H17 = H15.set (nx12 + 1 + 1) (some ⟨23, 1, true, false, u32s [0, 0, 0, 0, 0, 0, 0, 0, 0]⟩) := ⟨_, rfl⟩
  have k17 : ∀ b, b < nx12 + 1 + 1 → H17.blk b = H15.blk b := fun b hb => by rw [hH17, Mem.blk_set_ne _ _ _ _ (by omega)]
  have r17 : FR H17 (nx12 + 1 + 1 + 1) nx G9 (.slc (nx12 + 1 + 1) 0 9 (some 9)) [0, 0, 0, 0, 0, 0, 0, 0, 0] := FR.lit (by rw [hH17]; exact q15.newB _) rfl
  have q17 := q15.keeps (show nx12 + 1 + 1 ≤ nx12 + 1 + 1 + 1 by omega) k17
  obtain ⟨tc17, x17⟩ := (take_no q17 1 0 0 1 _ [0, 0, 0, 0, 0, 0, 0, 0, 0] r17.rv (.inr (by decide))).at lg (by omega)
  have f18 : ff (U0.set 1 true) = 0 := by decide
  obtain ⟨sl18, c18⟩ := take_yes q17 1 0 0 1 .nils [] (.inl ⟨rfl, rfl, rfl⟩) (fun h => by cases h) (by rw [f18]; omega) (by decide)
  rw [f18] at c18
  obtain ⟨h18, nx18, tc18, wr18, x18, n18, ps18, ow18, fr18⟩ := c18.at lg (by omega)
  have lw0 : ∀ b, Own F0 b → nx ≤ b := fun b ⟨i, hi, hb⟩ => by
    have e : F0[i] = ⟨0, 0, 0, 0, 0, 0, .nils, .nils⟩ := List.getElem_replicate ..
    rw [e] at hb
    rcases hb with hb | hb <;> cases hb
  have lw2 := fun b (hb : Own _ b) => (ow2 b hb).elim (lw0 b) (fun h => (by omega : nx ≤ b))
  have lw3 := fun b (hb : Own G3 b) => (ow3 b hb).elim (lw2 b) (fun h => (by omega : nx ≤ b))
  have lw4 := fun b (hb : Own _ b) => (ow4 b hb).elim (lw3 b) (fun h => (by omega : nx ≤ b))
  have lw6 := fun b (hb : Own G6 b) => (ow6 b hb).elim (lw4 b) (fun h => (by omega : nx ≤ b))
  have lw9 := fun b (hb : Own G9 b) => (ow9 b hb).elim (lw6 b) (fun h => (by omega : nx ≤ b))
  have kA : ∀ b, b < nx → h18.blk b = h.blk b := by
    intro b hb
    have ne : b ≠ nx := by omega
    have no : ∀ {F : List Fr}, (∀ b, Own F b → nx ≤ b) → ¬ Own F b := fun l h => by have := l b h; omega
    rw [(fr18 b ne (no lw9)).2 (by omega), k17 b (by omega), k15 b (by omega), k14 b (by omega), (fr12 b ne (no lw9)).2 (by omega), k11 b (by omega), (fr9 b ne (no lw6)).2 (by omega), k8a b (by omega), k8 b (by omega), hH7, Mem.blk_set_ne _ _ _ _ (by omega), k7 b (by omega), (fr6 b ne (no lw4)).2 (by omega), (fr5 b ne (no lw4)).2 (by omega), (fr4 b ne (no lw3)).2 (by omega), (fr3 b ne (no lw2)).2 (by omega), (fr2 b ne (no lw0)).2 (by omega), Mem.blk_set_ne _ _ _ _ (by omega), k1 b hb]
  have bl7 : H14.blk nx7 = some K7 := B7g.blk
  have bl8 : H14.blk nx8 = some K8 := B8g.blk
  have lt7 := B7g.no.1
  have lt8 := B8g.no.1
  have bl7' : h12.blk nx7 = some K7 := B7f.blk
  have bl8' : h12.blk nx8 = some K8 := B8f.blk
  have lt7' := B7f.no.1
  have lt8' := B8f.no.1
  rw [hK7] at bl7 bl7' hH7
  rw [hK8] at bl8 bl8' hH8
  have s7 : stA 8 (.ptr nx7 0) (fr8 ⟨3, 0, -1, 0, 1, 9, sl1, .nils⟩ a7 b7) (h7.set nx7 (some ⟨36, 8, true, false, fzero⟩)) (nx7 + 1) lg = some ⟨.tup [], H7, nx7 + 1, bit lg nx7, bit lg nx7⟩ := by rw [hH7]; exact st_new h7 nx7 ⟨3, 0, -1, 0, 1, 9, sl1, .nils⟩ fa7 fb7 lg
  have s8 : stA 8 (.ptr nx8 0) (fr8 ⟨4, 6, 0, 0, 2, 11, sl2, st4⟩ a8 b8) (h8.set nx8 (some ⟨36, 8, true, false, fzero⟩)) (nx8 + 1) lg = some ⟨.tup [], H8, nx8 + 1, bit lg nx8, bit lg nx8⟩ := by rw [hH8]; exact st_new h8 nx8 ⟨4, 6, 0, 0, 2, 11, sl2, st4⟩ fa8 fb8 lg
  have s14 := hH14.symm
  have s15 := hH15.symm
  have s17 := hH17.symm
  simp only [u32s, List.map_cons, List.map_nil, fr8, fzero] at x2 x7 x8 s7 s8 s14 s15 s17
  simp only [show ((0 : Nat) : Int) = 0 from rfl, show ((1 : Nat) : Int) = 1 from rfl] at x2 x3 x4 x5 x6 x7 x8 x9 x10 x12 x13 x18
  have ll8 : lenOp b8 = A.ret (.int .i64 1) := rb8.lenOp
  rw [xF_fr T9]
  simp (maxSteps := 8000000) [↓step_none, ↓step_t, ↓step_f, ↓step_nt, ↓step_nf, ↓op_store, ↓P_skip, ↓P_exit, ↓P_ret, ↓P_seq, ↓P_cond, ↓P_blk, ↓P_reg, ↓P_draw, ↓P_nil, ↓P_cons, condP_t, condP_f, dum_ab, stepR, want_none, want_some, opRun, ev_t, ev_c, put_none, put_some, resAll, res_tmp, res_cell, oneOf, minI, maxI, min2A, max2A, mn2, mx2, mx3, rdBlk, wrBlk, newBlk, partA, abin, ibin, isShift, AV.cells, AV.one, lay, sub, fillA, lenA, toN, allApart, apartFrom, Nat.testBit, Mem.blk_set_same, Mem.blk_set_ne, Mem.set_set, bit_zero, bit_self, lowBits_or, lowBits_zero, len_setT, sl_same, sl_ne, len_frame, sl_frame,↓op_len, lenOp_slc, lenOp_nils, ↓Post.some, ↓Post_bind, ↓Post_ret, ↓Post_draw, ↓PostL_nil, ↓PostL_cons, Post_fail, ofOpt_some, ofOpt_none, eA_b, eA_i, eA_s, eA_nn, eA_np, eA_pn, eA_lnn, eA_lnp, eA_lpn, eA_i2, eA_i3, blt_dec, Nat.add_assoc, keeps_refl, keeps_at, keeps_up, new_one, and_pow, bit_hi, lowBits_pow, ble_dec, fr_refl, fr_at, fr_up, fr_p, dum_ab, F9, reps, x1, x2, x3, x4, x5, x6, x7, s7, x8, s8, x9, x10, x11, x12, x13, bl7, bl8, lt7, lt8, bl7', bl8', lt7', lt8', s14, x14, s15, x15, x16, s17, x17, x18, ll8, toNle]
  exact ⟨by omega, kA⟩
theorem known_ans (h : Mem) (nx : Nat) : Ans T 1300 9 [] h nx (.bool true) := known_post h nx 0 (Nat.zero_le _)
theorem known_at (h : Mem) (nx lg : Nat) (hlg : lg ≤ nx) : ∃ h' nx' tc wr, (∀ k, xF T (k + 1300) 9 [] h nx lg = some ⟨.bool true, h', nx', tc, wr⟩) ∧ nx ≤ nx' ∧ Keeps nx h h' := by
  obtain ⟨v, h', nx', tc, wr, e, rfl, e2, e3⟩ := (known_post h nx lg hlg).inv
  exact ⟨h', nx', tc, wr, fun k => xF_mono T (Nat.le_add_left ..) e, e2, e3⟩
end Go.Proofs.YtobcboiemibkkaaT
