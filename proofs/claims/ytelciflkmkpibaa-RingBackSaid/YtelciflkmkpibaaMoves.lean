/- Ring: a ring and the document's ring go on together. -/
import Derived.Test.YtelciflkmkpibaaBoth
namespace Go.Proofs.YtelciflkmkpibaaT
open Go Go.Proofs.YtelciflkmkpibaaE Go.Proofs.YtelciflkmkpibaaB
set_option linter.unusedSimpArgs false
set_option linter.unusedVariables false
attribute [local congr] Post_cg PostL_cg condP_cg

theorem Ch.up {c d f : Nat} {args : List AV} {h : Mem} {nx p bn bp : Nat} {v : AV} {X Y : List Int} {k : Int} (s : Ch c f args h nx p bn bp v X Y k) (hd : c ≤ d) : Ch d f args h nx p bn bp v X Y k := by
  intro lg hl
  obtain ⟨v', h', nx', tc, wr, e, q⟩ := (s lg hl).inv
  exact Post.of (xF_mono T hd e) q
/-- What a move of both comes to. -/
structure Mv (f g : Nat) (zs : List AV) (h : Mem) (nx p bn bp q : Nat) (X Y L : List Int) (n : Nat) (b : Bool) (X' Y' L' : List Int) : Prop where
  ch : Ch 60 f (.ptr p 0 :: zs) h nx p bn bp (.bool b) X' Y' L'.length
  k : Link X' Y' L'
  len : X'.length = X.length
  w : ∀ h' nx', Wr h' nx' q n L → Wch 300 g (.ptr q 0 :: zs) h' nx' q (.bool b) n L'

theorem J.out {h : Mem} {nx p bn bp q : Nat} {X Y L : List Int} {n : Nat} (j : J h nx p bn bp q X Y L n) (hn : n ≤ 60) (i : Int) : ∃ b X' Y' L', Mv 11 20 [.int .i64 i] h nx p bn bp q X Y L n b X' Y' L' := by
  have hL := j.le
  by_cases c : i ∈ L
  · obtain ⟨u, v, e, hu⟩ := mem_split c
    have k := j.k
    rw [e] at k
    have ln : L.length = (u ++ v).length + 1 := by rw [e]; simp [Nat.add_assoc]
    have ch := out_ch j.r j.k.valid (by omega) i ((j.k.inn i).2 c)
    rw [show (L.length : Int) - 1 = ((u ++ v).length : Int) by omega] at ch
    exact ⟨true, _, _, u ++ v, ch, k.out, by unfold outX; simp, fun h' nx' w => wout_in w (by omega) e hu⟩
  · exact ⟨false, X, Y, L, (rd_ch j.r (out_no j.r i (j.k.inF c))).up (by omega), j.k, rfl, fun h' nx' w => wout_no w (by omega) c⟩
theorem J.inp {h : Mem} {nx p bn bp q : Nat} {X Y L : List Int} {n : Nat} (j : J h nx p bn bp q X Y L n) (hn : n ≤ 60) (i a : Int) : ∃ b X' Y' L', Mv 16 19 [.int .i64 i, .int .i64 a] h nx p bn bp q X Y L n b X' Y' L' := by
  have hL := j.le
  have len := j.len
  have no : (i < 0 ∨ (n : Int) ≤ i ∨ i ∈ L ∨ (a ∉ L ∧ (a ≠ -1 ∨ 0 < L.length))) → ∃ b X' Y' L', Mv 16 19 [.int .i64 i, .int .i64 a] h nx p bn bp q X Y L n b X' Y' L' := by
    intro e
    refine ⟨false, X, Y, L, rd_ch j.r (in_no j.r i a ?_), j.k, rfl, fun h' nx' w => win_no w (by omega) e⟩
    unfold noIn
    rcases e with e | e | e | ⟨e, e'⟩
    · simp [e]
    · simp [len, e]
    · simp [(j.k.inn i).2 e]
    · rw [j.k.inF e]
      rcases e' with e' | e'
      · simp [e']
      · have : (0 : Int) < (L.length : Int) := by omega
        simp [e']
  by_cases c1 : i < 0
  · exact no (.inl c1)
  by_cases c2 : (n : Int) ≤ i
  · exact no (.inr (.inl c2))
  by_cases c3 : i ∈ L
  · exact no (.inr (.inr (.inl c3)))
  have ni := j.k.inF c3
  by_cases c4 : a ∈ L
  · obtain ⟨u, v, e, hu⟩ := mem_split c4
    have k := j.k
    rw [e] at k
    have ln : ((u ++ i :: a :: v).length : Int) = (L.length : Int) + 1 := by rw [e]; simp; omega
    have ch := in_mid j.r j.k.valid (by omega) i a (by omega) (by omega) ni ((j.k.inn a).2 c4)
    rw [← ln] at ch
    exact ⟨true, _, _, u ++ i :: a :: v, ch, k.put (by omega) (by rw [← e]; exact c3), by unfold inX; simp, fun h' nx' w => win_yes w (by omega) e (by omega) (by omega) c3 (.inl ⟨v, rfl, hu⟩)⟩
  by_cases c5 : a ≠ -1
  · exact no (.inr (.inr (.inr ⟨c4, .inl c5⟩)))
  by_cases c6 : 0 < L.length
  · exact no (.inr (.inr (.inr ⟨c4, .inr c6⟩)))
  have hL0 : L = [] := List.eq_nil_of_length_eq_zero (by omega)
  have ha : a = -1 := by omega
  subst hL0
  subst ha
  have ch := in_one j.r rfl i (by omega) (by omega) ni
  exact ⟨true, _, _, [i], ch, j.k.one (by omega), by simp, fun h' nx' w => win_yes (u := []) (V := []) w (by simp) rfl (by omega) (by omega) c3 (.inr ⟨rfl, rfl, rfl⟩)⟩
/-- Behind a move. -/
theorem Mv.go {f g : Nat} {zs : List AV} {h : Mem} {nx p bn bp q : Nat} {X Y L : List Int} {n : Nat} {b : Bool} {X' Y' L' : List Int} (m : Mv f g zs h nx p bn bp q X Y L n b X' Y' L') (j : J h nx p bn bp q X Y L n) :
    ∃ h1 tc1 wr1 h2 nx2 tc2 wr2, (∀ i, xF T (i + 60) f (.ptr p 0 :: zs) h nx nx = some ⟨.bool b, h1, nx, tc1, wr1⟩) ∧ (∀ i, xF T (i + 300) g (.ptr q 0 :: zs) h1 nx nx = some ⟨.bool b, h2, nx2, tc2, wr2⟩) ∧ nx ≤ nx2 ∧
      (∀ b, b < nx → b ≠ p → b ≠ bn → b ≠ bp → wr1 &&& 2 ^ b = 0 ∧ h1.blk b = h.blk b) ∧ (∀ b, b < nx → b ≠ p → b ≠ bn → b ≠ bp → b ≠ q → h2.blk b = h.blk b) ∧ J h2 nx2 p bn bp q X' Y' L' n := by
  obtain ⟨h1, tc1, wr1, x1, r1, f1, w1⟩ := m.ch.at nx (Nat.le_refl _)
  have lp := j.lp
  have lbn := j.lbn
  have lbp := j.lbp
  have hq := j.w.hq
  have w' : Wr h1 nx q n L := j.w.keep (Nat.le_refl _) fun b hb _ => f1 b (by omega) (by omega) (by omega)
  obtain ⟨h2, nx2, tc2, wr2, x2, n2, w2, f2⟩ := (m.w h1 nx w').at nx (Nat.le_refl _)
  refine ⟨h1, tc1, wr1, h2, nx2, tc2, wr2, x1, x2, n2, fun b hb h1 h2 h3 => ⟨w1 b h1 h2 h3, f1 b h1 h2 h3⟩, fun b hb h1 h2 h3 h4 => by rw [f2 b hb h4, f1 b h1 h2 h3], ?_⟩
  exact ⟨r1.stay n2 (f2 _ (by omega) (by omega)) (f2 _ (by omega) (by omega)) (f2 _ (by omega) (by omega)), m.k, by rw [m.len, j.len], w2, lp, lbn, lbp⟩
end Go.Proofs.YtelciflkmkpibaaT
