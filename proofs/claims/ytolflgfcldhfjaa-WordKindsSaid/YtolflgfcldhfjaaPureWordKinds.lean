/- The pure statement of WordKinds: a word is a number, an identity or None, and no two of these; for every word and number. -/
import Derived.Test.YtolflgfcldhfjaaPWordKindsx2
import Derived.Test.YtolflgfcldhfjaaBits
namespace Go.Proofs.Ytolflgfcldhfjaa.Pure
open Go.RowKit Go.Proofs.Ytolflgfcldhfjaa.PWordKinds Go.Proofs.YtolflgfcldhfjaaW.PrintWords Go.Proofs.YtolflgfcldhfjaaW.PrintLast
open Go.Proofs.YtolflgfcldhfjaaB
set_option linter.unusedVariables false
set_option linter.unusedSimpArgs false

theorem mask1 (x : Int) : Go.bits .and .u32 x 1 = x % 2 := and_mask .u32 1 (by decide) x
theorem or1 (a : Int) (h0 : 0 ≤ a) (h1 : a < 4294967296) (h : a % 2 = 0) : Go.bits .or .u32 a 1 = a + 1 :=
  or_join .u32 rfl 1 a 1 h0 (by omega) (by omega) (by omega) (by show a + 1 < 4294967296; omega)
theorem known_true : treadwheellaw1_known.f 1 = some true := by decide +kernel

theorem int_in (n : Int) (h0 : -1073741824 ≤ n) (h1 : n ≤ 1073741823) : word_Int.f n = some ((n * 2 + 1) % 4294967296, true) := by
  unfold word_Int.f
  rw [if_neg (by omega), if_neg (by omega), or1 _ (by omega) (by omega) (by omega)]
  congr 2
  unfold wrap32; omega

theorem int_out (n : Int) (h : n < -1073741824 ∨ 1073741823 < n) : word_Int.f n = some (0, false) := by
  unfold word_Int.f
  by_cases h0 : n < -1073741824
  · rw [if_pos h0]
  · rw [if_neg h0, if_pos (by omega)]

theorem num_odd (w : Int) (h : w % 2 = 1) : word_Num.f w = some (wrap64 (wrap32 w / 2), true) := by
  unfold word_Num.f
  rw [mask1, if_neg (by omega)]

theorem num_even (w : Int) (h : w % 2 = 0) : word_Num.f w = some (0, false) := by
  unfold word_Num.f
  rw [mask1, if_pos h]

theorem num_of (n : Int) (h0 : -1073741824 ≤ n) (h1 : n ≤ 1073741823) : word_Num.f ((n * 2 + 1) % 4294967296) = some (n, true) := by
  rw [num_odd _ (by omega)]
  congr 2
  unfold wrap64 wrap32; omega

theorem both_of (x y : Int) (hx0 : -1073741824 ≤ x) (hx1 : x ≤ 1073741823) (hy0 : -1073741824 ≤ y) (hy1 : y ≤ 1073741823) :
    word_both.f ((x * 2 + 1) % 4294967296) ((y * 2 + 1) % 4294967296) = some (x, y, true) := by
  unfold word_both.f
  rw [num_of x hx0 hx1, Option.bind_some, num_of y hy0 hy1, Option.bind_some]
  rfl

theorem less_of (x y : Int) (hx0 : -1073741824 ≤ x) (hx1 : x ≤ 1073741823) (hy0 : -1073741824 ≤ y) (hy1 : y ≤ 1073741823) :
    word_Less.f ((x * 2 + 1) % 4294967296) ((y * 2 + 1) % 4294967296) = some (decide (x < y), true) := by
  unfold word_Less.f
  rw [both_of x y hx0 hx1 hy0 hy1, Option.bind_some]
  rfl

theorem tmod_in (a b : Int) (hb : 0 < b) : -b < Int.tmod a b ∧ Int.tmod a b < b := by
  constructor
  · have := Int.lt_tmod_of_pos a hb; omega
  · exact Int.tmod_lt_of_pos a hb

theorem id_odd (w : Int) (h : w % 2 = 1) : word_ID.f w = some (0, false) := by
  unfold word_ID.f; rw [mask1, if_pos h]
theorem id_zero : word_ID.f 0 = some (0, false) := by decide +kernel
theorem id_of (w : Int) (h0 : 0 < w) (h1 : w < 4294967296) (h : w % 2 = 0) : word_ID.f w = some (w / 2, true) := by
  unfold word_ID.f; rw [mask1, if_neg (by omega), if_neg (by omega)]
  congr 2; unfold wrap64; omega
theorem oop_in (n : Int) (h0 : 1 ≤ n) (h1 : n ≤ 2147483647) : word_Oop.f n = some (n * 2) := by
  unfold word_Oop.f; rw [if_neg (by omega), if_neg (by omega)]
  congr 1; omega
theorem oop_out (n : Int) (h : n < 1 ∨ 2147483647 < n) : word_Oop.f n = some 0 := by
  unfold word_Oop.f
  by_cases h0 : n < 1
  · rw [if_pos h0]
  · rw [if_neg h0, if_pos (by omega)]

theorem WordKinds : treadwheellaw1_WordKinds.Pure := by
  intro w n hw _
  refine ⟨1, ?_⟩
  have hw' : 0 ≤ w ∧ w < 4294967296 := by
    simp [Lit.wf, IntKind.min, IntKind.max, IntKind.signed, IntKind.bits] at hw; omega
  obtain ⟨h0, h1⟩ := hw'
  unfold treadwheellaw1_WordKinds.f
  rw [known_true]
  have ho : (1 ≤ n ∧ n ≤ 2147483647 ∧ word_Oop.f n = some (n * 2) ∧ word_ID.f (n * 2) = some (n, true)) ∨ ((n < 1 ∨ 2147483647 < n) ∧ word_Oop.f n = some 0 ∧ word_ID.f 0 = some (0, false)) := by
    by_cases hn : 1 ≤ n ∧ n ≤ 2147483647
    · refine .inl ⟨hn.1, hn.2, oop_in n hn.1 hn.2, ?_⟩
      rw [id_of _ (by omega) (by omega) (by omega)]; congr 2; omega
    · exact .inr ⟨by omega, oop_out n (by omega), id_zero⟩
  by_cases hodd : w % 2 = 1
  · have hne : w ≠ 0 := by omega
    rw [num_odd w hodd, Option.bind_some, id_odd w hodd, Option.bind_some]
    rcases ho with ⟨a, b, c, d⟩ | ⟨a, c, d⟩
    · rw [c, Option.bind_some, d, Option.bind_some]
      simp [hne, a, b]
    · rw [c, Option.bind_some, d, Option.bind_some]
      by_cases g : n ≥ 1
      · have : ¬ n ≤ 2147483647 := by omega
        simp [hne, g, this]
      · have : ¬ 1 ≤ n := by omega
        simp [hne, this]
  · have heven : w % 2 = 0 := by omega
    rw [num_even w heven, Option.bind_some]
    by_cases hz : w = 0
    · subst hz
      rw [id_zero, Option.bind_some]
      rcases ho with ⟨a, b, c, d⟩ | ⟨a, c, d⟩
      · rw [c, Option.bind_some, d, Option.bind_some]
        simp [a, b]
      · rw [c, Option.bind_some, d, Option.bind_some]
        by_cases g : n ≥ 1
        · have : ¬ n ≤ 2147483647 := by omega
          simp [g, this]
        · have : ¬ 1 ≤ n := by omega
          simp [this]
    · rw [id_of w (by omega) h1 heven, Option.bind_some, oop_in (w / 2) (by omega) (by omega)]
      have e : w / 2 * 2 = w := by omega
      rcases ho with ⟨a, b, c, d⟩ | ⟨a, c, d⟩
      · rw [c, Option.bind_some, d, Option.bind_some]
        simp [a, b, hz, e]
      · rw [c, Option.bind_some, d, Option.bind_some]
        by_cases g : n ≥ 1
        · have : ¬ n ≤ 2147483647 := by omega
          simp [hz, e, g, this]
        · have : ¬ 1 ≤ n := by omega
          simp [hz, e, this]

end Go.Proofs.Ytolflgfcldhfjaa.Pure
