/- The pure statement of WordOrder: less is an order, and sums with one number keep it; for every three numbers. -/
import Derived.Test.YtolflgfcldhfjaaPWordOrderx2
import Derived.Test.YtolflgfcldhfjaaBits
namespace Go.Proofs.Ytolflgfcldhfjaa.Pure
open Go.RowKit Go.Proofs.Ytolflgfcldhfjaa.PWordOrder Go.Proofs.YtolflgfcldhfjaaW.PrintWords Go.Proofs.YtolflgfcldhfjaaW.PrintLast
open Go.Proofs.YtolflgfcldhfjaaB
set_option linter.unusedVariables false
set_option linter.unusedSimpArgs false

theorem mask1 (x : Int) : Go.bits .and .u32 x 1 = x % 2 := and_mask .u32 1 (by decide) x
theorem or1 (a : Int) (h0 : 0 ≤ a) (h1 : a < 4294967296) (h : a % 2 = 0) : Go.bits .or .u32 a 1 = a + 1 :=
  or_join .u32 rfl 1 a 1 h0 (by omega) (by omega) (by omega) (by show a + 1 < 4294967296; omega)
theorem known_true : treadwheellaw1_known.f 1 = some true := by decide +kernel

theorem int_in (n : Int) (h0 : -1073741824 ≤ n) (h1 : n ≤ 1073741823) : word_Int.f n = some ((n * 2 + 1) % 4294967296, true) := by
  unfold word_Int.f
  rw [if_neg (by omega), if_neg (by omega), or1 _ (by omega) (by omega) (by omega)]
  congr 2
  unfold wrap32; omega

theorem int_out (n : Int) (h : n < -1073741824 ∨ 1073741823 < n) : word_Int.f n = some (0, false) := by
  unfold word_Int.f
  by_cases h0 : n < -1073741824
  · rw [if_pos h0]
  · rw [if_neg h0, if_pos (by omega)]

theorem num_odd (w : Int) (h : w % 2 = 1) : word_Num.f w = some (wrap64 (wrap32 w / 2), true) := by
  unfold word_Num.f
  rw [mask1, if_neg (by omega)]

theorem num_even (w : Int) (h : w % 2 = 0) : word_Num.f w = some (0, false) := by
  unfold word_Num.f
  rw [mask1, if_pos h]

theorem num_of (n : Int) (h0 : -1073741824 ≤ n) (h1 : n ≤ 1073741823) : word_Num.f ((n * 2 + 1) % 4294967296) = some (n, true) := by
  rw [num_odd _ (by omega)]
  congr 2
  unfold wrap64 wrap32; omega

theorem both_of (x y : Int) (hx0 : -1073741824 ≤ x) (hx1 : x ≤ 1073741823) (hy0 : -1073741824 ≤ y) (hy1 : y ≤ 1073741823) :
    word_both.f ((x * 2 + 1) % 4294967296) ((y * 2 + 1) % 4294967296) = some (x, y, true) := by
  unfold word_both.f
  rw [num_of x hx0 hx1, Option.bind_some, num_of y hy0 hy1, Option.bind_some]
  rfl

theorem less_of (x y : Int) (hx0 : -1073741824 ≤ x) (hx1 : x ≤ 1073741823) (hy0 : -1073741824 ≤ y) (hy1 : y ≤ 1073741823) :
    word_Less.f ((x * 2 + 1) % 4294967296) ((y * 2 + 1) % 4294967296) = some (decide (x < y), true) := by
  unfold word_Less.f
  rw [both_of x y hx0 hx1 hy0 hy1, Option.bind_some]
  rfl

theorem tmod_in (a b : Int) (hb : 0 < b) : -b < Int.tmod a b ∧ Int.tmod a b < b := by
  constructor
  · have := Int.lt_tmod_of_pos a hb; omega
  · exact Int.tmod_lt_of_pos a hb

theorem add_of (x y : Int) (hx0 : -268435456 ≤ x) (hx1 : x ≤ 268435456) (hy0 : -268435456 ≤ y) (hy1 : y ≤ 268435456) :
    word_Add.f ((x * 2 + 1) % 4294967296) ((y * 2 + 1) % 4294967296) = some (((x + y) * 2 + 1) % 4294967296, true) := by
  unfold word_Add.f
  rw [both_of x y (by omega) (by omega) (by omega) (by omega), Option.bind_some]
  have e : wrap64 (x + y) = x + y := by unfold wrap64; omega
  simp only [if_true]
  rw [e, int_in _ (by omega) (by omega)]
  rfl

theorem less_two (x : Int) (hx0 : -1073741824 ≤ x) (hx1 : x ≤ 1073741823) : ∃ b, word_Less.f ((x * 2 + 1) % 4294967296) 2 = some (b, false) := by
  unfold word_Less.f word_both.f
  rw [num_of x hx0 hx1, Option.bind_some, num_even 2 (by omega), Option.bind_some]
  exact ⟨_, rfl⟩

theorem WordOrder : treadwheellaw1_WordOrder.Pure := by
  intro a b c _ _ _
  refine ⟨1, ?_⟩
  have ha := tmod_in a 268435456 (by decide)
  have hb := tmod_in b 268435456 (by decide)
  have hc := tmod_in c 268435456 (by decide)
  unfold treadwheellaw1_WordOrder.f
  generalize Int.tmod a 268435456 = x at *
  generalize Int.tmod b 268435456 = y at *
  generalize Int.tmod c 268435456 = z at *
  obtain ⟨l2, hl2⟩ := less_two x (by omega) (by omega)
  rw [int_in x (by omega) (by omega), Option.bind_some, int_in y (by omega) (by omega), Option.bind_some, int_in z (by omega) (by omega), Option.bind_some,
    less_of x y (by omega) (by omega) (by omega) (by omega), Option.bind_some, less_of y x (by omega) (by omega) (by omega) (by omega), Option.bind_some,
    add_of x z (by omega) (by omega) (by omega) (by omega), Option.bind_some, add_of y z (by omega) (by omega) (by omega) (by omega), Option.bind_some,
    less_of (x + z) (y + z) (by omega) (by omega) (by omega) (by omega), Option.bind_some, hl2, Option.bind_some, known_true]
  have e : decide (x + z < y + z) = decide (x < y) := by
    rw [decide_eq_decide]; omega
  rw [e]
  by_cases h : x < y
  · have h' : ¬ y < x := by omega
    simp [h, h']
  · by_cases h' : y < x
    · simp [h, h']
    · have e2 : x = y := by omega
      subst e2
      simp

end Go.Proofs.Ytolflgfcldhfjaa.Pure
