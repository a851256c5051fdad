/- The pure statement of WordDivs: a dividend is the quotient times the divisor and a rest of the divisor's sign, less than it; for every two numbers. -/
import Derived.Test.YtolflgfcldhfjaaPWordDivsx2
import Derived.Test.YtolflgfcldhfjaaBits
namespace Go.Proofs.Ytolflgfcldhfjaa.Pure
open Go.RowKit Go.Proofs.Ytolflgfcldhfjaa.PWordDivs Go.Proofs.YtolflgfcldhfjaaW.PrintWords Go.Proofs.YtolflgfcldhfjaaW.PrintLast
open Go.Proofs.YtolflgfcldhfjaaB
set_option linter.unusedVariables false
set_option linter.unusedSimpArgs false

theorem mask1 (x : Int) : Go.bits .and .u32 x 1 = x % 2 := and_mask .u32 1 (by decide) x
theorem or1 (a : Int) (h0 : 0 ≤ a) (h1 : a < 4294967296) (h : a % 2 = 0) : Go.bits .or .u32 a 1 = a + 1 :=
  or_join .u32 rfl 1 a 1 h0 (by omega) (by omega) (by omega) (by show a + 1 < 4294967296; omega)
theorem known_true : treadwheellaw1_known.f 1 = some true := by decide +kernel

theorem int_in (n : Int) (h0 : -1073741824 ≤ n) (h1 : n ≤ 1073741823) : word_Int.f n = some ((n * 2 + 1) % 4294967296, true) := by
  unfold word_Int.f
  rw [if_neg (by omega), if_neg (by omega), or1 _ (by omega) (by omega) (by omega)]
  congr 2
  unfold wrap32; omega

theorem int_out (n : Int) (h : n < -1073741824 ∨ 1073741823 < n) : word_Int.f n = some (0, false) := by
  unfold word_Int.f
  by_cases h0 : n < -1073741824
  · rw [if_pos h0]
  · rw [if_neg h0, if_pos (by omega)]

theorem num_odd (w : Int) (h : w % 2 = 1) : word_Num.f w = some (wrap64 (wrap32 w / 2), true) := by
  unfold word_Num.f
  rw [mask1, if_neg (by omega)]

theorem num_even (w : Int) (h : w % 2 = 0) : word_Num.f w = some (0, false) := by
  unfold word_Num.f
  rw [mask1, if_pos h]

theorem num_of (n : Int) (h0 : -1073741824 ≤ n) (h1 : n ≤ 1073741823) : word_Num.f ((n * 2 + 1) % 4294967296) = some (n, true) := by
  rw [num_odd _ (by omega)]
  congr 2
  unfold wrap64 wrap32; omega

theorem both_of (x y : Int) (hx0 : -1073741824 ≤ x) (hx1 : x ≤ 1073741823) (hy0 : -1073741824 ≤ y) (hy1 : y ≤ 1073741823) :
    word_both.f ((x * 2 + 1) % 4294967296) ((y * 2 + 1) % 4294967296) = some (x, y, true) := by
  unfold word_both.f
  rw [num_of x hx0 hx1, Option.bind_some, num_of y hy0 hy1, Option.bind_some]
  rfl

theorem less_of (x y : Int) (hx0 : -1073741824 ≤ x) (hx1 : x ≤ 1073741823) (hy0 : -1073741824 ≤ y) (hy1 : y ≤ 1073741823) :
    word_Less.f ((x * 2 + 1) % 4294967296) ((y * 2 + 1) % 4294967296) = some (decide (x < y), true) := by
  unfold word_Less.f
  rw [both_of x y hx0 hx1 hy0 hy1, Option.bind_some]
  rfl

theorem tmod_in (a b : Int) (hb : 0 < b) : -b < Int.tmod a b ∧ Int.tmod a b < b := by
  constructor
  · have := Int.lt_tmod_of_pos a hb; omega
  · exact Int.tmod_lt_of_pos a hb

theorem div_zero (x y : Int) (hx0 : -1073741824 ≤ x) (hx1 : x ≤ 1073741823) (hy : y = 0) :
    word_Div.f 1 ((x * 2 + 1) % 4294967296) ((y * 2 + 1) % 4294967296) = some (0, false) := by
  subst hy
  unfold word_Div.f
  rw [both_of x 0 hx0 hx1 (by omega) (by omega), Option.bind_some]
  rfl

/-- The quotient that is told, and its rest. -/
theorem div_of (x y : Int) (hx0 : -1073741823 ≤ x) (hx1 : x ≤ 1073741823) (hy0 : -1073741823 ≤ y) (hy1 : y ≤ 1073741823) (hy : y ≠ 0) :
    ∃ q : Int, -1073741824 ≤ q ∧ q ≤ 1073741823 ∧ word_Div.f 1 ((x * 2 + 1) % 4294967296) ((y * 2 + 1) % 4294967296) = some ((q * 2 + 1) % 4294967296, true) ∧
      (0 < y → 0 ≤ x - q * y ∧ x - q * y < y) ∧ (y < 0 → x - q * y ≤ 0 ∧ y < x - q * y) := by
  have e0 := Int.mul_tdiv_add_tmod x y
  have habs : (Int.tdiv x y).natAbs = x.natAbs / y.natAbs := Int.natAbs_tdiv x y
  have hle : x.natAbs / y.natAbs ≤ x.natAbs := Nat.div_le_self _ _
  have hle2 : 2 ≤ y.natAbs → x.natAbs / y.natAbs ≤ x.natAbs / 2 := fun h => Nat.div_le_div_left h (by decide)
  have hone : y.natAbs = 1 → Int.tmod x y = 0 := by
    intro h
    have : y = 1 ∨ y = -1 := by omega
    rcases this with rfl | rfl <;> simp
  have hm1 : 0 ≤ x → 0 ≤ Int.tmod x y := fun h => Int.tmod_nonneg y h
  have hm2 : x ≤ 0 → Int.tmod x y ≤ 0 := fun h => by
    have := Int.tmod_nonneg y (a := -x) (by omega)
    rw [Int.neg_tmod] at this; omega
  have hm3 : (Int.tmod x y).natAbs < y.natAbs := by
    rw [Int.natAbs_tmod]; exact Nat.mod_lt _ (by omega)
  unfold word_Div.f
  rw [both_of x y (by omega) hx1 (by omega) hy1, Option.bind_some]
  simp only [if_true]
  have hyb : (y == 0) = false := by simpa using hy
  rw [hyb]
  simp only [word_Div.j0]
  rw [if_neg (by simp), if_neg hy]
  have hp : ∃ p, p = y * Int.tdiv x y := ⟨_, rfl⟩
  obtain ⟨p, hp⟩ := hp
  rw [← hp] at e0
  have hq1 : Int.tdiv x y * y = p := by rw [hp, Int.mul_comm]
  have hq2 : (Int.tdiv x y - 1) * y = p - y := by rw [Int.sub_mul, hq1, Int.one_mul]
  generalize Int.tdiv x y = q0 at *
  generalize Int.tmod x y = m at *
  have w1 : wrap64 q0 = q0 := by unfold wrap64; omega
  have w2 : wrap64 (q0 - 1) = q0 - 1 := by unfold wrap64; omega
  by_cases hm : m = 0
  · rw [if_pos hm, w1, int_in q0 (by omega) (by omega)]
    exact ⟨q0, by omega, by omega, rfl, fun h => by rw [hq1]; omega, fun h => by rw [hq1]; omega⟩
  · rw [if_neg hm]
    have hy2 : 2 ≤ y.natAbs := by
      rcases Nat.lt_or_ge y.natAbs 2 with h | h
      · exact absurd (hone (by omega)) hm
      · exact h
    have hle3 := hle2 hy2
    by_cases hs : x < 0
    · by_cases ht : y < 0
      · rw [if_neg (by simp [hs, ht]), w1, int_in q0 (by omega) (by omega)]
        exact ⟨q0, by omega, by omega, rfl, fun h => by rw [hq1]; omega, fun h => by rw [hq1]; omega⟩
      · rw [if_pos (by simp [hs, ht]), w1, w2, int_in (q0 - 1) (by omega) (by omega)]
        exact ⟨q0 - 1, by omega, by omega, rfl, fun h => by rw [hq2]; omega, fun h => by rw [hq2]; omega⟩
    · by_cases ht : y < 0
      · rw [if_pos (by simp [hs, ht]), w1, w2, int_in (q0 - 1) (by omega) (by omega)]
        exact ⟨q0 - 1, by omega, by omega, rfl, fun h => by rw [hq2]; omega, fun h => by rw [hq2]; omega⟩
      · rw [if_neg (by simp [hs, ht]), w1, int_in q0 (by omega) (by omega)]
        exact ⟨q0, by omega, by omega, rfl, fun h => by rw [hq1]; omega, fun h => by rw [hq1]; omega⟩

theorem WordDivs : treadwheellaw1_WordDivs.Pure := by
  intro a b _ _
  refine ⟨1, ?_⟩
  have ha := tmod_in a 1073741824 (by decide)
  have hb := tmod_in b 1073741824 (by decide)
  unfold treadwheellaw1_WordDivs.f
  generalize Int.tmod a 1073741824 = x at *
  generalize Int.tmod b 1073741824 = y at *
  rw [int_in x (by omega) (by omega), Option.bind_some, int_in y (by omega) (by omega), Option.bind_some]
  by_cases hy : y = 0
  · rw [div_zero x y (by omega) (by omega) hy, Option.bind_some, num_even _ (by omega), Option.bind_some, if_pos hy, known_true]
    rfl
  · obtain ⟨q, hq0, hq1, hd, hp, hn⟩ := div_of x y (by omega) (by omega) (by omega) (by omega) hy
    rw [hd, Option.bind_some, num_of q hq0 hq1, Option.bind_some, if_neg hy, known_true]
    rw [if_pos rfl, if_pos rfl]
    by_cases h0 : 0 < y
    · obtain ⟨r0, r1⟩ := hp h0
      have e : wrap64 (x - wrap64 (q * y)) = x - q * y := by unfold wrap64; omega
      rw [if_pos (show y > 0 from h0), e, if_pos (show x - q * y ≥ 0 from r0), if_pos r1]
      rfl
    · obtain ⟨r0, r1⟩ := hn (by omega)
      have e : wrap64 (x - wrap64 (q * y)) = x - q * y := by unfold wrap64; omega
      rw [if_neg (show ¬ y > 0 from h0), if_pos (show y < 0 by omega), e, if_pos r0, if_pos r1]
      rfl

end Go.Proofs.Ytolflgfcldhfjaa.Pure
