/- The pure statement of WordTells: words are made, read and reckoned with as the reference does; for every number and two words. -/
import Derived.Test.YtolflgfcldhfjaaPWordTellsx3
import Derived.Test.YtolflgfcldhfjaaBits
namespace Go.Proofs.Ytolflgfcldhfjaa.Pure
open Go.RowKit Go.Proofs.Ytolflgfcldhfjaa.PWordTells Go.Proofs.YtolflgfcldhfjaaW.PrintWords Go.Proofs.YtolflgfcldhfjaaW.PrintLast
open Go.Proofs.YtolflgfcldhfjaaB
set_option linter.unusedVariables false
set_option linter.unusedSimpArgs false

theorem mask1 (x : Int) : Go.bits .and .u32 x 1 = x % 2 := and_mask .u32 1 (by decide) x
theorem or1 (a : Int) (h0 : 0 ≤ a) (h1 : a < 4294967296) (h : a % 2 = 0) : Go.bits .or .u32 a 1 = a + 1 :=
  or_join .u32 rfl 1 a 1 h0 (by omega) (by omega) (by omega) (by show a + 1 < 4294967296; omega)
theorem known_true : treadwheellaw1_known.f 1 = some true := by decide +kernel

theorem int_in (n : Int) (h0 : -1073741824 ≤ n) (h1 : n ≤ 1073741823) : word_Int.f n = some ((n * 2 + 1) % 4294967296, true) := by
  unfold word_Int.f
  rw [if_neg (by omega), if_neg (by omega), or1 _ (by omega) (by omega) (by omega)]
  congr 2
  unfold wrap32; omega

theorem int_out (n : Int) (h : n < -1073741824 ∨ 1073741823 < n) : word_Int.f n = some (0, false) := by
  unfold word_Int.f
  by_cases h0 : n < -1073741824
  · rw [if_pos h0]
  · rw [if_neg h0, if_pos (by omega)]

theorem num_odd (w : Int) (h : w % 2 = 1) : word_Num.f w = some (wrap64 (wrap32 w / 2), true) := by
  unfold word_Num.f
  rw [mask1, if_neg (by omega)]

theorem num_even (w : Int) (h : w % 2 = 0) : word_Num.f w = some (0, false) := by
  unfold word_Num.f
  rw [mask1, if_pos h]

theorem num_of (n : Int) (h0 : -1073741824 ≤ n) (h1 : n ≤ 1073741823) : word_Num.f ((n * 2 + 1) % 4294967296) = some (n, true) := by
  rw [num_odd _ (by omega)]
  congr 2
  unfold wrap64 wrap32; omega

theorem both_of (x y : Int) (hx0 : -1073741824 ≤ x) (hx1 : x ≤ 1073741823) (hy0 : -1073741824 ≤ y) (hy1 : y ≤ 1073741823) :
    word_both.f ((x * 2 + 1) % 4294967296) ((y * 2 + 1) % 4294967296) = some (x, y, true) := by
  unfold word_both.f
  rw [num_of x hx0 hx1, Option.bind_some, num_of y hy0 hy1, Option.bind_some]
  rfl

theorem less_of (x y : Int) (hx0 : -1073741824 ≤ x) (hx1 : x ≤ 1073741823) (hy0 : -1073741824 ≤ y) (hy1 : y ≤ 1073741823) :
    word_Less.f ((x * 2 + 1) % 4294967296) ((y * 2 + 1) % 4294967296) = some (decide (x < y), true) := by
  unfold word_Less.f
  rw [both_of x y hx0 hx1 hy0 hy1, Option.bind_some]
  rfl

theorem tmod_in (a b : Int) (hb : 0 < b) : -b < Int.tmod a b ∧ Int.tmod a b < b := by
  constructor
  · have := Int.lt_tmod_of_pos a hb; omega
  · exact Int.tmod_lt_of_pos a hb

theorem int_eq (n : Int) : word_Int.f n = treadwheelref1_Int.f n := rfl
theorem num_eq (n : Int) : word_Num.f n = treadwheelref1_Num.f n := rfl
theorem id_eq (n : Int) : word_ID.f n = treadwheelref1_ID.f n := rfl
theorem oop_eq (n : Int) : word_Oop.f n = treadwheelref1_Oop.f n := rfl
theorem int_some (n : Int) : ∃ r, word_Int.f n = some r := by
  unfold word_Int.f; repeat (first | exact ⟨_, rfl⟩ | split)
theorem num_some (n : Int) : ∃ r, word_Num.f n = some r := by
  unfold word_Num.f; repeat (first | exact ⟨_, rfl⟩ | split)
theorem id_some (n : Int) : ∃ r, word_ID.f n = some r := by
  unfold word_ID.f; repeat (first | exact ⟨_, rfl⟩ | split)
theorem oop_some (n : Int) : ∃ r, word_Oop.f n = some r := by
  unfold word_Oop.f; repeat (first | exact ⟨_, rfl⟩ | split)

theorem one_true (a w : Int) : treadwheellaw1_one.f a w = some true := by
  unfold treadwheellaw1_one.f
  rw [← int_eq, ← num_eq, ← id_eq, ← oop_eq]
  obtain ⟨i, hi⟩ := int_some a
  obtain ⟨n, hn⟩ := num_some w
  obtain ⟨d, hd⟩ := id_some w
  obtain ⟨o, ho⟩ := oop_some a
  rw [hi, hn, hd, ho]
  simp

theorem both_eq (a b : Int) : word_both.f a b = treadwheelref1_both.f a b := rfl
theorem both_some (a b : Int) : ∃ r, word_both.f a b = some r := by
  unfold word_both.f
  obtain ⟨x, hx⟩ := num_some a
  obtain ⟨y, hy⟩ := num_some b
  rw [hx, hy]; simp only [Option.bind_some]; split <;> exact ⟨_, rfl⟩
theorem add_eq (a b : Int) : word_Add.f a b = treadwheelref1_Add.f a b := rfl
theorem sub_eq (a b : Int) : word_Sub.f a b = treadwheelref1_Sub.f a b := rfl
theorem mul_eq (a b : Int) : word_Mul.f a b = treadwheelref1_Mul.f a b := rfl
theorem less_eq (a b : Int) : word_Less.f a b = treadwheelref1_Less.f a b := rfl
theorem add_some (a b : Int) : ∃ r, word_Add.f a b = some r := by
  unfold word_Add.f
  obtain ⟨x, hx⟩ := both_some a b
  obtain ⟨y, hy⟩ := int_some (wrap64 (x.1 + x.2.1))
  rw [hx]; simp only [Option.bind_some]; rw [hy]; split <;> exact ⟨_, rfl⟩
theorem sub_some (a b : Int) : ∃ r, word_Sub.f a b = some r := by
  unfold word_Sub.f
  obtain ⟨x, hx⟩ := both_some a b
  obtain ⟨y, hy⟩ := int_some (wrap64 (x.1 - x.2.1))
  rw [hx]; simp only [Option.bind_some]; rw [hy]; split <;> exact ⟨_, rfl⟩
theorem mul_some (a b : Int) : ∃ r, word_Mul.f a b = some r := by
  unfold word_Mul.f
  obtain ⟨x, hx⟩ := both_some a b
  obtain ⟨y, hy⟩ := int_some (wrap64 (x.1 * x.2.1))
  rw [hx]; simp only [Option.bind_some]; rw [hy]; split <;> exact ⟨_, rfl⟩
theorem less_some (a b : Int) : ∃ r, word_Less.f a b = some r := by
  unfold word_Less.f
  obtain ⟨x, hx⟩ := both_some a b
  rw [hx]; simp only [Option.bind_some]; split <;> exact ⟨_, rfl⟩
theorem j0_eq (x y : Int) (b : Bool) : word_Div.j0 1 x y b = treadwheelref1_Div.j0 1 x y b := rfl
theorem div_eq (a b : Int) : word_Div.f 1 a b = treadwheelref1_Div.f 1 a b := rfl
theorem j0_some (x y : Int) (b : Bool) (h : y = 0 → b = true) : ∃ r, word_Div.j0 1 x y b = some r := by
  simp only [word_Div.j0]
  by_cases hb : b = true
  · rw [if_pos hb]; exact ⟨_, rfl⟩
  · rw [if_neg hb, if_neg (fun e => hb (h e))]
    obtain ⟨p, hp⟩ := int_some (wrap64 (Int.tdiv x y))
    obtain ⟨q, hq⟩ := int_some (wrap64 (wrap64 (Int.tdiv x y) - 1))
    rw [hp, hq]
    repeat (first | exact ⟨_, rfl⟩ | split)
theorem div_some (a b : Int) : ∃ r, word_Div.f 1 a b = some r := by
  unfold word_Div.f
  obtain ⟨x, hx⟩ := both_some a b
  rw [hx]; simp only [Option.bind_some]
  split
  · exact j0_some _ _ _ (fun e => by simp [e])
  · exact j0_some _ _ _ (fun e => rfl)

theorem two_true (a b : Int) : treadwheellaw1_two.f 1 a b = some true := by
  unfold treadwheellaw1_two.f
  rw [← add_eq, ← sub_eq, ← mul_eq, ← div_eq, ← less_eq]
  obtain ⟨p, hp⟩ := add_some a b
  obtain ⟨q, hq⟩ := sub_some a b
  obtain ⟨r, hr⟩ := mul_some a b
  obtain ⟨s, hs⟩ := div_some a b
  obtain ⟨t, ht⟩ := less_some a b
  rw [hp, hq, hr, hs, ht]
  simp

theorem WordTells : treadwheellaw1_WordTells.Pure := by
  intro a b c _ _ _
  refine ⟨1, ?_⟩
  unfold treadwheellaw1_WordTells.f
  rw [one_true, one_true, two_true, two_true, two_true, two_true, known_true]
  simp

end Go.Proofs.Ytolflgfcldhfjaa.Pure
