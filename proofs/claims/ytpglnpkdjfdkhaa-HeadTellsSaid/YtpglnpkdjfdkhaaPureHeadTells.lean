/- The pure statement of HeadTells: head.Pack and head.Open answer as the reference does at every number; proved without conditions. -/
import Derived.Test.YtpglnpkdjfdkhaaPHeadTellsx2
namespace Go.Proofs.Ytpglnpkdjfdkhaa.Pure
open Go.RowKit Go.Proofs.Ytpglnpkdjfdkhaa.PHeadTells Go.Proofs.YtpglnpkdjfdkhaaW.PrintWords Go.Proofs.YtpglnpkdjfdkhaaW.PrintLast

theorem pack_eq (a b c : Int) : head_Pack.f a b c = treadwheelref1_Pack.f a b c := by
  unfold head_Pack.f treadwheelref1_Pack.f head_within.f
  by_cases h1 : a < 0 <;> by_cases h2 : a > 4095 <;> by_cases h3 : b < 0 <;> by_cases h4 : b > 255 <;> by_cases h5 : c < 0 <;> by_cases h6 : c > 15 <;>
    simp [h1, h2, h3, h4, h5, h6, Int.not_lt.1, Int.not_le.2]

theorem open_eq (w : Int) : head_Open.f w = treadwheelref1_Open.f w := by
  unfold head_Open.f treadwheelref1_Open.f head_Class.f head_Size.f
  simp

theorem open_some (w : Int) : ∃ r, treadwheelref1_Open.f w = some r := by
  unfold treadwheelref1_Open.f
  split <;> exact ⟨_, rfl⟩

theorem pack_some (a b c : Int) : ∃ r, treadwheelref1_Pack.f a b c = some r := by
  unfold treadwheelref1_Pack.f
  repeat (first | exact ⟨_, rfl⟩ | split)

theorem same_true (a b c w : Int) : treadwheellaw2_same.f a b c w = some true := by
  unfold treadwheellaw2_same.f
  rw [pack_eq, open_eq]
  obtain ⟨p, hp⟩ := pack_some a b c
  obtain ⟨o, ho⟩ := open_some w
  rw [hp, ho]
  simp [head_Class.f, head_Size.f]

theorem known_true : treadwheellaw2_known.f = some true := by decide +kernel

theorem HeadTells : treadwheellaw2_HeadTells.Pure := by
  intro a b c w _ _ _ _
  unfold treadwheellaw2_HeadTells.f
  rw [same_true, same_true, same_true, known_true]
  simp

end Go.Proofs.Ytpglnpkdjfdkhaa.Pure
