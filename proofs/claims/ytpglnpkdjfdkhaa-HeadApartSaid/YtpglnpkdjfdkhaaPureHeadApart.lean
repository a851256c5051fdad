/- The pure statement of HeadApart: a word that is opened is packed as itself, one that is not opened is no packed word; for every word. -/
import Derived.Test.YtpglnpkdjfdkhaaPHeadApartx3
import Derived.Test.YtpglnpkdjfdkhaaBits
namespace Go.Proofs.Ytpglnpkdjfdkhaa.Pure
open Go.RowKit Go.Proofs.Ytpglnpkdjfdkhaa.PHeadApart Go.Proofs.YtpglnpkdjfdkhaaW.PrintWords Go.Proofs.YtpglnpkdjfdkhaaW.PrintLast
open Go.Proofs.YtpglnpkdjfdkhaaB
set_option linter.unusedVariables false
set_option linter.unusedSimpArgs false

theorem pack_in (a b c : Int) (ha0 : 0 ≤ a) (ha : a ≤ 4095) (hb0 : 0 ≤ b) (hb : b ≤ 255) (hc0 : 0 ≤ c) (hc : c ≤ 15) :
    head_Pack.f a b c = some (a * 1048576 + b * 4096 + c * 256 + 1, true) := by
  unfold head_Pack.f head_within.f
  have e1 : ((a % 4294967296) * 1048576) % 4294967296 = a * 1048576 := by omega
  have e2 : ((b % 4294967296) * 4096) % 4294967296 = b * 4096 := by omega
  have e3 : ((c % 4294967296) * 256) % 4294967296 = c * 256 := by omega
  have o1 : Go.bits .or .u32 (a * 1048576) (b * 4096) = a * 1048576 + b * 4096 := or_join .u32 rfl 20 _ _ (by omega) (by omega) (by simp <;> omega) (by simp <;> omega) (by simp [IntKind.bits] <;> omega)
  have o2 : Go.bits .or .u32 (a * 1048576 + b * 4096) (c * 256) = a * 1048576 + b * 4096 + c * 256 := or_join .u32 rfl 12 _ _ (by omega) (by omega) (by simp <;> omega) (by simp <;> omega) (by simp [IntKind.bits] <;> omega)
  have o3 : Go.bits .or .u32 (a * 1048576 + b * 4096 + c * 256) 1 = a * 1048576 + b * 4096 + c * 256 + 1 := or_join .u32 rfl 8 _ _ (by omega) (by omega) (by simp <;> omega) (by simp <;> omega) (by simp [IntKind.bits] <;> omega)
  simp only [e1, e2, e3, o1, o2, o3]
  simp [ha0, ha, hb0, hb, hc0, hc]

theorem class_is (w : Int) (h0 : 0 ≤ w) (h1 : w < 4294967296) : head_Class.f w = some (w / 1048576) := by
  unfold head_Class.f; congr 1; unfold wrap64; omega

theorem size_is (w : Int) (h0 : 0 ≤ w) (h1 : w < 4294967296) : head_Size.f w = some (w / 4096 % 256) := by
  unfold head_Size.f
  have e : Go.bits .and .u32 (w / 4096) 255 = w / 4096 % 256 := and_mask .u32 8 (by decide) _
  rw [e]; congr 1; unfold wrap64; omega

theorem open_in (w : Int) (h0 : 0 ≤ w) (h1 : w < 4294967296) (h : w % 256 = 1) :
    head_Open.f w = some (w / 1048576, w / 4096 % 256, w / 256 % 16, true) := by
  unfold head_Open.f
  have e : Go.bits .and .u32 w 255 = w % 256 := and_mask .u32 8 (by decide) _
  have e2 : Go.bits .and .u32 (w / 256) 15 = w / 256 % 16 := and_mask .u32 4 (by decide) _
  rw [e, e2, if_pos h, class_is w h0 h1, size_is w h0 h1]
  simp only [Option.bind_some]
  congr 4
  unfold wrap64; omega

theorem open_out (w : Int) (h : w % 256 ≠ 1) : head_Open.f w = some (0, 0, 0, false) := by
  unfold head_Open.f
  have e : Go.bits .and .u32 w 255 = w % 256 := and_mask .u32 8 (by decide) _
  rw [e, if_neg h]

theorem known_true : treadwheellaw2_known.f = some true := by decide +kernel

theorem mask12 (x : Int) : Go.bits .and .i64 x 4095 = x % 4096 := and_mask .i64 12 (by decide) x
theorem mask8 (x : Int) : Go.bits .and .i64 x 255 = x % 256 := and_mask .i64 8 (by decide) x
theorem mask4 (x : Int) : Go.bits .and .i64 x 15 = x % 16 := and_mask .i64 4 (by decide) x

theorem HeadApart : treadwheellaw2_HeadApart.Pure := by
  intro w hw
  have hw' : 0 ≤ w ∧ w < 4294967296 := by
    simp [Lit.wf, IntKind.min, IntKind.max, IntKind.signed, IntKind.bits] at hw; omega
  obtain ⟨h0, h1⟩ := hw'
  unfold treadwheellaw2_HeadApart.f
  by_cases h : w % 256 = 1
  · rw [open_in w h0 h1 h]
    simp only [Option.bind_some]
    rw [pack_in _ _ _ (by omega) (by omega) (by omega) (by omega) (by omega) (by omega), class_is w h0 h1, size_is w h0 h1, known_true]
    have e : w / 1048576 * 1048576 + w / 4096 % 256 * 4096 + w / 256 % 16 * 256 + 1 = w := by omega
    simp [e]
  · rw [open_out w h]
    simp only [Option.bind_some]
    rw [pack_in 0 0 0 (by omega) (by omega) (by omega) (by omega) (by omega) (by omega), known_true]
    have e : ¬ (1 = w) := by omega
    simp [e]

end Go.Proofs.Ytpglnpkdjfdkhaa.Pure
