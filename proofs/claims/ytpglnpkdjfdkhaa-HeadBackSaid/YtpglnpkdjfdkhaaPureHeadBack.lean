/- The pure statement of HeadBack: what head.Pack packs is opened as itself, and unlike heads are unlike words; for every six numbers. -/
import Derived.Test.YtpglnpkdjfdkhaaPHeadBackx2
import Derived.Test.YtpglnpkdjfdkhaaBits
namespace Go.Proofs.Ytpglnpkdjfdkhaa.Pure
open Go.RowKit Go.Proofs.Ytpglnpkdjfdkhaa.PHeadBack Go.Proofs.YtpglnpkdjfdkhaaW.PrintWords Go.Proofs.YtpglnpkdjfdkhaaW.PrintLast
open Go.Proofs.YtpglnpkdjfdkhaaB
set_option linter.unusedVariables false
set_option linter.unusedSimpArgs false

theorem pack_in (a b c : Int) (ha0 : 0 ≤ a) (ha : a ≤ 4095) (hb0 : 0 ≤ b) (hb : b ≤ 255) (hc0 : 0 ≤ c) (hc : c ≤ 15) :
    head_Pack.f a b c = some (a * 1048576 + b * 4096 + c * 256 + 1, true) := by
  unfold head_Pack.f head_within.f
  have e1 : ((a % 4294967296) * 1048576) % 4294967296 = a * 1048576 := by omega
  have e2 : ((b % 4294967296) * 4096) % 4294967296 = b * 4096 := by omega
  have e3 : ((c % 4294967296) * 256) % 4294967296 = c * 256 := by omega
  have o1 : Go.bits .or .u32 (a * 1048576) (b * 4096) = a * 1048576 + b * 4096 := or_join .u32 rfl 20 _ _ (by omega) (by omega) (by simp <;> omega) (by simp <;> omega) (by simp [IntKind.bits] <;> omega)
  have o2 : Go.bits .or .u32 (a * 1048576 + b * 4096) (c * 256) = a * 1048576 + b * 4096 + c * 256 := or_join .u32 rfl 12 _ _ (by omega) (by omega) (by simp <;> omega) (by simp <;> omega) (by simp [IntKind.bits] <;> omega)
  have o3 : Go.bits .or .u32 (a * 1048576 + b * 4096 + c * 256) 1 = a * 1048576 + b * 4096 + c * 256 + 1 := or_join .u32 rfl 8 _ _ (by omega) (by omega) (by simp <;> omega) (by simp <;> omega) (by simp [IntKind.bits] <;> omega)
  simp only [e1, e2, e3, o1, o2, o3]
  simp [ha0, ha, hb0, hb, hc0, hc]

theorem class_is (w : Int) (h0 : 0 ≤ w) (h1 : w < 4294967296) : head_Class.f w = some (w / 1048576) := by
  unfold head_Class.f; congr 1; unfold wrap64; omega

theorem size_is (w : Int) (h0 : 0 ≤ w) (h1 : w < 4294967296) : head_Size.f w = some (w / 4096 % 256) := by
  unfold head_Size.f
  have e : Go.bits .and .u32 (w / 4096) 255 = w / 4096 % 256 := and_mask .u32 8 (by decide) _
  rw [e]; congr 1; unfold wrap64; omega

theorem open_in (w : Int) (h0 : 0 ≤ w) (h1 : w < 4294967296) (h : w % 256 = 1) :
    head_Open.f w = some (w / 1048576, w / 4096 % 256, w / 256 % 16, true) := by
  unfold head_Open.f
  have e : Go.bits .and .u32 w 255 = w % 256 := and_mask .u32 8 (by decide) _
  have e2 : Go.bits .and .u32 (w / 256) 15 = w / 256 % 16 := and_mask .u32 4 (by decide) _
  rw [e, e2, if_pos h, class_is w h0 h1, size_is w h0 h1]
  simp only [Option.bind_some]
  congr 4
  unfold wrap64; omega

theorem open_out (w : Int) (h : w % 256 ≠ 1) : head_Open.f w = some (0, 0, 0, false) := by
  unfold head_Open.f
  have e : Go.bits .and .u32 w 255 = w % 256 := and_mask .u32 8 (by decide) _
  rw [e, if_neg h]

theorem known_true : treadwheellaw2_known.f = some true := by decide +kernel

theorem mask12 (x : Int) : Go.bits .and .i64 x 4095 = x % 4096 := and_mask .i64 12 (by decide) x
theorem mask8 (x : Int) : Go.bits .and .i64 x 255 = x % 256 := and_mask .i64 8 (by decide) x
theorem mask4 (x : Int) : Go.bits .and .i64 x 15 = x % 16 := and_mask .i64 4 (by decide) x

theorem HeadBack : treadwheellaw2_HeadBack.Pure := by
  intro a b c d e f _ _ _ _ _ _
  unfold treadwheellaw2_HeadBack.f
  simp only [mask12, mask8, mask4]
  have ha : 0 ≤ a % 4096 ∧ a % 4096 ≤ 4095 := by omega
  have hb : 0 ≤ b % 256 ∧ b % 256 ≤ 255 := by omega
  have hc : 0 ≤ c % 16 ∧ c % 16 ≤ 15 := by omega
  have hd : 0 ≤ d % 4096 ∧ d % 4096 ≤ 4095 := by omega
  have he : 0 ≤ e % 256 ∧ e % 256 ≤ 255 := by omega
  have hf : 0 ≤ f % 16 ∧ f % 16 ≤ 15 := by omega
  generalize a % 4096 = x at *
  generalize b % 256 = y at *
  generalize c % 16 = z at *
  generalize d % 4096 = x' at *
  generalize e % 256 = y' at *
  generalize f % 16 = z' at *
  have m1 : Go.bits .and .u32 (x * 1048576 + y * 4096 + z * 256 + 1) 1 = (x * 1048576 + y * 4096 + z * 256 + 1) % 2 := and_mask .u32 1 (by decide) _
  rw [pack_in x y z ha.1 ha.2 hb.1 hb.2 hc.1 hc.2, pack_in x' y' z' hd.1 hd.2 he.1 he.2 hf.1 hf.2]
  simp only [Option.bind_some]
  rw [open_in _ (by omega) (by omega) (by omega)]
  simp only [Option.bind_some]
  rw [m1, known_true]
  have c1 : (x * 1048576 + y * 4096 + z * 256 + 1) / 1048576 = x := by omega
  have c2 : (x * 1048576 + y * 4096 + z * 256 + 1) / 4096 % 256 = y := by omega
  have c3 : (x * 1048576 + y * 4096 + z * 256 + 1) / 256 % 16 = z := by omega
  have c4 : (x * 1048576 + y * 4096 + z * 256 + 1) % 2 = 1 := by omega
  have c5 : ((x * 1048576 + y * 4096 + z * 256 + 1 == x' * 1048576 + y' * 4096 + z' * 256 + 1) == (x == x' && (y == y' && z == z'))) = true := by
    rw [beq_iff_eq, Bool.eq_iff_iff]
    simp only [beq_iff_eq, Bool.and_eq_true]
    constructor
    · intro h; refine ⟨?_, ?_, ?_⟩ <;> omega
    · rintro ⟨rfl, rfl, rfl⟩; rfl
  rw [c1, c2, c3, c4, c5]
  simp

end Go.Proofs.Ytpglnpkdjfdkhaa.Pure
