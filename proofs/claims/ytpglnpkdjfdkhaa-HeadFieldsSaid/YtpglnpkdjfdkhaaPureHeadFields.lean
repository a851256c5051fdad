/- The pure statement of HeadFields: class and size of a packed head are its own, and a word with one of its low eight bits turned is no head; for every four numbers. -/
import Derived.Test.YtpglnpkdjfdkhaaPHeadFieldsx3
import Derived.Test.YtpglnpkdjfdkhaaBits
namespace Go.Proofs.Ytpglnpkdjfdkhaa.Pure
open Go.RowKit Go.Proofs.Ytpglnpkdjfdkhaa.PHeadFields Go.Proofs.YtpglnpkdjfdkhaaW.PrintWords Go.Proofs.YtpglnpkdjfdkhaaW.PrintLast
open Go.Proofs.YtpglnpkdjfdkhaaB
set_option linter.unusedVariables false
set_option linter.unusedSimpArgs false

theorem pack_in (a b c : Int) (ha0 : 0 ≤ a) (ha : a ≤ 4095) (hb0 : 0 ≤ b) (hb : b ≤ 255) (hc0 : 0 ≤ c) (hc : c ≤ 15) :
    head_Pack.f a b c = some (a * 1048576 + b * 4096 + c * 256 + 1, true) := by
  unfold head_Pack.f head_within.f
  have e1 : ((a % 4294967296) * 1048576) % 4294967296 = a * 1048576 := by omega
  have e2 : ((b % 4294967296) * 4096) % 4294967296 = b * 4096 := by omega
  have e3 : ((c % 4294967296) * 256) % 4294967296 = c * 256 := by omega
  have o1 : Go.bits .or .u32 (a * 1048576) (b * 4096) = a * 1048576 + b * 4096 := or_join .u32 rfl 20 _ _ (by omega) (by omega) (by simp <;> omega) (by simp <;> omega) (by simp [IntKind.bits] <;> omega)
  have o2 : Go.bits .or .u32 (a * 1048576 + b * 4096) (c * 256) = a * 1048576 + b * 4096 + c * 256 := or_join .u32 rfl 12 _ _ (by omega) (by omega) (by simp <;> omega) (by simp <;> omega) (by simp [IntKind.bits] <;> omega)
  have o3 : Go.bits .or .u32 (a * 1048576 + b * 4096 + c * 256) 1 = a * 1048576 + b * 4096 + c * 256 + 1 := or_join .u32 rfl 8 _ _ (by omega) (by omega) (by simp <;> omega) (by simp <;> omega) (by simp [IntKind.bits] <;> omega)
  simp only [e1, e2, e3, o1, o2, o3]
  simp [ha0, ha, hb0, hb, hc0, hc]

theorem class_is (w : Int) (h0 : 0 ≤ w) (h1 : w < 4294967296) : head_Class.f w = some (w / 1048576) := by
  unfold head_Class.f; congr 1; unfold wrap64; omega

theorem size_is (w : Int) (h0 : 0 ≤ w) (h1 : w < 4294967296) : head_Size.f w = some (w / 4096 % 256) := by
  unfold head_Size.f
  have e : Go.bits .and .u32 (w / 4096) 255 = w / 4096 % 256 := and_mask .u32 8 (by decide) _
  rw [e]; congr 1; unfold wrap64; omega

theorem open_in (w : Int) (h0 : 0 ≤ w) (h1 : w < 4294967296) (h : w % 256 = 1) :
    head_Open.f w = some (w / 1048576, w / 4096 % 256, w / 256 % 16, true) := by
  unfold head_Open.f
  have e : Go.bits .and .u32 w 255 = w % 256 := and_mask .u32 8 (by decide) _
  have e2 : Go.bits .and .u32 (w / 256) 15 = w / 256 % 16 := and_mask .u32 4 (by decide) _
  rw [e, e2, if_pos h, class_is w h0 h1, size_is w h0 h1]
  simp only [Option.bind_some]
  congr 4
  unfold wrap64; omega

theorem open_out (w : Int) (h : w % 256 ≠ 1) : head_Open.f w = some (0, 0, 0, false) := by
  unfold head_Open.f
  have e : Go.bits .and .u32 w 255 = w % 256 := and_mask .u32 8 (by decide) _
  rw [e, if_neg h]

theorem known_true : treadwheellaw2_known.f = some true := by decide +kernel

theorem mask12 (x : Int) : Go.bits .and .i64 x 4095 = x % 4096 := and_mask .i64 12 (by decide) x
theorem mask8 (x : Int) : Go.bits .and .i64 x 255 = x % 256 := and_mask .i64 8 (by decide) x
theorem mask4 (x : Int) : Go.bits .and .i64 x 15 = x % 16 := and_mask .i64 4 (by decide) x

theorem shl_one (n : Int) (hn0 : 0 ≤ n) (hn : n ≤ 7) : ∃ c : Nat, (c = 1 ∨ c = 2 ∨ c = 4 ∨ c = 8 ∨ c = 16 ∨ c = 32 ∨ c = 64 ∨ c = 128) ∧ shl .u32 1 n = (c : Int) := by
  have : n = 0 ∨ n = 1 ∨ n = 2 ∨ n = 3 ∨ n = 4 ∨ n = 5 ∨ n = 6 ∨ n = 7 := by omega
  rcases this with rfl | rfl | rfl | rfl | rfl | rfl | rfl | rfl
  · exact ⟨1, by omega, by decide⟩
  · exact ⟨2, by omega, by decide⟩
  · exact ⟨4, by omega, by decide⟩
  · exact ⟨8, by omega, by decide⟩
  · exact ⟨16, by omega, by decide⟩
  · exact ⟨32, by omega, by decide⟩
  · exact ⟨64, by omega, by decide⟩
  · exact ⟨128, by omega, by decide⟩

theorem xor_turned (w c : Nat) (hw : w % 256 = 1) (hc : c = 1 ∨ c = 2 ∨ c = 4 ∨ c = 8 ∨ c = 16 ∨ c = 32 ∨ c = 64 ∨ c = 128) : (w ^^^ c) % 256 ≠ 1 := by
  have hm : (w ^^^ c) % 2 ^ 8 = (w % 2 ^ 8) ^^^ (c % 2 ^ 8) := Nat.xor_mod_two_pow
  have hw' : w % 2 ^ 8 = 1 := hw
  rw [hw'] at hm
  have e : (w ^^^ c) % 256 = 1 ^^^ (c % 2 ^ 8) := hm
  rw [e]
  rcases hc with rfl | rfl | rfl | rfl | rfl | rfl | rfl | rfl <;> decide

theorem turned (w : Int) (h0 : 0 ≤ w) (h1 : w < 4294967296) (h : w % 256 = 1) (n : Int) (hn0 : 0 ≤ n) (hn : n ≤ 7) : Go.bits .xor .u32 w (shl .u32 1 n) % 256 ≠ 1 := by
  obtain ⟨c, hc, e⟩ := shl_one n hn0 hn
  have hc' : c ≤ 128 := by omega
  have hb : Go.bits .xor .u32 w (c : Int) = ((w.toNat ^^^ c : Nat) : Int) := by
    unfold Go.bits
    simp only [BitVec.toNat_xor]
    rw [ofInt_toNat_small IntKind.u32.bits w h0 (by simpa [IntKind.bits] using h1), ofInt_toNat_small IntKind.u32.bits _ (by omega) (by simp only [IntKind.bits]; omega)]
    rw [Int.toNat_natCast]
    have hx : (w.toNat ^^^ c) < 2 ^ 32 := Nat.xor_lt_two_pow (by omega) (by omega)
    exact wrap_unsigned .u32 rfl _ (by omega) (by simp only [IntKind.bits]; omega)
  have hx := xor_turned w.toNat c (by omega) hc
  rw [e, hb]
  omega

theorem wrap_eight (n : Int) (h0 : 0 ≤ n) (h1 : n ≤ 7) : IntKind.u64.wrap n = n := by
  have h : n = 0 ∨ n = 1 ∨ n = 2 ∨ n = 3 ∨ n = 4 ∨ n = 5 ∨ n = 6 ∨ n = 7 := by omega
  rcases h with rfl | rfl | rfl | rfl | rfl | rfl | rfl | rfl <;> decide

theorem HeadFields : treadwheellaw2_HeadFields.Pure := by
  intro a b c bit _ _ _ _
  unfold treadwheellaw2_HeadFields.f
  have m3 : Go.bits .and .i64 bit 7 = bit % 8 := and_mask .i64 3 (by decide) bit
  simp only [mask12, mask8, mask4, m3]
  have ha : 0 ≤ a % 4096 ∧ a % 4096 ≤ 4095 := by omega
  have hb : 0 ≤ b % 256 ∧ b % 256 ≤ 255 := by omega
  have hc : 0 ≤ c % 16 ∧ c % 16 ≤ 15 := by omega
  have hk : 0 ≤ bit % 8 ∧ bit % 8 ≤ 7 := by omega
  generalize a % 4096 = x at *
  generalize b % 256 = y at *
  generalize c % 16 = z at *
  generalize bit % 8 = n at *
  have wn : IntKind.u64.wrap n = n := wrap_eight n hk.1 hk.2
  rw [wn, pack_in x y z ha.1 ha.2 hb.1 hb.2 hc.1 hc.2]
  simp only [Option.bind_some]
  rw [if_pos hk.1]
  have ht := open_out _ (turned (x * 1048576 + y * 4096 + z * 256 + 1) (by omega) (by omega) (by omega) n hk.1 hk.2)
  rw [ht, Option.bind_some, class_is _ (by omega) (by omega), size_is _ (by omega) (by omega), known_true]
  have c1 : (x * 1048576 + y * 4096 + z * 256 + 1) / 1048576 = x := by omega
  have c2 : (x * 1048576 + y * 4096 + z * 256 + 1) / 4096 % 256 = y := by omega
  simp [c1, c2]

end Go.Proofs.Ytpglnpkdjfdkhaa.Pure
