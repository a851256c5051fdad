/- Plain laws on bits of whole numbers: masks, joins, turned bits. -/
import Derived.Laws.BitsLemmas
import Derived.Laws.Entries
namespace Go.Proofs.YtamfoplfbidolaaGreatDoorB

theorem wrap_small (k : IntKind) (n : Int) (h0 : 0 ≤ n) (h1 : n < 2 ^ (k.bits - 1)) : k.wrap n = n := by
  cases k <;> simp only [IntKind.wrap, IntKind.bits, IntKind.signed] at * <;> simp at * <;> omega

theorem wrap_unsigned (k : IntKind) (hs : k.signed = false) (n : Int) (h0 : 0 ≤ n) (h1 : n < 2 ^ k.bits) : k.wrap n = n := by
  cases k <;> simp only [IntKind.wrap, IntKind.bits, IntKind.signed] at * <;> simp at * <;> omega

theorem pow_mono {a b : Nat} (h : a ≤ b) : (2 : Int) ^ a ≤ 2 ^ b := by
  have := Nat.pow_le_pow_right (n := 2) (by decide) h
  exact_mod_cast this

theorem ofInt_toNat (n : Nat) (x : Int) : ((BitVec.ofInt n x).toNat : Int) = x % 2 ^ n := by
  rw [BitVec.toNat_ofInt]
  have hp : (0 : Int) < 2 ^ n := by have := Nat.two_pow_pos n; exact_mod_cast this
  have h : (0 : Int) ≤ x % 2 ^ n := Int.emod_nonneg _ (by omega)
  have e : ((2 ^ n : Nat) : Int) = 2 ^ n := by simp
  rw [e]
  exact Int.toNat_of_nonneg h

theorem ofInt_toNat_small (n : Nat) (x : Int) (h0 : 0 ≤ x) (h1 : x < 2 ^ n) : (BitVec.ofInt n x).toNat = x.toNat := by
  have h := ofInt_toNat n x
  rw [Int.emod_eq_of_lt h0 h1] at h
  omega

/-- A mask of j bits. -/
theorem and_mask (k : IntKind) (j : Nat) (hj : j < k.bits) (x : Int) : Go.bits .and k x (2 ^ j - 1 : Int) = x % 2 ^ j := by
  unfold Go.bits
  simp only [BitVec.toNat_and]
  have hp : (0 : Int) < 2 ^ j := by have := Nat.two_pow_pos j; exact_mod_cast this
  have hm : (BitVec.ofInt k.bits (2 ^ j - 1 : Int)).toNat = 2 ^ j - 1 := by
    rw [ofInt_toNat_small _ _ (by omega) (by have := pow_mono (Nat.le_of_lt hj); omega)]
    have e : ((2 ^ j : Nat) : Int) = 2 ^ j := by simp
    omega
  rw [hm, Nat.and_two_pow_sub_one_eq_mod]
  have hx := ofInt_toNat k.bits x
  have hv : (((BitVec.ofInt k.bits x).toNat % 2 ^ j : Nat) : Int) = x % 2 ^ j := by
    have e : ((2 ^ j : Nat) : Int) = 2 ^ j := by simp
    rw [Int.natCast_emod, hx, e, Int.emod_emod_of_dvd]
    exact ⟨2 ^ (k.bits - j), by rw [← Int.pow_add]; congr 1; omega⟩
  rw [hv]
  refine wrap_small k _ (Int.emod_nonneg _ (by omega)) ?_
  have h1 := Int.emod_lt_of_pos x hp
  have h2 : (2 : Int) ^ j ≤ 2 ^ (k.bits - 1) := pow_mono (by omega)
  omega

/-- A mask of all low bits of an unsigned kind. -/
theorem or_join (k : IntKind) (hs : k.signed = false) (i : Nat) (a b : Int) (ha : 0 ≤ a) (hb : 0 ≤ b) (hb1 : b < 2 ^ i) (hd : a % 2 ^ i = 0) (hab : a + b < 2 ^ k.bits) :
    Go.bits .or k a b = a + b := by
  unfold Go.bits
  simp only [BitVec.toNat_or]
  rw [ofInt_toNat_small _ a ha (by omega), ofInt_toNat_small _ b hb (by omega)]
  have hv : a.toNat ||| b.toNat = a.toNat + b.toNat := by
    have hdv : (2 ^ i : Nat) ∣ a.toNat := by
      have : ((2 ^ i : Nat) : Int) ∣ a := by rw [show ((2 ^ i : Nat) : Int) = 2 ^ i by simp]; exact Int.dvd_of_emod_eq_zero hd
      obtain ⟨c, hc⟩ := this
      have hp : (0 : Int) < ((2 ^ i : Nat) : Int) := by have := Nat.two_pow_pos i; exact_mod_cast this
      have hc0 : 0 ≤ c := by
        rcases Int.lt_or_le c 0 with h | h
        · have := Int.mul_neg_of_pos_of_neg hp h; omega
        · exact h
      refine ⟨c.toNat, ?_⟩
      have e1 : ((a.toNat : Nat) : Int) = a := Int.toNat_of_nonneg ha
      have e2 : ((c.toNat : Nat) : Int) = c := Int.toNat_of_nonneg hc0
      apply Int.ofNat.inj
      show ((a.toNat : Nat) : Int) = ((2 ^ i * c.toNat : Nat) : Int)
      rw [e1, Int.natCast_mul, e2]; exact hc
    obtain ⟨c, hc⟩ := hdv
    have hb2 : b.toNat < 2 ^ i := by
      have e : ((2 ^ i : Nat) : Int) = 2 ^ i := by simp
      omega
    rw [hc]
    exact (Nat.two_pow_add_eq_or_of_lt hb2 c).symm
  rw [hv, Int.natCast_add, Int.toNat_of_nonneg ha, Int.toNat_of_nonneg hb]
  exact wrap_unsigned k hs _ (by omega) hab

end Go.Proofs.YtamfoplfbidolaaGreatDoorB
