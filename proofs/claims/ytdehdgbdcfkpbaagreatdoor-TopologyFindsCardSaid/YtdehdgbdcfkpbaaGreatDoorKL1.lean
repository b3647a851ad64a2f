/-
  Plain laws of prefixes: both ways of saying that an address lies in one agree.
-/
import Derived.Test.YtdehdgbdcfkpbaaGreatDoorKA2
import Derived.Test.YtdehdgbdcfkpbaaGreatDoorKA6
namespace Go.Proofs.YtdehdgbdcfkpbaaGreatDoor
open Go Go.Pw

theorem mask_nat (k : Nat) (hk : k ≤ 32) : mask (32 - k : Int) = ((2 ^ 32 - 2 ^ k : Nat) : Int) := by
  unfold mask
  rw [show (min ((32 : Int) - (32 - (k : Int))).toNat 32) = k by omega, IntKind.wrap_u32]
  have h1 : (2 : Nat) ^ k ≤ 2 ^ 32 := Nat.pow_le_pow_right (by omega) hk
  have h4 : 0 < 2 ^ k := Nat.two_pow_pos k
  have h5 : (2 : Int) ^ k = ((2 ^ k : Nat) : Int) := (Int.natCast_pow 2 k).symm
  rw [h5]
  generalize (2 : Nat) ^ k = q at h1 h4
  omega
theorem ofInt_nat (n : Nat) : (BitVec.ofInt 32 (n : Int)).toNat = n % 2 ^ 32 := by
  rw [BitVec.ofInt_natCast, BitVec.toNat_ofNat]
theorem and_mask (a k : Nat) (ha : a < 2 ^ 32) (hk : k ≤ 32) : a &&& (2 ^ 32 - 2 ^ k) = a / 2 ^ k * 2 ^ k := by
  have h1 : 2 ^ 32 - 2 ^ k = (2 ^ (32 - k) - 1) <<< k := by
    rw [Nat.shiftLeft_eq, Nat.sub_mul, Nat.one_mul, ← Nat.pow_add, show 32 - k + k = 32 by omega]
  have h2 : a / 2 ^ k * 2 ^ k = (a >>> k) <<< k := by rw [Nat.shiftLeft_eq, Nat.shiftRight_eq_div_pow]
  rw [h1, h2]
  apply Nat.eq_of_testBit_eq
  intro i
  rw [Nat.testBit_and, Nat.testBit_shiftLeft, Nat.testBit_shiftLeft, Nat.testBit_two_pow_sub_one, Nat.testBit_shiftRight]
  by_cases hik : k ≤ i
  · simp only [ge_iff_le, hik, decide_true, Bool.true_and, show k + (i - k) = i by omega]
    by_cases h32 : i < 32
    · simp [show i - k < 32 - k by omega]
    · have : a.testBit i = false := Nat.testBit_lt_two_pow (Nat.lt_of_lt_of_le ha (Nat.pow_le_pow_right (by omega) (by omega)))
      simp [this]
  · simp [hik]
theorem andB_mask (a k : Nat) (ha : a < 2 ^ 32) (hk : k ≤ 32) : andB (a : Int) (mask (32 - k : Int)) = ((a / 2 ^ k * 2 ^ k : Nat) : Int) := by
  unfold andB
  have h1 : (2 : Nat) ^ 32 - 2 ^ k < 2 ^ 32 := by have : 0 < 2 ^ k := Nat.two_pow_pos k; omega
  rw [mask_nat k hk, BitVec.toNat_and, ofInt_nat, ofInt_nat, Nat.mod_eq_of_lt ha, Nat.mod_eq_of_lt h1, and_mask a k ha hk]
  refine IntWalk.u32_in _ ⟨by omega, ?_⟩
  have : a / 2 ^ k * 2 ^ k ≤ a := Nat.div_mul_le_self a _
  omega
theorem andN_mask (a k : Nat) (ha : a < 2 ^ 32) (hk : k ≤ 32) : andN (a : Int) (mask (32 - k : Int)) = ((a % 2 ^ k : Nat) : Int) := by
  unfold andN
  have h0 : 0 < 2 ^ k := Nat.two_pow_pos k
  have h2 : (2 : Nat) ^ k ≤ 2 ^ 32 := Nat.pow_le_pow_right (by omega) hk
  have h1 : (2 : Nat) ^ 32 - 2 ^ k < 2 ^ 32 := by omega
  rw [mask_nat k hk, BitVec.toNat_and, BitVec.toNat_not, ofInt_nat, ofInt_nat, Nat.mod_eq_of_lt ha, Nat.mod_eq_of_lt h1, show 2 ^ 32 - 1 - (2 ^ 32 - 2 ^ k) = 2 ^ k - 1 by omega, Nat.and_two_pow_sub_one_eq_mod]
  refine IntWalk.u32_in _ ⟨by omega, ?_⟩
  have : a % 2 ^ k ≤ a := Nat.mod_le _ _
  omega
theorem rsize_nat (k : Nat) (hk : k ≤ 32) : rsize (32 - k : Int) = ((2 ^ k : Nat) : Int) := by
  unfold rsize
  have h2 : (2 : Nat) ^ k ≤ 2 ^ 32 := Nat.pow_le_pow_right (by omega) hk
  rw [show (min ((32 : Int) - (32 - (k : Int))).toNat 64) = k by omega, Int.one_mul]
  have h5 : (2 : Int) ^ k = ((2 ^ k : Nat) : Int) := (Int.natCast_pow 2 k).symm
  rw [h5]
  generalize (2 : Nat) ^ k = q at h2
  exact IntWalk.u64_in _ ⟨by omega, by omega⟩
/-- A prefix in naturals. -/
theorem pfx_nat {p : TPfx} (h : 0 ≤ p.addr ∧ p.addr < 4294967296) (hb : 0 ≤ p.bits ∧ p.bits ≤ 32) : ∃ n k : Nat, n < 2 ^ 32 ∧ k ≤ 32 ∧ p.addr = n ∧ p.bits = 32 - (k : Int) :=
  ⟨p.addr.toNat, (32 - p.bits).toNat, by omega, by omega, by omega, by omega⟩
theorem valid_eq (p : TPfx) (h : 0 ≤ p.addr ∧ p.addr < 4294967296) : pvalid p = rvalid p := by
  unfold pvalid rvalid
  by_cases hb : 0 ≤ p.bits ∧ p.bits ≤ 32
  · obtain ⟨n, k, hn, hk, ea, eb⟩ := pfx_nat h hb
    have h5 : (((n : Int)).tmod ((2 ^ k : Nat) : Int)) = ((n % 2 ^ k : Nat) : Int) := rfl
    rw [ea, eb, andN_mask n k hn hk, rsize_nat k hk, IntWalk.u64_in _ (by omega), h5]
  · by_cases h0 : 0 ≤ p.bits
    · have h1 : ¬ p.bits ≤ 32 := fun h => hb ⟨h0, h⟩
      simp [h1]
    · simp [h0]
theorem cont_eq (p : TPfx) (a : Int) (h : 0 ≤ p.addr ∧ p.addr < 4294967296) (ha : 0 ≤ a ∧ a < 4294967296) : rcont p a = pcont p a := by
  unfold rcont pcont rof
  rw [← valid_eq p h]
  by_cases hv : pvalid p = true
  · have hb := pvalid_bits hv
    obtain ⟨n, k, hn, hk, ea, eb⟩ := pfx_nat h hb
    have h0 : 0 < 2 ^ k := Nat.two_pow_pos k
    have hv' := hv
    simp only [pvalid, Bool.and_eq_true, beq_iff_eq] at hv'
    rw [ea, eb, andN_mask n k hn hk] at hv'
    have hm : n % 2 ^ k = 0 := by have := hv'.2; omega
    obtain ⟨q, hq⟩ := Nat.dvd_of_mod_eq_zero hm
    have h2 : (2 : Nat) ^ k ≤ 2 ^ 32 := Nat.pow_le_pow_right (by omega) hk
    have hnk : n + 2 ^ k ≤ 2 ^ 32 := by
      have e32 : (2 : Nat) ^ 32 = 2 ^ k * 2 ^ (32 - k) := by rw [← Nat.pow_add]; congr 1; omega
      rw [hq, e32] at hn
      have hq2 : q < 2 ^ (32 - k) := Nat.lt_of_mul_lt_mul_left hn
      have := Nat.mul_le_mul_left (2 ^ k) hq2
      rw [Nat.mul_succ] at this
      omega
    obtain ⟨m, rfl⟩ : ∃ m : Nat, a = m := ⟨a.toNat, by omega⟩
    have hml : m < 2 ^ 32 := by omega
    have hhi : rhi p = ((n + 2 ^ k - 1 : Nat) : Int) := by
      unfold rhi
      rw [ea, eb, rsize_nat k hk, IntWalk.u64_in (n : Int) (by omega), IntWalk.u64_in ((n : Int) + ((2 ^ k : Nat) : Int)) (by omega), IntWalk.u64_in _ (by omega), IntWalk.u32_in _ (by omega)]
      omega
    rw [hv, if_pos rfl, hhi, eb, andB_mask m k hml hk, ea]
    simp only [Bool.true_and]
    have hdm := Nat.div_add_mod m (2 ^ k)
    have hmod := Nat.mod_lt m h0
    rw [Nat.mul_comm] at hdm
    rw [Bool.eq_iff_iff]
    simp only [Bool.and_eq_true, decide_eq_true_eq, beq_iff_eq]
    constructor
    · rintro ⟨h3, h4⟩
      have h3' : n ≤ m := by omega
      have h4' : m ≤ n + 2 ^ k - 1 := by omega
      have e1 : m / 2 ^ k = q := by
        apply Nat.div_eq_of_lt_le
        · rw [Nat.mul_comm]; omega
        · rw [Nat.mul_comm, Nat.mul_succ]; omega
      rw [e1, Nat.mul_comm, ← hq]
    · intro h3
      have h3' : m / 2 ^ k * 2 ^ k = n := by omega
      omega
  · simp [hv]
end Go.Proofs.YtdehdgbdcfkpbaaGreatDoor
