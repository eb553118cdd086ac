/-
  Bits of words, as quotients and remainders. Plain Lean.
-/
import Derived.Test.YtkljgpepogkgdaaDoorVL
set_option linter.unusedVariables false
set_option linter.unusedSimpArgs false
namespace Go.Vex
theorem wrap_u32 (n : Int) : IntKind.u32.wrap n = n % 4294967296 := by simp [IntKind.wrap, IntKind.bits, IntKind.signed]
theorem wrap_u64 (n : Int) : IntKind.u64.wrap n = n % 18446744073709551616 := by simp [IntKind.wrap, IntKind.bits, IntKind.signed]
theorem wrap_u8 (n : Int) : IntKind.u8.wrap n = n % 256 := by simp [IntKind.wrap, IntKind.bits, IntKind.signed]
theorem wrap_u16 (n : Int) : IntKind.u16.wrap n = n % 65536 := by simp [IntKind.wrap, IntKind.bits, IntKind.signed]
theorem wrap_i32 (n : Int) : IntKind.i32.wrap n = if n % 4294967296 ≥ 2147483648 then n % 4294967296 - 4294967296 else n % 4294967296 := by simp [IntKind.wrap, IntKind.bits, IntKind.signed]
theorem wrap_i64' (n : Int) : IntKind.i64.wrap n = if n % 18446744073709551616 ≥ 9223372036854775808 then n % 18446744073709551616 - 18446744073709551616 else n % 18446744073709551616 := by simp [IntKind.wrap, IntKind.bits, IntKind.signed]
theorem shrI_u32 (a : Int) (n : Nat) (hn : n ≤ 32) : shrI .u32 a n = a / 2 ^ n := by
  rw [shrI_eq]
  have : min (Int.toNat (n : Int)) IntKind.u32.bits = n := by simp [IntKind.bits]; omega
  rw [this, Int.fdiv_eq_ediv_of_nonneg _ (Int.le_of_lt (Int.pow_pos (by decide)))]
theorem and_u32 {a b : Nat} (ha : a < 2 ^ 32) (hb : b < 2 ^ 32) : andI .u32 a b = ((a &&& b : Nat) : Int) := by
  rw [andI_eq]
  show IntKind.u32.wrap ((BitVec.ofInt 32 (a : Int) &&& BitVec.ofInt 32 (b : Int)).toNat : Int) = _
  simp only [BitVec.ofInt_natCast, BitVec.toNat_and, BitVec.toNat_ofNat]
  rw [Nat.mod_eq_of_lt ha, Nat.mod_eq_of_lt hb, wrap_u32]
  have : a &&& b ≤ a := Nat.and_le_left
  omega
theorem or_u32 {a b : Nat} (ha : a < 2 ^ 32) (hb : b < 2 ^ 32) : orI .u32 a b = ((a ||| b : Nat) : Int) := by
  rw [orI_eq]
  show IntKind.u32.wrap ((BitVec.ofInt 32 (a : Int) ||| BitVec.ofInt 32 (b : Int)).toNat : Int) = _
  simp only [BitVec.ofInt_natCast, BitVec.toNat_or, BitVec.toNat_ofNat]
  rw [Nat.mod_eq_of_lt ha, Nat.mod_eq_of_lt hb, wrap_u32]
  have : a ||| b < 2 ^ 32 := Nat.or_lt_two_pow ha hb
  omega
theorem xor_u32 {a b : Nat} (ha : a < 2 ^ 32) (hb : b < 2 ^ 32) : xorI .u32 a b = ((a ^^^ b : Nat) : Int) := by
  rw [xorI_eq]
  show IntKind.u32.wrap ((BitVec.ofInt 32 (a : Int) ^^^ BitVec.ofInt 32 (b : Int)).toNat : Int) = _
  simp only [BitVec.ofInt_natCast, BitVec.toNat_xor, BitVec.toNat_ofNat]
  rw [Nat.mod_eq_of_lt ha, Nat.mod_eq_of_lt hb, wrap_u32]
  have : a ^^^ b < 2 ^ 32 := Nat.xor_lt_two_pow ha hb
  omega
theorem mask_u32 {a : Int} (k : Nat) (hk : k ≤ 32) (h0 : 0 ≤ a) (h1 : a < 4294967296) : andI .u32 a (2 ^ k - 1 : Nat) = a % (2 ^ k : Nat) := by
  obtain ⟨n, rfl⟩ := Int.eq_ofNat_of_zero_le h0
  have hb : 2 ^ k - 1 < 2 ^ 32 := Nat.lt_of_lt_of_le (Nat.sub_lt (Nat.two_pow_pos k) (by decide)) (Nat.pow_le_pow_right (by decide) hk)
  rw [and_u32 (by omega) hb, Nat.and_two_pow_sub_one_eq_mod]
  simp
/-- Four bits at k are cleared of a number below 2^(k+4). -/
theorem clr_u32 {a : Int} (k : Nat) (hk : k + 4 ≤ 32) (h0 : 0 ≤ a) (h1 : a < (2 ^ (k + 4) : Nat)) : clrI .u32 a (15 * 2 ^ k : Nat) = a % (2 ^ k : Nat) := by
  obtain ⟨n, rfl⟩ := Int.eq_ofNat_of_zero_le h0
  have hn : n < 2 ^ (k + 4) := by omega
  have hn32 : n < 2 ^ 32 := Nat.lt_of_lt_of_le hn (Nat.pow_le_pow_right (by decide) hk)
  have hm : 15 * 2 ^ k < 2 ^ 32 := by
    have : 2 ^ (k + 4) ≤ 2 ^ 32 := Nat.pow_le_pow_right (by decide) hk
    have : (2 : Nat) ^ (k + 4) = 16 * 2 ^ k := by rw [Nat.pow_add]; omega
    have := Nat.two_pow_pos k
    omega
  rw [clrI_eq]
  show IntKind.u32.wrap ((BitVec.ofInt 32 (n : Int) &&& ~~~ BitVec.ofInt 32 ((15 * 2 ^ k : Nat) : Int)).toNat : Int) = _
  rw [BitVec.ofInt_natCast, BitVec.ofInt_natCast]
  have e : (BitVec.ofNat 32 n &&& ~~~BitVec.ofNat 32 (15 * 2 ^ k)) = BitVec.ofNat 32 (n % 2 ^ k) := by
    apply BitVec.eq_of_getLsbD_eq
    intro i hi
    simp only [BitVec.getLsbD_and, BitVec.getLsbD_not, BitVec.getLsbD_ofNat, hi, decide_true, Bool.true_and, Nat.testBit_mod_two_pow]
    rw [Nat.mul_comm, Nat.testBit_two_pow_mul]
    by_cases h : i < k
    · simp [h, Nat.not_le.2 h]
    · have hle : k ≤ i := by omega
      simp only [h, decide_false, Bool.false_and, hle, decide_true, Bool.true_and]
      by_cases h4 : i - k < 4
      · have : Nat.testBit 15 (i - k) = true := by
          have : i - k = 0 ∨ i - k = 1 ∨ i - k = 2 ∨ i - k = 3 := by omega
          rcases this with h | h | h | h <;> rw [h] <;> decide
        rw [this]; simp
      · rw [Nat.testBit_lt_two_pow (Nat.lt_of_lt_of_le hn (Nat.pow_le_pow_right (by decide) (by omega)))]; simp
  rw [e, BitVec.toNat_ofNat, wrap_u32]
  have h2 : n % 2 ^ k ≤ n := Nat.mod_le _ _
  rw [Nat.mod_eq_of_lt (show n % 2 ^ k < 2 ^ 32 by omega), ← Int.natCast_emod]
  generalize n % 2 ^ k = m at *
  omega
end Go.Vex
