/-
  CoreSums: what arithmetic must be. Plain Lean.
-/
import Derived.Test.YtkljgpepogkgdaaDoorS0
set_option linter.unusedVariables false
set_option linter.unusedSimpArgs false
namespace Go.Proofs.YtkljgpepogkgdaaDoor
open Go Go.Vex
theorem sum_U {k : Nat} {x y : Int} (hx : U32 x) (hy : U32 y) : U32 (sumF k x y) := by
  unfold sumF
  split
  · exact w32_ok _
  · exact w32_ok _
  · exact w32_ok _
  · split
    · exact ⟨by decide, by decide⟩
    · exact div_u hx hy
  · split
    · exact hx
    · rename_i h
      have h0 := Int.emod_nonneg x h
      have h1 := Int.emod_lt_of_pos x (show 0 < y by have := hy.1; omega)
      exact ⟨h0, by have := hy.2; omega⟩
  · obtain ⟨n, rfl, hn⟩ := nat_of hx; obtain ⟨m, rfl, hm⟩ := nat_of hy
    have : n &&& m < 2 ^ 32 := Nat.and_lt_two_pow _ hm
    simp only [Int.toNat_natCast]; exact ⟨by omega, by omega⟩
  · obtain ⟨n, rfl, hn⟩ := nat_of hx; obtain ⟨m, rfl, hm⟩ := nat_of hy
    have : n ||| m < 2 ^ 32 := Nat.or_lt_two_pow hn hm
    simp only [Int.toNat_natCast]; exact ⟨by omega, by omega⟩
  · obtain ⟨n, rfl, hn⟩ := nat_of hx; obtain ⟨m, rfl, hm⟩ := nat_of hy
    have : n ^^^ m < 2 ^ 32 := Nat.xor_lt_two_pow hn hm
    simp only [Int.toNat_natCast]; exact ⟨by omega, by omega⟩
  · exact w32_ok _
  · have hp := pow_pos' (y % 32).toNat
    have h1 := Int.ediv_le_self (2 ^ (y % 32).toNat) hx.1
    have h2 := Int.ediv_nonneg hx.1 (Int.le_of_lt hp)
    exact ⟨h2, by have := hx.2; omega⟩
  · exact w32_ok _
  · split <;> exact ⟨by decide, by decide⟩
  · split <;> exact ⟨by decide, by decide⟩
theorem p_back {a b : Int} (ha : U32 a) : sumF 2 (sumF 1 a b) b = a := by
  have := ha.1; have := ha.2
  simp only [sumF, w32]; omega
theorem p_less {a b : Int} : addI .u32 (sumF 13 a b) (sumF 13 b a) ≤ 1 ∧ (addI .u32 (sumF 13 a b) (sumF 13 b a) = 0 → a = b) := by
  rw [addI_eq, wrap_u32]
  simp only [sumF]
  constructor
  · split <;> split <;> omega
  · split <;> split <;> intro h <;> omega
theorem p_xor {a b : Int} (ha : U32 a) (hb : U32 b) : sumF 8 (sumF 8 a b) b = a := by
  obtain ⟨n, rfl, hn⟩ := nat_of ha; obtain ⟨m, rfl, hm⟩ := nat_of hb
  simp only [sumF, Int.toNat_natCast]
  rw [Nat.xor_assoc, Nat.xor_self, Nat.xor_zero]
theorem and_add_or (n : Nat) : ∀ m, (n &&& m) + (n ||| m) = n + m := by
  induction n using Nat.strongRecOn with
  | _ n ih =>
    intro m
    rcases Nat.eq_zero_or_pos n with h | h
    · subst h; simp
    · have i := ih (n / 2) (by omega) (m / 2)
      have e1 : (n &&& m) / 2 = n / 2 &&& m / 2 := Nat.and_div_two
      have e2 : (n ||| m) / 2 = n / 2 ||| m / 2 := Nat.or_div_two
      rw [← e1, ← e2] at i
      clear e1 e2
      have e3 : (n &&& m) % 2 = (n % 2) &&& (m % 2) := Nat.and_mod_two_pow (n := 1)
      have e4 : (n ||| m) % 2 = (n % 2) ||| (m % 2) := Nat.or_mod_two_pow (n := 1)
      have hn : n % 2 = 0 ∨ n % 2 = 1 := by omega
      have hm : m % 2 = 0 ∨ m % 2 = 1 := by omega
      rcases hn with hn | hn <;> rcases hm with hm | hm <;> rw [hn, hm] at e3 e4 <;> simp only [Nat.reduceAnd, Nat.reduceOr] at e3 e4 <;> clear ih <;> omega
theorem p_two {a b : Int} (ha : U32 a) (hb : U32 b) : sumF 1 (sumF 6 a b) (sumF 7 a b) = sumF 1 a b := by
  obtain ⟨n, rfl, hn⟩ := nat_of ha; obtain ⟨m, rfl, hm⟩ := nat_of hb
  simp only [sumF, Int.toNat_natCast]
  have := and_add_or n m
  congr 1; omega
theorem p_div {a b : Int} (ha : U32 a) (hb : U32 b) (h : b ≠ 0) : sumF 1 (sumF 3 (sumF 4 a b) b) (sumF 5 a b) = a ∧ sumF 5 a b < b := by
  simp only [sumF, if_neg h]
  constructor
  · have e : a / b * b + a % b = a := by rw [Int.mul_comm]; exact Int.mul_ediv_add_emod a b
    have e1 : a / b * b = a - a % b := by omega
    have h0 := Int.emod_nonneg a h
    have h1 := Int.emod_lt_of_pos a (show 0 < b by have := hb.1; omega)
    have h2 := div_u ha hb
    have h3 : 0 ≤ a / b * b := Int.mul_nonneg h2.1 hb.1
    have := ha.1; have := ha.2
    simp only [w32]
    generalize a / b * b = t at *
    omega
  · exact Int.emod_lt_of_pos a (by have := hb.1; omega)
theorem p_div0 {a b : Int} (h : b = 0) : sumF 4 a b = 4294967295 ∧ sumF 5 a b = a := by simp [sumF, h]
theorem p_down {a by_ : Int} (ha : U32 a) (hb : U32 by_) : sumF 10 (sumF 9 a by_) by_ = shrI .u32 (shlI .u32 a (andI .u32 by_ 31)) (andI .u32 by_ 31) := by
  rw [sum_9 hb, sum_10 hb]
theorem p_top {a : Int} (ha : U32 a) {t : Int} (ht : t % 32 = 31) : sumF 10 a t / 2 = 0 := by
  simp only [sumF, ht]
  have := ha.1; have := ha.2
  show a / 2 ^ 31 / 2 = 0
  omega
theorem p_low {a t : Int} (ha : U32 a) : sumF 11 a t / 2147483648 = sumF 12 a 0 := by
  simp only [sumF, w32]
  have := ha.1; have := ha.2
  have hp := pow_pos' (t % 32).toNat
  have e : s32 a = if 2147483648 ≤ a then a - 4294967296 else a := rfl
  have e0 : s32 0 = 0 := rfl
  rw [e0]
  by_cases h : 2147483648 ≤ a
  · rw [if_pos h] at e
    rw [e, if_pos (by omega)]
    have h1 : (a - 4294967296) / 2 ^ (t % 32).toNat < 0 := Int.ediv_neg_of_neg_of_pos (by omega) hp
    have h2 : -2147483648 ≤ (a - 4294967296) / 2 ^ (t % 32).toNat := by
      have : (-2147483648 : Int) ≤ a - 4294967296 := by omega
      refine Int.le_trans ?_ (Int.ediv_le_ediv hp this)
      exact Int.le_ediv_of_mul_le hp (by have : (1 : Int) ≤ 2 ^ (t % 32).toNat := hp; omega)
    omega
  · rw [if_neg h] at e
    rw [e, if_neg (by omega)]
    have h1 := Int.ediv_le_self (2 ^ (t % 32).toNat) ha.1
    have h2 := Int.ediv_nonneg ha.1 (Int.le_of_lt hp)
    omega
theorem p_low0 {a t : Int} (ha : U32 a) (h : sumF 12 a 0 = 0) : sumF 11 a t = a / 2 ^ (t % 32).toNat := by
  have := ha.1; have := ha.2
  have hp := pow_pos' (t % 32).toNat
  have h0 : ¬ s32 a < s32 0 := by intro hh; simp [sumF, hh] at h
  have e : s32 a = a := by unfold s32 at *; split <;> rename_i hh <;> simp_all; omega
  simp only [sumF, w32, e]
  have h1 := Int.ediv_le_self (2 ^ (t % 32).toNat) ha.1
  have h2 := Int.ediv_nonneg ha.1 (Int.le_of_lt hp)
  omega
end Go.Proofs.YtkljgpepogkgdaaDoor
