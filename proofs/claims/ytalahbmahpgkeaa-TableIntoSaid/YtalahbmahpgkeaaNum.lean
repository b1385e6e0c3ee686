/- Small facts on whole numbers: masks, remainders. Plain. -/
import Derived.Test.YtalahbmahpgkeaaMem
namespace Go.Proofs.Ytalahbmahpgkeaa
open Go.RowKit
set_option linter.unusedVariables false
set_option linter.unusedSimpArgs false

theorem and_mask (n : Int) (k : Nat) (hk : k ≤ 62) : bits .and .i64 n ((2 ^ k - 1 : Nat) : Int) = n % ((2 ^ k : Nat) : Int) := by
  have hp : (2 : Nat) ^ k ≤ 2 ^ 62 := Nat.pow_le_pow_right (by omega) hk
  have h0 : 0 < (2 : Nat) ^ k := Nat.two_pow_pos k
  have e1 : (BitVec.ofInt 64 ((2 ^ k - 1 : Nat) : Int)).toNat = 2 ^ k - 1 := by
    rw [BitVec.toNat_ofInt]
    have : (((2 ^ k - 1 : Nat) : Int) % ((2 ^ 64 : Nat) : Int)) = ((2 ^ k - 1 : Nat) : Int) := Int.emod_eq_of_lt (by omega) (by have : (2:Nat)^62 < 2^64 := by decide
                                                                                                                                omega)
    rw [this]
    exact Int.toNat_natCast _
  have key : (BitVec.ofInt 64 n &&& BitVec.ofInt 64 ((2 ^ k - 1 : Nat) : Int)).toNat = (n % ((2 ^ 64 : Nat) : Int)).toNat % 2 ^ k := by
    rw [BitVec.toNat_and, e1, Nat.and_two_pow_sub_one_eq_mod, BitVec.toNat_ofInt]
  show IntKind.i64.wrap ((BitVec.ofInt 64 n &&& BitVec.ofInt 64 ((2 ^ k - 1 : Nat) : Int)).toNat : Nat) = _
  rw [key]
  have hd : ((2 ^ k : Nat) : Int) ∣ ((2 ^ 64 : Nat) : Int) := by
    refine Int.natCast_dvd_natCast.2 (Nat.pow_dvd_pow 2 (by omega))
  have e2 : (((n % ((2 ^ 64 : Nat) : Int)).toNat % 2 ^ k : Nat) : Int) = n % ((2 ^ k : Nat) : Int) := by
    rw [Int.natCast_emod, Int.toNat_of_nonneg (Int.emod_nonneg _ (by decide)), Int.emod_emod_of_dvd _ hd]
  rw [e2]
  have h1 := Int.emod_nonneg n (b := ((2 ^ k : Nat) : Int)) (by omega)
  have h2 := Int.emod_lt_of_pos n (b := ((2 ^ k : Nat) : Int)) (by omega)
  generalize n % ((2 ^ k : Nat) : Int) = r at h1 h2
  have h3 : r < 4611686018427387904 := by
    have : ((2 ^ k : Nat) : Int) ≤ ((2 ^ 62 : Nat) : Int) := by exact_mod_cast hp
    have e : ((2 ^ 62 : Nat) : Int) = 4611686018427387904 := by decide
    omega
  rw [IntKind.wrap_i64]
  omega

/-- A number that is masked, as a natural number below the power of two. -/
theorem mask_nat (n : Int) (k : Nat) (hk : k ≤ 62) (M : Int) (hM : M = ((2 ^ k - 1 : Nat) : Int)) : ∃ m : Nat, bits .and .i64 n M = (m : Int) ∧ m < 2 ^ k := by
  rw [hM, and_mask n k hk]
  have h0 : 0 < (2 : Nat) ^ k := Nat.two_pow_pos k
  have h1 := Int.emod_nonneg n (b := ((2 ^ k : Nat) : Int)) (by omega)
  have h2 := Int.emod_lt_of_pos n (b := ((2 ^ k : Nat) : Int)) (by omega)
  exact ⟨(n % ((2 ^ k : Nat) : Int)).toNat, by omega, by omega⟩
/-- The rest of a division of natural numbers, as Go has it. -/
theorem tmod_nat (a b : Nat) : ((a : Int)).tmod (b : Int) = ((a % b : Nat) : Int) := by
  rw [Int.tmod_eq_emod_of_nonneg (by omega)]
  exact (Int.natCast_emod a b).symm
theorem wrap64_small {x : Int} (h0 : -9223372036854775808 ≤ x) (h1 : x ≤ 9223372036854775807) : wrap64 x = x := by
  unfold wrap64
  omega
end Go.Proofs.Ytalahbmahpgkeaa
