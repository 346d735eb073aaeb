/-
  florinref01: Add: the plain law.
-/
import Derived.Test.YtkgjgdeaclefiaaRef01b
namespace Go.Proofs.Ytkgjgdeaclefiaa
open Go Go.Proofs Go.RowKit Go.Flo

/-- What is carried into digit t. -/
def carry (m n t : Nat) : Nat := (m % 2 ^ t + n % 2 ^ t) / 2 ^ t
theorem carry_le (m n t : Nat) : carry m n t ≤ 1 := by
  have h1 := Nat.mod_lt m (Nat.two_pow_pos t)
  have h2 := Nat.mod_lt n (Nat.two_pow_pos t)
  unfold carry
  have : (m % 2 ^ t + n % 2 ^ t) / 2 ^ t < 2 := (Nat.div_lt_iff_lt_mul (Nat.two_pow_pos t)).2 (by omega)
  omega
theorem carry_zero (m n : Nat) : carry m n 0 = 0 := by unfold carry; simp [Nat.mod_one]
theorem carry_succ (m n t : Nat) : carry m n (t + 1) = (m / 2 ^ t % 2 + n / 2 ^ t % 2 + carry m n t) / 2 := by
  unfold carry
  have hp := Nat.two_pow_pos t
  rw [Nat.mod_pow_succ, Nat.mod_pow_succ, Nat.pow_succ, ← Nat.div_div_eq_div_mul]
  congr 1
  rw [show m % 2 ^ t + 2 ^ t * (m / 2 ^ t % 2) + (n % 2 ^ t + 2 ^ t * (n / 2 ^ t % 2)) = (m % 2 ^ t + n % 2 ^ t) + 2 ^ t * (m / 2 ^ t % 2 + n / 2 ^ t % 2) by rw [Nat.mul_add]; omega, Nat.add_mul_div_left _ _ hp]
  omega
theorem sum_digit (m n t : Nat) : (m + n) / 2 ^ t % 2 = (m / 2 ^ t % 2 + n / 2 ^ t % 2 + carry m n t) % 2 := by
  unfold carry
  have hp := Nat.two_pow_pos t
  have h1 := Nat.div_add_mod m (2 ^ t)
  have h2 := Nat.div_add_mod n (2 ^ t)
  have e : m + n = (m % 2 ^ t + n % 2 ^ t) + 2 ^ t * (m / 2 ^ t + n / 2 ^ t) := by rw [Nat.mul_add]; omega
  rw [e, Nat.add_mul_div_left _ _ hp]
  omega
theorem bit_top (x t : Nat) (h : t < 256) : bit (x % top) t = bit x t := by
  unfold bit
  rw [top_pow, ← Nat.toNat_testBit, ← Nat.toNat_testBit, Nat.testBit_mod_two_pow]
  simp [h]
end Go.Proofs.Ytkgjgdeaclefiaa
