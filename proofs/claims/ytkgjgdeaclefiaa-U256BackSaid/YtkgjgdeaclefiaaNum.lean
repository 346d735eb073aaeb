/-
  Plain numbers: lengths in digits of two, words of shifted numbers. No program is named here.
-/
import Derived.Test.YtkgjgdeaclefiaaVals
import Derived.Lib.BitFns
import Derived.Lib.ItoaNum
namespace Go.Flo
open Go Go.RowKit

/-- How many digits of two. -/
@[irreducible] def lenN (m : Nat) : Nat := if m = 0 then 0 else m.log2 + 1

theorem lenN_le {m k : Nat} : lenN m ≤ k ↔ m < 2 ^ k := by
  unfold lenN
  by_cases h : m = 0
  · subst h; simp; exact Nat.pow_pos (by decide)
  · rw [if_neg h, ← Nat.log2_lt h]; omega

theorem lenN_eq {m b : Nat} (h1 : 2 ^ b ≤ m) (h2 : m < 2 ^ (b + 1)) : lenN m = b + 1 := by
  have a := lenN_le.2 h2
  have c : ¬ lenN m ≤ b := fun h => by have := lenN_le.1 h; omega
  omega

theorem lenN_zero : lenN 0 = 0 := by unfold lenN; rfl

theorem lenN_pos {m : Nat} (h : m ≠ 0) : 1 ≤ lenN m := by unfold lenN; rw [if_neg h]; omega

theorem lenN_lo {m : Nat} (h : m ≠ 0) : 2 ^ (lenN m - 1) ≤ m := by
  rcases Nat.lt_or_ge m (2 ^ (lenN m - 1)) with h' | h'
  · have := lenN_le.2 h'; have := lenN_pos h; omega
  · exact h'
theorem lenN_hi (m : Nat) : m < 2 ^ lenN m := lenN_le.1 (Nat.le_refl _)

theorem lenN_shift {m s x : Nat} (h : m / 2 ^ s = x) (hx : x ≠ 0) : lenN m = s + lenN x := by
  have h1 := lenN_lo hx
  have h2 := lenN_hi x
  have h3 := lenN_pos hx
  have hp : 0 < 2 ^ s := Nat.pow_pos (by decide)
  have e : s + lenN x = (s + (lenN x - 1)) + 1 := by omega
  rw [e]
  subst h
  refine lenN_eq ?_ ?_
  · rw [Nat.pow_add, Nat.mul_comm]; exact (Nat.le_div_iff_mul_le hp).1 h1
  · rw [← e, Nat.pow_add, Nat.mul_comm]; exact (Nat.div_lt_iff_lt_mul hp).1 h2

theorem bitLen_lenN {x : Nat} (h : x < 18446744073709551616) : Lib.bitLen x = lenN x := by
  by_cases h0 : x = 0
  · subst h0; rw [lenN_zero]; exact Lib.bitLenAux_zero 64
  · obtain ⟨h1, h2, h3⟩ := Lib.bitLenAux_bounds 64 x (by simpa using h) h0
    have : Lib.bitLen x = Lib.bitLenAux 64 x := rfl
    rw [this]
    generalize Lib.bitLenAux 64 x = b at *
    have e : b = (b - 1) + 1 := by omega
    rw [e] at h3 ⊢
    exact (lenN_eq h2 h3).symm

theorem lenN_top {m : Nat} (h : m < top) : lenN m ≤ 256 := lenN_le.2 (by rw [top_pow] at h; exact h)

/-- Moved up, it is lost just if there are too many digits. -/
theorem lost_iff {m n : Nat} (hm : m ≠ 0) : top ≤ m * 2 ^ n ↔ 256 < lenN m + n := by
  have h1 := lenN_lo hm
  have h2 := lenN_hi m
  have h3 := lenN_pos hm
  rw [top_pow]
  constructor
  · intro h
    rcases Nat.lt_or_ge 256 (lenN m + n) with h' | h'
    · exact h'
    · have : m * 2 ^ n < 2 ^ (lenN m + n) := by rw [Nat.pow_add]; exact Nat.mul_lt_mul_of_pos_right h2 (Nat.pow_pos (by decide))
      have := Nat.pow_le_pow_right (n := 2) (by decide) h'
      omega
  · intro h
    have : 2 ^ (lenN m - 1 + n) ≤ m * 2 ^ n := by rw [Nat.pow_add]; exact Nat.mul_le_mul_right _ h1
    have := Nat.pow_le_pow_right (n := 2) (i := 256) (j := lenN m - 1 + n) (by decide) (by omega)
    omega

/-- A product of words. -/
structure Prods (hi lo x y : Int) : Prop where
  eq : 18446744073709551616 * hi + lo = x * y
  hi_le : hi ≤ 18446744073709551614
end Go.Flo
