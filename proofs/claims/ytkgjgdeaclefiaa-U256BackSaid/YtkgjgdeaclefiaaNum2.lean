/-
  Plain numbers: the words of a number that is moved up or down. No program is named here.
-/
import Derived.Test.YtkgjgdeaclefiaaNum
import Derived.WalkLawsBesides
namespace Go.Flo
open Go Go.RowKit

/-- Word i. -/
def li (i m : Nat) : Int := ((m / 2 ^ (64 * i) % 2 ^ 64 : Nat) : Int)
theorem l0_li (m : Nat) : l0 m = li 0 m := by unfold l0 li; simp
theorem l1_li (m : Nat) : l1 m = li 1 m := by unfold l1 li; rfl
theorem l2_li (m : Nat) : l2 m = li 2 m := by unfold l2 li; rfl
theorem l3_li (m : Nat) : l3 m = li 3 m := by unfold l3 li; rfl

theorem or_cast (x y : Nat) (hx : x < 2 ^ 64) (hy : y < 2 ^ 64) : bits .or .u64 (x : Int) (y : Int) = ((x ||| y : Nat) : Int) := u64_or_nat x y hx hy
theorem div_cast (x p : Nat) : (x : Int) / 2 ^ p = ((x / 2 ^ p : Nat) : Int) := by
  rw [Int.natCast_ediv]; simp
theorem wrap_cast (x p : Nat) : IntKind.u64.wrap ((x : Int) * 2 ^ p) = ((x * 2 ^ p % 2 ^ 64 : Nat) : Int) := by
  rw [IntKind.wrap_u64, Int.natCast_emod, Int.natCast_mul]; simp

theorem shr_bits (Y p : Nat) (hp : p ≤ 64) : (Y % 2 ^ 64) / 2 ^ p ||| (Y / 2 ^ 64 % 2 ^ 64 * 2 ^ (64 - p)) % 2 ^ 64 = Y / 2 ^ p % 2 ^ 64 := by
  apply Nat.eq_of_testBit_eq
  intro i
  simp only [Nat.testBit_or, Nat.testBit_mod_two_pow, Nat.testBit_div_two_pow, Nat.testBit_mul_two_pow]
  by_cases h1 : i < 64
  · by_cases h2 : i + p < 64
    · have : ¬ (64 - p ≤ i) := by omega
      simp [h1, h2, this]
    · have h3 : 64 - p ≤ i := by omega
      have h4 : i - (64 - p) < 64 := by omega
      have h5 : i - (64 - p) + 64 = i + p := by omega
      simp [h1, h2, h3, h4, h5]
  · have : ¬ i + p < 64 := by omega
    simp [h1, this]

theorem shl_bits (m j p : Nat) (hp : p ≤ 64) : (m / 2 ^ (64 * (j + 1)) % 2 ^ 64 * 2 ^ p) % 2 ^ 64 ||| (m / 2 ^ (64 * j) % 2 ^ 64) / 2 ^ (64 - p) = m * 2 ^ p / 2 ^ (64 * (j + 1)) % 2 ^ 64 := by
  apply Nat.eq_of_testBit_eq
  intro i
  simp only [Nat.testBit_or, Nat.testBit_mod_two_pow, Nat.testBit_div_two_pow, Nat.testBit_mul_two_pow]
  by_cases h1 : i < 64
  · by_cases h2 : p ≤ i
    · have h3 : ¬ i + (64 - p) < 64 := by omega
      have h4 : i - p < 64 := by omega
      have h5 : p ≤ i + 64 * (j + 1) := by omega
      have h6 : i + 64 * (j + 1) - p = i - p + 64 * (j + 1) := by omega
      simp [h1, h2, h3, h4, h5, h6]
    · have h3 : i + (64 - p) < 64 := by omega
      have h5 : p ≤ i + 64 * (j + 1) := by omega
      have h6 : i + 64 * (j + 1) - p = i + (64 - p) + 64 * j := by omega
      simp [h1, h2, h3, h5, h6]
  · have : ¬ i + (64 - p) < 64 := by omega
    simp [h1, this]

theorem pow64 (x : Nat) : x % 2 ^ 64 < 2 ^ 64 := Nat.mod_lt _ (by decide)
theorem div_lt64 {x : Nat} (p : Nat) (h : x < 2 ^ 64) : x / 2 ^ p < 2 ^ 64 := Nat.lt_of_le_of_lt (Nat.div_le_self _ _) h

theorem div_assoc (m s i : Nat) : m / 2 ^ s / 2 ^ (64 * i) = m / 2 ^ (64 * i + s) := by
  rw [Nat.div_div_eq_div_mul, ← Nat.pow_add, Nat.add_comm]

/-- Moved down: a word out of two. -/
theorem shr_or (m q p i : Nat) (hp : p ≤ 64) : bits .or .u64 (li (i + q) m / 2 ^ p) (IntKind.u64.wrap (li (i + q + 1) m * 2 ^ (64 - p))) = li i (m / 2 ^ (64 * q + p)) := by
  unfold li
  rw [div_cast, wrap_cast, or_cast _ _ (div_lt64 _ (pow64 _)) (pow64 _), div_assoc]
  have h := shr_bits (m / 2 ^ (64 * (i + q))) p hp
  have e : m / 2 ^ (64 * (i + q + 1)) = m / 2 ^ (64 * (i + q)) / 2 ^ 64 := by rw [Nat.div_div_eq_div_mul, ← Nat.pow_add]; congr 2
  rw [e, h, Nat.div_div_eq_div_mul, ← Nat.pow_add]
  congr 4; omega
/-- .. the highest word. -/
theorem shr_last (m q p i : Nat) (hm : m < top) (hp : p ≤ 64) (hi : i + q = 3) : li 3 m / 2 ^ p = li i (m / 2 ^ (64 * q + p)) := by
  have h := shr_or m q p i hp
  rw [hi] at h
  have z : li 4 m = 0 := by
    unfold li
    have : m / 2 ^ (64 * 4) = 0 := Nat.div_eq_of_lt (by rw [top_pow] at hm; exact hm)
    rw [this]; rfl
  have z' : li (3 + 1) m = 0 := z
  rw [z', Int.zero_mul] at h
  rw [← h]
  unfold li
  rw [div_cast]
  have w0 : IntKind.u64.wrap 0 = ((0 : Nat) : Int) := by decide
  rw [w0, or_cast _ _ (div_lt64 _ (pow64 _)) (by decide)]
  simp
/-- .. nothing above. -/
theorem shr_none (m q p i : Nat) (hm : m < top) (hi : 4 ≤ i + q) : (0 : Int) = li i (m / 2 ^ (64 * q + p)) := by
  unfold li
  rw [div_assoc]
  have : m / 2 ^ (64 * i + (64 * q + p)) = 0 := Nat.div_eq_of_lt (by rw [top_pow] at hm; exact Nat.lt_of_lt_of_le hm (Nat.pow_le_pow_right (by decide) (by omega)))
  rw [this]; rfl

theorem mod_word (X i : Nat) (hi : i ≤ 3) : X % top / 2 ^ (64 * i) % 2 ^ 64 = X / 2 ^ (64 * i) % 2 ^ 64 := by
  rw [top_pow]
  apply Nat.eq_of_testBit_eq
  intro k
  simp only [Nat.testBit_mod_two_pow, Nat.testBit_div_two_pow]
  by_cases h : k < 64
  · have : k + 64 * i < 256 := by omega
    simp [h, this]
  · simp [h]

theorem up_word (m q p i : Nat) : m * 2 ^ (64 * q + p) / 2 ^ (64 * (i + q)) = m * 2 ^ p / 2 ^ (64 * i) := by
  have e1 : m * 2 ^ (64 * q + p) = m * 2 ^ p * 2 ^ (64 * q) := by rw [Nat.pow_add, Nat.mul_assoc, Nat.mul_comm (2 ^ p)]
  have e2 : 2 ^ (64 * (i + q)) = 2 ^ (64 * i) * 2 ^ (64 * q) := by rw [← Nat.pow_add]; congr 1; omega
  rw [e1, e2, Nat.mul_div_mul_right _ _ (Nat.pow_pos (by decide))]

/-- Moved up: a word out of two. -/
theorem shl_or (m q p i : Nat) (hp : p ≤ 64) (hi : i + 1 + q ≤ 3) : bits .or .u64 (IntKind.u64.wrap (li (i + 1) m * 2 ^ p)) (li i m / 2 ^ (64 - p)) = li (i + 1 + q) (m * 2 ^ (64 * q + p) % top) := by
  unfold li
  rw [div_cast, wrap_cast, or_cast _ _ (pow64 _) (div_lt64 _ (pow64 _)), mod_word _ _ hi, up_word, shl_bits m i p hp]
/-- .. the lowest word. -/
theorem shl_first (m q p : Nat) (hq : q ≤ 3) : IntKind.u64.wrap (li 0 m * 2 ^ p) = li q (m * 2 ^ (64 * q + p) % top) := by
  unfold li
  have h := up_word m q p 0
  rw [Nat.zero_add] at h
  rw [wrap_cast, mod_word _ _ hq, h]
  congr 1
  simp only [Nat.mul_zero, Nat.pow_zero, Nat.div_one]
  rw [Nat.mod_mul_mod]
/-- .. nothing below. -/
theorem shl_none (m q p i : Nat) (hq : q ≤ 3) (hi : i < q) : (0 : Int) = li i (m * 2 ^ (64 * q + p) % top) := by
  unfold li
  rw [mod_word _ _ (by omega)]
  have e1 : m * 2 ^ (64 * q + p) = m * 2 ^ (p + 64 * (q - i - 1)) * 2 ^ 64 * 2 ^ (64 * i) := by
    rw [Nat.mul_assoc, Nat.mul_assoc, ← Nat.pow_add, ← Nat.pow_add]; congr 2; omega
  rw [e1, Nat.mul_div_cancel _ (Nat.pow_pos (by decide)), Nat.mul_mod_left]
  rfl
end Go.Flo
