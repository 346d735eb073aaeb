/-
  Plain: texts of hexadecimal digits. No program is named here.
-/
import Derived.Test.YtkgjgdeaclefiaaNumB
namespace Go.Flo
open Go Go.RowKit

/-- A sign's digit. -/
def hexd (c : Nat) : Option Nat := if 48 ≤ c ∧ c ≤ 57 then some (c - 48) else if 97 ≤ c ∧ c ≤ 102 then some (c - 87) else if 65 ≤ c ∧ c ≤ 70 then some (c - 55) else none
def isHex (x : UInt8) : Bool := (hexd x.toNat).isSome
def hexv (x : UInt8) : Nat := (hexd x.toNat).getD 0
/-- The number that signs are. -/
def hexN (l : List UInt8) : Nat := l.foldl (fun a x => a * 16 + hexv x) 0
/-- A text as a number: the number, and what is wrong. -/
def parseHex (l : List UInt8) : Nat × Nat := if l = [] ∨ ¬ l.all isHex = true then (0, 2) else if top ≤ hexN l then (0, 3) else (hexN l, 0)
theorem hexd_lt {c d : Nat} (h : hexd c = some d) : d < 16 := by
  unfold hexd at h
  split at h
  · cases h; omega
  · split at h
    · cases h; omega
    · split at h
      · cases h; omega
      · cases h
theorem hexv_lt (x : UInt8) : hexv x < 16 := by
  unfold hexv
  cases h : hexd x.toNat with
  | none => simp
  | some d => exact hexd_lt h
theorem hexd_high {c : Nat} (h : 128 ≤ c) : hexd c = none := by unfold hexd; rw [if_neg (by omega), if_neg (by omega), if_neg (by omega)]
theorem hexN_snoc (l : List UInt8) (x : UInt8) : hexN (l ++ [x]) = hexN l * 16 + hexv x := by unfold hexN; rw [List.foldl_append]; rfl
theorem hexN_nil : hexN [] = 0 := rfl
theorem take_snoc8 (l : List UInt8) (t : Nat) (h : t < l.length) : l.take (t + 1) = l.take t ++ [l[t]] := List.take_succ_eq_append_getElem h
theorem top16 : top = 16 * 7237005577332262213973186563042994240829374041602535252466099000494570602496 := by rw [top_eq]
/-- A digit is laid in behind. -/
theorem hex_step (n d : Nat) (hd : d < 16) : n % top * 16 % top ||| d = (n * 16 + d) % top ∧ (decide (top ≤ n) || decide (top ≤ n % top * 16)) = decide (top ≤ n * 16 + d) := by
  have h16 := top16
  generalize 7237005577332262213973186563042994240829374041602535252466099000494570602496 = q at h16
  have e1 : n % top * 16 % top = 16 * (n % top % q) := by rw [h16, Nat.mul_comm (n % (16 * q)) 16, Nat.mul_mod_mul_left]
  have e2 : n % top % q = n % q := by rw [h16, Nat.mul_comm 16 q, Nat.mod_mul_right_mod]
  have e3 : (n * 16 + d) % top = 16 * (n % q) + d := by
    have h1 := Nat.div_add_mod n q
    have h0 : 0 < q := by rcases Nat.eq_zero_or_pos q with h | h; · rw [h] at h16; rw [top_eq] at h16; cases h16
                          · exact h
    have h2 := Nat.mod_lt n h0
    rw [show n * 16 + d = (16 * (n % q) + d) + 16 * q * (n / q) by
      have : n * 16 = 16 * q * (n / q) + 16 * (n % q) := by rw [Nat.mul_assoc, ← Nat.mul_add, h1, Nat.mul_comm]
      omega, ← h16, Nat.add_mul_mod_self_left, Nat.mod_eq_of_lt]
    rw [h16]; omega
  refine ⟨?_, ?_⟩
  · rw [e1, e2, e3]
    have := Nat.two_pow_add_eq_or_of_lt (i := 4) (b := d) hd (n % q)
    rw [show (2 : Nat) ^ 4 = 16 from rfl] at this
    exact this.symm
  · rw [Bool.eq_iff_iff]
    simp only [Bool.or_eq_true, decide_eq_true_eq]
    constructor
    · rintro (h | h)
      · omega
      · have := Nat.mod_le n top; omega
    · intro h
      by_cases hn : top ≤ n
      · exact .inl hn
      · rw [Nat.mod_eq_of_lt (by omega)]
        exact .inr (by omega)
/-- Four words, the lowest digits of which are nought, and a small number. -/
theorem four_or (x d : Nat) (hd : d < 18446744073709551616) : #[Value.int .u64 (bits .or .u64 (l0 x) (d : Int)), .int .u64 (l1 x), .int .u64 (l2 x), .int .u64 (l3 x)] =
    #[.int .u64 (l0 (x ||| d)), .int .u64 (l1 (x ||| d)), .int .u64 (l2 (x ||| d)), .int .u64 (l3 (x ||| d))] := by
  have h0 : bits .or .u64 (l0 x) (d : Int) = l0 (x ||| d) := by
    rw [l0_li, l0_li]
    unfold li
    rw [or_cast _ _ (pow64 _) hd]
    congr 1
    apply Nat.eq_of_testBit_eq
    intro k
    simp only [Nat.mul_zero, Nat.pow_zero, Nat.div_one, Nat.testBit_or, Nat.testBit_mod_two_pow]
    by_cases hk : k < 64
    · simp [hk]
    · have : d.testBit k = false := Nat.testBit_lt_two_pow (Nat.lt_of_lt_of_le hd (show 2 ^ 64 ≤ 2 ^ k from Nat.pow_le_pow_right (by decide) (by omega)))
      simp [hk, this]
  have hi : ∀ i, 1 ≤ i → li i (x ||| d) = li i x := fun i hi => by
    unfold li
    congr 1
    apply Nat.eq_of_testBit_eq
    intro k
    simp only [Nat.testBit_or, Nat.testBit_mod_two_pow, Nat.testBit_div_two_pow]
    have : d.testBit (k + 64 * i) = false := Nat.testBit_lt_two_pow (Nat.lt_of_lt_of_le hd (show 2 ^ 64 ≤ 2 ^ (k + 64 * i) from Nat.pow_le_pow_right (by decide) (by omega)))
    simp [this]
  rw [h0, l1_li, l2_li, l3_li, l1_li, l2_li, l3_li, hi 1 (by decide), hi 2 (by decide), hi 3 (by decide)]
end Go.Flo
