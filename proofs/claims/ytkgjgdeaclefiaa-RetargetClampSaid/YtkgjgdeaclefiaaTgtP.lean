/-
  Plain: bits and targets. No program is named here.
-/
import Derived.Test.YtkgjgdeaclefiaaUa
namespace Go.Proofs.Ytkgjgdeaclefiaa
open Go Go.Proofs Go.RowKit Go.Flo

def manN (b : Nat) : Nat := b % 8388608
def upI (b : Nat) : Int := ((b / 16777216 : Nat) : Int) - 3
def rawT (b : Nat) : Nat := if upI b < 0 then manN b / 2 ^ (-upI b * 8).toNat else manN b * 2 ^ (upI b * 8).toNat % top
def badT (b : Nat) : Bool := decide (top ≤ manN b * 2 ^ (upI b * 8).toNat) || (decide (rawT b = 0) || decide (b / 8388608 % 2 = 1))
/-- Bits' target, and what is wrong. -/
def expandN (b : Nat) : Nat × Nat := if badT b = true then (0, 7) else (rawT b, 0)
theorem rawT_lt (b : Nat) (hT : 16777216 < top) : rawT b < top := by
  unfold rawT
  split
  · refine Nat.lt_of_le_of_lt (Nat.div_le_self _ _) ?_
    unfold manN
    omega
  · exact Nat.mod_lt _ (by omega)
theorem expandN_lt (b : Nat) (hT : 16777216 < top) : (expandN b).1 < top := by
  unfold expandN
  split
  · exact Nat.lt_trans (by decide) hT
  · exact rawT_lt b hT
theorem expandN_ok {b : Nat} (h : (expandN b).2 = 0) : badT b = false := by
  unfold expandN at h
  cases hb : badT b with
  | false => rfl
  | true => rw [hb] at h; cases h
theorem expandN_of {b : Nat} (h : badT b = false) : expandN b = (rawT b, 0) := by unfold expandN; rw [h]; rfl
theorem expandN_bad {b : Nat} (h : badT b = true) : expandN b = (0, 7) := by unfold expandN; rw [h]; rfl

/-! Shrunk -/
def szN (t : Nat) : Nat := (lenN t + 7) / 8
def nN (t : Nat) : Nat := t * 2 ^ ((3 - (szN t : Int)) * 8).toNat / 2 ^ (((szN t : Int) - 3) * 8).toNat
/-- A target's bits. -/
def shrinkN (t : Nat) : Nat := if 8388608 ≤ nN t then (szN t + 1) * 16777216 + nN t / 256 else szN t * 16777216 + nN t
theorem szN_le {t : Nat} (h : t < 2 ^ 256) : szN t ≤ 32 := by
  have := lenN_le.2 h
  unfold szN
  omega
theorem sz_hi (t : Nat) : t < 2 ^ (8 * szN t) := by
  refine Nat.lt_of_lt_of_le (lenN_hi t) (Nat.pow_le_pow_right (by decide) ?_)
  unfold szN
  omega
theorem sz_lo {t : Nat} (h : t ≠ 0) : 2 ^ (8 * (szN t - 1)) ≤ t := by
  refine Nat.le_trans (Nat.pow_le_pow_right (by decide) ?_) (lenN_lo h)
  have := lenN_pos h
  unfold szN
  omega
/-- .. the exponent by which a target is cut, and the digits that are left. -/
theorem nN_small {t : Nat} (h : szN t ≤ 3) : nN t = t * 2 ^ (8 * (3 - szN t)) := by
  unfold nN
  rw [show ((3 - (szN t : Int)) * 8).toNat = 8 * (3 - szN t) by omega, show (((szN t : Int) - 3) * 8).toNat = 0 by omega]
  simp
theorem nN_big {t : Nat} (h : 3 ≤ szN t) : nN t = t / 2 ^ (8 * (szN t - 3)) := by
  unfold nN
  rw [show ((3 - (szN t : Int)) * 8).toNat = 0 by omega, show (((szN t : Int) - 3) * 8).toNat = 8 * (szN t - 3) by omega]
  simp
theorem nN_lt (t : Nat) : nN t < 16777216 := by
  rcases Nat.le_total (szN t) 3 with h | h
  · rw [nN_small h]
    have := Nat.mul_lt_mul_of_pos_right (sz_hi t) (Nat.two_pow_pos (8 * (3 - szN t)))
    rw [← Nat.pow_add, show 8 * szN t + 8 * (3 - szN t) = 24 by omega] at this
    exact this
  · rw [nN_big h]
    refine Nat.div_lt_of_lt_mul ?_
    rw [show (16777216 : Nat) = 2 ^ 24 from rfl, ← Nat.pow_add, show 8 * (szN t - 3) + 24 = 8 * szN t by omega]
    exact sz_hi t
theorem nN_ge {t : Nat} (h0 : t ≠ 0) : 65536 ≤ nN t := by
  have hl := sz_lo h0
  have hp := lenN_pos h0
  rcases Nat.le_total (szN t) 3 with h | h
  · rw [nN_small h]
    have := Nat.mul_le_mul_right (2 ^ (8 * (3 - szN t))) hl
    rw [← Nat.pow_add, show 8 * (szN t - 1) + 8 * (3 - szN t) = 16 by unfold szN at *; omega] at this
    exact this
  · rw [nN_big h, Nat.le_div_iff_mul_le (Nat.two_pow_pos _), show (65536 : Nat) = 2 ^ 16 from rfl, ← Nat.pow_add, show 16 + 8 * (szN t - 3) = 8 * (szN t - 1) by omega]
    exact hl
theorem nN_zero : nN 0 = 0 := by unfold nN; simp
theorem szN_zero : szN 0 = 0 := by unfold szN; rw [lenN_zero]
theorem shrinkN_zero : shrinkN 0 = 0 := by unfold shrinkN; rw [nN_zero, szN_zero]; rfl
theorem cut_len {t K : Nat} (h : t / 2 ^ K ≠ 0) : lenN (t / 2 ^ K * 2 ^ K) = lenN t := by
  rw [lenN_shift (m := t / 2 ^ K * 2 ^ K) (s := K) (x := t / 2 ^ K) (Nat.mul_div_cancel _ (Nat.two_pow_pos _)) h, ← lenN_shift rfl h]
theorem pow_split (a b : Nat) : 2 ^ (a + b) = 2 ^ a * 2 ^ b := Nat.pow_add 2 a b
/-- Shrunk and expanded: it is cut. -/
theorem back_core {t : Nat} (h0 : t ≠ 0) (ht : t < top) (hT : 16777216 < top) :
    ∃ K, rawT (shrinkN t) = t / 2 ^ K * 2 ^ K ∧ badT (shrinkN t) = false ∧ t / 2 ^ K ≠ 0 ∧ (K = 0 ∨ 32768 ≤ t / 2 ^ K) ∧ shrinkN (t / 2 ^ K * 2 ^ K) = shrinkN t ∧ shrinkN t / 8388608 % 2 = 0 ∧ shrinkN t < 4294967296 := by
  have hlt := nN_lt t
  have hge := nN_ge h0
  have hsz : szN t ≤ 32 := szN_le (by rw [← top_pow]; exact ht)
  have fin : ∀ b K, rawT b = t / 2 ^ K * 2 ^ K → t / 2 ^ K ≠ 0 → manN b * 2 ^ (upI b * 8).toNat < top → b / 8388608 % 2 = 0 → badT b = false := by
    intro b K h1 h2 h3 h4
    have h5 : rawT b ≠ 0 := by rw [h1]; exact Nat.mul_ne_zero h2 (Nat.ne_of_gt (Nat.two_pow_pos _))
    unfold badT
    rw [decide_eq_false (by omega), decide_eq_false h5, decide_eq_false (by omega)]
    rfl
  by_cases hn : 8388608 ≤ nN t
  · have eb : shrinkN t = (szN t + 1) * 16777216 + nN t / 256 := by unfold shrinkN; rw [if_pos hn]
    have em : manN (shrinkN t) = nN t / 256 := by rw [eb]; unfold manN; omega
    have eu : upI (shrinkN t) = (szN t : Int) - 2 := by rw [eb]; unfold upI; omega
    have es : shrinkN t / 8388608 % 2 = 0 := by rw [eb]; omega
    have hb : shrinkN t < 4294967296 := by rw [eb]; omega
    rcases Nat.lt_or_ge (szN t) 3 with h3 | h3
    · have e1 : nN t / 256 = t * 2 ^ (8 * (2 - szN t)) := by
        rw [nN_small (by omega), show 8 * (3 - szN t) = 8 * (2 - szN t) + 8 by omega, pow_split, ← Nat.mul_assoc]
        exact Nat.mul_div_cancel _ (by decide)
      have hr : rawT (shrinkN t) = t := by
        unfold rawT
        rw [eu, em, e1]
        split
        · rw [show (-((szN t : Int) - 2) * 8).toNat = 8 * (2 - szN t) by omega]
          exact Nat.mul_div_cancel _ (Nat.two_pow_pos _)
        · have h2 : szN t = 2 := by omega
          rw [h2]
          show t * 2 ^ 0 * 2 ^ 0 % top = t
          rw [Nat.pow_zero, Nat.mul_one, Nat.mul_one, Nat.mod_eq_of_lt ht]
      refine ⟨0, by rw [hr]; simp, fin _ 0 (by rw [hr]; simp) (by simpa using h0) ?_ es, by simpa using h0, .inl rfl, by simp, es, hb⟩
      rw [eu, em, show (((szN t : Int) - 2) * 8).toNat = 0 by omega]
      omega
    · have e1 : nN t / 256 = t / 2 ^ (8 * (szN t - 2)) := by
        rw [nN_big h3, show 8 * (szN t - 2) = 8 * (szN t - 3) + 8 by omega, pow_split, Nat.div_div_eq_div_mul]
      have hle := Nat.div_mul_le_self t (2 ^ (8 * (szN t - 2)))
      have hne : t / 2 ^ (8 * (szN t - 2)) ≠ 0 := by rw [← e1]; omega
      have hr : rawT (shrinkN t) = t / 2 ^ (8 * (szN t - 2)) * 2 ^ (8 * (szN t - 2)) := by
        unfold rawT
        rw [eu, em, e1, if_neg (by omega), show (((szN t : Int) - 2) * 8).toNat = 8 * (szN t - 2) by omega, Nat.mod_eq_of_lt (by omega)]
      refine ⟨8 * (szN t - 2), hr, fin _ _ hr hne ?_ es, hne, .inr (by rw [← e1]; omega), ?_, es, hb⟩
      · rw [eu, em, e1, show (((szN t : Int) - 2) * 8).toNat = 8 * (szN t - 2) by omega]; omega
      · have hl : szN (t / 2 ^ (8 * (szN t - 2)) * 2 ^ (8 * (szN t - 2))) = szN t := by unfold szN at hne ⊢; rw [cut_len hne]
        have hn2 : nN (t / 2 ^ (8 * (szN t - 2)) * 2 ^ (8 * (szN t - 2))) = t / 2 ^ (8 * (szN t - 2)) * 256 := by
          rw [nN_big (by rw [hl]; exact h3), hl]
          generalize t / 2 ^ (8 * (szN t - 2)) = x
          rw [show 8 * (szN t - 2) = 8 + 8 * (szN t - 3) by omega, pow_split, ← Nat.mul_assoc]
          exact Nat.mul_div_cancel _ (Nat.two_pow_pos _)
        rw [eb, e1]
        unfold shrinkN
        rw [hl, hn2, if_pos (by rw [← e1]; omega), Nat.mul_div_cancel _ (by decide)]
  · have eb : shrinkN t = szN t * 16777216 + nN t := by unfold shrinkN; rw [if_neg hn]
    have em : manN (shrinkN t) = nN t := by rw [eb]; unfold manN; omega
    have eu : upI (shrinkN t) = (szN t : Int) - 3 := by rw [eb]; unfold upI; omega
    have es : shrinkN t / 8388608 % 2 = 0 := by rw [eb]; omega
    have hb : shrinkN t < 4294967296 := by rw [eb]; omega
    rcases Nat.lt_or_ge 3 (szN t) with h3 | h3
    · have e1 := nN_big (t := t) (by omega)
      have hle := Nat.div_mul_le_self t (2 ^ (8 * (szN t - 3)))
      have hne : t / 2 ^ (8 * (szN t - 3)) ≠ 0 := by rw [← e1]; omega
      have hr : rawT (shrinkN t) = t / 2 ^ (8 * (szN t - 3)) * 2 ^ (8 * (szN t - 3)) := by
        unfold rawT
        rw [eu, em, e1, if_neg (by omega), show (((szN t : Int) - 3) * 8).toNat = 8 * (szN t - 3) by omega, Nat.mod_eq_of_lt (by omega)]
      refine ⟨8 * (szN t - 3), hr, fin _ _ hr hne ?_ es, hne, .inr (by rw [← e1]; omega), ?_, es, hb⟩
      · rw [eu, em, e1, show (((szN t : Int) - 3) * 8).toNat = 8 * (szN t - 3) by omega]; omega
      · have hl : szN (t / 2 ^ (8 * (szN t - 3)) * 2 ^ (8 * (szN t - 3))) = szN t := by unfold szN at hne ⊢; rw [cut_len hne]
        have hn2 : nN (t / 2 ^ (8 * (szN t - 3)) * 2 ^ (8 * (szN t - 3))) = t / 2 ^ (8 * (szN t - 3)) := by
          rw [nN_big (by rw [hl]; omega), hl]
          exact Nat.mul_div_cancel _ (Nat.two_pow_pos _)
        rw [eb]
        unfold shrinkN
        rw [hl, hn2, ← e1, if_neg hn]
    · have e1 := nN_small (t := t) h3
      have hr : rawT (shrinkN t) = t := by
        unfold rawT
        rw [eu, em, e1]
        split
        · rw [show (-((szN t : Int) - 3) * 8).toNat = 8 * (3 - szN t) by omega]
          exact Nat.mul_div_cancel _ (Nat.two_pow_pos _)
        · have h2 : szN t = 3 := by omega
          rw [h2]
          show t * 2 ^ 0 * 2 ^ 0 % top = t
          rw [Nat.pow_zero, Nat.mul_one, Nat.mul_one, Nat.mod_eq_of_lt ht]
      refine ⟨0, by rw [hr]; simp, fin _ 0 (by rw [hr]; simp) (by simpa using h0) ?_ es, by simpa using h0, .inl rfl, by simp, es, hb⟩
      rw [eu, em, show (((szN t : Int) - 3) * 8).toNat = 0 by omega]
      omega
/-- How much is cut off. -/
theorem cut_small {t K : Nat} (h : K = 0 ∨ 32768 ≤ t / 2 ^ K) : t - t / 2 ^ K * 2 ^ K ≤ t / 16384 := by
  rcases h with rfl | h
  · simp
  · have h1 := Nat.div_add_mod t (2 ^ K)
    have h2 := Nat.mod_lt t (Nat.two_pow_pos K)
    have h3 := Nat.mul_le_mul_right (2 ^ K) h
    rw [Nat.mul_comm] at h1
    generalize t / 2 ^ K * 2 ^ K = y at *
    generalize 2 ^ K = p at *
    omega
end Go.Proofs.Ytkgjgdeaclefiaa
