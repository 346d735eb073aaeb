/-
  Plain numbers: a division digit by digit. No program is named here.
-/
import Derived.Test.YtkgjgdeaclefiaaNum2
namespace Go.Flo
open Go Go.RowKit

theorem cmpI_ge {m n : Nat} (h : n ≤ m) : 0 ≤ cmpI m n := by unfold cmpI; rw [if_neg (by omega)]; split <;> decide
theorem cmpI_lt {m n : Nat} (h : m < n) : cmpI m n = -1 := by unfold cmpI; rw [if_pos h]
theorem cmpI_gt {m n : Nat} (h : n < m) : cmpI m n = 1 := by unfold cmpI; rw [if_neg (by omega), if_pos h]
theorem cmpI_eq (m : Nat) : cmpI m m = 0 := by unfold cmpI; rw [if_neg (by omega), if_neg (by omega)]

theorem or_bit (qq n j p : Nat) (hn : n = 64 * j + p) : bits .or .u64 (li j qq) (IntKind.u64.wrap (2 ^ p)) = li j (qq ||| 2 ^ n) := by
  unfold li
  have e := wrap_cast 1 p
  rw [show ((1 : Nat) : Int) = 1 from rfl, Int.one_mul] at e
  rw [e, or_cast _ _ (pow64 _) (pow64 _)]
  congr 1
  apply Nat.eq_of_testBit_eq
  intro k
  simp only [Nat.testBit_or, Nat.testBit_mod_two_pow, Nat.testBit_div_two_pow, Nat.one_mul, Nat.testBit_two_pow]
  by_cases hk : k < 64
  · have : (p = k) = (n = k + 64 * j) := by apply propext; omega
    simp [hk, this]
  · simp [hk]
theorem or_bit_ne (qq n i j p : Nat) (hn : n = 64 * j + p) (hp : p < 64) (hi : i ≠ j) : li i (qq ||| 2 ^ n) = li i qq := by
  unfold li
  congr 1
  apply Nat.eq_of_testBit_eq
  intro k
  simp only [Nat.testBit_or, Nat.testBit_mod_two_pow, Nat.testBit_div_two_pow, Nat.testBit_two_pow]
  by_cases hk : k < 64
  · have : ¬ n = k + 64 * i := by omega
    simp [hk, this]
  · simp [hk]
theorem or_add (qq n : Nat) (h : qq % 2 ^ (n + 1) = 0) : qq ||| 2 ^ n = qq + 2 ^ n := by
  have h1 : 2 ^ n < 2 ^ (n + 1) := Nat.pow_lt_pow_right (by decide) (by omega)
  have : qq = 2 ^ (n + 1) * (qq / 2 ^ (n + 1)) := by have := Nat.div_add_mod qq (2 ^ (n + 1)); omega
  rw [this, Nat.mul_comm, ← Nat.shiftLeft_eq, Nat.shiftLeft_add_eq_or_of_lt h1]

/-- How far a division has come: s digits are to come. -/
structure DivS (m k s r qq : Nat) : Prop where
  k0 : k ≠ 0
  mt : m < top
  kt : k < top
  sum : m = qq * k + r
  rest : r < k * 2 ^ s
  low : qq % 2 ^ s = 0
  len : s ≠ 0 → s + lenN k ≤ lenN m + 1

theorem DivS.start {m k : Nat} (k0 : k ≠ 0) (mt : m < top) (kt : k < top) : DivS m k (lenN m + 1 - lenN k) m 0 := by
  refine ⟨k0, mt, kt, by omega, ?_, by simp, fun h => by omega⟩
  have h1 := lenN_lo k0
  have h2 := lenN_hi m
  have h3 := lenN_pos k0
  have h5 : 2 ^ lenN m ≤ 2 ^ (lenN k - 1 + (lenN m + 1 - lenN k)) := Nat.pow_le_pow_right (by decide) (by omega)
  have h6 : 2 ^ (lenN k - 1) * 2 ^ (lenN m + 1 - lenN k) ≤ k * 2 ^ (lenN m + 1 - lenN k) := Nat.mul_le_mul_right _ h1
  rw [← Nat.pow_add] at h6
  omega

theorem DivS.up {m k t r qq : Nat} (h : DivS m k (t + 1) r qq) : k * 2 ^ t < top ∧ t < 256 := by
  have h1 := h.len (by omega)
  have h2 := lenN_top h.mt
  have h3 := lenN_pos h.k0
  refine ⟨?_, by omega⟩
  rcases Nat.lt_or_ge (k * 2 ^ t) top with h' | h'
  · exact h'
  · have := (lost_iff h.k0).1 h'; omega

theorem DivS.yes {m k t r qq : Nat} (h : DivS m k (t + 1) r qq) (hd : k * 2 ^ t ≤ r) : DivS m k t (r - k * 2 ^ t) (qq ||| 2 ^ t) := by
  have hr := h.rest
  have hs := h.sum
  rw [Nat.pow_succ, ← Nat.mul_assoc] at hr
  rw [or_add qq t h.low]
  have e1 : (qq + 2 ^ t) * k = qq * k + k * 2 ^ t := by rw [Nat.add_mul, Nat.mul_comm (2 ^ t)]
  refine ⟨h.k0, h.mt, h.kt, by omega, by omega, ?_, fun h0 => by have := h.len (by omega); omega⟩
  have : qq % 2 ^ t = 0 := Nat.mod_eq_zero_of_dvd (Nat.dvd_trans (Nat.pow_dvd_pow 2 (Nat.le_succ t)) (Nat.dvd_of_mod_eq_zero h.low))
  rw [Nat.add_mod_right, this]
theorem DivS.no {m k t r qq : Nat} (h : DivS m k (t + 1) r qq) (hd : r < k * 2 ^ t) : DivS m k t r qq :=
  ⟨h.k0, h.mt, h.kt, h.sum, hd, Nat.mod_eq_zero_of_dvd (Nat.dvd_trans (Nat.pow_dvd_pow 2 (Nat.le_succ t)) (Nat.dvd_of_mod_eq_zero h.low)), fun h0 => by have := h.len (by omega); omega⟩
theorem DivS.done {m k r qq : Nat} (h : DivS m k 0 r qq) : qq = m / k ∧ r = m % k := by
  have h1 := h.sum
  have h2 : r < k := by simpa using h.rest
  have e : m / k = qq ∧ m % k = r := (Nat.div_mod_unique (Nat.pos_of_ne_zero h.k0)).2 ⟨by rw [h1, Nat.mul_comm]; omega, h2⟩
  exact ⟨e.1.symm, e.2.symm⟩
theorem DivS.rt {m k s r qq : Nat} (h : DivS m k s r qq) : r < top ∧ qq < top := by
  have h1 := h.sum
  have h2 := h.mt
  have h3 : qq ≤ qq * k := Nat.le_mul_of_pos_right _ (Nat.pos_of_ne_zero h.k0)
  exact ⟨by omega, by omega⟩
theorem sub_top {r d : Nat} (hr : r < top) (hd : d ≤ r) : (r + top - d) % top = r - d := by
  have e : r + top - d = (r - d) + top := by omega
  rw [e, Nat.add_mod_right]
  exact Nat.mod_eq_of_lt (by omega)

/-- Four cells that hold a number. -/
structure Four (w : World) (b : Nat) (t : TypeId) (n : Nat) : Prop where
  row : w.heap[b]? = some (.cells #[.int .u64 (l0 n), .int .u64 (l1 n), .int .u64 (l2 n), .int .u64 (l3 n)] t (0, 0))
theorem Four.cells {w : World} {b : Nat} {t : TypeId} {n : Nat} (h : Four w b t n) :
    w.cell? ⟨b, 0, none⟩ = some (.int .u64 (l0 n)) ∧ w.cell? ⟨b, 1, none⟩ = some (.int .u64 (l1 n)) ∧ w.cell? ⟨b, 2, none⟩ = some (.int .u64 (l2 n)) ∧ w.cell? ⟨b, 3, none⟩ = some (.int .u64 (l3 n)) ∧ ∀ i, w.frozen? ⟨b, i, none⟩ = false := by
  have hr := h.row
  refine ⟨?_, ?_, ?_, ?_, fun i => frozen_of_row w b i _ t hr⟩ <;> (rw [cell_of_row w b _ _ t _ hr]; rfl)
theorem Four.lt {w : World} {b : Nat} {t : TypeId} {n : Nat} (h : Four w b t n) : b < w.heap.size := by
  have := h.row
  rcases Nat.lt_or_ge b w.heap.size with h' | h'
  · exact h'
  · simp [Array.getElem?_eq_none h'] at this
theorem Four.below {w w' : World} {b : Nat} {t : TypeId} {n : Nat} (h : Four w b t n) (hb : Below w.heap.size w w') : Four w' b t n := ⟨(hb.block b h.lt).trans h.row⟩
theorem Four.drew {w : World} {b : Nat} {t : TypeId} {n : Nat} (h : Four w b t n) : Four w.drew b t n := ⟨h.row⟩
theorem Four.alloc {w : World} {b : Nat} {t : TypeId} {n : Nat} (h : Four w b t n) (o : Obj) : Four (w.alloc o) b t n := h.below ((Below.refl _ _).alloc (Nat.le_refl _) o)
theorem Four.other {w : World} {b : Nat} {t : TypeId} {n : Nat} (h : Four w b t n) {p : Addr} (hp : b ≠ p.block) (v : Value) : Four (w.setCell p v) b t n := ⟨(Below.heap_setCell w p v b hp).trans h.row⟩
theorem Four.made {w : World} {b : Nat} {t : TypeId} {a0 a1 a2 a3 : Value} {n : Nat} (h : w.heap[b]? = some (.cells #[a0, a1, a2, a3] t (0, 0))) :
    Four ((((w.setCell ⟨b, 0, none⟩ (.int .u64 (l0 n))).setCell ⟨b, 1, none⟩ (.int .u64 (l1 n))).setCell ⟨b, 2, none⟩ (.int .u64 (l2 n))).setCell ⟨b, 3, none⟩ (.int .u64 (l3 n))) b t n := by
  have h1 := heap_setCell_same w b 0 _ t (.int .u64 (l0 n)) h
  have h2 := heap_setCell_same _ b 1 _ t (.int .u64 (l1 n)) h1
  have h3 := heap_setCell_same _ b 2 _ t (.int .u64 (l2 n)) h2
  have h4 := heap_setCell_same _ b 3 _ t (.int .u64 (l3 n)) h3
  exact ⟨h4⟩
end Go.Flo
