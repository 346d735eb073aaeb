/-
  Plain words: a number below 2^256 as Go's [4]uint64, and what its four words are. No program is named here.
-/
import Derived.Test.YtkgjgdeaclefiaaMix
import Derived.Lib.Hide
namespace Go.Flo
open Go Go.RowKit

/-- 2^256, under a name. -/
@[irreducible] def top : Nat := 115792089237316195423570985008687907853269984665640564039457584007913129639936
theorem top_eq : top = 115792089237316195423570985008687907853269984665640564039457584007913129639936 := by unfold top; rfl
theorem top_pow : top = 2 ^ 256 := by rw [top_eq]

@[irreducible] def l0 (n : Nat) : Int := ((n % 18446744073709551616 : Nat) : Int)
@[irreducible] def l1 (n : Nat) : Int := ((n / 18446744073709551616 % 18446744073709551616 : Nat) : Int)
@[irreducible] def l2 (n : Nat) : Int := ((n / 340282366920938463463374607431768211456 % 18446744073709551616 : Nat) : Int)
@[irreducible] def l3 (n : Nat) : Int := ((n / 6277101735386680763835789423207666416102355444464034512896 % 18446744073709551616 : Nat) : Int)

/-- A number as [4]uint64. -/
abbrev uV (n : Nat) : Value := .agg #[.int .u64 (l0 n), .int .u64 (l1 n), .int .u64 (l2 n), .int .u64 (l3 n)]

/-- A word. -/
structure Wd (x : Int) : Prop where
  lo : 0 ≤ x
  hi : x < 18446744073709551616

/-- A carry. -/
structure Cy (x : Int) : Prop where
  lo : 0 ≤ x
  hi : x ≤ 1
structure Sums (s d x y c : Int) : Prop where
  eq : s + 18446744073709551616 * d = x + y + c
structure Diffs (s d x y c : Int) : Prop where
  eq : s - 18446744073709551616 * d = x - y - c
theorem Cy.zero : Cy 0 := ⟨by decide, by decide⟩
theorem Cy.cases {c : Int} (h : Cy c) : c = 0 ∨ c = 1 := by obtain ⟨_, _⟩ := h; omega

/-- Four words are a number. -/
structure Is4 (n : Nat) (a b c d : Int) : Prop where
  wa : Wd a
  wb : Wd b
  wc : Wd c
  wd : Wd d
  eq : (n : Int) = a + 18446744073709551616 * b + 340282366920938463463374607431768211456 * c + 6277101735386680763835789423207666416102355444464034512896 * d

theorem is4_of {n : Nat} (h : n < top) : Is4 n (l0 n) (l1 n) (l2 n) (l3 n) := by
  rw [top_eq] at h
  unfold l0 l1 l2 l3
  refine ⟨⟨?_, ?_⟩, ⟨?_, ?_⟩, ⟨?_, ?_⟩, ⟨?_, ?_⟩, ?_⟩ <;> omega

theorem Is4.lt {n : Nat} {a b c d : Int} (h : Is4 n a b c d) : n < top := by
  rw [top_eq]
  obtain ⟨⟨_, _⟩, ⟨_, _⟩, ⟨_, _⟩, ⟨_, _⟩, h⟩ := h
  omega

theorem Is4.uV {n : Nat} {a b c d : Int} (h : Is4 n a b c d) : Value.agg #[.int .u64 a, .int .u64 b, .int .u64 c, .int .u64 d] = Flo.uV n := by
  obtain ⟨⟨_, _⟩, ⟨_, _⟩, ⟨_, _⟩, ⟨_, _⟩, h⟩ := h
  have e0 : l0 n = a := by unfold l0; omega
  have e1 : l1 n = b := by unfold l1; omega
  have e2 : l2 n = c := by unfold l2; omega
  have e3 : l3 n = d := by unfold l3; omega
  rw [← e0, ← e1, ← e2, ← e3]

/-- Four words are some number. -/
theorem is4_made {a b c d : Int} (ha : Wd a) (hb : Wd b) (hc : Wd c) (hd : Wd d) : ∃ n, Is4 n a b c d := by
  refine ⟨(a + 18446744073709551616 * b + 340282366920938463463374607431768211456 * c + 6277101735386680763835789423207666416102355444464034512896 * d).toNat, ha, hb, hc, hd, ?_⟩
  obtain ⟨_, _⟩ := ha; obtain ⟨_, _⟩ := hb; obtain ⟨_, _⟩ := hc; obtain ⟨_, _⟩ := hd
  omega

/-- Compared. -/
@[irreducible] def cmpI (m n : Nat) : Int := if m < n then -1 else if n < m then 1 else 0

theorem ret_congr {a b : Value} (h : a = b) : Ending.returned a = Ending.returned b := by rw [h]
end Go.Flo
