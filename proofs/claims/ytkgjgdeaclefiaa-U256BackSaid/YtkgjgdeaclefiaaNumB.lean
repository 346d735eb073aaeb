/-
  Plain numbers: bytes and the number that they are. No program is named here.
-/
import Derived.Test.YtkgjgdeaclefiaaNum3
import Derived.Test.YtkgjgdeaclefiaaByt
namespace Go.Flo
open Go Go.RowKit

theorem or_byte (qq c n j p : Nat) (hn : n = 64 * j + p) : bits .or .u64 (li j qq) (IntKind.u64.wrap ((c : Int) * 2 ^ p)) = li j (qq ||| c * 2 ^ n) := by
  unfold li
  rw [wrap_cast c p, or_cast _ _ (pow64 _) (pow64 _)]
  congr 1
  apply Nat.eq_of_testBit_eq
  intro k
  simp only [Nat.testBit_or, Nat.testBit_mod_two_pow, Nat.testBit_div_two_pow, Nat.testBit_mul_two_pow]
  by_cases hk : k < 64
  · have h1 : (p ≤ k) = (n ≤ k + 64 * j) := by apply propext; omega
    have h2 : k - p = k + 64 * j - n := by omega
    simp [hk, h1, h2]
  · simp [hk]
theorem or_byte_ne (qq c n i j p : Nat) (hn : n = 64 * j + p) (hc : c < 256) (hp : p ≤ 56) (hi : i ≠ j) : li i (qq ||| c * 2 ^ n) = li i qq := by
  unfold li
  congr 1
  apply Nat.eq_of_testBit_eq
  intro k
  simp only [Nat.testBit_or, Nat.testBit_mod_two_pow, Nat.testBit_div_two_pow, Nat.testBit_mul_two_pow]
  by_cases hk : k < 64
  · by_cases h1 : n ≤ k + 64 * i
    · have h2 : c.testBit (k + 64 * i - n) = false := Nat.testBit_lt_two_pow (Nat.lt_of_lt_of_le hc (show 2 ^ 8 ≤ 2 ^ (k + 64 * i - n) from Nat.pow_le_pow_right (by decide) (by omega)))
      simp [h2]
    · simp [h1]
  · simp [hk]
theorem four0 : #[Value.int .u64 (l0 0), .int .u64 (l1 0), .int .u64 (l2 0), .int .u64 (l3 0)] = #[.int .u64 0, .int .u64 0, .int .u64 0, .int .u64 0] := by
  have e0 : l0 0 = 0 := by unfold l0; rfl
  have e1 : l1 0 = 0 := by unfold l1; rfl
  have e2 : l2 0 = 0 := by unfold l2; rfl
  have e3 : l3 0 = 0 := by unfold l3; rfl
  rw [e0, e1, e2, e3]
/-- A byte is laid in at place t. -/
theorem four_byte (qq c t p q : Nat) (hp : p = t % 8 * 8) (hq : t / 8 = q) (h3 : q ≤ 3) (hc : c < 256) :
    (#[Value.int .u64 (l0 qq), .int .u64 (l1 qq), .int .u64 (l2 qq), .int .u64 (l3 qq)]).setIfInBounds q (.int .u64 (bits .or .u64 (li q qq) (IntKind.u64.wrap ((c : Int) * 2 ^ p)))) =
      #[.int .u64 (l0 (qq ||| c * 2 ^ (8 * t))), .int .u64 (l1 (qq ||| c * 2 ^ (8 * t))), .int .u64 (l2 (qq ||| c * 2 ^ (8 * t))), .int .u64 (l3 (qq ||| c * 2 ^ (8 * t)))] := by
  have hn : 8 * t = 64 * q + p := by omega
  have e := or_byte qq c (8 * t) q p hn
  have n (i : Nat) (hi : i ≠ q) := or_byte_ne qq c (8 * t) i q p hn hc (by omega) hi
  simp only [l0_li, l1_li, l2_li, l3_li, e]
  match q, h3, n with
  | 0, _, n => rw [n 1 (by decide), n 2 (by decide), n 3 (by decide)]; rfl
  | 1, _, n => rw [n 0 (by decide), n 2 (by decide), n 3 (by decide)]; rfl
  | 2, _, n => rw [n 0 (by decide), n 1 (by decide), n 3 (by decide)]; rfl
  | 3, _, n => rw [n 0 (by decide), n 1 (by decide), n 2 (by decide)]; rfl

/-- The number that bytes are, the highest first. -/
def beN (l : List UInt8) : Nat := l.foldl (fun a x => a * 256 + x.toNat) 0
theorem beN_from (l : List UInt8) : ∀ a, l.foldl (fun a x => a * 256 + x.toNat) a = a * 256 ^ l.length + beN l := by
  unfold beN
  induction l with
  | nil => intro a; simp
  | cons x l ih =>
    intro a
    rw [List.foldl_cons, List.foldl_cons, ih, ih (0 * 256 + x.toNat), List.length_cons, Nat.pow_succ]
    rw [Nat.add_mul, Nat.zero_mul, Nat.zero_add, Nat.mul_assoc, Nat.mul_comm 256, Nat.add_assoc]
theorem beN_cons (x : UInt8) (l : List UInt8) : beN (x :: l) = x.toNat * 256 ^ l.length + beN l := by
  have := beN_from l (0 * 256 + x.toNat)
  unfold beN at this ⊢
  rw [List.foldl_cons, this]
  simp
theorem beN_snoc (l : List UInt8) (x : UInt8) : beN (l ++ [x]) = beN l * 256 + x.toNat := by unfold beN; rw [List.foldl_append]; rfl
theorem beN_nil : beN [] = 0 := rfl
theorem beN_lt (l : List UInt8) : beN l < 256 ^ l.length := by
  induction l with
  | nil => simp [beN_nil]
  | cons x l ih =>
    rw [beN_cons, List.length_cons, Nat.pow_succ]
    have := x.toNat_lt
    have h2 : x.toNat * 256 ^ l.length ≤ 255 * 256 ^ l.length := Nat.mul_le_mul_right _ (by omega)
    omega
theorem pow256 : 256 ^ 32 = top := by rw [top_pow]
theorem beN_top {l : List UInt8} (h : l.length ≤ 32) : beN l < top := by
  rw [← pow256]
  exact Nat.lt_of_lt_of_le (beN_lt l) (Nat.pow_le_pow_right (by decide) h)

/-- What has been read, from the last one down. -/
def accN (zs : List UInt8) (pre : List (Fin zs.length)) : Nat := pre.foldl (fun (a : Nat) (x : Fin zs.length) => a ||| zs[x].toNat * 2 ^ (8 * (zs.length - 1 - x))) 0
theorem accN_snoc (zs : List UInt8) (pre : List (Fin zs.length)) (x : Fin zs.length) : accN zs (pre ++ [x]) = accN zs pre ||| zs[x].toNat * 2 ^ (8 * (zs.length - 1 - x)) := by
  unfold accN; rw [List.foldl_append]; rfl
/-- From the last one down. -/
def dnl (n : Nat) : List (Fin n) := (List.finRange n).reverse
theorem dnl_length (n : Nat) : (dnl n).length = n := by simp [dnl]
theorem dnl_take {n k : Nat} (h : k < n) : (dnl n).take (k + 1) = (dnl n).take k ++ [⟨n - 1 - k, by omega⟩] := by
  rw [List.take_succ_eq_append_getElem (by rw [dnl_length]; exact h)]
  congr 2
  simp [dnl, List.getElem_reverse]
theorem accN_take (zs : List UInt8) : ∀ k, k ≤ zs.length → accN zs ((dnl zs.length).take k) = beN (zs.drop (zs.length - k))
  | 0, _ => by
    have : zs.drop (zs.length - 0) = [] := by simp
    rw [this]
    simp [accN, beN_nil]
  | k + 1, h => by
    have ih := accN_take zs k (by omega)
    have hd : zs.drop (zs.length - (k + 1)) = zs[zs.length - 1 - k] :: zs.drop (zs.length - k) := by
      have e : zs.length - (k + 1) = zs.length - 1 - k := by omega
      rw [e, List.drop_eq_getElem_cons (by omega)]
      congr 2
      omega
    have hlen : (zs.drop (zs.length - k)).length = k := by rw [List.length_drop]; omega
    have hlt := beN_lt (zs.drop (zs.length - k))
    rw [dnl_take (by omega), accN_snoc, ih, hd, beN_cons, hlen]
    rw [hlen] at hlt
    have e8 : (256 : Nat) ^ k = 2 ^ (8 * k) := by rw [Nat.pow_mul]
    rw [e8] at hlt ⊢
    have ek : zs.length - 1 - (zs.length - 1 - k) = k := by omega
    show beN (zs.drop (zs.length - k)) ||| zs[zs.length - 1 - k].toNat * 2 ^ (8 * (zs.length - 1 - (zs.length - 1 - k))) = _
    rw [ek, Nat.or_comm, Nat.mul_comm, Nat.two_pow_add_eq_or_of_lt hlt]
theorem accN_all (zs : List UInt8) : accN zs (dnl zs.length) = beN zs := by
  have := accN_take zs zs.length (Nat.le_refl _)
  rw [List.take_of_length_le (by rw [dnl_length]; exact Nat.le_refl _), Nat.sub_self, List.drop_zero] at this
  exact this
end Go.Flo
