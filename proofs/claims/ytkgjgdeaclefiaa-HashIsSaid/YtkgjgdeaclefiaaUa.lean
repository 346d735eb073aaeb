import Derived.Shelf.Strconv.Itoa0
import Derived.Shelf.Bits.Mul64
import Derived.Shelf.Spec.BitsCarry
import Derived.Test.YtkgjgdeaclefiaaProg
import Derived.Test.YtkgjgdeaclefiaaLx
import Derived.WalkSpells
import Derived.WalkLawsBesides
import Derived.BigQuiet
import Derived.Lib.BitFns
import Derived.Lib.ItoaNum
import Derived.Laws.BytesString
import Derived.Laws.AppendOwn

/-! math/bits at this translation: Add64, Sub64, Mul64, Len64 (the shelf's contracts, laid; the carry and the borrow under names of their own). -/
namespace Go.Proofs
open Go.Shelf
def Try.lays129_ren : Go.Shelf.Ren := ⟨fun | 129 => 126 | n => n, fun | 53 => 30 | 3 => 3 | 4 => 4 | 46 => 57 | 5 => 5 | 9 => 9 | n => n, fun | n => n⟩
theorem Try.lays129 : Go.Proofs.Lays.n129 Try.prog Try.lays129_ren := {
  mixed := by kernel_rfl
  f129 := Try.func126.trans (congrArg some (by kernel_rfl))
  t3 := Try.underlying3
  a3 := Try.isAgg3
  z3 := Try.sizeOf3
  v3 := Try.zeroValue3
  t4 := Try.underlying4
  a4 := Try.isAgg4
  z4 := Try.sizeOf4
  v4 := Try.zeroValue4
  t5 := Try.underlying5
  a5 := Try.isAgg5
  z5 := Try.sizeOf5
  v5 := Try.zeroValue5
  t9 := Try.underlying9
  a9 := Try.isAgg9
  z9 := Try.sizeOf9
  v9 := Try.zeroValue9
  t46 := Try.underlying57
  a46 := Try.isAgg57
  z46 := Try.sizeOf57
  v46 := Try.zeroValue57
  t53 := Try.underlying30
  a53 := Try.isAgg30
  z53 := Try.sizeOf30
  v53 := Try.zeroValue30 }
theorem Try.bits_Len64 (x : Int) (w : World) (h0 : 0 ≤ x) (h1 : x ≤ 18446744073709551615) :
    Calls Try.prog 126 #[.int .u64 x] w fun e w' => e = .returned (.int .i64 (Lib.bitLen x.toNat)) ∧ w' = w := Any.bits_Len64 Try.lays129 x w h0 h1
def Try.lays264_ren : Go.Shelf.Ren := ⟨fun | 264 => 124 | n => n, fun | 53 => 30 | 46 => 57 | n => n, fun | n => n⟩
theorem Try.lays264 : Go.Proofs.Lays.n264 Try.prog Try.lays264_ren := {
  mixed := by kernel_rfl
  f264 := Try.func124.trans (congrArg some (by kernel_rfl))
  t46 := Try.underlying57
  a46 := Try.isAgg57
  z46 := Try.sizeOf57
  v46 := Try.zeroValue57
  t53 := Try.underlying30
  a53 := Try.isAgg30
  z53 := Try.sizeOf30
  v53 := Try.zeroValue30 }
open Go.RowKit Go.Lib in
theorem Try.bits_Mul64 (x y : Nat) (hx : x < 18446744073709551616) (hy : y < 18446744073709551616) (w : World) :
    Calls Try.prog 124 #[.int .u64 x, .int .u64 y] w fun e w' => e = .returned (.tuple #[.int .u64 ((x * y / 18446744073709551616 : Nat) : Int), .int .u64 ((x * y % 18446744073709551616 : Nat) : Int)]) ∧ w' = w := Any.bits_Mul64 Try.lays264 x y hx hy w
end Go.Proofs
namespace Go.Proofs.Ytkgjgdeaclefiaa
open Go Go.Proofs Go.RowKit Go.Flo Go.Shelf

/-- Add64: a sum and a carry. -/
theorem add64 {x y c : Int} (hx : Wd x) (hy : Wd y) (hc : Cy c) :
    ∃ s d : Int, Wd s ∧ Cy d ∧ Sums s d x y c ∧
      ∀ w, (callFunc 112 #[.int .u64 x, .int .u64 y, .int .u64 c]).run Try.prog w = .ok (.value (.tuple #[.int .u64 s, .int .u64 d])) w := by
  obtain ⟨x0, x1⟩ := hx
  obtain ⟨y0, y1⟩ := hy
  obtain ⟨c0, c1⟩ := hc
  refine ⟨(x + y + c) % 18446744073709551616, (x + y + c) / 18446744073709551616, ⟨by omega, by omega⟩, ⟨by omega, by omega⟩, ⟨by omega⟩, fun w => ?_⟩
  obtain ⟨x, rfl⟩ := Int.eq_ofNat_of_zero_le x0
  obtain ⟨y, rfl⟩ := Int.eq_ofNat_of_zero_le y0
  obtain ⟨c, rfl⟩ := Int.eq_ofNat_of_zero_le c0
  rw [run_callFunc_extern Try.func112 (by kernel_rfl) (by kernel_rfl) (by kernel_rfl) (e := add64Entry) (by kernel_rfl), run_add64 x y c (by omega) (by omega) (by omega) (by omega)]
  simp only [Result.andThen]
/-- Sub64: a difference and a borrow. -/
theorem sub64 {x y c : Int} (hx : Wd x) (hy : Wd y) (hc : Cy c) :
    ∃ s d : Int, Wd s ∧ Cy d ∧ Diffs s d x y c ∧
      ∀ w, (callFunc 113 #[.int .u64 x, .int .u64 y, .int .u64 c]).run Try.prog w = .ok (.value (.tuple #[.int .u64 s, .int .u64 d])) w := by
  obtain ⟨x0, x1⟩ := hx
  obtain ⟨y0, y1⟩ := hy
  obtain ⟨c0, c1⟩ := hc
  refine ⟨(x - y - c) % 18446744073709551616, if x < y + c then 1 else 0, ⟨by omega, by omega⟩, ⟨by split <;> decide, by split <;> decide⟩, ⟨by split <;> omega⟩, fun w => ?_⟩
  obtain ⟨x, rfl⟩ := Int.eq_ofNat_of_zero_le x0
  obtain ⟨y, rfl⟩ := Int.eq_ofNat_of_zero_le y0
  obtain ⟨c, rfl⟩ := Int.eq_ofNat_of_zero_le c0
  rw [run_callFunc_extern Try.func113 (by kernel_rfl) (by kernel_rfl) (by kernel_rfl) (e := sub64Entry) (by kernel_rfl), run_sub64 x y c (by omega)]
  simp only [Result.andThen]
  have e1 : (((x + 18446744073709551616 - y - c) % 18446744073709551616 : Nat) : Int) = ((x : Int) - y - c) % 18446744073709551616 := by omega
  have e2 : ((if x < y + c then 1 else 0 : Nat) : Int) = if (x : Int) < y + c then 1 else 0 := by split <;> split <;> omega
  rw [e1, e2]
end Go.Proofs.Ytkgjgdeaclefiaa

/-! u256 at this translation: Of, Add, Sub, Not. -/
namespace Go.Proofs.Ytkgjgdeaclefiaa
open Go Go.Proofs Go.RowKit Go.Flo

set_option maxHeartbeats 1000000 in
/-- Add. -/
theorem add_c (m n : Nat) (hm : m < top) (hn : n < top) (w : World) :
    Calls Try.prog 35 #[uV m, uV n] w fun e w' => e = .returned (.tuple #[uV ((m + n) % top), .bool (decide (top ≤ m + n))]) ∧ Below w.heap.size w w' := by
  have im := is4_of hm
  have jn := is4_of hn
  unfold uV
  generalize l0 m = a at *; generalize l1 m = b at *; generalize l2 m = c at *; generalize l3 m = d at *
  generalize l0 n = x at *; generalize l1 n = y at *; generalize l2 n = z at *; generalize l3 n = t at *
  obtain ⟨s0, c0, hs0, hc0, e0, r0⟩ := add64 im.wa jn.wa Cy.zero
  obtain ⟨s1, c1, hs1, hc1, e1, r1⟩ := add64 im.wb jn.wb hc0
  obtain ⟨s2, c2, hs2, hc2, e2, r2⟩ := add64 im.wc jn.wc hc1
  obtain ⟨s3, c3, hs3, hc3, e3, r3⟩ := add64 im.wd jn.wd hc2
  obtain ⟨s, is⟩ := is4_made hs0 hs1 hs2 hs3
  have fin : (Value.tuple #[.agg #[.int .u64 s0, .int .u64 s1, .int .u64 s2, .int .u64 s3], .bool (c3 != 0)]) = .tuple #[uV ((m + n) % top), .bool (decide (top ≤ m + n))] := by
    have hs := is.lt
    obtain ⟨im0, im1, im2, im3, im4⟩ := im
    obtain ⟨jn0, jn1, jn2, jn3, jn4⟩ := jn
    have is4 := is.eq
    obtain ⟨e0⟩ := e0; obtain ⟨e1⟩ := e1; obtain ⟨e2⟩ := e2; obtain ⟨e3⟩ := e3
    rw [top_eq] at *
    have h3 := hc3.cases
    have e : s = (m + n) % 115792089237316195423570985008687907853269984665640564039457584007913129639936 := by omega
    rw [is.uV, ← e]
    congr 4
    rcases h3 with rfl | rfl
    · have : ¬ 115792089237316195423570985008687907853269984665640564039457584007913129639936 ≤ m + n := by omega
      simp [this]
    · have : 115792089237316195423570985008687907853269984665640564039457584007913129639936 ≤ m + n := by omega
      simp [this]
  unfold uV at fin
  rw [← fin]
  clear fin is im jn
  go_enter Try.func35, Try.ntmps35
  go_wp2
  refine wp_loop_rounds 5 ?_
  repeat (first | (rw [rounds_succ]; go_wp2_with (fail)) | ((refine Flo.wp_region_auto (fun _ => True) Flo.rd (by kernel_rfl) (by decide +kernel) (trivial) ?_; repeat (first | (refine Flo.au_skip (by exact rfl) (by exact rfl) ?_; simp only [Act.put, List.setIfInBounds_toArray, List.set_cons_zero, List.set_cons_succ]) | (refine Flo.au_free (by exact rfl) (by exact rfl) (by exact rfl) ?_; intro K hK; go_big_quiet_op; go_big_quiet_on) | (refine Flo.au_still (by exact rfl) (by exact rfl) (by exact rfl) ?_; intro K hK; go_simp; refine hK _ ?_; clear hK K) | (refine Flo.au_move (by exact rfl) (by exact rfl) ?_; intro K hK; go_wp2_with (fail); try (with_reducible refine ⟨rfl, trivial, ?_⟩)) | (refine Flo.mix_nil ?_))); go_wp2_with (fail)))
  refine bodyPost_ret (v := .tuple #[.agg #[.int .u64 s0, .int .u64 s1, .int .u64 s2, .int .u64 s3], .bool (c3 != 0)]) (by simp [results, Try.results35, go_sem]) rfl ⟨rfl, ?_⟩
  repeat' (first | (with_reducible exact Below.refl _ _) | (with_reducible assumption) | (with_reducible refine Below.drew ?_) | (with_reducible refine Below.alloc ?_ ?_ _) | (with_reducible refine Below.setCell ?_ ?_ _) | (with_reducible refine Flo.below_step ?_ (by assumption)) | (simp; done) | (simp; omega))

set_option maxHeartbeats 1000000 in
/-- Sub. -/
theorem sub_c (m n : Nat) (hm : m < top) (hn : n < top) (w : World) :
    Calls Try.prog 36 #[uV m, uV n] w fun e w' => e = .returned (.tuple #[uV ((m + top - n) % top), .bool (decide (m < n))]) ∧ Below w.heap.size w w' := by
  have im := is4_of hm
  have jn := is4_of hn
  unfold uV
  generalize l0 m = a at *; generalize l1 m = b at *; generalize l2 m = c at *; generalize l3 m = d at *
  generalize l0 n = x at *; generalize l1 n = y at *; generalize l2 n = z at *; generalize l3 n = t at *
  obtain ⟨s0, c0, hs0, hc0, e0, r0⟩ := sub64 im.wa jn.wa Cy.zero
  obtain ⟨s1, c1, hs1, hc1, e1, r1⟩ := sub64 im.wb jn.wb hc0
  obtain ⟨s2, c2, hs2, hc2, e2, r2⟩ := sub64 im.wc jn.wc hc1
  obtain ⟨s3, c3, hs3, hc3, e3, r3⟩ := sub64 im.wd jn.wd hc2
  obtain ⟨s, is⟩ := is4_made hs0 hs1 hs2 hs3
  have fin : (Value.tuple #[.agg #[.int .u64 s0, .int .u64 s1, .int .u64 s2, .int .u64 s3], .bool (c3 != 0)]) = .tuple #[uV ((m + top - n) % top), .bool (decide (m < n))] := by
    have hs := is.lt
    obtain ⟨im0, im1, im2, im3, im4⟩ := im
    obtain ⟨jn0, jn1, jn2, jn3, jn4⟩ := jn
    have is4 := is.eq
    obtain ⟨e0⟩ := e0; obtain ⟨e1⟩ := e1; obtain ⟨e2⟩ := e2; obtain ⟨e3⟩ := e3
    rw [top_eq] at *
    have h3 := hc3.cases
    have e : s = (m + 115792089237316195423570985008687907853269984665640564039457584007913129639936 - n) % 115792089237316195423570985008687907853269984665640564039457584007913129639936 := by omega
    rw [is.uV, ← e]
    congr 4
    rcases h3 with rfl | rfl
    · have : ¬ m < n := by omega
      simp [this]
    · have : m < n := by omega
      simp [this]
  unfold uV at fin
  rw [← fin]
  clear fin is im jn
  go_enter Try.func36, Try.ntmps36
  go_wp2
  refine wp_loop_rounds 5 ?_
  repeat (first | (rw [rounds_succ]; go_wp2_with (fail)) | ((refine Flo.wp_region_auto (fun _ => True) Flo.rd (by kernel_rfl) (by decide +kernel) (trivial) ?_; repeat (first | (refine Flo.au_skip (by exact rfl) (by exact rfl) ?_; simp only [Act.put, List.setIfInBounds_toArray, List.set_cons_zero, List.set_cons_succ]) | (refine Flo.au_free (by exact rfl) (by exact rfl) (by exact rfl) ?_; intro K hK; go_big_quiet_op; go_big_quiet_on) | (refine Flo.au_still (by exact rfl) (by exact rfl) (by exact rfl) ?_; intro K hK; go_simp; refine hK _ ?_; clear hK K) | (refine Flo.au_move (by exact rfl) (by exact rfl) ?_; intro K hK; go_wp2_with (fail); try (with_reducible refine ⟨rfl, trivial, ?_⟩)) | (refine Flo.mix_nil ?_))); go_wp2_with (fail)))
  refine bodyPost_ret (v := .tuple #[.agg #[.int .u64 s0, .int .u64 s1, .int .u64 s2, .int .u64 s3], .bool (c3 != 0)]) (by simp [results, Try.results36, go_sem]) rfl ⟨rfl, ?_⟩
  repeat' (first | (with_reducible exact Below.refl _ _) | (with_reducible assumption) | (with_reducible refine Below.drew ?_) | (with_reducible refine Below.alloc ?_ ?_ _) | (with_reducible refine Below.setCell ?_ ?_ _) | (with_reducible refine Flo.below_step ?_ (by assumption)) | (simp; done) | (simp; omega))

set_option maxHeartbeats 1000000 in
/-- Of. -/
theorem of_c (x : Int) (h : Wd x) (w : World) :
    Calls Try.prog 72 #[.int .u64 x] w fun e w' => e = .returned (uV x.toNat) ∧ Below w.heap.size w w' := by
  have fin : Value.agg #[.int .u64 x, .int .u64 0, .int .u64 0, .int .u64 0] = uV x.toNat := by
    refine Is4.uV ⟨h, ⟨by decide, by decide⟩, ⟨by decide, by decide⟩, ⟨by decide, by decide⟩, ?_⟩
    have := h.lo
    omega
  rw [← fin]
  clear fin
  go_enter Try.func72, Try.ntmps72
  go_wp2
  refine bodyPost_ret (v := .agg #[.int .u64 x, .int .u64 0, .int .u64 0, .int .u64 0]) (by simp [results, Try.results72, go_sem]) rfl ⟨rfl, ?_⟩
  repeat' (first | (with_reducible exact Below.refl _ _) | (with_reducible assumption) | (with_reducible refine Below.drew ?_) | (with_reducible refine Below.alloc ?_ ?_ _) | (with_reducible refine Below.setCell ?_ ?_ _) | (with_reducible refine Flo.below_step ?_ (by assumption)) | (simp; done) | (simp; omega))

theorem xor_max {x : Int} (h : Wd x) : bits .xor .u64 IntKind.u64.max x = 18446744073709551615 - x := by
  have e : IntKind.u64.max = 18446744073709551615 := by decide
  rw [e, u64_xor _ _ (by decide) (by decide) h.lo h.hi]
  have h0 := h.lo
  have h1 : x.toNat < 2 ^ 64 := by have := h.hi; omega
  have k : (18446744073709551615 : Int).toNat ^^^ x.toNat = 2 ^ 64 - (x.toNat + 1) := by
    apply Nat.eq_of_testBit_eq
    intro i
    rw [Nat.testBit_two_pow_sub_succ h1, Nat.testBit_xor]
    have : (18446744073709551615 : Int).toNat = 2 ^ 64 - 1 := rfl
    rw [this, Nat.testBit_two_pow_sub_one]
    by_cases hi : i < 64
    · simp [hi]
    · have : x.toNat.testBit i = false := Nat.testBit_lt_two_pow (Nat.lt_of_lt_of_le h1 (Nat.pow_le_pow_right (by decide) (by omega)))
      simp [hi, this]
  rw [k]
  omega

set_option maxHeartbeats 1000000 in
/-- Not. -/
theorem not_c (m : Nat) (hm : m < top) (w : World) :
    Calls Try.prog 37 #[uV m] w fun e w' => e = .returned (uV (top - 1 - m)) ∧ Below w.heap.size w w' := by
  have im := is4_of hm
  unfold uV
  generalize l0 m = a at *; generalize l1 m = b at *; generalize l2 m = c at *; generalize l3 m = d at *
  have fin : (Value.agg #[.int .u64 (bits .xor .u64 IntKind.u64.max a), .int .u64 (bits .xor .u64 IntKind.u64.max b), .int .u64 (bits .xor .u64 IntKind.u64.max c), .int .u64 (bits .xor .u64 IntKind.u64.max d)]) = uV (top - 1 - m) := by
    rw [xor_max im.wa, xor_max im.wb, xor_max im.wc, xor_max im.wd]
    obtain ⟨⟨_, _⟩, ⟨_, _⟩, ⟨_, _⟩, ⟨_, _⟩, e⟩ := im
    rw [top_eq] at *
    exact Is4.uV ⟨⟨by omega, by omega⟩, ⟨by omega, by omega⟩, ⟨by omega, by omega⟩, ⟨by omega, by omega⟩, by omega⟩
  unfold uV at fin
  rw [← fin]
  clear fin im
  go_enter Try.func37, Try.ntmps37
  go_wp2
  refine wp_loop_rounds 5 ?_
  repeat (first | (rw [rounds_succ]; go_wp2_with (fail)) | ((refine Flo.wp_region_auto (fun _ => True) Flo.rd (by kernel_rfl) (by decide +kernel) (trivial) ?_; repeat (first | (refine Flo.au_skip (by exact rfl) (by exact rfl) ?_; simp only [Act.put, List.setIfInBounds_toArray, List.set_cons_zero, List.set_cons_succ]) | (refine Flo.au_free (by exact rfl) (by exact rfl) (by exact rfl) ?_; intro K hK; go_big_quiet_op; go_big_quiet_on) | (refine Flo.au_still (by exact rfl) (by exact rfl) (by exact rfl) ?_; intro K hK; go_simp; refine hK _ ?_; clear hK K) | (refine Flo.au_move (by exact rfl) (by exact rfl) ?_; intro K hK; go_wp2_with (fail); try (with_reducible refine ⟨rfl, trivial, ?_⟩)) | (refine Flo.mix_nil ?_))); go_wp2_with (fail)))
  refine bodyPost_ret (v := .agg #[.int .u64 (bits .xor .u64 IntKind.u64.max a), .int .u64 (bits .xor .u64 IntKind.u64.max b), .int .u64 (bits .xor .u64 IntKind.u64.max c), .int .u64 (bits .xor .u64 IntKind.u64.max d)]) (by simp [results, Try.results37, go_sem]) rfl ⟨rfl, ?_⟩
  repeat' (first | (with_reducible exact Below.refl _ _) | (with_reducible assumption) | (with_reducible refine Below.drew ?_) | (with_reducible refine Below.alloc ?_ ?_ _) | (with_reducible refine Below.setCell ?_ ?_ _) | (with_reducible refine Flo.below_step ?_ (by assumption)) | (simp; done) | (simp; omega))
end Go.Proofs.Ytkgjgdeaclefiaa

/-! u256 at this translation: Cmp, Len, Mul. -/
namespace Go.Proofs.Ytkgjgdeaclefiaa
open Go Go.Proofs Go.RowKit Go.Flo

set_option maxHeartbeats 1000000 in
/-- Cmp. -/
theorem cmp_c (m n : Nat) (hm : m < top) (hn : n < top) (w : World) :
    Calls Try.prog 38 #[uV m, uV n] w fun e w' => e = .returned (.int .i64 (cmpI m n)) ∧ Below w.heap.size w w' := by
  have im := is4_of hm
  have jn := is4_of hn
  unfold uV
  generalize l0 m = a at *; generalize l1 m = b at *; generalize l2 m = c at *; generalize l3 m = d at *
  generalize l0 n = x at *; generalize l1 n = y at *; generalize l2 n = z at *; generalize l3 n = t at *
  obtain ⟨v, hv⟩ : ∃ v, v = cmpI m n := ⟨_, rfl⟩
  rw [← hv]
  unfold cmpI at hv
  obtain ⟨⟨im0, im1⟩, ⟨im2, im3⟩, ⟨im4, im5⟩, ⟨im6, im7⟩, im8⟩ := im
  obtain ⟨⟨jn0, jn1⟩, ⟨jn2, jn3⟩, ⟨jn4, jn5⟩, ⟨jn6, jn7⟩, jn8⟩ := jn
  have key : (d < t ∧ v = -1) ∨ (¬ d < t ∧ t < d ∧ v = 1) ∨ (d = t ∧ ((c < z ∧ v = -1) ∨ (¬ c < z ∧ z < c ∧ v = 1) ∨ (c = z ∧ ((b < y ∧ v = -1) ∨ (¬ b < y ∧ y < b ∧ v = 1) ∨ (b = y ∧ ((a < x ∧ v = -1) ∨ (¬ a < x ∧ x < a ∧ v = 1) ∨ (a = x ∧ v = 0))))))) := by
    split at hv
    · omega
    · split at hv <;> omega
  clear hv im0 im1 im2 im3 im4 im5 im6 im7 im8 jn0 jn1 jn2 jn3 jn4 jn5 jn6 jn7 jn8 hm hn
  rcases key with ⟨h, rfl⟩ | ⟨h', h, rfl⟩ | ⟨rfl, ⟨h, rfl⟩ | ⟨h', h, rfl⟩ | ⟨rfl, ⟨h, rfl⟩ | ⟨h', h, rfl⟩ | ⟨rfl, ⟨h, rfl⟩ | ⟨h', h, rfl⟩ | ⟨rfl, rfl⟩⟩⟩⟩
  all_goals
    go_enter Try.func38, Try.ntmps38
    go_wp2
    refine wp_loop_rounds 5 ?_
    repeat (first | (rw [rounds_succ]; go_wp2_with (fail)) | ((refine Flo.wp_region_auto (fun _ => True) Flo.rd (by kernel_rfl) (by decide +kernel) (trivial) ?_; repeat (first | (refine Flo.au_skip (by exact rfl) (by exact rfl) ?_; simp only [Act.put, List.setIfInBounds_toArray, List.set_cons_zero, List.set_cons_succ]) | (refine Flo.au_free (by exact rfl) (by exact rfl) (by exact rfl) ?_; intro K hK; go_big_quiet_op; go_big_quiet_on) | (refine Flo.au_still (by exact rfl) (by exact rfl) (by exact rfl) ?_; intro K hK; go_simp; refine hK _ ?_; clear hK K) | (refine Flo.au_move (by exact rfl) (by exact rfl) ?_; intro K hK; go_wp2_with (fail); try (with_reducible refine ⟨rfl, trivial, ?_⟩)) | (refine Flo.mix_nil ?_))); go_wp2_with (fail)))
    go_ret
    refine ⟨rfl, ?_⟩
    repeat' (first | (with_reducible exact Below.refl _ _) | (with_reducible assumption) | (with_reducible refine Below.drew ?_) | (with_reducible refine Below.alloc ?_ ?_ _) | (with_reducible refine Below.setCell ?_ ?_ _) | (with_reducible refine Flo.below_step ?_ (by assumption)) | (simp; done) | (simp; omega))
end Go.Proofs.Ytkgjgdeaclefiaa

/-! Plain numbers: lengths in digits of two, words of shifted numbers. No program is named here. -/
namespace Go.Flo
open Go Go.RowKit

/-- How many digits of two. -/
@[irreducible] def lenN (m : Nat) : Nat := if m = 0 then 0 else m.log2 + 1

theorem lenN_le {m k : Nat} : lenN m ≤ k ↔ m < 2 ^ k := by
  unfold lenN
  by_cases h : m = 0
  · subst h; simp; exact Nat.pow_pos (by decide)
  · rw [if_neg h, ← Nat.log2_lt h]; omega

theorem lenN_eq {m b : Nat} (h1 : 2 ^ b ≤ m) (h2 : m < 2 ^ (b + 1)) : lenN m = b + 1 := by
  have a := lenN_le.2 h2
  have c : ¬ lenN m ≤ b := fun h => by have := lenN_le.1 h; omega
  omega

theorem lenN_zero : lenN 0 = 0 := by unfold lenN; rfl

theorem lenN_pos {m : Nat} (h : m ≠ 0) : 1 ≤ lenN m := by unfold lenN; rw [if_neg h]; omega

theorem lenN_lo {m : Nat} (h : m ≠ 0) : 2 ^ (lenN m - 1) ≤ m := by
  rcases Nat.lt_or_ge m (2 ^ (lenN m - 1)) with h' | h'
  · have := lenN_le.2 h'; have := lenN_pos h; omega
  · exact h'
theorem lenN_hi (m : Nat) : m < 2 ^ lenN m := lenN_le.1 (Nat.le_refl _)

theorem lenN_shift {m s x : Nat} (h : m / 2 ^ s = x) (hx : x ≠ 0) : lenN m = s + lenN x := by
  have h1 := lenN_lo hx
  have h2 := lenN_hi x
  have h3 := lenN_pos hx
  have hp : 0 < 2 ^ s := Nat.pow_pos (by decide)
  have e : s + lenN x = (s + (lenN x - 1)) + 1 := by omega
  rw [e]
  subst h
  refine lenN_eq ?_ ?_
  · rw [Nat.pow_add, Nat.mul_comm]; exact (Nat.le_div_iff_mul_le hp).1 h1
  · rw [← e, Nat.pow_add, Nat.mul_comm]; exact (Nat.div_lt_iff_lt_mul hp).1 h2

theorem bitLen_lenN {x : Nat} (h : x < 18446744073709551616) : Lib.bitLen x = lenN x := by
  by_cases h0 : x = 0
  · subst h0; rw [lenN_zero]; exact Lib.bitLenAux_zero 64
  · obtain ⟨h1, h2, h3⟩ := Lib.bitLenAux_bounds 64 x (by simpa using h) h0
    have : Lib.bitLen x = Lib.bitLenAux 64 x := rfl
    rw [this]
    generalize Lib.bitLenAux 64 x = b at *
    have e : b = (b - 1) + 1 := by omega
    rw [e] at h3 ⊢
    exact (lenN_eq h2 h3).symm

theorem lenN_top {m : Nat} (h : m < top) : lenN m ≤ 256 := lenN_le.2 (by rw [top_pow] at h; exact h)

/-- Moved up, it is lost just if there are too many digits. -/
theorem lost_iff {m n : Nat} (hm : m ≠ 0) : top ≤ m * 2 ^ n ↔ 256 < lenN m + n := by
  have h1 := lenN_lo hm
  have h2 := lenN_hi m
  have h3 := lenN_pos hm
  rw [top_pow]
  constructor
  · intro h
    rcases Nat.lt_or_ge 256 (lenN m + n) with h' | h'
    · exact h'
    · have : m * 2 ^ n < 2 ^ (lenN m + n) := by rw [Nat.pow_add]; exact Nat.mul_lt_mul_of_pos_right h2 (Nat.pow_pos (by decide))
      have := Nat.pow_le_pow_right (n := 2) (by decide) h'
      omega
  · intro h
    have : 2 ^ (lenN m - 1 + n) ≤ m * 2 ^ n := by rw [Nat.pow_add]; exact Nat.mul_le_mul_right _ h1
    have := Nat.pow_le_pow_right (n := 2) (i := 256) (j := lenN m - 1 + n) (by decide) (by omega)
    omega

/-- A product of words. -/
structure Prods (hi lo x y : Int) : Prop where
  eq : 18446744073709551616 * hi + lo = x * y
  hi_le : hi ≤ 18446744073709551614
end Go.Flo

/-! u256 at this translation: Len, Mul. -/
namespace Go.Proofs.Ytkgjgdeaclefiaa
open Go Go.Proofs Go.RowKit Go.Flo

theorem len64 {x : Int} (h : Wd x) (w : World) : Calls Try.prog 126 #[.int .u64 x] w fun e w' => e = .returned (.int .i64 (lenN x.toNat)) ∧ w = w' := by
  refine (Try.bits_Len64 x w h.lo (by have := h.hi; omega)).mono ?_
  rintro e w' ⟨rfl, rfl⟩
  rw [bitLen_lenN (by have := h.hi; omega)]
  exact ⟨rfl, rfl⟩

set_option maxHeartbeats 1000000 in
/-- Len. -/
theorem len_c (m : Nat) (hm : m < top) (w : World) :
    Calls Try.prog 69 #[uV m] w fun e w' => e = .returned (.int .i64 (lenN m)) ∧ Below w.heap.size w w' := by
  have im := is4_of hm
  unfold uV
  generalize l0 m = a at *; generalize l1 m = b at *; generalize l2 m = c at *; generalize l3 m = d at *
  obtain ⟨v, hv⟩ : ∃ v, v = lenN m := ⟨_, rfl⟩
  rw [← hv]
  have key : ((d != 0) = true ∧ v = 192 + lenN d.toNat) ∨ (d = 0 ∧ (((c != 0) = true ∧ v = 128 + lenN c.toNat) ∨ (c = 0 ∧ (((b != 0) = true ∧ v = 64 + lenN b.toNat) ∨ (b = 0 ∧ (((a != 0) = true ∧ v = lenN a.toNat) ∨ (a = 0 ∧ v = 0))))))) := by
    obtain ⟨⟨_, _⟩, ⟨_, _⟩, ⟨_, _⟩, ⟨_, _⟩, e⟩ := im
    simp only [bne_iff_ne]
    by_cases h3 : d = 0
    · by_cases h2 : c = 0
      · by_cases h1 : b = 0
        · by_cases h0 : a = 0
          · have : m = 0 := by omega
            subst this
            simp [*, lenN_zero]
          · have : m = a.toNat := by omega
            subst this
            simp [*]
        · have := lenN_shift (m := m) (s := 64) (x := b.toNat) (by omega) (by omega)
          simp [*]
      · have := lenN_shift (m := m) (s := 128) (x := c.toNat) (by omega) (by omega)
        simp [*]
    · have := lenN_shift (m := m) (s := 192) (x := d.toNat) (by omega) (by omega)
      simp [*]
  have fin : ∀ x : Int, Wd x → lenN x.toNat ≤ 64 := fun x h => lenN_le.2 (by have := h.hi; have := h.lo; omega)
  have fa := fin a im.wa; have fb := fin b im.wb; have fc := fin c im.wc; have fd := fin d im.wd
  have ga := len64 im.wa; have gb := len64 im.wb; have gc := len64 im.wc; have gd := len64 im.wd
  have Ga := Lib.hid ga; have Gb := Lib.hid gb; have Gc := Lib.hid gc; have Gd := Lib.hid gd
  clear ga gb gc gd fin im hm
  rcases key with ⟨h, hk⟩ | ⟨rfl, ⟨h, hk⟩ | ⟨rfl, ⟨h, hk⟩ | ⟨rfl, ⟨h, hk⟩ | ⟨rfl, hk⟩⟩⟩⟩
  all_goals
    have Hk := Lib.hid hk; clear hk
    rw [Hk.out]
    go_enter Try.func69, Try.ntmps69
    go_wp2
    refine wp_loop_rounds 5 ?_
    repeat (first | (rw [rounds_succ]; go_wp2_with ((go_at_call 126; (first | (with_reducible refine (Gd.out _).mono ?_) | (with_reducible refine (Gc.out _).mono ?_) | (with_reducible refine (Gb.out _).mono ?_) | (with_reducible refine (Ga.out _).mono ?_)); rintro e w' ⟨rfl, rfl⟩))) | ((refine Flo.wp_region_auto (fun _ => True) Flo.rd (by kernel_rfl) (by decide +kernel) (trivial) ?_; repeat (first | (refine Flo.au_skip (by exact rfl) (by exact rfl) ?_; simp only [Act.put, List.setIfInBounds_toArray, List.set_cons_zero, List.set_cons_succ]) | (refine Flo.au_free (by exact rfl) (by exact rfl) (by exact rfl) ?_; intro K hK; go_big_quiet_op; go_big_quiet_on) | (refine Flo.au_still (by exact rfl) (by exact rfl) (by exact rfl) ?_; intro K hK; go_simp; refine hK _ ?_; clear hK K) | (refine Flo.au_move (by exact rfl) (by exact rfl) ?_; intro K hK; go_wp2_with ((go_at_call 126; (first | (with_reducible refine (Gd.out _).mono ?_) | (with_reducible refine (Gc.out _).mono ?_) | (with_reducible refine (Gb.out _).mono ?_) | (with_reducible refine (Ga.out _).mono ?_)); rintro e w' ⟨rfl, rfl⟩)); try (with_reducible refine ⟨rfl, trivial, ?_⟩)) | (refine Flo.mix_nil ?_))); go_wp2_with ((go_at_call 126; (first | (with_reducible refine (Gd.out _).mono ?_) | (with_reducible refine (Gc.out _).mono ?_) | (with_reducible refine (Gb.out _).mono ?_) | (with_reducible refine (Ga.out _).mono ?_)); rintro e w' ⟨rfl, rfl⟩))))
    go_ret
    refine ⟨?_, ?_⟩
    · first | rfl | (congr 2; omega)
    repeat' (first | (with_reducible exact Below.refl _ _) | (with_reducible assumption) | (with_reducible refine Below.drew ?_) | (with_reducible refine Below.alloc ?_ ?_ _) | (with_reducible refine Below.setCell ?_ ?_ _) | (with_reducible refine Flo.below_step ?_ (by assumption)) | (simp; done) | (simp; omega))

/-- Mul64: a product of words. -/
theorem mul64 {x y : Int} (hx : Wd x) (hy : Wd y) : ∃ hi lo : Int, Wd hi ∧ Wd lo ∧ Prods hi lo x y ∧
    Hid (∀ w, Calls Try.prog 124 #[.int .u64 x, .int .u64 y] w fun e w' => e = .returned (.tuple #[.int .u64 hi, .int .u64 lo]) ∧ w = w') := by
  obtain ⟨x0, x1⟩ := hx
  obtain ⟨y0, y1⟩ := hy
  obtain ⟨x, rfl⟩ := Int.eq_ofNat_of_zero_le x0
  obtain ⟨y, rfl⟩ := Int.eq_ofNat_of_zero_le y0
  have hb : x * y ≤ 18446744073709551615 * 18446744073709551615 := Nat.mul_le_mul (by omega) (by omega)
  refine ⟨((x * y / 18446744073709551616 : Nat) : Int), ((x * y % 18446744073709551616 : Nat) : Int), ⟨by omega, by omega⟩, ⟨by omega, by omega⟩, ⟨?_, ?_⟩, fun w => ?_⟩
  · rw [← Int.natCast_mul]; omega
  · omega
  · refine (Try.bits_Mul64 x y (by omega) (by omega) w).mono ?_
    rintro e w' ⟨rfl, rfl⟩
    exact ⟨rfl, rfl⟩

set_option maxHeartbeats 1000000 in
/-- Mul. -/
theorem mul_c (m k : Nat) (hm : m < top) (hk : k < 18446744073709551616) (w : World) :
    Calls Try.prog 65 #[uV m, .int .u64 k] w fun e w' => e = .returned (.tuple #[uV (m * k % top), .bool (decide (top ≤ m * k))]) ∧ Below w.heap.size w w' := by
  have im := is4_of hm
  unfold uV
  generalize l0 m = a at *; generalize l1 m = b at *; generalize l2 m = c at *; generalize l3 m = d at *
  have jk : Wd (k : Int) := ⟨by omega, by omega⟩
  obtain ⟨x, hx⟩ : ∃ x : Int, x = k := ⟨_, rfl⟩
  rw [← hx] at jk ⊢
  obtain ⟨h0, m0, wh0, wm0, q0, M0⟩ := mul64 im.wa jk
  obtain ⟨h1, m1, wh1, wm1, q1, M1⟩ := mul64 im.wb jk
  obtain ⟨h2, m2, wh2, wm2, q2, M2⟩ := mul64 im.wc jk
  obtain ⟨h3, m3, wh3, wm3, q3, M3⟩ := mul64 im.wd jk
  have step : ∀ {h c : Int}, Wd h → Cy c → h ≤ 18446744073709551614 → ∃ u, Wd u ∧ Hid (u = h + c) ∧ IntKind.u64.wrap (h + c) = u := fun {h c} wh hc hb => by
    obtain ⟨_, _⟩ := wh; obtain ⟨_, _⟩ := hc
    exact ⟨h + c, ⟨by omega, by omega⟩, rfl, by rw [IntKind.wrap_u64]; omega⟩
  obtain ⟨s0, c0, hs0, hc0, e0, r0⟩ := add64 wm0 ⟨Int.le_refl 0, by decide⟩ Cy.zero
  obtain ⟨u0, wu0, f0, g0⟩ := step wh0 hc0 q0.hi_le
  obtain ⟨s1, c1, hs1, hc1, e1, r1⟩ := add64 wm1 wu0 Cy.zero
  obtain ⟨u1, wu1, f1, g1⟩ := step wh1 hc1 q1.hi_le
  obtain ⟨s2, c2, hs2, hc2, e2, r2⟩ := add64 wm2 wu1 Cy.zero
  obtain ⟨u2, wu2, f2, g2⟩ := step wh2 hc2 q2.hi_le
  obtain ⟨s3, c3, hs3, hc3, e3, r3⟩ := add64 wm3 wu2 Cy.zero
  obtain ⟨u3, wu3, f3, g3⟩ := step wh3 hc3 q3.hi_le
  obtain ⟨s, is⟩ := is4_made hs0 hs1 hs2 hs3
  have fin : (Value.tuple #[.agg #[.int .u64 s0, .int .u64 s1, .int .u64 s2, .int .u64 s3], .bool (u3 != 0)]) = .tuple #[uV (m * k % top), .bool (decide (top ≤ m * k))] := by
    have hs := is.lt
    obtain ⟨_, _, _, _, em⟩ := im
    have is4 := is.eq
    obtain ⟨e0⟩ := e0; obtain ⟨e1⟩ := e1; obtain ⟨e2⟩ := e2; obtain ⟨e3⟩ := e3
    obtain ⟨q0, _⟩ := q0; obtain ⟨q1, _⟩ := q1; obtain ⟨q2, _⟩ := q2; obtain ⟨q3, _⟩ := q3
    have f0 := f0.out; have f1 := f1.out; have f2 := f2.out; have f3 := f3.out
    have wu := wu3.lo
    have em' : ((m * k : Nat) : Int) = a * x + 18446744073709551616 * (b * x) + 340282366920938463463374607431768211456 * (c * x) + 6277101735386680763835789423207666416102355444464034512896 * (d * x) := by
      rw [Int.natCast_mul, em, ← hx, Int.add_mul, Int.add_mul, Int.add_mul, Int.mul_assoc, Int.mul_assoc, Int.mul_assoc]
    generalize a * x = p0 at *; generalize b * x = p1 at *; generalize c * x = p2 at *; generalize d * x = p3 at *
    generalize m * k = mk at *
    rw [top_eq] at *
    have e : s = mk % 115792089237316195423570985008687907853269984665640564039457584007913129639936 := by omega
    rw [is.uV, ← e]
    congr 4
    by_cases hu : u3 = 0
    · have : ¬ 115792089237316195423570985008687907853269984665640564039457584007913129639936 ≤ mk := by omega
      simp [this, hu]
    · have : 115792089237316195423570985008687907853269984665640564039457584007913129639936 ≤ mk := by omega
      simp [this, hu]
  unfold uV at fin
  rw [← fin]
  clear fin is im step hx hk hm q0 q1 q2 q3
  go_enter Try.func65, Try.ntmps65
  go_wp2_with fail
  refine wp_loop_rounds 5 ?_
  repeat (first | (rw [rounds_succ]; go_wp2_with ((go_at_call 124; (first | (with_reducible refine (M0.out _).mono ?_) | (with_reducible refine (M1.out _).mono ?_) | (with_reducible refine (M2.out _).mono ?_) | (with_reducible refine (M3.out _).mono ?_)); rintro e w' ⟨rfl, rfl⟩))) | ((refine Flo.wp_region_auto (fun _ => True) Flo.rd (by kernel_rfl) (by decide +kernel) (trivial) ?_; repeat (first | (refine Flo.au_skip (by exact rfl) (by exact rfl) ?_; simp only [Act.put, List.setIfInBounds_toArray, List.set_cons_zero, List.set_cons_succ]) | (refine Flo.au_free (by exact rfl) (by exact rfl) (by exact rfl) ?_; intro K hK; go_big_quiet_op; go_big_quiet_on) | (refine Flo.au_still (by exact rfl) (by exact rfl) (by exact rfl) ?_; intro K hK; go_simp; refine hK _ ?_; clear hK K) | (refine Flo.au_move (by exact rfl) (by exact rfl) ?_; intro K hK; go_wp2_with ((go_at_call 124; (first | (with_reducible refine (M0.out _).mono ?_) | (with_reducible refine (M1.out _).mono ?_) | (with_reducible refine (M2.out _).mono ?_) | (with_reducible refine (M3.out _).mono ?_)); rintro e w' ⟨rfl, rfl⟩)); try (with_reducible refine ⟨rfl, trivial, ?_⟩)) | (refine Flo.mix_nil ?_))); go_wp2_with ((go_at_call 124; (first | (with_reducible refine (M0.out _).mono ?_) | (with_reducible refine (M1.out _).mono ?_) | (with_reducible refine (M2.out _).mono ?_) | (with_reducible refine (M3.out _).mono ?_)); rintro e w' ⟨rfl, rfl⟩))))
  refine bodyPost_ret (v := .tuple #[.agg #[.int .u64 s0, .int .u64 s1, .int .u64 s2, .int .u64 s3], .bool (u3 != 0)]) (by simp [results, Try.results65, go_sem]) rfl ⟨rfl, ?_⟩
  repeat' (first | (with_reducible exact Below.refl _ _) | (with_reducible assumption) | (with_reducible refine Below.drew ?_) | (with_reducible refine Below.alloc ?_ ?_ _) | (with_reducible refine Below.setCell ?_ ?_ _) | (with_reducible refine Flo.below_step ?_ (by assumption)) | (simp; done) | (simp; omega))
end Go.Proofs.Ytkgjgdeaclefiaa

/-! Plain numbers: the words of a number that is moved up or down. No program is named here. -/
namespace Go.Flo
open Go Go.RowKit

/-- Word i. -/
def li (i m : Nat) : Int := ((m / 2 ^ (64 * i) % 2 ^ 64 : Nat) : Int)
theorem l0_li (m : Nat) : l0 m = li 0 m := by unfold l0 li; simp
theorem l1_li (m : Nat) : l1 m = li 1 m := by unfold l1 li; rfl
theorem l2_li (m : Nat) : l2 m = li 2 m := by unfold l2 li; rfl
theorem l3_li (m : Nat) : l3 m = li 3 m := by unfold l3 li; rfl

theorem or_cast (x y : Nat) (hx : x < 2 ^ 64) (hy : y < 2 ^ 64) : bits .or .u64 (x : Int) (y : Int) = ((x ||| y : Nat) : Int) := u64_or_nat x y hx hy
theorem div_cast (x p : Nat) : (x : Int) / 2 ^ p = ((x / 2 ^ p : Nat) : Int) := by
  rw [Int.natCast_ediv]; simp
theorem wrap_cast (x p : Nat) : IntKind.u64.wrap ((x : Int) * 2 ^ p) = ((x * 2 ^ p % 2 ^ 64 : Nat) : Int) := by
  rw [IntKind.wrap_u64, Int.natCast_emod, Int.natCast_mul]; simp

theorem shr_bits (Y p : Nat) (hp : p ≤ 64) : (Y % 2 ^ 64) / 2 ^ p ||| (Y / 2 ^ 64 % 2 ^ 64 * 2 ^ (64 - p)) % 2 ^ 64 = Y / 2 ^ p % 2 ^ 64 := by
  apply Nat.eq_of_testBit_eq
  intro i
  simp only [Nat.testBit_or, Nat.testBit_mod_two_pow, Nat.testBit_div_two_pow, Nat.testBit_mul_two_pow]
  by_cases h1 : i < 64
  · by_cases h2 : i + p < 64
    · have : ¬ (64 - p ≤ i) := by omega
      simp [h1, h2, this]
    · have h3 : 64 - p ≤ i := by omega
      have h4 : i - (64 - p) < 64 := by omega
      have h5 : i - (64 - p) + 64 = i + p := by omega
      simp [h1, h2, h3, h4, h5]
  · have : ¬ i + p < 64 := by omega
    simp [h1, this]

theorem shl_bits (m j p : Nat) (hp : p ≤ 64) : (m / 2 ^ (64 * (j + 1)) % 2 ^ 64 * 2 ^ p) % 2 ^ 64 ||| (m / 2 ^ (64 * j) % 2 ^ 64) / 2 ^ (64 - p) = m * 2 ^ p / 2 ^ (64 * (j + 1)) % 2 ^ 64 := by
  apply Nat.eq_of_testBit_eq
  intro i
  simp only [Nat.testBit_or, Nat.testBit_mod_two_pow, Nat.testBit_div_two_pow, Nat.testBit_mul_two_pow]
  by_cases h1 : i < 64
  · by_cases h2 : p ≤ i
    · have h3 : ¬ i + (64 - p) < 64 := by omega
      have h4 : i - p < 64 := by omega
      have h5 : p ≤ i + 64 * (j + 1) := by omega
      have h6 : i + 64 * (j + 1) - p = i - p + 64 * (j + 1) := by omega
      simp [h1, h2, h3, h4, h5, h6]
    · have h3 : i + (64 - p) < 64 := by omega
      have h5 : p ≤ i + 64 * (j + 1) := by omega
      have h6 : i + 64 * (j + 1) - p = i + (64 - p) + 64 * j := by omega
      simp [h1, h2, h3, h5, h6]
  · have : ¬ i + (64 - p) < 64 := by omega
    simp [h1, this]

theorem pow64 (x : Nat) : x % 2 ^ 64 < 2 ^ 64 := Nat.mod_lt _ (by decide)
theorem div_lt64 {x : Nat} (p : Nat) (h : x < 2 ^ 64) : x / 2 ^ p < 2 ^ 64 := Nat.lt_of_le_of_lt (Nat.div_le_self _ _) h

theorem div_assoc (m s i : Nat) : m / 2 ^ s / 2 ^ (64 * i) = m / 2 ^ (64 * i + s) := by
  rw [Nat.div_div_eq_div_mul, ← Nat.pow_add, Nat.add_comm]

/-- Moved down: a word out of two. -/
theorem shr_or (m q p i : Nat) (hp : p ≤ 64) : bits .or .u64 (li (i + q) m / 2 ^ p) (IntKind.u64.wrap (li (i + q + 1) m * 2 ^ (64 - p))) = li i (m / 2 ^ (64 * q + p)) := by
  unfold li
  rw [div_cast, wrap_cast, or_cast _ _ (div_lt64 _ (pow64 _)) (pow64 _), div_assoc]
  have h := shr_bits (m / 2 ^ (64 * (i + q))) p hp
  have e : m / 2 ^ (64 * (i + q + 1)) = m / 2 ^ (64 * (i + q)) / 2 ^ 64 := by rw [Nat.div_div_eq_div_mul, ← Nat.pow_add]; congr 2
  rw [e, h, Nat.div_div_eq_div_mul, ← Nat.pow_add]
  congr 4; omega
/-- .. the highest word. -/
theorem shr_last (m q p i : Nat) (hm : m < top) (hp : p ≤ 64) (hi : i + q = 3) : li 3 m / 2 ^ p = li i (m / 2 ^ (64 * q + p)) := by
  have h := shr_or m q p i hp
  rw [hi] at h
  have z : li 4 m = 0 := by
    unfold li
    have : m / 2 ^ (64 * 4) = 0 := Nat.div_eq_of_lt (by rw [top_pow] at hm; exact hm)
    rw [this]; rfl
  have z' : li (3 + 1) m = 0 := z
  rw [z', Int.zero_mul] at h
  rw [← h]
  unfold li
  rw [div_cast]
  have w0 : IntKind.u64.wrap 0 = ((0 : Nat) : Int) := by decide
  rw [w0, or_cast _ _ (div_lt64 _ (pow64 _)) (by decide)]
  simp
/-- .. nothing above. -/
theorem shr_none (m q p i : Nat) (hm : m < top) (hi : 4 ≤ i + q) : (0 : Int) = li i (m / 2 ^ (64 * q + p)) := by
  unfold li
  rw [div_assoc]
  have : m / 2 ^ (64 * i + (64 * q + p)) = 0 := Nat.div_eq_of_lt (by rw [top_pow] at hm; exact Nat.lt_of_lt_of_le hm (Nat.pow_le_pow_right (by decide) (by omega)))
  rw [this]; rfl

theorem mod_word (X i : Nat) (hi : i ≤ 3) : X % top / 2 ^ (64 * i) % 2 ^ 64 = X / 2 ^ (64 * i) % 2 ^ 64 := by
  rw [top_pow]
  apply Nat.eq_of_testBit_eq
  intro k
  simp only [Nat.testBit_mod_two_pow, Nat.testBit_div_two_pow]
  by_cases h : k < 64
  · have : k + 64 * i < 256 := by omega
    simp [h, this]
  · simp [h]

theorem up_word (m q p i : Nat) : m * 2 ^ (64 * q + p) / 2 ^ (64 * (i + q)) = m * 2 ^ p / 2 ^ (64 * i) := by
  have e1 : m * 2 ^ (64 * q + p) = m * 2 ^ p * 2 ^ (64 * q) := by rw [Nat.pow_add, Nat.mul_assoc, Nat.mul_comm (2 ^ p)]
  have e2 : 2 ^ (64 * (i + q)) = 2 ^ (64 * i) * 2 ^ (64 * q) := by rw [← Nat.pow_add]; congr 1; omega
  rw [e1, e2, Nat.mul_div_mul_right _ _ (Nat.pow_pos (by decide))]

/-- Moved up: a word out of two. -/
theorem shl_or (m q p i : Nat) (hp : p ≤ 64) (hi : i + 1 + q ≤ 3) : bits .or .u64 (IntKind.u64.wrap (li (i + 1) m * 2 ^ p)) (li i m / 2 ^ (64 - p)) = li (i + 1 + q) (m * 2 ^ (64 * q + p) % top) := by
  unfold li
  rw [div_cast, wrap_cast, or_cast _ _ (pow64 _) (div_lt64 _ (pow64 _)), mod_word _ _ hi, up_word, shl_bits m i p hp]
/-- .. the lowest word. -/
theorem shl_first (m q p : Nat) (hq : q ≤ 3) : IntKind.u64.wrap (li 0 m * 2 ^ p) = li q (m * 2 ^ (64 * q + p) % top) := by
  unfold li
  have h := up_word m q p 0
  rw [Nat.zero_add] at h
  rw [wrap_cast, mod_word _ _ hq, h]
  congr 1
  simp only [Nat.mul_zero, Nat.pow_zero, Nat.div_one]
  rw [Nat.mod_mul_mod]
/-- .. nothing below. -/
theorem shl_none (m q p i : Nat) (hq : q ≤ 3) (hi : i < q) : (0 : Int) = li i (m * 2 ^ (64 * q + p) % top) := by
  unfold li
  rw [mod_word _ _ (by omega)]
  have e1 : m * 2 ^ (64 * q + p) = m * 2 ^ (p + 64 * (q - i - 1)) * 2 ^ 64 * 2 ^ (64 * i) := by
    rw [Nat.mul_assoc, Nat.mul_assoc, ← Nat.pow_add, ← Nat.pow_add]; congr 2; omega
  rw [e1, Nat.mul_div_cancel _ (Nat.pow_pos (by decide)), Nat.mul_mod_left]
  rfl
end Go.Flo

/-! u256 at this translation: Shr, Shl. -/
namespace Go.Proofs.Ytkgjgdeaclefiaa
open Go Go.Proofs Go.RowKit Go.Flo

/-- The or of a word moved down and the next one moved up, as the walk spells it. -/
def dn (m i : Nat) (p : Int) : Int := bits .or .u64 (li i m / 2 ^ p.toNat) (IntKind.u64.wrap (li (i + 1) m * 2 ^ (64 - p).toNat))
def upw (m i : Nat) (p : Int) : Int := bits .or .u64 (IntKind.u64.wrap (li (i + 1) m * 2 ^ p.toNat)) (li i m / 2 ^ (64 - p).toNat)

theorem dn_eq (m q i : Nat) (p n : Int) (h0 : 0 ≤ p) (h1 : p < 64) (hn : n = 64 * q + p) : dn m (i + q) p = li i (m / 2 ^ n.toNat) := by
  unfold dn
  obtain ⟨k, rfl⟩ := Int.eq_ofNat_of_zero_le h0
  have e1 : (64 - (k : Int)).toNat = 64 - k := by omega
  have e2 : n.toNat = 64 * q + k := by omega
  rw [e1, e2]
  exact shr_or m q k i (by omega)
theorem dn_last (m q i : Nat) (p n : Int) (hm : m < top) (h0 : 0 ≤ p) (h1 : p < 64) (hn : n = 64 * q + p) (hi : i + q = 3) : li 3 m / 2 ^ p.toNat = li i (m / 2 ^ n.toNat) := by
  obtain ⟨k, rfl⟩ := Int.eq_ofNat_of_zero_le h0
  have e2 : n.toNat = 64 * q + k := by omega
  rw [e2]
  exact shr_last m q k i hm (by omega) hi
theorem dn_none (m q i : Nat) (p n : Int) (hm : m < top) (h0 : 0 ≤ p) (h1 : p < 64) (hn : n = 64 * q + p) (hi : 4 ≤ i + q) : (0 : Int) = li i (m / 2 ^ n.toNat) := by
  have e2 : n.toNat = 64 * q + p.toNat := by omega
  rw [e2]
  exact shr_none m q _ i hm hi

set_option maxHeartbeats 1000000 in
/-- Shr: within 256. -/
theorem shr_in (m : Nat) (hm : m < top) (n' n : Int) (hmx : max n' 0 = n) (h0 : 0 ≤ n) (h1 : n < 256) (w : World) :
    Calls Try.prog 76 #[.agg #[.int .u64 (li 0 m), .int .u64 (li 1 m), .int .u64 (li 2 m), .int .u64 (li 3 m)], .int .i64 n'] w fun e w' =>
      e = .returned (.agg #[.int .u64 (li 0 (m / 2 ^ n.toNat)), .int .u64 (li 1 (m / 2 ^ n.toNat)), .int .u64 (li 2 (m / 2 ^ n.toNat)), .int .u64 (li 3 (m / 2 ^ n.toNat))]) ∧ Below w.heap.size w w' := by
  obtain ⟨p, hp⟩ : ∃ p, p = n % 64 := ⟨_, rfl⟩
  have p0 : 0 ≤ p := by omega
  have p1 : p < 64 := by omega
  have hq : n / 64 = 0 ∨ n / 64 = 1 ∨ n / 64 = 2 ∨ n / 64 = 3 := by omega
  have hd : n = 64 * (n / 64) + p := by omega
  have hp' : n % 64 = p := hp.symm
  clear hp
  rcases hq with hq | hq | hq | hq
  · have e0 := dn_eq m 0 0 p n p0 p1 (by omega)
    have e1 := dn_eq m 0 1 p n p0 p1 (by omega)
    have e2 := dn_eq m 0 2 p n p0 p1 (by omega)
    have e3 := dn_last m 0 3 p n hm p0 p1 (by omega) (by omega)
    rw [← e0, ← e1, ← e2, ← e3]
    clear e0 e1 e2 e3 hd
    go_enter Try.func76, Try.ntmps76
    go_wp2
    refine wp_loop_rounds 5 ?_
    repeat (first | (rw [rounds_succ]; go_wp2_with (fail)) | ((refine Flo.wp_region_auto (fun _ => True) Flo.rd (by kernel_rfl) (by decide +kernel) (trivial) ?_; repeat (first | (refine Flo.au_skip (by exact rfl) (by exact rfl) ?_; simp only [Act.put, List.setIfInBounds_toArray, List.set_cons_zero, List.set_cons_succ]) | (refine Flo.au_free (by exact rfl) (by exact rfl) (by exact rfl) ?_; intro K hK; go_big_quiet_op; go_big_quiet_on) | (refine Flo.au_still (by exact rfl) (by exact rfl) (by exact rfl) ?_; intro K hK; go_simp; refine hK _ ?_; clear hK K) | (refine Flo.au_move (by exact rfl) (by exact rfl) ?_; intro K hK; go_wp2_with (fail); try (with_reducible refine ⟨rfl, trivial, ?_⟩)) | (refine Flo.mix_nil ?_))); go_wp2_with (fail)))
    refine bodyPost_ret (v := .agg #[.int .u64 (dn m 0 p), .int .u64 (dn m 1 p), .int .u64 (dn m 2 p), .int .u64 (li 3 m / 2 ^ p.toNat)]) (by simp [results, Try.results76, go_sem, dn]) rfl ⟨rfl, ?_⟩
    repeat' (first | (with_reducible exact Below.refl _ _) | (with_reducible assumption) | (with_reducible refine Below.drew ?_) | (with_reducible refine Below.alloc ?_ ?_ _) | (with_reducible refine Below.setCell ?_ ?_ _) | (with_reducible refine Flo.below_step ?_ (by assumption)) | (simp; done) | (simp; omega))
  · have e0 := dn_eq m 1 0 p n p0 p1 (by omega)
    have e1 := dn_eq m 1 1 p n p0 p1 (by omega)
    have e2 := dn_last m 1 2 p n hm p0 p1 (by omega) (by omega)
    have e3 := dn_none m 1 3 p n hm p0 p1 (by omega) (by omega)
    rw [← e0, ← e1, ← e2, ← e3]
    clear e0 e1 e2 e3 hd
    go_enter Try.func76, Try.ntmps76
    go_wp2
    refine wp_loop_rounds 5 ?_
    repeat (first | (rw [rounds_succ]; go_wp2_with (fail)) | ((refine Flo.wp_region_auto (fun _ => True) Flo.rd (by kernel_rfl) (by decide +kernel) (trivial) ?_; repeat (first | (refine Flo.au_skip (by exact rfl) (by exact rfl) ?_; simp only [Act.put, List.setIfInBounds_toArray, List.set_cons_zero, List.set_cons_succ]) | (refine Flo.au_free (by exact rfl) (by exact rfl) (by exact rfl) ?_; intro K hK; go_big_quiet_op; go_big_quiet_on) | (refine Flo.au_still (by exact rfl) (by exact rfl) (by exact rfl) ?_; intro K hK; go_simp; refine hK _ ?_; clear hK K) | (refine Flo.au_move (by exact rfl) (by exact rfl) ?_; intro K hK; go_wp2_with (fail); try (with_reducible refine ⟨rfl, trivial, ?_⟩)) | (refine Flo.mix_nil ?_))); go_wp2_with (fail)))
    refine bodyPost_ret (v := .agg #[.int .u64 (dn m 1 p), .int .u64 (dn m 2 p), .int .u64 (li 3 m / 2 ^ p.toNat), .int .u64 0]) (by simp [results, Try.results76, go_sem, dn]) rfl ⟨rfl, ?_⟩
    repeat' (first | (with_reducible exact Below.refl _ _) | (with_reducible assumption) | (with_reducible refine Below.drew ?_) | (with_reducible refine Below.alloc ?_ ?_ _) | (with_reducible refine Below.setCell ?_ ?_ _) | (with_reducible refine Flo.below_step ?_ (by assumption)) | (simp; done) | (simp; omega))
  · have e0 := dn_eq m 2 0 p n p0 p1 (by omega)
    have e1 := dn_last m 2 1 p n hm p0 p1 (by omega) (by omega)
    have e2 := dn_none m 2 2 p n hm p0 p1 (by omega) (by omega)
    have e3 := dn_none m 2 3 p n hm p0 p1 (by omega) (by omega)
    rw [← e0, ← e1, ← e2, ← e3]
    clear e0 e1 e2 e3 hd
    go_enter Try.func76, Try.ntmps76
    go_wp2
    refine wp_loop_rounds 5 ?_
    repeat (first | (rw [rounds_succ]; go_wp2_with (fail)) | ((refine Flo.wp_region_auto (fun _ => True) Flo.rd (by kernel_rfl) (by decide +kernel) (trivial) ?_; repeat (first | (refine Flo.au_skip (by exact rfl) (by exact rfl) ?_; simp only [Act.put, List.setIfInBounds_toArray, List.set_cons_zero, List.set_cons_succ]) | (refine Flo.au_free (by exact rfl) (by exact rfl) (by exact rfl) ?_; intro K hK; go_big_quiet_op; go_big_quiet_on) | (refine Flo.au_still (by exact rfl) (by exact rfl) (by exact rfl) ?_; intro K hK; go_simp; refine hK _ ?_; clear hK K) | (refine Flo.au_move (by exact rfl) (by exact rfl) ?_; intro K hK; go_wp2_with (fail); try (with_reducible refine ⟨rfl, trivial, ?_⟩)) | (refine Flo.mix_nil ?_))); go_wp2_with (fail)))
    refine bodyPost_ret (v := .agg #[.int .u64 (dn m 2 p), .int .u64 (li 3 m / 2 ^ p.toNat), .int .u64 0, .int .u64 0]) (by simp [results, Try.results76, go_sem, dn]) rfl ⟨rfl, ?_⟩
    repeat' (first | (with_reducible exact Below.refl _ _) | (with_reducible assumption) | (with_reducible refine Below.drew ?_) | (with_reducible refine Below.alloc ?_ ?_ _) | (with_reducible refine Below.setCell ?_ ?_ _) | (with_reducible refine Flo.below_step ?_ (by assumption)) | (simp; done) | (simp; omega))
  · have e0 := dn_last m 3 0 p n hm p0 p1 (by omega) (by omega)
    have e1 := dn_none m 3 1 p n hm p0 p1 (by omega) (by omega)
    have e2 := dn_none m 3 2 p n hm p0 p1 (by omega) (by omega)
    have e3 := dn_none m 3 3 p n hm p0 p1 (by omega) (by omega)
    rw [← e0, ← e1, ← e2, ← e3]
    clear e0 e1 e2 e3 hd
    go_enter Try.func76, Try.ntmps76
    go_wp2
    refine wp_loop_rounds 5 ?_
    repeat (first | (rw [rounds_succ]; go_wp2_with (fail)) | ((refine Flo.wp_region_auto (fun _ => True) Flo.rd (by kernel_rfl) (by decide +kernel) (trivial) ?_; repeat (first | (refine Flo.au_skip (by exact rfl) (by exact rfl) ?_; simp only [Act.put, List.setIfInBounds_toArray, List.set_cons_zero, List.set_cons_succ]) | (refine Flo.au_free (by exact rfl) (by exact rfl) (by exact rfl) ?_; intro K hK; go_big_quiet_op; go_big_quiet_on) | (refine Flo.au_still (by exact rfl) (by exact rfl) (by exact rfl) ?_; intro K hK; go_simp; refine hK _ ?_; clear hK K) | (refine Flo.au_move (by exact rfl) (by exact rfl) ?_; intro K hK; go_wp2_with (fail); try (with_reducible refine ⟨rfl, trivial, ?_⟩)) | (refine Flo.mix_nil ?_))); go_wp2_with (fail)))
    refine bodyPost_ret (v := .agg #[.int .u64 (li 3 m / 2 ^ p.toNat), .int .u64 0, .int .u64 0, .int .u64 0]) (by simp [results, Try.results76, go_sem]) rfl ⟨rfl, ?_⟩
    repeat' (first | (with_reducible exact Below.refl _ _) | (with_reducible assumption) | (with_reducible refine Below.drew ?_) | (with_reducible refine Below.alloc ?_ ?_ _) | (with_reducible refine Below.setCell ?_ ?_ _) | (with_reducible refine Flo.below_step ?_ (by assumption)) | (simp; done) | (simp; omega))

theorem uV_zero : Value.agg #[.int .u64 0, .int .u64 0, .int .u64 0, .int .u64 0] = uV 0 := Is4.uV ⟨⟨by decide, by decide⟩, ⟨by decide, by decide⟩, ⟨by decide, by decide⟩, ⟨by decide, by decide⟩, rfl⟩

set_option maxHeartbeats 1000000 in
/-- Shr. -/
theorem shr_c (m : Nat) (hm : m < top) (n' : Int) (w : World) :
    Calls Try.prog 76 #[uV m, .int .i64 n'] w fun e w' => e = .returned (uV (m / 2 ^ n'.toNat)) ∧ Below w.heap.size w w' := by
  obtain ⟨n, hn⟩ : ∃ n, n = max n' 0 := ⟨_, rfl⟩
  have e : n'.toNat = n.toNat := by omega
  have h0 : 0 ≤ n := by omega
  rw [e]
  clear e
  by_cases h1 : n < 256
  · unfold uV
    simp only [l0_li, l1_li, l2_li, l3_li]
    exact shr_in m hm n' n hn.symm h0 h1 w
  · have h2 : 256 ≤ n := by omega
    have z : m / 2 ^ n.toNat = 0 := Nat.div_eq_of_lt (by rw [top_pow] at hm; exact Nat.lt_of_lt_of_le hm (Nat.pow_le_pow_right (by decide) (by omega)))
    rw [z, ← uV_zero]
    have hmx := hn.symm
    clear z hn h1
    go_enter Try.func76, Try.ntmps76
    go_wp2
    refine bodyPost_ret (v := .agg #[.int .u64 0, .int .u64 0, .int .u64 0, .int .u64 0]) (by simp [results, Try.results76, go_sem]) rfl ⟨rfl, ?_⟩
    repeat' (first | (with_reducible exact Below.refl _ _) | (with_reducible assumption) | (with_reducible refine Below.drew ?_) | (with_reducible refine Below.alloc ?_ ?_ _) | (with_reducible refine Below.setCell ?_ ?_ _) | (with_reducible refine Flo.below_step ?_ (by assumption)) | (simp; done) | (simp; omega))
end Go.Proofs.Ytkgjgdeaclefiaa

/-! u256 at this translation: Shl. -/
namespace Go.Proofs.Ytkgjgdeaclefiaa
open Go Go.Proofs Go.RowKit Go.Flo
theorem up_eq (m q i : Nat) (p n : Int) (h0 : 0 ≤ p) (h1 : p < 64) (hn : n = 64 * q + p) (hi : i + 1 + q ≤ 3) : upw m i p = li (i + 1 + q) (m * 2 ^ n.toNat % top) := by
  unfold upw
  obtain ⟨k, rfl⟩ := Int.eq_ofNat_of_zero_le h0
  have e1 : (64 - (k : Int)).toNat = 64 - k := by omega
  have e2 : n.toNat = 64 * q + k := by omega
  rw [e1, e2]
  exact shl_or m q k i (by omega) hi
theorem up_first (m q : Nat) (p n : Int) (h0 : 0 ≤ p) (hn : n = 64 * q + p) (hq : q ≤ 3) : IntKind.u64.wrap (li 0 m * 2 ^ p.toNat) = li q (m * 2 ^ n.toNat % top) := by
  have e2 : n.toNat = 64 * q + p.toNat := by omega
  rw [e2]
  exact shl_first m q _ hq
theorem up_none (m q i : Nat) (p n : Int) (h0 : 0 ≤ p) (hn : n = 64 * q + p) (hq : q ≤ 3) (hi : i < q) : (0 : Int) = li i (m * 2 ^ n.toNat % top) := by
  have e2 : n.toNat = 64 * q + p.toNat := by omega
  rw [e2]
  exact shl_none m q _ i hq hi

theorem lost_eq (m : Nat) (hm : m < top) (n : Int) (h0 : 0 ≤ n) (h1 : n < 256) : decide (top ≤ m * 2 ^ n.toNat) = decide (256 < (lenN m : Int) + n) := by
  by_cases h : m = 0
  · subst h
    rw [lenN_zero, Nat.zero_mul, decide_eq_false (by rw [top_eq]; omega), decide_eq_false (by omega)]
  · have e := lost_iff (n := n.toNat) h
    by_cases h2 : 256 < lenN m + n.toNat
    · rw [decide_eq_true (e.2 h2), decide_eq_true (by omega)]
    · rw [decide_eq_false (fun h3 => h2 (e.1 h3)), decide_eq_false (by omega)]

set_option maxHeartbeats 4000000 in
/-- Shl: within 256. -/
theorem shl_in (m : Nat) (hm : m < top) (n' n : Int) (hmx : max n' 0 = n) (h0 : 0 ≤ n) (h1 : n < 256) (w : World) :
    Calls Try.prog 74 #[.agg #[.int .u64 (li 0 m), .int .u64 (li 1 m), .int .u64 (li 2 m), .int .u64 (li 3 m)], .int .i64 n'] w fun e w' =>
      e = .returned (.tuple #[.agg #[.int .u64 (li 0 (m * 2 ^ n.toNat % top)), .int .u64 (li 1 (m * 2 ^ n.toNat % top)), .int .u64 (li 2 (m * 2 ^ n.toNat % top)), .int .u64 (li 3 (m * 2 ^ n.toNat % top))], .bool (decide (top ≤ m * 2 ^ n.toNat))]) ∧ Below w.heap.size w w' := by
  have hl := lenN_top hm
  have L : Hid (∀ w, Calls Try.prog 69 #[.agg #[.int .u64 (li 0 m), .int .u64 (li 1 m), .int .u64 (li 2 m), .int .u64 (li 3 m)]] w fun e w' => e = .returned (.int .i64 (lenN m)) ∧ Below w.heap.size w w') := fun w => by
    have := len_c m hm w
    unfold uV at this
    simpa only [l0_li, l1_li, l2_li, l3_li] using this
  rw [lost_eq m hm n h0 h1]
  clear hm
  obtain ⟨p, hp⟩ : ∃ p, p = n % 64 := ⟨_, rfl⟩
  have p0 : 0 ≤ p := by omega
  have p1 : p < 64 := by omega
  have hq : n / 64 = 0 ∨ n / 64 = 1 ∨ n / 64 = 2 ∨ n / 64 = 3 := by omega
  have hd : n = 64 * (n / 64) + p := by omega
  have hp' : n % 64 = p := hp.symm
  clear hp
  rcases hq with hq | hq | hq | hq
  · have e0 := up_first m 0 p n p0 (by omega) (by omega)
    have e1 := up_eq m 0 0 p n p0 p1 (by omega) (by omega)
    have e2 := up_eq m 0 1 p n p0 p1 (by omega) (by omega)
    have e3 := up_eq m 0 2 p n p0 p1 (by omega) (by omega)
    rw [← e0, ← e1, ← e2, ← e3]
    clear e0 e1 e2 e3 hd
    go_enter Try.func74, Try.ntmps74
    go_wp2
    refine wp_loop_rounds 5 ?_
    repeat (first | (rw [rounds_succ]; go_wp2_with (fail)) | ((refine Flo.wp_region_auto (fun _ => True) Flo.rd (by kernel_rfl) (by decide +kernel) (trivial) ?_; repeat (first | (refine Flo.au_skip (by exact rfl) (by exact rfl) ?_; simp only [Act.put, List.setIfInBounds_toArray, List.set_cons_zero, List.set_cons_succ]) | (refine Flo.au_free (by exact rfl) (by exact rfl) (by exact rfl) ?_; intro K hK; go_big_quiet_op; go_big_quiet_on) | (refine Flo.au_still (by exact rfl) (by exact rfl) (by exact rfl) ?_; intro K hK; go_simp; refine hK _ ?_; clear hK K) | (refine Flo.au_move (by exact rfl) (by exact rfl) ?_; intro K hK; go_wp2_with (fail); try (with_reducible refine ⟨rfl, trivial, ?_⟩)) | (refine Flo.mix_nil ?_))); go_wp2_with (fail)))
    (refine Flo.wp_region_held ((fun b => b < w.heap.size + 3 ∧ b ≠ w.heap.size + 1)) (by kernel_rfl) (by decide +kernel) ?_; repeat (first | (refine Flo.au_skip (by exact rfl) (by exact rfl) ?_; simp only [Act.put, List.setIfInBounds_toArray, List.set_cons_zero, List.set_cons_succ]) | (refine Flo.hx_free (by exact rfl) (by exact rfl) (by exact rfl) ?_; intro K hK; go_big_quiet_op; go_big_quiet_on) | (refine Flo.au_move (by exact rfl) (by exact rfl) ?_; intro K hK; go_wp2_with ((go_at_call 69; (with_reducible refine (L.out _).mono ?_); rintro e w1 ⟨rfl, hb⟩; obtain ⟨hc, hf, hz⟩ := bcell hb)); refine ⟨(by repeat' (first | (with_reducible assumption) | (with_reducible exact InExt.refl _ _) | (with_reducible refine InExt.drew ?_) | (with_reducible refine InExt.alloc ?_ ?_ _) | (with_reducible refine InExt.setCell ?_ ?_ _) | (with_reducible refine InExt.below ?_ ?_ (by assumption)) | (simp; done) | (simp; omega))), ?_⟩) | (refine Flo.mix_nil ?_)))
    rename_i w1 hb hc hf hz
    simp at hz
    go_wp2
    refine bodyPost_ret (v := .tuple #[.agg #[.int .u64 (IntKind.u64.wrap (li 0 m * 2 ^ p.toNat)), .int .u64 (upw m 0 p), .int .u64 (upw m 1 p), .int .u64 (upw m 2 p)], .bool (decide (256 < (lenN m : Int) + n))]) (by simp [results, Try.results74, go_sem, hc, upw]) rfl ⟨rfl, ?_⟩
    repeat' (first | (with_reducible exact Below.refl _ _) | (with_reducible assumption) | (with_reducible refine Below.drew ?_) | (with_reducible refine Below.alloc ?_ ?_ _) | (with_reducible refine Below.setCell ?_ ?_ _) | (with_reducible refine Flo.below_step ?_ (by assumption)) | (simp; done) | (simp; omega))
  · have e0 := up_none m 1 0 p n p0 (by omega) (by omega) (by omega)
    have e1 := up_first m 1 p n p0 (by omega) (by omega)
    have e2 := up_eq m 1 0 p n p0 p1 (by omega) (by omega)
    have e3 := up_eq m 1 1 p n p0 p1 (by omega) (by omega)
    rw [← e0, ← e1, ← e2, ← e3]
    clear e0 e1 e2 e3 hd
    go_enter Try.func74, Try.ntmps74
    go_wp2
    refine wp_loop_rounds 5 ?_
    repeat (first | (rw [rounds_succ]; go_wp2_with (fail)) | ((refine Flo.wp_region_auto (fun _ => True) Flo.rd (by kernel_rfl) (by decide +kernel) (trivial) ?_; repeat (first | (refine Flo.au_skip (by exact rfl) (by exact rfl) ?_; simp only [Act.put, List.setIfInBounds_toArray, List.set_cons_zero, List.set_cons_succ]) | (refine Flo.au_free (by exact rfl) (by exact rfl) (by exact rfl) ?_; intro K hK; go_big_quiet_op; go_big_quiet_on) | (refine Flo.au_still (by exact rfl) (by exact rfl) (by exact rfl) ?_; intro K hK; go_simp; refine hK _ ?_; clear hK K) | (refine Flo.au_move (by exact rfl) (by exact rfl) ?_; intro K hK; go_wp2_with (fail); try (with_reducible refine ⟨rfl, trivial, ?_⟩)) | (refine Flo.mix_nil ?_))); go_wp2_with (fail)))
    (refine Flo.wp_region_held ((fun b => b < w.heap.size + 3 ∧ b ≠ w.heap.size + 1)) (by kernel_rfl) (by decide +kernel) ?_; repeat (first | (refine Flo.au_skip (by exact rfl) (by exact rfl) ?_; simp only [Act.put, List.setIfInBounds_toArray, List.set_cons_zero, List.set_cons_succ]) | (refine Flo.hx_free (by exact rfl) (by exact rfl) (by exact rfl) ?_; intro K hK; go_big_quiet_op; go_big_quiet_on) | (refine Flo.au_move (by exact rfl) (by exact rfl) ?_; intro K hK; go_wp2_with ((go_at_call 69; (with_reducible refine (L.out _).mono ?_); rintro e w1 ⟨rfl, hb⟩; obtain ⟨hc, hf, hz⟩ := bcell hb)); refine ⟨(by repeat' (first | (with_reducible assumption) | (with_reducible exact InExt.refl _ _) | (with_reducible refine InExt.drew ?_) | (with_reducible refine InExt.alloc ?_ ?_ _) | (with_reducible refine InExt.setCell ?_ ?_ _) | (with_reducible refine InExt.below ?_ ?_ (by assumption)) | (simp; done) | (simp; omega))), ?_⟩) | (refine Flo.mix_nil ?_)))
    rename_i w1 hb hc hf hz
    simp at hz
    go_wp2
    refine bodyPost_ret (v := .tuple #[.agg #[.int .u64 (0), .int .u64 (IntKind.u64.wrap (li 0 m * 2 ^ p.toNat)), .int .u64 (upw m 0 p), .int .u64 (upw m 1 p)], .bool (decide (256 < (lenN m : Int) + n))]) (by simp [results, Try.results74, go_sem, hc, upw]) rfl ⟨rfl, ?_⟩
    repeat' (first | (with_reducible exact Below.refl _ _) | (with_reducible assumption) | (with_reducible refine Below.drew ?_) | (with_reducible refine Below.alloc ?_ ?_ _) | (with_reducible refine Below.setCell ?_ ?_ _) | (with_reducible refine Flo.below_step ?_ (by assumption)) | (simp; done) | (simp; omega))
  · have e0 := up_none m 2 0 p n p0 (by omega) (by omega) (by omega)
    have e1 := up_none m 2 1 p n p0 (by omega) (by omega) (by omega)
    have e2 := up_first m 2 p n p0 (by omega) (by omega)
    have e3 := up_eq m 2 0 p n p0 p1 (by omega) (by omega)
    rw [← e0, ← e1, ← e2, ← e3]
    clear e0 e1 e2 e3 hd
    go_enter Try.func74, Try.ntmps74
    go_wp2
    refine wp_loop_rounds 5 ?_
    repeat (first | (rw [rounds_succ]; go_wp2_with (fail)) | ((refine Flo.wp_region_auto (fun _ => True) Flo.rd (by kernel_rfl) (by decide +kernel) (trivial) ?_; repeat (first | (refine Flo.au_skip (by exact rfl) (by exact rfl) ?_; simp only [Act.put, List.setIfInBounds_toArray, List.set_cons_zero, List.set_cons_succ]) | (refine Flo.au_free (by exact rfl) (by exact rfl) (by exact rfl) ?_; intro K hK; go_big_quiet_op; go_big_quiet_on) | (refine Flo.au_still (by exact rfl) (by exact rfl) (by exact rfl) ?_; intro K hK; go_simp; refine hK _ ?_; clear hK K) | (refine Flo.au_move (by exact rfl) (by exact rfl) ?_; intro K hK; go_wp2_with (fail); try (with_reducible refine ⟨rfl, trivial, ?_⟩)) | (refine Flo.mix_nil ?_))); go_wp2_with (fail)))
    (refine Flo.wp_region_held ((fun b => b < w.heap.size + 3 ∧ b ≠ w.heap.size + 1)) (by kernel_rfl) (by decide +kernel) ?_; repeat (first | (refine Flo.au_skip (by exact rfl) (by exact rfl) ?_; simp only [Act.put, List.setIfInBounds_toArray, List.set_cons_zero, List.set_cons_succ]) | (refine Flo.hx_free (by exact rfl) (by exact rfl) (by exact rfl) ?_; intro K hK; go_big_quiet_op; go_big_quiet_on) | (refine Flo.au_move (by exact rfl) (by exact rfl) ?_; intro K hK; go_wp2_with ((go_at_call 69; (with_reducible refine (L.out _).mono ?_); rintro e w1 ⟨rfl, hb⟩; obtain ⟨hc, hf, hz⟩ := bcell hb)); refine ⟨(by repeat' (first | (with_reducible assumption) | (with_reducible exact InExt.refl _ _) | (with_reducible refine InExt.drew ?_) | (with_reducible refine InExt.alloc ?_ ?_ _) | (with_reducible refine InExt.setCell ?_ ?_ _) | (with_reducible refine InExt.below ?_ ?_ (by assumption)) | (simp; done) | (simp; omega))), ?_⟩) | (refine Flo.mix_nil ?_)))
    rename_i w1 hb hc hf hz
    simp at hz
    go_wp2
    refine bodyPost_ret (v := .tuple #[.agg #[.int .u64 (0), .int .u64 (0), .int .u64 (IntKind.u64.wrap (li 0 m * 2 ^ p.toNat)), .int .u64 (upw m 0 p)], .bool (decide (256 < (lenN m : Int) + n))]) (by simp [results, Try.results74, go_sem, hc, upw]) rfl ⟨rfl, ?_⟩
    repeat' (first | (with_reducible exact Below.refl _ _) | (with_reducible assumption) | (with_reducible refine Below.drew ?_) | (with_reducible refine Below.alloc ?_ ?_ _) | (with_reducible refine Below.setCell ?_ ?_ _) | (with_reducible refine Flo.below_step ?_ (by assumption)) | (simp; done) | (simp; omega))
  · have e0 := up_none m 3 0 p n p0 (by omega) (by omega) (by omega)
    have e1 := up_none m 3 1 p n p0 (by omega) (by omega) (by omega)
    have e2 := up_none m 3 2 p n p0 (by omega) (by omega) (by omega)
    have e3 := up_first m 3 p n p0 (by omega) (by omega)
    rw [← e0, ← e1, ← e2, ← e3]
    clear e0 e1 e2 e3 hd
    go_enter Try.func74, Try.ntmps74
    go_wp2
    refine wp_loop_rounds 5 ?_
    repeat (first | (rw [rounds_succ]; go_wp2_with (fail)) | ((refine Flo.wp_region_auto (fun _ => True) Flo.rd (by kernel_rfl) (by decide +kernel) (trivial) ?_; repeat (first | (refine Flo.au_skip (by exact rfl) (by exact rfl) ?_; simp only [Act.put, List.setIfInBounds_toArray, List.set_cons_zero, List.set_cons_succ]) | (refine Flo.au_free (by exact rfl) (by exact rfl) (by exact rfl) ?_; intro K hK; go_big_quiet_op; go_big_quiet_on) | (refine Flo.au_still (by exact rfl) (by exact rfl) (by exact rfl) ?_; intro K hK; go_simp; refine hK _ ?_; clear hK K) | (refine Flo.au_move (by exact rfl) (by exact rfl) ?_; intro K hK; go_wp2_with (fail); try (with_reducible refine ⟨rfl, trivial, ?_⟩)) | (refine Flo.mix_nil ?_))); go_wp2_with (fail)))
    (refine Flo.wp_region_held ((fun b => b < w.heap.size + 3 ∧ b ≠ w.heap.size + 1)) (by kernel_rfl) (by decide +kernel) ?_; repeat (first | (refine Flo.au_skip (by exact rfl) (by exact rfl) ?_; simp only [Act.put, List.setIfInBounds_toArray, List.set_cons_zero, List.set_cons_succ]) | (refine Flo.hx_free (by exact rfl) (by exact rfl) (by exact rfl) ?_; intro K hK; go_big_quiet_op; go_big_quiet_on) | (refine Flo.au_move (by exact rfl) (by exact rfl) ?_; intro K hK; go_wp2_with ((go_at_call 69; (with_reducible refine (L.out _).mono ?_); rintro e w1 ⟨rfl, hb⟩; obtain ⟨hc, hf, hz⟩ := bcell hb)); refine ⟨(by repeat' (first | (with_reducible assumption) | (with_reducible exact InExt.refl _ _) | (with_reducible refine InExt.drew ?_) | (with_reducible refine InExt.alloc ?_ ?_ _) | (with_reducible refine InExt.setCell ?_ ?_ _) | (with_reducible refine InExt.below ?_ ?_ (by assumption)) | (simp; done) | (simp; omega))), ?_⟩) | (refine Flo.mix_nil ?_)))
    rename_i w1 hb hc hf hz
    simp at hz
    go_wp2
    refine bodyPost_ret (v := .tuple #[.agg #[.int .u64 (0), .int .u64 (0), .int .u64 (0), .int .u64 (IntKind.u64.wrap (li 0 m * 2 ^ p.toNat))], .bool (decide (256 < (lenN m : Int) + n))]) (by simp [results, Try.results74, go_sem, hc]) rfl ⟨rfl, ?_⟩
    repeat' (first | (with_reducible exact Below.refl _ _) | (with_reducible assumption) | (with_reducible refine Below.drew ?_) | (with_reducible refine Below.alloc ?_ ?_ _) | (with_reducible refine Below.setCell ?_ ?_ _) | (with_reducible refine Flo.below_step ?_ (by assumption)) | (simp; done) | (simp; omega))

end Go.Proofs.Ytkgjgdeaclefiaa

/-! u256 at this translation: Shl, whatever the count. -/
namespace Go.Proofs.Ytkgjgdeaclefiaa
open Go Go.Proofs Go.RowKit Go.Flo
set_option maxHeartbeats 1000000 in
/-- Shl. -/
theorem shl_c (m : Nat) (hm : m < top) (n' : Int) (w : World) :
    Calls Try.prog 74 #[uV m, .int .i64 n'] w fun e w' => e = .returned (.tuple #[uV (m * 2 ^ n'.toNat % top), .bool (decide (top ≤ m * 2 ^ n'.toNat))]) ∧ Below w.heap.size w w' := by
  obtain ⟨n, hn⟩ : ∃ n, n = max n' 0 := ⟨_, rfl⟩
  have e : n'.toNat = n.toNat := by omega
  have h0 : 0 ≤ n := by omega
  rw [e]
  clear e
  by_cases h1 : n < 256
  · unfold uV
    simp only [l0_li, l1_li, l2_li, l3_li]
    exact shl_in m hm n' n hn.symm h0 h1 w
  · have h2 : 256 ≤ n := by omega
    have z : m * 2 ^ n.toNat % top = 0 := by
      have e1 : n.toNat = 256 + (n.toNat - 256) := by omega
      rw [top_pow, e1, Nat.pow_add, Nat.mul_left_comm, Nat.mul_mod_right]
    have hmx := hn.symm
    by_cases hz : m = 0
    · subst hz
      have y : decide (top ≤ 0 * 2 ^ n.toNat) = false := decide_eq_false (by rw [Nat.zero_mul, top_eq]; omega)
      rw [z, y, ← uV_zero]
      clear z hn h1 y hm
      go_enter Try.func74, Try.ntmps74
      go_wp2
      (refine Flo.wp_region_held ((fun b => b = w.heap.size)) (by kernel_rfl) (by decide +kernel) ?_; repeat (first | (refine Flo.au_skip (by exact rfl) (by exact rfl) ?_; simp only [Act.put, List.setIfInBounds_toArray, List.set_cons_zero, List.set_cons_succ]) | (refine Flo.hx_free (by exact rfl) (by exact rfl) (by exact rfl) ?_; intro K hK; go_big_quiet_op; go_big_quiet_on) | (refine Flo.au_move (by exact rfl) (by exact rfl) ?_; intro K hK; go_wp2_with (fail); refine ⟨(by repeat' (first | (with_reducible assumption) | (with_reducible exact InExt.refl _ _) | (with_reducible refine InExt.drew ?_) | (with_reducible refine InExt.alloc ?_ ?_ _) | (with_reducible refine InExt.setCell ?_ ?_ _) | (with_reducible refine InExt.below ?_ ?_ (by assumption)) | (simp; done) | (simp; omega))), ?_⟩) | (refine Flo.mix_nil ?_)))
      go_wp2
      refine bodyPost_ret (v := .tuple #[.agg #[.int .u64 0, .int .u64 0, .int .u64 0, .int .u64 0], .bool false]) (by simp [results, Try.results74, go_sem]) rfl ⟨rfl, ?_⟩
      repeat' (first | (with_reducible exact Below.refl _ _) | (with_reducible assumption) | (with_reducible refine Below.drew ?_) | (with_reducible refine Below.alloc ?_ ?_ _) | (with_reducible refine Below.setCell ?_ ?_ _) | (with_reducible refine Flo.below_step ?_ (by assumption)) | (simp; done) | (simp; omega))
    · have y : decide (top ≤ m * 2 ^ n.toNat) = true := decide_eq_true ((lost_iff hz).2 (by have := lenN_pos hz; omega))
      have im := is4_of hm
      rw [z, y, ← uV_zero]
      unfold uV
      generalize l0 m = a at *; generalize l1 m = b at *; generalize l2 m = c at *; generalize l3 m = d at *
      have ne : (!(a == 0 && (b == 0 && (c == 0 && d == 0)))) = true := by
        have := im.eq
        by_cases h : a = 0 ∧ b = 0 ∧ c = 0 ∧ d = 0
        · obtain ⟨rfl, rfl, rfl, rfl⟩ := h; omega
        · simp; omega
      clear z hn h1 y hm im
      go_enter Try.func74, Try.ntmps74
      go_wp2
      (refine Flo.wp_region_held ((fun b => b = w.heap.size)) (by kernel_rfl) (by decide +kernel) ?_; repeat (first | (refine Flo.au_skip (by exact rfl) (by exact rfl) ?_; simp only [Act.put, List.setIfInBounds_toArray, List.set_cons_zero, List.set_cons_succ]) | (refine Flo.hx_free (by exact rfl) (by exact rfl) (by exact rfl) ?_; intro K hK; go_big_quiet_op; go_big_quiet_on) | (refine Flo.au_move (by exact rfl) (by exact rfl) ?_; intro K hK; go_wp2_with (fail); refine ⟨(by repeat' (first | (with_reducible assumption) | (with_reducible exact InExt.refl _ _) | (with_reducible refine InExt.drew ?_) | (with_reducible refine InExt.alloc ?_ ?_ _) | (with_reducible refine InExt.setCell ?_ ?_ _) | (with_reducible refine InExt.below ?_ ?_ (by assumption)) | (simp; done) | (simp; omega))), ?_⟩) | (refine Flo.mix_nil ?_)))
      go_wp2
      refine bodyPost_ret (v := .tuple #[.agg #[.int .u64 0, .int .u64 0, .int .u64 0, .int .u64 0], .bool true]) (by simp [results, Try.results74, go_sem]) rfl ⟨rfl, ?_⟩
      repeat' (first | (with_reducible exact Below.refl _ _) | (with_reducible assumption) | (with_reducible refine Below.drew ?_) | (with_reducible refine Below.alloc ?_ ?_ _) | (with_reducible refine Below.setCell ?_ ?_ _) | (with_reducible refine Flo.below_step ?_ (by assumption)) | (simp; done) | (simp; omega))
end Go.Proofs.Ytkgjgdeaclefiaa

/-! Plain numbers: a division digit by digit. No program is named here. -/
namespace Go.Flo
open Go Go.RowKit

theorem cmpI_ge {m n : Nat} (h : n ≤ m) : 0 ≤ cmpI m n := by unfold cmpI; rw [if_neg (by omega)]; split <;> decide
theorem cmpI_lt {m n : Nat} (h : m < n) : cmpI m n = -1 := by unfold cmpI; rw [if_pos h]
theorem cmpI_gt {m n : Nat} (h : n < m) : cmpI m n = 1 := by unfold cmpI; rw [if_neg (by omega), if_pos h]
theorem cmpI_eq (m : Nat) : cmpI m m = 0 := by unfold cmpI; rw [if_neg (by omega), if_neg (by omega)]

theorem or_bit (qq n j p : Nat) (hn : n = 64 * j + p) : bits .or .u64 (li j qq) (IntKind.u64.wrap (2 ^ p)) = li j (qq ||| 2 ^ n) := by
  unfold li
  have e := wrap_cast 1 p
  rw [show ((1 : Nat) : Int) = 1 from rfl, Int.one_mul] at e
  rw [e, or_cast _ _ (pow64 _) (pow64 _)]
  congr 1
  apply Nat.eq_of_testBit_eq
  intro k
  simp only [Nat.testBit_or, Nat.testBit_mod_two_pow, Nat.testBit_div_two_pow, Nat.one_mul, Nat.testBit_two_pow]
  by_cases hk : k < 64
  · have : (p = k) = (n = k + 64 * j) := by apply propext; omega
    simp [hk, this]
  · simp [hk]
theorem or_bit_ne (qq n i j p : Nat) (hn : n = 64 * j + p) (hp : p < 64) (hi : i ≠ j) : li i (qq ||| 2 ^ n) = li i qq := by
  unfold li
  congr 1
  apply Nat.eq_of_testBit_eq
  intro k
  simp only [Nat.testBit_or, Nat.testBit_mod_two_pow, Nat.testBit_div_two_pow, Nat.testBit_two_pow]
  by_cases hk : k < 64
  · have : ¬ n = k + 64 * i := by omega
    simp [hk, this]
  · simp [hk]
theorem or_add (qq n : Nat) (h : qq % 2 ^ (n + 1) = 0) : qq ||| 2 ^ n = qq + 2 ^ n := by
  have h1 : 2 ^ n < 2 ^ (n + 1) := Nat.pow_lt_pow_right (by decide) (by omega)
  have : qq = 2 ^ (n + 1) * (qq / 2 ^ (n + 1)) := by have := Nat.div_add_mod qq (2 ^ (n + 1)); omega
  rw [this, Nat.mul_comm, ← Nat.shiftLeft_eq, Nat.shiftLeft_add_eq_or_of_lt h1]

/-- How far a division has come: s digits are to come. -/
structure DivS (m k s r qq : Nat) : Prop where
  k0 : k ≠ 0
  mt : m < top
  kt : k < top
  sum : m = qq * k + r
  rest : r < k * 2 ^ s
  low : qq % 2 ^ s = 0
  len : s ≠ 0 → s + lenN k ≤ lenN m + 1

theorem DivS.start {m k : Nat} (k0 : k ≠ 0) (mt : m < top) (kt : k < top) : DivS m k (lenN m + 1 - lenN k) m 0 := by
  refine ⟨k0, mt, kt, by omega, ?_, by simp, fun h => by omega⟩
  have h1 := lenN_lo k0
  have h2 := lenN_hi m
  have h3 := lenN_pos k0
  have h5 : 2 ^ lenN m ≤ 2 ^ (lenN k - 1 + (lenN m + 1 - lenN k)) := Nat.pow_le_pow_right (by decide) (by omega)
  have h6 : 2 ^ (lenN k - 1) * 2 ^ (lenN m + 1 - lenN k) ≤ k * 2 ^ (lenN m + 1 - lenN k) := Nat.mul_le_mul_right _ h1
  rw [← Nat.pow_add] at h6
  omega

theorem DivS.up {m k t r qq : Nat} (h : DivS m k (t + 1) r qq) : k * 2 ^ t < top ∧ t < 256 := by
  have h1 := h.len (by omega)
  have h2 := lenN_top h.mt
  have h3 := lenN_pos h.k0
  refine ⟨?_, by omega⟩
  rcases Nat.lt_or_ge (k * 2 ^ t) top with h' | h'
  · exact h'
  · have := (lost_iff h.k0).1 h'; omega

theorem DivS.yes {m k t r qq : Nat} (h : DivS m k (t + 1) r qq) (hd : k * 2 ^ t ≤ r) : DivS m k t (r - k * 2 ^ t) (qq ||| 2 ^ t) := by
  have hr := h.rest
  have hs := h.sum
  rw [Nat.pow_succ, ← Nat.mul_assoc] at hr
  rw [or_add qq t h.low]
  have e1 : (qq + 2 ^ t) * k = qq * k + k * 2 ^ t := by rw [Nat.add_mul, Nat.mul_comm (2 ^ t)]
  refine ⟨h.k0, h.mt, h.kt, by omega, by omega, ?_, fun h0 => by have := h.len (by omega); omega⟩
  have : qq % 2 ^ t = 0 := Nat.mod_eq_zero_of_dvd (Nat.dvd_trans (Nat.pow_dvd_pow 2 (Nat.le_succ t)) (Nat.dvd_of_mod_eq_zero h.low))
  rw [Nat.add_mod_right, this]
theorem DivS.no {m k t r qq : Nat} (h : DivS m k (t + 1) r qq) (hd : r < k * 2 ^ t) : DivS m k t r qq :=
  ⟨h.k0, h.mt, h.kt, h.sum, hd, Nat.mod_eq_zero_of_dvd (Nat.dvd_trans (Nat.pow_dvd_pow 2 (Nat.le_succ t)) (Nat.dvd_of_mod_eq_zero h.low)), fun h0 => by have := h.len (by omega); omega⟩
theorem DivS.done {m k r qq : Nat} (h : DivS m k 0 r qq) : qq = m / k ∧ r = m % k := by
  have h1 := h.sum
  have h2 : r < k := by simpa using h.rest
  have e : m / k = qq ∧ m % k = r := (Nat.div_mod_unique (Nat.pos_of_ne_zero h.k0)).2 ⟨by rw [h1, Nat.mul_comm]; omega, h2⟩
  exact ⟨e.1.symm, e.2.symm⟩
theorem DivS.rt {m k s r qq : Nat} (h : DivS m k s r qq) : r < top ∧ qq < top := by
  have h1 := h.sum
  have h2 := h.mt
  have h3 : qq ≤ qq * k := Nat.le_mul_of_pos_right _ (Nat.pos_of_ne_zero h.k0)
  exact ⟨by omega, by omega⟩
theorem sub_top {r d : Nat} (hr : r < top) (hd : d ≤ r) : (r + top - d) % top = r - d := by
  have e : r + top - d = (r - d) + top := by omega
  rw [e, Nat.add_mod_right]
  exact Nat.mod_eq_of_lt (by omega)

/-- Four cells that hold a number. -/
structure Four (w : World) (b : Nat) (t : TypeId) (n : Nat) : Prop where
  row : w.heap[b]? = some (.cells #[.int .u64 (l0 n), .int .u64 (l1 n), .int .u64 (l2 n), .int .u64 (l3 n)] t (0, 0))
theorem Four.cells {w : World} {b : Nat} {t : TypeId} {n : Nat} (h : Four w b t n) :
    w.cell? ⟨b, 0, none⟩ = some (.int .u64 (l0 n)) ∧ w.cell? ⟨b, 1, none⟩ = some (.int .u64 (l1 n)) ∧ w.cell? ⟨b, 2, none⟩ = some (.int .u64 (l2 n)) ∧ w.cell? ⟨b, 3, none⟩ = some (.int .u64 (l3 n)) ∧ ∀ i, w.frozen? ⟨b, i, none⟩ = false := by
  have hr := h.row
  refine ⟨?_, ?_, ?_, ?_, fun i => frozen_of_row w b i _ t hr⟩ <;> (rw [cell_of_row w b _ _ t _ hr]; rfl)
theorem Four.lt {w : World} {b : Nat} {t : TypeId} {n : Nat} (h : Four w b t n) : b < w.heap.size := by
  have := h.row
  rcases Nat.lt_or_ge b w.heap.size with h' | h'
  · exact h'
  · simp [Array.getElem?_eq_none h'] at this
theorem Four.below {w w' : World} {b : Nat} {t : TypeId} {n : Nat} (h : Four w b t n) (hb : Below w.heap.size w w') : Four w' b t n := ⟨(hb.block b h.lt).trans h.row⟩
theorem Four.drew {w : World} {b : Nat} {t : TypeId} {n : Nat} (h : Four w b t n) : Four w.drew b t n := ⟨h.row⟩
theorem Four.alloc {w : World} {b : Nat} {t : TypeId} {n : Nat} (h : Four w b t n) (o : Obj) : Four (w.alloc o) b t n := h.below ((Below.refl _ _).alloc (Nat.le_refl _) o)
theorem Four.other {w : World} {b : Nat} {t : TypeId} {n : Nat} (h : Four w b t n) {p : Addr} (hp : b ≠ p.block) (v : Value) : Four (w.setCell p v) b t n := ⟨(Below.heap_setCell w p v b hp).trans h.row⟩
theorem Four.made {w : World} {b : Nat} {t : TypeId} {a0 a1 a2 a3 : Value} {n : Nat} (h : w.heap[b]? = some (.cells #[a0, a1, a2, a3] t (0, 0))) :
    Four ((((w.setCell ⟨b, 0, none⟩ (.int .u64 (l0 n))).setCell ⟨b, 1, none⟩ (.int .u64 (l1 n))).setCell ⟨b, 2, none⟩ (.int .u64 (l2 n))).setCell ⟨b, 3, none⟩ (.int .u64 (l3 n))) b t n := by
  have h1 := Go.heap_setCell_same w b 0 _ t (.int .u64 (l0 n)) h
  have h2 := Go.heap_setCell_same _ b 1 _ t (.int .u64 (l1 n)) h1
  have h3 := Go.heap_setCell_same _ b 2 _ t (.int .u64 (l2 n)) h2
  have h4 := Go.heap_setCell_same _ b 3 _ t (.int .u64 (l3 n)) h3
  exact ⟨h4⟩
end Go.Flo

/-! u256 at this translation: Div. -/
namespace Go.Proofs.Ytkgjgdeaclefiaa
open Go Go.Proofs Go.RowKit Go.Flo

set_option maxHeartbeats 1000000 in
/-- Div by 0. -/
theorem div_zero (m : Nat) (w : World) :
    Calls Try.prog 75 #[uV m, uV 0] w fun e w' => e = .returned (.tuple #[uV 0, uV 0, .bool false]) ∧ Below w.heap.size w w' := by
  rw [← uV_zero]
  unfold uV
  generalize l0 m = a at *; generalize l1 m = b at *; generalize l2 m = c at *; generalize l3 m = d at *
  go_enter Try.func75, Try.ntmps75
  go_wp2
  refine bodyPost_ret (v := .tuple #[.agg #[.int .u64 0, .int .u64 0, .int .u64 0, .int .u64 0], .agg #[.int .u64 0, .int .u64 0, .int .u64 0, .int .u64 0], .bool false]) (by simp [results, Try.results75, go_sem]) rfl ⟨rfl, ?_⟩
  repeat' (first | (with_reducible exact Below.refl _ _) | (with_reducible assumption) | (with_reducible refine Below.drew ?_) | (with_reducible refine Below.alloc ?_ ?_ _) | (with_reducible refine Below.setCell ?_ ?_ _) | (with_reducible refine Flo.below_step ?_ (by assumption)) | (simp; done) | (simp; omega))

theorem Four0 : #[Value.int .u64 (l0 0), .int .u64 (l1 0), .int .u64 (l2 0), .int .u64 (l3 0)] = #[.int .u64 0, .int .u64 0, .int .u64 0, .int .u64 0] := by
  have e0 : l0 0 = 0 := by unfold l0; rfl
  have e1 : l1 0 = 0 := by unfold l1; rfl
  have e2 : l2 0 = 0 := by unfold l2; rfl
  have e3 : l3 0 = 0 := by unfold l3; rfl
  rw [e0, e1, e2, e3]

/-- What a round of Div finds in memory. -/
structure DivW (w0 wr : World) (B r k qq : Nat) : Prop where
  below : Below w0.heap.size w0 wr
  base : w0.heap.size ≤ B
  a : Four wr B 32 r
  b : Four wr (B + 1) 32 k
  x : Four wr (B + 1 + 1) 32 0
  y : Four wr (B + 1 + 1 + 1) 32 0
  q : Four wr (B + 1 + 1 + 1 + 1) 32 qq

/-- A round's head of Div. -/
def DivR (m k : Nat) (w : World) (n : Value) (wr : World) : Prop :=
  ∃ (v : Int) (s r qq : Nat), n = .int .i64 v ∧ (v + 1 = s ∨ (v < 0 ∧ s = 0)) ∧ DivS m k s r qq ∧ DivW w wr w.heap.size r k qq

theorem DivW.keep {w0 wr w1 : World} {r k qq : Nat} (h : DivW w0 wr w0.heap.size r k qq) (hb : Below wr.heap.size wr w1) : DivW w0 w1 w0.heap.size r k qq :=
  ⟨below_step h.below hb, h.base, h.a.below hb, h.b.below hb, h.x.below hb, h.y.below hb, h.q.below hb⟩
theorem DivW.drew {w0 wr : World} {r k qq : Nat} (h : DivW w0 wr w0.heap.size r k qq) : DivW w0 wr.drew w0.heap.size r k qq := h.keep (Below.refl _ _).drew
/-- What is left is written. -/
theorem DivW.setA {w0 wr : World} {r k qq : Nat} (h : DivW w0 wr w0.heap.size r k qq) (r' : Nat) :
    DivW w0 ((((wr.setCell ⟨w0.heap.size, 0, none⟩ (.int .u64 (l0 r'))).setCell ⟨w0.heap.size, 1, none⟩ (.int .u64 (l1 r'))).setCell ⟨w0.heap.size, 2, none⟩ (.int .u64 (l2 r'))).setCell ⟨w0.heap.size, 3, none⟩ (.int .u64 (l3 r'))) w0.heap.size r' k qq := by
  refine ⟨?_, h.base, Four.made h.a.row, ?_, ?_, ?_, ?_⟩
  · exact (((h.below.setCell (Nat.le_refl _) _).setCell (Nat.le_refl _) _).setCell (Nat.le_refl _) _).setCell (Nat.le_refl _) _
  · exact (((h.b.other (by first | (simp; done) | (simp; omega)) _).other (by first | (simp; done) | (simp; omega)) _).other (by first | (simp; done) | (simp; omega)) _).other (by first | (simp; done) | (simp; omega)) _
  · exact (((h.x.other (by first | (simp; done) | (simp; omega)) _).other (by first | (simp; done) | (simp; omega)) _).other (by first | (simp; done) | (simp; omega)) _).other (by first | (simp; done) | (simp; omega)) _
  · exact (((h.y.other (by first | (simp; done) | (simp; omega)) _).other (by first | (simp; done) | (simp; omega)) _).other (by first | (simp; done) | (simp; omega)) _).other (by first | (simp; done) | (simp; omega)) _
  · exact (((h.q.other (by first | (simp; done) | (simp; omega)) _).other (by first | (simp; done) | (simp; omega)) _).other (by first | (simp; done) | (simp; omega)) _).other (by first | (simp; done) | (simp; omega)) _
/-- A digit is written. -/
theorem DivW.setQ {w0 wr : World} {r k qq q' : Nat} (h : DivW w0 wr w0.heap.size r k qq) (j : Nat) (v : Value)
    (hq : (#[Value.int .u64 (l0 qq), .int .u64 (l1 qq), .int .u64 (l2 qq), .int .u64 (l3 qq)]).setIfInBounds j v = #[.int .u64 (l0 q'), .int .u64 (l1 q'), .int .u64 (l2 q'), .int .u64 (l3 q')]) :
    DivW w0 (wr.setCell ⟨w0.heap.size + 1 + 1 + 1 + 1, j, none⟩ v) w0.heap.size r k q' := by
  refine ⟨h.below.setCell (by first | (simp; done) | (simp; omega)) _, h.base, h.a.other (by first | (simp; done) | (simp; omega)) _, h.b.other (by first | (simp; done) | (simp; omega)) _, h.x.other (by first | (simp; done) | (simp; omega)) _, h.y.other (by first | (simp; done) | (simp; omega)) _, ⟨?_⟩⟩
  rw [Go.heap_setCell_same _ _ j _ _ v h.q.row, hq]

theorem quad0 (qq t p : Nat) (ht : t = 0 + p) (hp : p < 64) :
    (#[Value.int .u64 (l0 qq), .int .u64 (l1 qq), .int .u64 (l2 qq), .int .u64 (l3 qq)]).setIfInBounds 0 (.int .u64 (bits .or .u64 (l0 qq) (IntKind.u64.wrap (2 ^ p)))) = #[.int .u64 (l0 (qq ||| 2 ^ t)), .int .u64 (l1 (qq ||| 2 ^ t)), .int .u64 (l2 (qq ||| 2 ^ t)), .int .u64 (l3 (qq ||| 2 ^ t))] := by
  have e := or_bit qq t 0 p (by omega)
  have n (i : Nat) (hi : i ≠ 0) := or_bit_ne qq t i 0 p (by omega) hp hi
  simp only [l0_li, l1_li, l2_li, l3_li, e]
  rw [n 1 (by decide), n 2 (by decide), n 3 (by decide)]
  rfl
theorem quad1 (qq t p : Nat) (ht : t = 64 + p) (hp : p < 64) :
    (#[Value.int .u64 (l0 qq), .int .u64 (l1 qq), .int .u64 (l2 qq), .int .u64 (l3 qq)]).setIfInBounds 1 (.int .u64 (bits .or .u64 (l1 qq) (IntKind.u64.wrap (2 ^ p)))) = #[.int .u64 (l0 (qq ||| 2 ^ t)), .int .u64 (l1 (qq ||| 2 ^ t)), .int .u64 (l2 (qq ||| 2 ^ t)), .int .u64 (l3 (qq ||| 2 ^ t))] := by
  have e := or_bit qq t 1 p (by omega)
  have n (i : Nat) (hi : i ≠ 1) := or_bit_ne qq t i 1 p (by omega) hp hi
  simp only [l0_li, l1_li, l2_li, l3_li, e]
  rw [n 0 (by decide), n 2 (by decide), n 3 (by decide)]
  rfl
theorem quad2 (qq t p : Nat) (ht : t = 128 + p) (hp : p < 64) :
    (#[Value.int .u64 (l0 qq), .int .u64 (l1 qq), .int .u64 (l2 qq), .int .u64 (l3 qq)]).setIfInBounds 2 (.int .u64 (bits .or .u64 (l2 qq) (IntKind.u64.wrap (2 ^ p)))) = #[.int .u64 (l0 (qq ||| 2 ^ t)), .int .u64 (l1 (qq ||| 2 ^ t)), .int .u64 (l2 (qq ||| 2 ^ t)), .int .u64 (l3 (qq ||| 2 ^ t))] := by
  have e := or_bit qq t 2 p (by omega)
  have n (i : Nat) (hi : i ≠ 2) := or_bit_ne qq t i 2 p (by omega) hp hi
  simp only [l0_li, l1_li, l2_li, l3_li, e]
  rw [n 0 (by decide), n 1 (by decide), n 3 (by decide)]
  rfl
theorem quad3 (qq t p : Nat) (ht : t = 192 + p) (hp : p < 64) :
    (#[Value.int .u64 (l0 qq), .int .u64 (l1 qq), .int .u64 (l2 qq), .int .u64 (l3 qq)]).setIfInBounds 3 (.int .u64 (bits .or .u64 (l3 qq) (IntKind.u64.wrap (2 ^ p)))) = #[.int .u64 (l0 (qq ||| 2 ^ t)), .int .u64 (l1 (qq ||| 2 ^ t)), .int .u64 (l2 (qq ||| 2 ^ t)), .int .u64 (l3 (qq ||| 2 ^ t))] := by
  have e := or_bit qq t 3 p (by omega)
  have n (i : Nat) (hi : i ≠ 3) := or_bit_ne qq t i 3 p (by omega) hp hi
  simp only [l0_li, l1_li, l2_li, l3_li, e]
  rw [n 0 (by decide), n 1 (by decide), n 2 (by decide)]
  rfl

set_option maxHeartbeats 600000 in
theorem div_some (m k : Nat) (hm : m < top) (hk : k < top) (h0 : k ≠ 0) (w : World) :
    Calls Try.prog 75 #[uV m, uV k] w fun e w' => e = .returned (.tuple #[uV (m / k), uV (m % k), .bool true]) ∧ Below w.heap.size w w' := by
  have ne : (l0 k == 0 && (l1 k == 0 && (l2 k == 0 && l3 k == 0))) = false := by
    have := (is4_of hk).eq
    by_cases h : l0 k = 0 ∧ l1 k = 0 ∧ l2 k = 0 ∧ l3 k = 0
    · obtain ⟨h1, h2, h3, h4⟩ := h; rw [h1, h2, h3, h4] at this; omega
    · simp; omega
  have lm := lenN_top hm
  have lk := lenN_top hk
  have Lm := Lib.hid (len_c m hm)
  have Lk := Lib.hid (len_c k hk)
  have H0 := Lib.hid h0
  have Hm := Lib.hid hm
  have Hk := Lib.hid hk
  clear hm hk h0
  go_enter Try.func75, Try.ntmps75
  go_wp2
  (refine Flo.wp_region_held ((fun b => b < w.heap.size + 5)) (by kernel_rfl) (by decide +kernel) ?_; repeat (first | (refine Flo.au_skip (by exact rfl) (by exact rfl) ?_; simp only [Act.put, List.setIfInBounds_toArray, List.set_cons_zero, List.set_cons_succ]) | (refine Flo.hx_free (by exact rfl) (by exact rfl) (by exact rfl) ?_; intro K hK; go_big_quiet_op; go_big_quiet_on) | (refine Flo.au_move (by exact rfl) (by exact rfl) ?_; intro K hK; go_wp2_with ((go_at_call 69; (first | (with_reducible refine (Lm.out _).mono ?_) | (with_reducible refine (Lk.out _).mono ?_)); rintro e w1 ⟨rfl, hb⟩; obtain ⟨hc, hf, hz⟩ := bcell hb)); refine ⟨(by repeat' (first | (with_reducible assumption) | (with_reducible exact InExt.refl _ _) | (with_reducible refine InExt.drew ?_) | (with_reducible refine InExt.alloc ?_ ?_ _) | (with_reducible refine InExt.setCell ?_ ?_ _) | (with_reducible refine InExt.below ?_ ?_ (by assumption)) | (simp; done) | (simp; omega))), ?_⟩) | (refine Flo.mix_nil ?_)))
  go_wp2
  rename_i w1' hb1 _ _ _
  have hW0 : DivW w w1 w.heap.size m k 0 := by
    refine ⟨?_, Nat.le_refl _, ?_, ?_, ?_, ?_, ?_⟩
    · repeat' (first | (with_reducible exact Below.refl _ _) | (with_reducible assumption) | (with_reducible refine Below.drew ?_) | (with_reducible refine Below.alloc ?_ ?_ _) | (with_reducible refine Below.setCell ?_ ?_ _) | (with_reducible refine Flo.below_step ?_ (by assumption)) | (simp; done) | (simp; omega))
    all_goals refine Four.below (Four.below ⟨?_⟩ hb1) hb
    all_goals try rw [Four0]
    all_goals
      (simp only [heap_drew, Flo.heap_alloc_get, World.size_alloc]; repeat (first | rw [if_pos (by first | trivial | omega)] | rw [if_neg (by omega)]))
  clear hb1 hb hc hf hz
  have HW0 := Lib.hid hW0
  clear hW0
  go_loopw [8] (fun n wr => DivR m k w n wr) (fun n _ => (intOf n + 1).toNat)
  case atStart =>
    exact ⟨_, _, m, 0, rfl, by omega, DivS.start H0.out Hm.out Hk.out, HW0.out⟩
  case round =>
    obtain ⟨v, s, r, qq, rfl, hv, hS, hW⟩ := hrel
    have HV := Lib.hid hv
    have HS := Lib.hid hS
    have HW := Lib.hid hW
    by_cases hneg : v < 0
    · obtain ⟨a0, a1, a2, a3, af⟩ := hW.a.cells
      obtain ⟨q0, q1, q2, q3, qf⟩ := hW.q.cells
      obtain ⟨x0, x1, x2, x3, xf⟩ := hW.x.cells
      obtain ⟨y0, y1, y2, y3, yf⟩ := hW.y.cells
      clear hv hS hW
      go_wp2
      (refine Flo.wp_region_held ((fun b => b = w.heap.size ∨ b = w.heap.size + 1 + 1 + 1 + 1)) (by kernel_rfl) (by decide +kernel) ?_; repeat (first | (refine Flo.au_skip (by exact rfl) (by exact rfl) ?_; simp only [Act.put, List.setIfInBounds_toArray, List.set_cons_zero, List.set_cons_succ]) | (refine Flo.hx_free (by exact rfl) (by exact rfl) (by exact rfl) ?_; intro K hK; go_big_quiet_op; go_big_quiet_on) | (refine Flo.au_move (by exact rfl) (by exact rfl) ?_; intro K hK; go_wp2_with (fail); refine ⟨(by repeat' (first | (with_reducible assumption) | (with_reducible exact InExt.refl _ _) | (with_reducible refine InExt.drew ?_) | (with_reducible refine InExt.alloc ?_ ?_ _) | (with_reducible refine InExt.setCell ?_ ?_ _) | (with_reducible refine InExt.below ?_ ?_ (by assumption)) | (simp; done) | (simp; omega))), ?_⟩) | (refine Flo.mix_nil ?_)))
      go_wp2
      have hz : s = 0 := by have := HV.out; omega
      have hb0 := HW.out.below
      subst hz
      obtain ⟨e1, e2⟩ := HS.out.done
      rw [← e1, ← e2]
      unfold uV
      refine bodyPost_ret (v := .tuple #[.agg #[.int .u64 (l0 qq), .int .u64 (l1 qq), .int .u64 (l2 qq), .int .u64 (l3 qq)], .agg #[.int .u64 (l0 r), .int .u64 (l1 r), .int .u64 (l2 r), .int .u64 (l3 r)], .bool true]) (by simp [results, Try.results75, go_sem, x0, x1, x2, x3, y0, y1, y2, y3]) rfl ⟨rfl, ?_⟩
      repeat' (first | (with_reducible exact Below.refl _ _) | (with_reducible assumption) | (with_reducible refine Below.drew ?_) | (with_reducible refine Below.alloc ?_ ?_ _) | (with_reducible refine Below.setCell ?_ ?_ _) | (with_reducible refine Flo.below_step ?_ (by assumption)) | (simp; done) | (simp; omega))
    · clear hv hS hW
      obtain ⟨t, rfl⟩ : ∃ t : Nat, v = t := ⟨v.toNat, by omega⟩
      have hs : s = t + 1 := by have := HV.out; omega
      subst hs
      obtain ⟨hup, t256⟩ := HS.out.up
      obtain ⟨rt, qt⟩ := HS.out.rt
      obtain ⟨d, hd⟩ : ∃ d, d = k * 2 ^ t := ⟨_, rfl⟩
      rw [← hd] at hup
      have LS : Hid (∀ w, Calls Try.prog 74 #[uV k, .int .i64 t] w fun e w' => e = .returned (.tuple #[uV d, .bool false]) ∧ Below w.heap.size w w') := fun w => by
        have := shl_c k Hk.out t w
        rw [Int.toNat_natCast, ← hd, Nat.mod_eq_of_lt hup, decide_eq_false (by omega)] at this
        exact this
      have LC := Lib.hid (cmp_c r d rt hup)
      have LB := Lib.hid (sub_c r d rt hup)
      obtain ⟨a0, a1, a2, a3, af⟩ := HW.out.a.cells
      obtain ⟨b0, b1, b2, b3, bf⟩ := HW.out.b.cells
      obtain ⟨q0, q1, q2, q3, qf⟩ := HW.out.q.cells
      have lta := HW.out.a.lt
      have ltb := HW.out.b.lt
      have ltq := HW.out.q.lt
      have Hup := Lib.hid hup
      have Hd := Lib.hid hd
      have Hrt := Lib.hid rt
      clear hup hd rt qt HV
      by_cases hge : d ≤ r
      · have hc0 : 0 ≤ cmpI r d := cmpI_ge hge
        have eb : (r + top - d) % top = r - d := sub_top Hrt.out hge
        have LB' : Hid (∀ w, Calls Try.prog 36 #[uV r, uV d] w fun e w' => e = .returned (.tuple #[uV (r - d), .bool (decide (r < d))]) ∧ Below w.heap.size w w') := by
          have := LB.out
          rw [eb] at this
          exact this
        obtain ⟨p, hp⟩ : ∃ p : Nat, p = t % 64 := ⟨_, rfl⟩
        have p1 : p < 64 := by omega
        have hp' : (t : Int) % 64 = p := by omega
        have ht : t = 64 * (t / 64) + p := by omega
        have hq : (t / 64 = 0 ∧ (t : Int) / 64 = 0) ∨ (t / 64 = 1 ∧ (t : Int) / 64 = 1) ∨ (t / 64 = 2 ∧ (t : Int) / 64 = 2) ∨ (t / 64 = 3 ∧ (t : Int) / 64 = 3) := by omega
        have Hge := Lib.hid hge
        have Ht := Lib.hid ht
        clear eb LB hp hge ht
        rcases hq with ⟨hq, hqi⟩ | ⟨hq, hqi⟩ | ⟨hq, hqi⟩ | ⟨hq, hqi⟩
        all_goals
          have Hq := Lib.hid hq
          clear hq
          go_wp2_with (first | (go_at_call 74; (with_reducible refine (LS.out _).mono ?_); rintro e w1 ⟨rfl, hb⟩; obtain ⟨hc, hf, hz⟩ := bcell hb; have la1 : w.heap.size < w1.heap.size := Nat.lt_of_lt_of_le lta hz; have lb1 := Nat.lt_of_lt_of_le ltb hz; have lq1 := Nat.lt_of_lt_of_le ltq hz; have lq1' := Nat.lt_of_succ_lt lq1) | (go_at_call 38; (with_reducible refine (LC.out _).mono ?_); rintro e w2 ⟨rfl, hb'⟩; obtain ⟨hc', hf', hz'⟩ := bcell hb'; rw [World.size_alloc] at hz'; have la2 := Nat.lt_trans la1 hz'; have lb2 := Nat.lt_trans lb1 hz'; have lq2 := Nat.lt_trans lq1 hz'; have ld2 : w1.heap.size < w2.heap.size := hz') | (go_at_call 36; (with_reducible refine (LB'.out _).mono ?_); rintro e w3 ⟨rfl, hb''⟩; obtain ⟨hc'', hf'', hz''⟩ := bcell hb''; have la3 := Nat.lt_of_lt_of_le la2 hz''; have lq3 := Nat.lt_of_lt_of_le lq2 hz''))
          refine ⟨⟨(t : Int) - 1, t, r - d, qq ||| 2 ^ t, rfl, .inl (by omega), ?_, ?_⟩, by simp only [intOf]; omega⟩
          · have h1 := HS.out
            have h2 := Hge.out
            rw [Hd.out] at h2 ⊢
            exact h1.yes h2
          · have h2 := Ht.out
            rw [Hq.out] at h2
            have hW' := (((HW.out.keep hb).keep ((Below.refl _ _).alloc (Nat.le_refl _) _)).keep hb').keep hb''
            first
              | ((with_reducible refine (hW'.setA (r - d)).setQ 0 _ ?_); exact quad0 qq t p (by omega) p1)
              | ((with_reducible refine (hW'.setA (r - d)).setQ 1 _ ?_); exact quad1 qq t p (by omega) p1)
              | ((with_reducible refine (hW'.setA (r - d)).setQ 2 _ ?_); exact quad2 qq t p (by omega) p1)
              | ((with_reducible refine (hW'.setA (r - d)).setQ 3 _ ?_); exact quad3 qq t p (by omega) p1)
      · have hc0 : cmpI r d = -1 := cmpI_lt (by omega)
        go_wp2_with (first | (go_at_call 74; (with_reducible refine (LS.out _).mono ?_); rintro e w1 ⟨rfl, hb⟩; obtain ⟨hc, hf, hz⟩ := bcell hb; have la1 : w.heap.size < w1.heap.size := Nat.lt_of_lt_of_le lta hz; have lb1 := Nat.lt_of_lt_of_le ltb hz; have lq1 := Nat.lt_of_lt_of_le ltq hz; have lq1' := Nat.lt_of_succ_lt lq1) | (go_at_call 38; (with_reducible refine (LC.out _).mono ?_); rintro e w2 ⟨rfl, hb'⟩; obtain ⟨hc', hf', hz'⟩ := bcell hb'; rw [World.size_alloc] at hz'; have la2 := Nat.lt_trans la1 hz'; have lb2 := Nat.lt_trans lb1 hz'; have lq2 := Nat.lt_trans lq1 hz'))
        exact ⟨⟨(t : Int) - 1, t, r, qq, rfl, .inl (by omega), HS.out.no (by have := Hd.out; omega), ((HW.out.keep hb).keep ((Below.refl _ _).alloc (Nat.le_refl _) _)).keep hb'⟩, by simp only [intOf]; omega⟩

/-- Div. -/
theorem div_c (m k : Nat) (hm : m < top) (hk : k < top) (w : World) :
    Calls Try.prog 75 #[uV m, uV k] w fun e w' => e = .returned (.tuple #[uV (if k = 0 then 0 else m / k), uV (if k = 0 then 0 else m % k), .bool (decide (k ≠ 0))]) ∧ Below w.heap.size w w' := by
  by_cases h : k = 0
  · subst h; exact div_zero m w
  · rw [if_neg h, if_neg h, decide_eq_true h]; exact div_some m k hm hk h w
end Go.Proofs.Ytkgjgdeaclefiaa

/-! u256.Hex. -/
namespace Go.Proofs.Ytkgjgdeaclefiaa
open Go Go.Proofs Go.RowKit Go.Flo

/-- A digit's sign. -/
def sgn (d : Nat) : Int := if d < 10 then 48 + d else 87 + d
/-- The first t signs of the last K + 1. -/
def hexL (m K t : Nat) : List Int := (List.range t).map fun s => sgn (m / 16 ^ (K - s) % 16)
def strOf (ns : List Int) : ByteArray := ns.foldl (fun r n => r.push (UInt8.ofNat n.toNat)) ByteArray.empty
def hexS (m : Nat) : ByteArray := strOf (hexL m ((lenN m - 1) / 4) ((lenN m - 1) / 4 + 1))

theorem own_string {e src dst : TypeId} {w : World} {base n : Nat} {v : Value} {xs : List Int} (hs : Try.prog.underlying src = some (.slice e)) (he : Try.prog.underlying e = some (.int .u8)) (hd : Try.prog.underlying dst = some .string)
    (h : w.ownsRow base e 1 v n (xs.map (Value.int .u8))) (hn : 0 < n) : (convert src dst v).run Try.prog w = .ok (.string (strOf xs)) w := by
  have h' := h
  obtain ⟨hl, ⟨_, rfl⟩ | ⟨g, cap, cur, rfl, _, hg, _, _, _, ht⟩⟩ := h
  · omega
  · rw [run_convert_bytes_string w src dst e _ _ _ hs he hd]
    refine run_bytesToString w ⟨g, 0, none⟩ n cap xs ?_
    have hl' : (xs.map (Value.int .u8)).length = n := by simpa using hl
    rw [← hl']
    exact run_loadCells_list w ⟨g, 0, none⟩ _ (h'.cells rfl)

theorem sgn_get (d : Nat) (hd : d < 16) (h : ((d : Int)).toNat < (ByteArray.mk #[48, 49, 50, 51, 52, 53, 54, 55, 56, 57, 97, 98, 99, 100, 101, 102]).size) :
    ((((ByteArray.mk #[48, 49, 50, 51, 52, 53, 54, 55, 56, 57, 97, 98, 99, 100, 101, 102])[((d : Int)).toNat]'h).toNat : Nat) : Int) = sgn d := by
  have key : ∀ d : Fin 16, ∀ h, ((((ByteArray.mk #[48, 49, 50, 51, 52, 53, 54, 55, 56, 57, 97, 98, 99, 100, 101, 102])[((d.1 : Int)).toNat]'h).toNat : Nat) : Int) = sgn d.1 := by decide +kernel
  exact key ⟨d, hd⟩ h
theorem hexL_succ (m K t : Nat) : hexL m K (t + 1) = hexL m K t ++ [sgn (m / 16 ^ (K - t) % 16)] := by
  unfold hexL
  rw [List.range_succ, List.map_append]
  rfl

theorem own_below {w w' : World} {base n size : Nat} {e : TypeId} {v : Value} {xs : List Value} (h : w.ownsRow base e size v n xs) (hb : Below w.heap.size w w') : w'.ownsRow base e size v n xs := by
  obtain ⟨hl, h0 | ⟨g, cap, cur, hv, hb', hg, rest⟩⟩ := h
  · exact ⟨hl, .inl h0⟩
  · exact ⟨hl, .inr ⟨g, cap, cur, hv, hb', (hb.block g (heap_lt hg)).trans hg, rest⟩⟩
theorem locs_belowN {B : Nat} {w w' : World} {l : List (Nat × Array Value × TypeId)} (h : Locs w l) (hl : ∀ x ∈ l, x.1 < B) (hb : Below B w w') : Locs w' l := h.others fun x hx => hb.block _ (hl x hx)

structure HexR (m K : Nat) (w0 : World) (v i : Value) (wr : World) (t : Nat) : Prop where
  le : t ≤ K + 1
  at_ : i = .int .i64 ((K : Int) - t)
  own : wr.ownsRow (w0.heap.size + 1) 5 1 v t ((hexL m K t).map (Value.int .u8))
  locs : Locs wr [(w0.heap.size, #[.int .u64 (l0 m), .int .u64 (l1 m), .int .u64 (l2 m), .int .u64 (l3 m)], 32)]
  below : Below w0.heap.size w0 wr

theorem hexK (m : Nat) (hm : m < top) : ∃ K : Nat, Hid (K = (lenN m - 1) / 4) ∧ K ≤ 63 ∧ lenN m ≤ 256 ∧ max ((lenN m : Int) - 1) 0 / 4 = (K : Int) := by
  have h := lenN_top hm
  exact ⟨_, rfl, by omega, h, by omega⟩

theorem hex_digit (m j : Nat) : ∃ X d : Nat, Hid (X = m / 2 ^ ((j : Int) * 4).toNat) ∧ d < 16 ∧ Hid (d = m / 16 ^ j % 16) ∧ bits .and .u64 (l0 X) 15 = (d : Int) := by
  refine ⟨_, _, rfl, ?_, rfl, ?_⟩
  · omega
  · have e : ((j : Int) * 4).toNat = 4 * j := by omega
    rw [e]
    unfold l0
    rw [show (15 : Int) = ((15 : Nat) : Int) from rfl, Go.u64_and_nat _ _ (Nat.mod_lt _ (by decide)) (by decide)]
    congr 1
    rw [show (15 : Nat) = 2 ^ 4 - 1 from rfl, Nat.and_two_pow_sub_one_eq_mod, Nat.pow_mul, show (2 ^ 4 : Nat) = 16 from rfl]
    omega

set_option maxRecDepth 100000 in
set_option maxHeartbeats 4000000 in
theorem hex_c (m : Nat) (hm : m < top) (w0 : World) :
    Calls Try.prog 83 #[uV m] w0 fun e w' => e = .returned (.string (hexS m)) ∧ Below w0.heap.size w0 w' := by
  obtain ⟨K, hK, hK63, hL, eK⟩ := hexK m hm
  obtain ⟨i0, hi, hz0, hz1, hz2⟩ : ∃ i : TypeInfo, Try.prog.info? 5 = some i ∧ i.zero = some (.int .u8 0) ∧ i.size = 1 ∧ i.bytes = 1 := ⟨_, rfl, rfl, rfl, rfl⟩
  have L := Locs.nil w0; have B := Below.refl w0.heap.size w0; have Bz := B.size; have F := Locs.facts L; simp only [LocFacts] at F
  go_enter Try.func83, Try.ntmps83
  go_wp2_with (first | (go_at_call 69; (with_reducible refine ((len_c m hm) _).mono ?_); rintro e w1 ⟨rfl, hb⟩; replace L := Locs.below (by (first | (with_reducible exact L) | (with_reducible exact Locs.push L) | (with_reducible exact Locs.push (Locs.push L)) | (with_reducible exact Locs.push (Locs.push (Locs.push L))) | (with_reducible exact Locs.push (Locs.push (Locs.push (Locs.push L)))) | (with_reducible exact Locs.drew L) | (with_reducible exact Locs.drew (Locs.push L)) | (with_reducible exact Locs.push (Locs.drew L)))) hb; (replace B := Flo.below_step (w := w0) (by repeat' (first | (with_reducible exact Below.refl _ _) | (with_reducible assumption) | (with_reducible refine Below.drew ?_) | (with_reducible refine Below.alloc ?_ ?_ _) | (with_reducible refine Below.setCell ?_ ?_ _) | (with_reducible refine Flo.below_step ?_ (by assumption)) | (simp; done) | (simp; omega))) hb); clear hb; (try clear F); (try clear Bz); (try simp only [World.size_alloc] at L); (try simp only [heap_drew] at L); have Bz := B.size; have F := Locs.facts L; simp only [LocFacts] at F))
  rw [eK]
  clear eK hL
  have L1 := L.2
  go_loopw [3, 4] (fun v i wr => ∃ t, HexR m K w0 v i wr t) (fun _ i _ => (intOf i + 1).toNat)
  case atStart => exact ⟨0, Nat.zero_le _, by simp, ⟨rfl, .inr ⟨_, 0, #[], rfl, by omega, L.1, by omega, by decide, rfl, rfl⟩⟩, L1, B⟩
  case round =>
    obtain ⟨t, le, rfl, own, L2, B2⟩ := hrel
    rcases Nat.lt_or_ge K t with hlt | hge
    · obtain rfl : t = K + 1 := by omega
      have ei : ((K : Int) - ((K + 1 : Nat) : Int)) = -1 := by omega
      rw [ei]
      have hconv := own_string Try.underlying42 Try.underlying5 Try.underlying9 own (by omega)
      go_wp2
      refine bodyPost_ret (v := .string (hexS m)) (by simp [results, Try.results83, go_sem, hexS, hK.out]) rfl ⟨rfl, B2⟩
    · obtain ⟨j, hj⟩ : ∃ j, K = t + j := ⟨K - t, by omega⟩
      have ei : ((K : Int) - (t : Int)) = (j : Int) := by omega
      have hj63 : j ≤ 63 := by omega
      rw [ei]
      obtain ⟨X, d, hX, hd16, hd, hb⟩ := hex_digit m j
      have cS := fun w => shr_c m hm ((j : Int) * 4) w
      rw [← hX.out] at cS
      unfold uV at cS
      have Hj := Lib.hid hj
      have Hle := Lib.hid hge
      clear L1 L B F Bz ei hj hge
      have L := L2
      have B := B2
      have Bz := B.size
      have F := Locs.facts L
      simp only [LocFacts] at F
      clear L2 B2
      go_wp2_with (first
        | (go_at_call 76; (with_reducible refine (cS _).mono ?_); rintro e w1 ⟨rfl, hb1⟩)
        | (at_builtin; refine wpList_append_own _ rfl _ _ 42 rfl (w0.heap.size + 1) 5 i0 (.int .u8 0) 1 1 Try.underlying42 hi hz0 hz1 hz2 rfl (by decide) _ _ _ rfl ((own_below own hb1).alloc _) ⟨w1.heap.size, 0, none⟩ 1 1 [.int .u8 (sgn d)] rfl rfl ?c1 ?c2 ?c3 ?c4 ?c5 ?_))
      case c1 =>
        intro k u hk
        match k, hk with
        | 0, hk => simp at hk; subst hk; rw [← sgn_get d hd16 (by exact hd16)]; simp [Addr.add, go_sem]
      case c2 => intro u hu; simp at hu; subst hu; rfl
      case c3 => have := Hj.out; unfold maxLen; omega
      case c4 => have := Hj.out; omega
      case c5 => have := hb1.size; simp; omega
      intro v' w2 hown' hgrow _
      have R : HexR m K w0 v' (.int .i64 ((j : Int) - 1)) w2 (t + 1) := by
        have hj := Hj.out
        have z1 := hb1.size
        have hlt := own.lt
        refine ⟨by omega, by congr 1; omega, ?_, ?_, ?_⟩
        · rw [hexL_succ, List.map_append, show K - t = j by omega, ← hd.out]
          exact hown'
        · refine locs_belowN (B := w0.heap.size + 1) L (by simp) ?_
          refine Below.grown (((hb1.mono (by omega)).alloc (by omega) _)) hgrow (by simp; omega) (fun k hk => (hlt k hk).1)
        · refine Below.grown ((below_step B hb1).alloc (by omega) _) hgrow (by simp; omega) (fun k hk => Nat.le_of_succ_le (hlt k hk).1)
      clear own hown' hgrow
      go_wp2
      exact ⟨⟨_, R⟩, by simp only [intOf]; omega⟩
end Go.Proofs.Ytkgjgdeaclefiaa

/-! florinlaw01: awake, ours. -/
namespace Go.Proofs.Ytkgjgdeaclefiaa
open Go Go.Proofs Go.RowKit Go.Flo

/-- A contract with no ground. -/
abbrev Gives (f : FuncId) (args : Array Value) (v : Value) : Prop := ∀ w, Calls Try.prog f args w fun e w' => e = .returned v ∧ Below w.heap.size w w'

theorem top_big : 18446744073709551616 < top := by unfold top; decide
theorem not_zero_c : Gives 37 #[.agg #[.int .u64 0, .int .u64 0, .int .u64 0, .int .u64 0]] (uV (top - 1)) := fun w => by
  rw [uV_zero]
  exact not_c 0 (Nat.lt_trans (by decide) top_big) w
theorem of_lit (x : Nat) (h : x < 18446744073709551616) : Gives 72 #[.int .u64 (x : Int)] (uV x) := fun w => of_c (x : Int) ⟨by omega, by omega⟩ w
theorem add_awake : Gives 35 #[uV (top - 1), uV 1] (.tuple #[.agg #[.int .u64 0, .int .u64 0, .int .u64 0, .int .u64 0], .bool true]) := fun w => by
  have h := Nat.lt_trans (show 1 < 18446744073709551616 by decide) top_big
  have := add_c (top - 1) 1 (by omega) h w
  rw [show top - 1 + 1 = top by omega, Nat.mod_self, decide_eq_true (Nat.le_refl _), ← uV_zero] at this
  exact this
theorem lenN5 : lenN 5 = 3 := by decide +kernel
theorem hexS255 : hexS 255 = ⟨#[102, 102]⟩ := by kernel_rfl
theorem len_awake : Gives 69 #[uV 5] (.int .i64 3) := fun w => by
  have := len_c 5 (Nat.lt_trans (by decide) top_big) w
  rw [lenN5] at this
  exact this
theorem hex_awake : Gives 83 #[uV 255] (.string ⟨#[102, 102]⟩) := fun w => by
  have := hex_c 255 (Nat.lt_trans (by decide) top_big) w
  rw [hexS255] at this
  exact this

theorem ours1_c (n : Nat) (w : World) : Calls Try.prog 34 #[uV n] w fun e w' => e = .returned (uV n) ∧ Below w.heap.size w w' := by
  unfold uV
  go_enter Try.func34, Try.ntmps34
  go_wp2
  refine bodyPost_ret (v := .agg #[.int .u64 (l0 n), .int .u64 (l1 n), .int .u64 (l2 n), .int .u64 (l3 n)]) (by simp [results, Try.results34, go_sem]) rfl ⟨rfl, ?_⟩
  repeat' (first | (with_reducible exact Below.refl _ _) | (with_reducible assumption) | (with_reducible refine Below.drew ?_) | (with_reducible refine Below.alloc ?_ ?_ _) | (with_reducible refine Below.setCell ?_ ?_ _) | (with_reducible refine Flo.below_step ?_ (by assumption)) | (simp; done) | (simp; omega))

set_option maxRecDepth 100000 in
set_option maxHeartbeats 4000000 in
theorem awake1 (w0 : World) : Calls Try.prog 33 #[] w0 fun e w' => e = .returned (.bool true) ∧ Below w0.heap.size w0 w' := by
  have O1 : Gives 72 #[.int .u64 1] (uV 1) := of_lit 1 (by decide)
  have O5 : Gives 72 #[.int .u64 5] (uV 5) := of_lit 5 (by decide)
  have O255 : Gives 72 #[.int .u64 255] (uV 255) := of_lit 255 (by decide)
  have L := Locs.nil w0; have B := Below.refl w0.heap.size w0; have Bz := B.size; have F := Locs.facts L; simp only [LocFacts] at F
  go_enter Try.func33, Try.ntmps33
  go_wp2_with (first | (go_at_call 37; (with_reducible refine (not_zero_c _).mono ?_); rintro e w1 ⟨rfl, hb⟩; replace L := Locs.below (by (first | (with_reducible exact L) | (with_reducible exact Locs.push L) | (with_reducible exact Locs.push (Locs.push L)) | (with_reducible exact Locs.push (Locs.push (Locs.push L))) | (with_reducible exact Locs.push (Locs.push (Locs.push (Locs.push L)))) | (with_reducible exact Locs.drew L) | (with_reducible exact Locs.drew (Locs.push L)) | (with_reducible exact Locs.push (Locs.drew L)))) hb; (replace B := Flo.below_step (w := w0) (by repeat' (first | (with_reducible exact Below.refl _ _) | (with_reducible assumption) | (with_reducible refine Below.drew ?_) | (with_reducible refine Below.alloc ?_ ?_ _) | (with_reducible refine Below.setCell ?_ ?_ _) | (with_reducible refine Flo.below_step ?_ (by assumption)) | (simp; done) | (simp; omega))) hb); clear hb; (try clear F); (try clear Bz); (try simp only [World.size_alloc] at L); (try simp only [heap_drew] at L); have Bz := B.size; have F := Locs.facts L; simp only [LocFacts] at F) | (go_at_call 72; (with_reducible refine (O1 _).mono ?_); rintro e w1 ⟨rfl, hb⟩; replace L := Locs.below (by (first | (with_reducible exact L) | (with_reducible exact Locs.push L) | (with_reducible exact Locs.push (Locs.push L)) | (with_reducible exact Locs.push (Locs.push (Locs.push L))) | (with_reducible exact Locs.push (Locs.push (Locs.push (Locs.push L)))) | (with_reducible exact Locs.drew L) | (with_reducible exact Locs.drew (Locs.push L)) | (with_reducible exact Locs.push (Locs.drew L)))) hb; (replace B := Flo.below_step (w := w0) (by repeat' (first | (with_reducible exact Below.refl _ _) | (with_reducible assumption) | (with_reducible refine Below.drew ?_) | (with_reducible refine Below.alloc ?_ ?_ _) | (with_reducible refine Below.setCell ?_ ?_ _) | (with_reducible refine Flo.below_step ?_ (by assumption)) | (simp; done) | (simp; omega))) hb); clear hb; (try clear F); (try clear Bz); (try simp only [World.size_alloc] at L); (try simp only [heap_drew] at L); have Bz := B.size; have F := Locs.facts L; simp only [LocFacts] at F) | (go_at_call 72; (with_reducible refine (O5 _).mono ?_); rintro e w1 ⟨rfl, hb⟩; replace L := Locs.below (by (first | (with_reducible exact L) | (with_reducible exact Locs.push L) | (with_reducible exact Locs.push (Locs.push L)) | (with_reducible exact Locs.push (Locs.push (Locs.push L))) | (with_reducible exact Locs.push (Locs.push (Locs.push (Locs.push L)))) | (with_reducible exact Locs.drew L) | (with_reducible exact Locs.drew (Locs.push L)) | (with_reducible exact Locs.push (Locs.drew L)))) hb; (replace B := Flo.below_step (w := w0) (by repeat' (first | (with_reducible exact Below.refl _ _) | (with_reducible assumption) | (with_reducible refine Below.drew ?_) | (with_reducible refine Below.alloc ?_ ?_ _) | (with_reducible refine Below.setCell ?_ ?_ _) | (with_reducible refine Flo.below_step ?_ (by assumption)) | (simp; done) | (simp; omega))) hb); clear hb; (try clear F); (try clear Bz); (try simp only [World.size_alloc] at L); (try simp only [heap_drew] at L); have Bz := B.size; have F := Locs.facts L; simp only [LocFacts] at F) | (go_at_call 72; (with_reducible refine (O255 _).mono ?_); rintro e w1 ⟨rfl, hb⟩; replace L := Locs.below (by (first | (with_reducible exact L) | (with_reducible exact Locs.push L) | (with_reducible exact Locs.push (Locs.push L)) | (with_reducible exact Locs.push (Locs.push (Locs.push L))) | (with_reducible exact Locs.push (Locs.push (Locs.push (Locs.push L)))) | (with_reducible exact Locs.drew L) | (with_reducible exact Locs.drew (Locs.push L)) | (with_reducible exact Locs.push (Locs.drew L)))) hb; (replace B := Flo.below_step (w := w0) (by repeat' (first | (with_reducible exact Below.refl _ _) | (with_reducible assumption) | (with_reducible refine Below.drew ?_) | (with_reducible refine Below.alloc ?_ ?_ _) | (with_reducible refine Below.setCell ?_ ?_ _) | (with_reducible refine Flo.below_step ?_ (by assumption)) | (simp; done) | (simp; omega))) hb); clear hb; (try clear F); (try clear Bz); (try simp only [World.size_alloc] at L); (try simp only [heap_drew] at L); have Bz := B.size; have F := Locs.facts L; simp only [LocFacts] at F) | (go_at_call 35; (with_reducible refine (add_awake _).mono ?_); rintro e w1 ⟨rfl, hb⟩; replace L := Locs.below (by (first | (with_reducible exact L) | (with_reducible exact Locs.push L) | (with_reducible exact Locs.push (Locs.push L)) | (with_reducible exact Locs.push (Locs.push (Locs.push L))) | (with_reducible exact Locs.push (Locs.push (Locs.push (Locs.push L)))) | (with_reducible exact Locs.drew L) | (with_reducible exact Locs.drew (Locs.push L)) | (with_reducible exact Locs.push (Locs.drew L)))) hb; (replace B := Flo.below_step (w := w0) (by repeat' (first | (with_reducible exact Below.refl _ _) | (with_reducible assumption) | (with_reducible refine Below.drew ?_) | (with_reducible refine Below.alloc ?_ ?_ _) | (with_reducible refine Below.setCell ?_ ?_ _) | (with_reducible refine Flo.below_step ?_ (by assumption)) | (simp; done) | (simp; omega))) hb); clear hb; (try clear F); (try clear Bz); (try simp only [World.size_alloc] at L); (try simp only [heap_drew] at L); have Bz := B.size; have F := Locs.facts L; simp only [LocFacts] at F) | (go_at_call 69; (with_reducible refine (len_awake _).mono ?_); rintro e w1 ⟨rfl, hb⟩; replace L := Locs.below (by (first | (with_reducible exact L) | (with_reducible exact Locs.push L) | (with_reducible exact Locs.push (Locs.push L)) | (with_reducible exact Locs.push (Locs.push (Locs.push L))) | (with_reducible exact Locs.push (Locs.push (Locs.push (Locs.push L)))) | (with_reducible exact Locs.drew L) | (with_reducible exact Locs.drew (Locs.push L)) | (with_reducible exact Locs.push (Locs.drew L)))) hb; (replace B := Flo.below_step (w := w0) (by repeat' (first | (with_reducible exact Below.refl _ _) | (with_reducible assumption) | (with_reducible refine Below.drew ?_) | (with_reducible refine Below.alloc ?_ ?_ _) | (with_reducible refine Below.setCell ?_ ?_ _) | (with_reducible refine Flo.below_step ?_ (by assumption)) | (simp; done) | (simp; omega))) hb); clear hb; (try clear F); (try clear Bz); (try simp only [World.size_alloc] at L); (try simp only [heap_drew] at L); have Bz := B.size; have F := Locs.facts L; simp only [LocFacts] at F) | (go_at_call 83; (with_reducible refine (hex_awake _).mono ?_); rintro e w1 ⟨rfl, hb⟩; replace L := Locs.below (by (first | (with_reducible exact L) | (with_reducible exact Locs.push L) | (with_reducible exact Locs.push (Locs.push L)) | (with_reducible exact Locs.push (Locs.push (Locs.push L))) | (with_reducible exact Locs.push (Locs.push (Locs.push (Locs.push L)))) | (with_reducible exact Locs.drew L) | (with_reducible exact Locs.drew (Locs.push L)) | (with_reducible exact Locs.push (Locs.drew L)))) hb; (replace B := Flo.below_step (w := w0) (by repeat' (first | (with_reducible exact Below.refl _ _) | (with_reducible assumption) | (with_reducible refine Below.drew ?_) | (with_reducible refine Below.alloc ?_ ?_ _) | (with_reducible refine Below.setCell ?_ ?_ _) | (with_reducible refine Flo.below_step ?_ (by assumption)) | (simp; done) | (simp; omega))) hb); clear hb; (try clear F); (try clear Bz); (try simp only [World.size_alloc] at L); (try simp only [heap_drew] at L); have Bz := B.size; have F := Locs.facts L; simp only [LocFacts] at F))
  (go_wp2_with (fail); refine bodyPost_ret (v := .bool true) (by simp [results, Try.results33, go_sem]) rfl ⟨rfl, ?_⟩; repeat' (first | (with_reducible exact Below.refl _ _) | (with_reducible assumption) | (with_reducible refine Below.drew ?_) | (with_reducible refine Below.alloc ?_ ?_ _) | (with_reducible refine Below.setCell ?_ ?_ _) | (with_reducible refine Flo.below_step ?_ (by assumption)) | (simp; done) | (simp; omega)))
end Go.Proofs.Ytkgjgdeaclefiaa

/-! The law U256Order: its walk. -/
namespace Go.Proofs.Ytkgjgdeaclefiaa
open Go Go.Proofs Go.RowKit Go.Flo
set_option maxRecDepth 100000 in
set_option maxHeartbeats 4000000 in
theorem order_main (m n k s t m' q : Nat) (o u x y : Bool) (c1 c2 c3 c4 c5 : Int)
    (A1 : Gives 35 #[uV m, uV n] (.tuple #[uV s, .bool o])) (A2 : Gives 35 #[uV n, uV m] (.tuple #[uV s, .bool o]))
    (S1 : Gives 36 #[uV s, uV n] (.tuple #[uV m, .bool o])) (S2 : Gives 36 #[uV m, uV n] (.tuple #[uV t, .bool u]))
    (A3 : Gives 35 #[uV t, uV n] (.tuple #[uV m, .bool x])) (N1 : Gives 37 #[uV m] (uV m')) (A4 : Gives 35 #[uV m, uV m'] (.tuple #[uV q, .bool y]))
    (C1 : Gives 38 #[uV s, uV m] (.int .i64 c1)) (C2 : Gives 38 #[uV m, uV n] (.int .i64 c2)) (C3 : Gives 38 #[uV n, uV m] (.int .i64 c3))
    (C4 : Gives 38 #[uV n, uV k] (.int .i64 c4)) (C5 : Gives 38 #[uV m, uV k] (.int .i64 c5))
    (N0 : Gives 37 #[.agg #[.int .u64 0, .int .u64 0, .int .u64 0, .int .u64 0]] (uV q))
    (h1 : decide (c1 < 0) = o) (h2 : decide (c2 < 0) = u) (h3 : (c2 == wrap64 (-c3)) = true)
    (h4 : decide (0 < c2) = true ∨ (decide (0 < c2) = false ∧ decide (0 < c4) = true) ∨ (decide (0 < c2) = false ∧ decide (0 < c4) = false ∧ decide (c5 ≤ 0) = true)) (w0 : World) :
    Calls Try.prog 4 #[uV m, uV n, uV k] w0 fun e w' => e = .returned (.bool true) ∧ Below w0.heap.size w0 w' := by
  have L := Locs.nil w0; have B := Below.refl w0.heap.size w0; have Bz := B.size; have F := Locs.facts L; simp only [LocFacts] at F
  go_enter Try.func4, Try.ntmps4
  go_wp2_with (first | (go_at_call 33; (with_reducible refine (awake1 _).mono ?_); rintro e w1 ⟨rfl, hb⟩; replace L := Locs.below (by (first | (with_reducible exact L) | (with_reducible exact Locs.push L) | (with_reducible exact Locs.push (Locs.push L)) | (with_reducible exact Locs.push (Locs.push (Locs.push L))) | (with_reducible exact Locs.push (Locs.push (Locs.push (Locs.push L)))) | (with_reducible exact Locs.drew L) | (with_reducible exact Locs.drew (Locs.push L)) | (with_reducible exact Locs.push (Locs.drew L)))) hb; (replace B := Flo.below_step (w := w0) (by repeat' (first | (with_reducible exact Below.refl _ _) | (with_reducible assumption) | (with_reducible refine Below.drew ?_) | (with_reducible refine Below.alloc ?_ ?_ _) | (with_reducible refine Below.setCell ?_ ?_ _) | (with_reducible refine Flo.below_step ?_ (by assumption)) | (simp; done) | (simp; omega))) hb); clear hb; (try clear F); (try clear Bz); (try simp only [World.size_alloc] at L); (try simp only [heap_drew] at L); have Bz := B.size; have F := Locs.facts L; simp only [LocFacts] at F) | (go_at_call 34; (with_reducible refine ((ours1_c _) _).mono ?_); rintro e w1 ⟨rfl, hb⟩; replace L := Locs.below (by (first | (with_reducible exact L) | (with_reducible exact Locs.push L) | (with_reducible exact Locs.push (Locs.push L)) | (with_reducible exact Locs.push (Locs.push (Locs.push L))) | (with_reducible exact Locs.push (Locs.push (Locs.push (Locs.push L)))) | (with_reducible exact Locs.drew L) | (with_reducible exact Locs.drew (Locs.push L)) | (with_reducible exact Locs.push (Locs.drew L)))) hb; (replace B := Flo.below_step (w := w0) (by repeat' (first | (with_reducible exact Below.refl _ _) | (with_reducible assumption) | (with_reducible refine Below.drew ?_) | (with_reducible refine Below.alloc ?_ ?_ _) | (with_reducible refine Below.setCell ?_ ?_ _) | (with_reducible refine Flo.below_step ?_ (by assumption)) | (simp; done) | (simp; omega))) hb); clear hb; (try clear F); (try clear Bz); (try simp only [World.size_alloc] at L); (try simp only [heap_drew] at L); have Bz := B.size; have F := Locs.facts L; simp only [LocFacts] at F) | (go_at_call 35; (with_reducible refine (A1 _).mono ?_); rintro e w1 ⟨rfl, hb⟩; replace L := Locs.below (by (first | (with_reducible exact L) | (with_reducible exact Locs.push L) | (with_reducible exact Locs.push (Locs.push L)) | (with_reducible exact Locs.push (Locs.push (Locs.push L))) | (with_reducible exact Locs.push (Locs.push (Locs.push (Locs.push L)))) | (with_reducible exact Locs.drew L) | (with_reducible exact Locs.drew (Locs.push L)) | (with_reducible exact Locs.push (Locs.drew L)))) hb; (replace B := Flo.below_step (w := w0) (by repeat' (first | (with_reducible exact Below.refl _ _) | (with_reducible assumption) | (with_reducible refine Below.drew ?_) | (with_reducible refine Below.alloc ?_ ?_ _) | (with_reducible refine Below.setCell ?_ ?_ _) | (with_reducible refine Flo.below_step ?_ (by assumption)) | (simp; done) | (simp; omega))) hb); clear hb; (try clear F); (try clear Bz); (try simp only [World.size_alloc] at L); (try simp only [heap_drew] at L); have Bz := B.size; have F := Locs.facts L; simp only [LocFacts] at F) | (go_at_call 35; (with_reducible refine (A2 _).mono ?_); rintro e w1 ⟨rfl, hb⟩; replace L := Locs.below (by (first | (with_reducible exact L) | (with_reducible exact Locs.push L) | (with_reducible exact Locs.push (Locs.push L)) | (with_reducible exact Locs.push (Locs.push (Locs.push L))) | (with_reducible exact Locs.push (Locs.push (Locs.push (Locs.push L)))) | (with_reducible exact Locs.drew L) | (with_reducible exact Locs.drew (Locs.push L)) | (with_reducible exact Locs.push (Locs.drew L)))) hb; (replace B := Flo.below_step (w := w0) (by repeat' (first | (with_reducible exact Below.refl _ _) | (with_reducible assumption) | (with_reducible refine Below.drew ?_) | (with_reducible refine Below.alloc ?_ ?_ _) | (with_reducible refine Below.setCell ?_ ?_ _) | (with_reducible refine Flo.below_step ?_ (by assumption)) | (simp; done) | (simp; omega))) hb); clear hb; (try clear F); (try clear Bz); (try simp only [World.size_alloc] at L); (try simp only [heap_drew] at L); have Bz := B.size; have F := Locs.facts L; simp only [LocFacts] at F) | (go_at_call 35; (with_reducible refine (A3 _).mono ?_); rintro e w1 ⟨rfl, hb⟩; replace L := Locs.below (by (first | (with_reducible exact L) | (with_reducible exact Locs.push L) | (with_reducible exact Locs.push (Locs.push L)) | (with_reducible exact Locs.push (Locs.push (Locs.push L))) | (with_reducible exact Locs.push (Locs.push (Locs.push (Locs.push L)))) | (with_reducible exact Locs.drew L) | (with_reducible exact Locs.drew (Locs.push L)) | (with_reducible exact Locs.push (Locs.drew L)))) hb; (replace B := Flo.below_step (w := w0) (by repeat' (first | (with_reducible exact Below.refl _ _) | (with_reducible assumption) | (with_reducible refine Below.drew ?_) | (with_reducible refine Below.alloc ?_ ?_ _) | (with_reducible refine Below.setCell ?_ ?_ _) | (with_reducible refine Flo.below_step ?_ (by assumption)) | (simp; done) | (simp; omega))) hb); clear hb; (try clear F); (try clear Bz); (try simp only [World.size_alloc] at L); (try simp only [heap_drew] at L); have Bz := B.size; have F := Locs.facts L; simp only [LocFacts] at F) | (go_at_call 36; (with_reducible refine (S1 _).mono ?_); rintro e w1 ⟨rfl, hb⟩; replace L := Locs.below (by (first | (with_reducible exact L) | (with_reducible exact Locs.push L) | (with_reducible exact Locs.push (Locs.push L)) | (with_reducible exact Locs.push (Locs.push (Locs.push L))) | (with_reducible exact Locs.push (Locs.push (Locs.push (Locs.push L)))) | (with_reducible exact Locs.drew L) | (with_reducible exact Locs.drew (Locs.push L)) | (with_reducible exact Locs.push (Locs.drew L)))) hb; (replace B := Flo.below_step (w := w0) (by repeat' (first | (with_reducible exact Below.refl _ _) | (with_reducible assumption) | (with_reducible refine Below.drew ?_) | (with_reducible refine Below.alloc ?_ ?_ _) | (with_reducible refine Below.setCell ?_ ?_ _) | (with_reducible refine Flo.below_step ?_ (by assumption)) | (simp; done) | (simp; omega))) hb); clear hb; (try clear F); (try clear Bz); (try simp only [World.size_alloc] at L); (try simp only [heap_drew] at L); have Bz := B.size; have F := Locs.facts L; simp only [LocFacts] at F) | (go_at_call 36; (with_reducible refine (S2 _).mono ?_); rintro e w1 ⟨rfl, hb⟩; replace L := Locs.below (by (first | (with_reducible exact L) | (with_reducible exact Locs.push L) | (with_reducible exact Locs.push (Locs.push L)) | (with_reducible exact Locs.push (Locs.push (Locs.push L))) | (with_reducible exact Locs.push (Locs.push (Locs.push (Locs.push L)))) | (with_reducible exact Locs.drew L) | (with_reducible exact Locs.drew (Locs.push L)) | (with_reducible exact Locs.push (Locs.drew L)))) hb; (replace B := Flo.below_step (w := w0) (by repeat' (first | (with_reducible exact Below.refl _ _) | (with_reducible assumption) | (with_reducible refine Below.drew ?_) | (with_reducible refine Below.alloc ?_ ?_ _) | (with_reducible refine Below.setCell ?_ ?_ _) | (with_reducible refine Flo.below_step ?_ (by assumption)) | (simp; done) | (simp; omega))) hb); clear hb; (try clear F); (try clear Bz); (try simp only [World.size_alloc] at L); (try simp only [heap_drew] at L); have Bz := B.size; have F := Locs.facts L; simp only [LocFacts] at F))
  ((try simp only [List.append_eq, List.cons_append, List.nil_append]); refine Flo.wp_made (w0 := w0) (by (first | (with_reducible exact L) | (with_reducible exact Locs.push L) | (with_reducible exact Locs.push (Locs.push L)) | (with_reducible exact Locs.push (Locs.push (Locs.push L))) | (with_reducible exact Locs.push (Locs.push (Locs.push (Locs.push L)))) | (with_reducible exact Locs.drew L) | (with_reducible exact Locs.drew (Locs.push L)) | (with_reducible exact Locs.push (Locs.drew L)))) (by repeat' (first | (with_reducible exact Below.refl _ _) | (with_reducible assumption) | (with_reducible refine Below.drew ?_) | (with_reducible refine Below.alloc ?_ ?_ _) | (with_reducible refine Below.setCell ?_ ?_ _) | (with_reducible refine Flo.below_step ?_ (by assumption)) | (simp; done) | (simp; omega))) (by kernel_rfl) (by decide +kernel) ?_; clear L B Bz F; intro w L B; have Bz := B.size; have F := Locs.facts L; simp only [LocFacts] at F; repeat (first | (refine Flo.sx_skip (by exact rfl) (by exact rfl) ?_; simp only [Act.put, List.setIfInBounds_toArray, List.set_cons_zero, List.set_cons_succ]) | (refine Flo.sx_free (by exact rfl) (by exact rfl) (by exact rfl) ?_; intro K hK; go_big_quiet_op; go_big_quiet_on) | (apply Flo.sx_alloc (by exact rfl) (by exact rfl); (focus (intro w; go_simp; first | done | exact rfl | exact ⟨rfl, rfl⟩)); intro b hn hfr; (try have hne := Flo.Fresh.ne hfr); simp only [Act.put, List.setIfInBounds_toArray, List.set_cons_zero, List.set_cons_succ]) | (apply Flo.sx_give (by exact rfl) (by exact rfl); (focus (intro w hbW hh; apply Flo.gives_of; intro G hG; go_simp; apply hG _ _ (by kernel_rfl); clear hG G; first | (with_reducible exact N1 _) | (with_reducible exact A4 _))); simp only [Act.put, List.setIfInBounds_toArray, List.set_cons_zero, List.set_cons_succ]) | (refine Flo.sx_move (by exact rfl) (by exact rfl) ?_; intro w2 hJ K hK; first | (have hJ : Flo.Holds _ _ _ _ := hJ; (repeat (have hu := Flo.Holds.uncover (by exact rfl) hJ; clear hJ; obtain ⟨⟨_, hm⟩, hJ⟩ := hu; have hm1 := heap_lt hm; have hm2 := fun j => cell_of_row _ _ j _ _ _ hm; have hm3 := fun j => frozen_of_row _ _ j _ _ hm)); have hb2 := hJ.below; have hz2 := Flo.InExt.below (Flo.InExt.refl _ _) (fun _ h => h) hb2; go_wp2_with (fail); (try refine ⟨(by repeat' (first | (with_reducible assumption) | (with_reducible exact InExt.refl _ _) | (with_reducible refine InExt.drew ?_) | (with_reducible refine InExt.alloc ?_ ?_ _) | (with_reducible refine InExt.setCell ?_ ?_ _) | (with_reducible refine InExt.below ?_ ?_ (by assumption)) | (simp; done) | (simp; omega))), ?_⟩)) | (have hJ : w2 = _ := hJ; subst hJ; go_wp2_with (fail); (try refine ⟨(by repeat' (first | (with_reducible assumption) | (with_reducible exact InExt.refl _ _) | (with_reducible refine InExt.drew ?_) | (with_reducible refine InExt.alloc ?_ ?_ _) | (with_reducible refine InExt.setCell ?_ ?_ _) | (with_reducible refine InExt.below ?_ ?_ (by assumption)) | (simp; done) | (simp; omega))), ?_⟩))) | (refine Flo.sx_done (w0 := w0) (by first | (with_reducible exact Locs.four1 L hb2 hn hm _ _ _ _) | (with_reducible exact Locs.four2 L hb2 (by assumption) (by assumption) (by assumption) (by assumption) (Flo.Fresh.ne hfr) _ _ _ _ _ _ _ _) | (with_reducible exact Locs.four2 L hb2 (by assumption) (by assumption) (by assumption) (by assumption) (Ne.symm (Flo.Fresh.ne hfr)) _ _ _ _ _ _ _ _)) (by repeat' (first | (with_reducible exact Below.refl _ _) | (with_reducible assumption) | (with_reducible refine Below.drew ?_) | (with_reducible refine Below.alloc ?_ ?_ _) | (with_reducible refine Below.setCell ?_ ?_ _) | (with_reducible refine Flo.below_step ?_ (by assumption)) | (simp; done) | (simp; omega))) ?_; clear L B Bz F; (try clear hm hm1 hm2 hm3); (try clear hJ); (try clear hb2 hz2); intro w L B; have Bz := B.size; have F := Locs.facts L; simp only [LocFacts] at F)))
  go_wp2_with (first | (go_at_call 33; (with_reducible refine (awake1 _).mono ?_); rintro e w1 ⟨rfl, hb⟩; replace L := Locs.below (by (first | (with_reducible exact L) | (with_reducible exact Locs.push L) | (with_reducible exact Locs.push (Locs.push L)) | (with_reducible exact Locs.push (Locs.push (Locs.push L))) | (with_reducible exact Locs.push (Locs.push (Locs.push (Locs.push L)))) | (with_reducible exact Locs.drew L) | (with_reducible exact Locs.drew (Locs.push L)) | (with_reducible exact Locs.push (Locs.drew L)))) hb; (replace B := Flo.below_step (w := w0) (by repeat' (first | (with_reducible exact Below.refl _ _) | (with_reducible assumption) | (with_reducible refine Below.drew ?_) | (with_reducible refine Below.alloc ?_ ?_ _) | (with_reducible refine Below.setCell ?_ ?_ _) | (with_reducible refine Flo.below_step ?_ (by assumption)) | (simp; done) | (simp; omega))) hb); clear hb; (try clear F); (try clear Bz); (try simp only [World.size_alloc] at L); (try simp only [heap_drew] at L); have Bz := B.size; have F := Locs.facts L; simp only [LocFacts] at F))
  rcases h4 with h4 | ⟨h4, h5⟩ | ⟨h4, h5, h6⟩
  · ((try simp only [List.append_eq, List.cons_append, List.nil_append]); refine Flo.wp_heldR (w0 := w0) (by (first | (with_reducible exact L) | (with_reducible exact Locs.push L) | (with_reducible exact Locs.push (Locs.push L)) | (with_reducible exact Locs.push (Locs.push (Locs.push L))) | (with_reducible exact Locs.push (Locs.push (Locs.push (Locs.push L)))) | (with_reducible exact Locs.drew L) | (with_reducible exact Locs.drew (Locs.push L)) | (with_reducible exact Locs.push (Locs.drew L)))) (by repeat' (first | (with_reducible exact Below.refl _ _) | (with_reducible assumption) | (with_reducible refine Below.drew ?_) | (with_reducible refine Below.alloc ?_ ?_ _) | (with_reducible refine Below.setCell ?_ ?_ _) | (with_reducible refine Flo.below_step ?_ (by assumption)) | (simp; done) | (simp; omega))) (by kernel_rfl) (by decide +kernel) ?_; clear L B Bz F; intro W w L X B; have Bz := B.size; have F := Locs.facts L; simp only [LocFacts] at F; repeat (first | (refine Flo.au_skip (by exact rfl) (by exact rfl) ?_; simp only [Act.put, List.setIfInBounds_toArray, List.set_cons_zero, List.set_cons_succ]) | (refine Flo.hx_free (by exact rfl) (by exact rfl) (by exact rfl) ?_; intro K hK; go_big_quiet_op; go_big_quiet_on) | (refine Flo.au_move (by exact rfl) (by exact rfl) ?_; intro K hK; go_wp2_with (first | (go_at_call 38; (with_reducible refine (C1 _).mono ?_); rintro e w1 ⟨rfl, hb⟩; replace X := Flo.InExt.below X (fun _ h => h) hb; (replace B := Flo.below_step B hb); clear hb) | (go_at_call 38; (with_reducible refine (C2 _).mono ?_); rintro e w1 ⟨rfl, hb⟩; replace X := Flo.InExt.below X (fun _ h => h) hb; (replace B := Flo.below_step B hb); clear hb) | (go_at_call 38; (with_reducible refine (C3 _).mono ?_); rintro e w1 ⟨rfl, hb⟩; replace X := Flo.InExt.below X (fun _ h => h) hb; (replace B := Flo.below_step B hb); clear hb) | (go_at_call 38; (with_reducible refine (C4 _).mono ?_); rintro e w1 ⟨rfl, hb⟩; replace X := Flo.InExt.below X (fun _ h => h) hb; (replace B := Flo.below_step B hb); clear hb) | (go_at_call 38; (with_reducible refine (C5 _).mono ?_); rintro e w1 ⟨rfl, hb⟩; replace X := Flo.InExt.below X (fun _ h => h) hb; (replace B := Flo.below_step B hb); clear hb) | (go_at_call 34; (with_reducible refine ((ours1_c _) _).mono ?_); rintro e w1 ⟨rfl, hb⟩; replace X := Flo.InExt.below X (fun _ h => h) hb; (replace B := Flo.below_step B hb); clear hb) | (go_at_call 37; (with_reducible refine (N0 _).mono ?_); rintro e w1 ⟨rfl, hb⟩; replace X := Flo.InExt.below X (fun _ h => h) hb; (replace B := Flo.below_step B hb); clear hb)); (try refine ⟨X, ?_⟩)) | (refine Flo.hx_done (w0 := w0) L X B ?_; clear L B Bz F X; intro w L B; have Bz := B.size; have F := Locs.facts L; simp only [LocFacts] at F)))
    (go_wp2_with (fail); refine bodyPost_ret (v := .bool true) (by simp [results, Try.results4, go_sem]) rfl ⟨rfl, ?_⟩; repeat' (first | (with_reducible exact Below.refl _ _) | (with_reducible assumption) | (with_reducible refine Below.drew ?_) | (with_reducible refine Below.alloc ?_ ?_ _) | (with_reducible refine Below.setCell ?_ ?_ _) | (with_reducible refine Flo.below_step ?_ (by assumption)) | (simp; done) | (simp; omega)))
  · ((try simp only [List.append_eq, List.cons_append, List.nil_append]); refine Flo.wp_heldR (w0 := w0) (by (first | (with_reducible exact L) | (with_reducible exact Locs.push L) | (with_reducible exact Locs.push (Locs.push L)) | (with_reducible exact Locs.push (Locs.push (Locs.push L))) | (with_reducible exact Locs.push (Locs.push (Locs.push (Locs.push L)))) | (with_reducible exact Locs.drew L) | (with_reducible exact Locs.drew (Locs.push L)) | (with_reducible exact Locs.push (Locs.drew L)))) (by repeat' (first | (with_reducible exact Below.refl _ _) | (with_reducible assumption) | (with_reducible refine Below.drew ?_) | (with_reducible refine Below.alloc ?_ ?_ _) | (with_reducible refine Below.setCell ?_ ?_ _) | (with_reducible refine Flo.below_step ?_ (by assumption)) | (simp; done) | (simp; omega))) (by kernel_rfl) (by decide +kernel) ?_; clear L B Bz F; intro W w L X B; have Bz := B.size; have F := Locs.facts L; simp only [LocFacts] at F; repeat (first | (refine Flo.au_skip (by exact rfl) (by exact rfl) ?_; simp only [Act.put, List.setIfInBounds_toArray, List.set_cons_zero, List.set_cons_succ]) | (refine Flo.hx_free (by exact rfl) (by exact rfl) (by exact rfl) ?_; intro K hK; go_big_quiet_op; go_big_quiet_on) | (refine Flo.au_move (by exact rfl) (by exact rfl) ?_; intro K hK; go_wp2_with (first | (go_at_call 38; (with_reducible refine (C1 _).mono ?_); rintro e w1 ⟨rfl, hb⟩; replace X := Flo.InExt.below X (fun _ h => h) hb; (replace B := Flo.below_step B hb); clear hb) | (go_at_call 38; (with_reducible refine (C2 _).mono ?_); rintro e w1 ⟨rfl, hb⟩; replace X := Flo.InExt.below X (fun _ h => h) hb; (replace B := Flo.below_step B hb); clear hb) | (go_at_call 38; (with_reducible refine (C3 _).mono ?_); rintro e w1 ⟨rfl, hb⟩; replace X := Flo.InExt.below X (fun _ h => h) hb; (replace B := Flo.below_step B hb); clear hb) | (go_at_call 38; (with_reducible refine (C4 _).mono ?_); rintro e w1 ⟨rfl, hb⟩; replace X := Flo.InExt.below X (fun _ h => h) hb; (replace B := Flo.below_step B hb); clear hb) | (go_at_call 38; (with_reducible refine (C5 _).mono ?_); rintro e w1 ⟨rfl, hb⟩; replace X := Flo.InExt.below X (fun _ h => h) hb; (replace B := Flo.below_step B hb); clear hb) | (go_at_call 34; (with_reducible refine ((ours1_c _) _).mono ?_); rintro e w1 ⟨rfl, hb⟩; replace X := Flo.InExt.below X (fun _ h => h) hb; (replace B := Flo.below_step B hb); clear hb) | (go_at_call 37; (with_reducible refine (N0 _).mono ?_); rintro e w1 ⟨rfl, hb⟩; replace X := Flo.InExt.below X (fun _ h => h) hb; (replace B := Flo.below_step B hb); clear hb)); (try refine ⟨X, ?_⟩)) | (refine Flo.hx_done (w0 := w0) L X B ?_; clear L B Bz F X; intro w L B; have Bz := B.size; have F := Locs.facts L; simp only [LocFacts] at F)))
    (go_wp2_with (fail); refine bodyPost_ret (v := .bool true) (by simp [results, Try.results4, go_sem]) rfl ⟨rfl, ?_⟩; repeat' (first | (with_reducible exact Below.refl _ _) | (with_reducible assumption) | (with_reducible refine Below.drew ?_) | (with_reducible refine Below.alloc ?_ ?_ _) | (with_reducible refine Below.setCell ?_ ?_ _) | (with_reducible refine Flo.below_step ?_ (by assumption)) | (simp; done) | (simp; omega)))
  · ((try simp only [List.append_eq, List.cons_append, List.nil_append]); refine Flo.wp_heldR (w0 := w0) (by (first | (with_reducible exact L) | (with_reducible exact Locs.push L) | (with_reducible exact Locs.push (Locs.push L)) | (with_reducible exact Locs.push (Locs.push (Locs.push L))) | (with_reducible exact Locs.push (Locs.push (Locs.push (Locs.push L)))) | (with_reducible exact Locs.drew L) | (with_reducible exact Locs.drew (Locs.push L)) | (with_reducible exact Locs.push (Locs.drew L)))) (by repeat' (first | (with_reducible exact Below.refl _ _) | (with_reducible assumption) | (with_reducible refine Below.drew ?_) | (with_reducible refine Below.alloc ?_ ?_ _) | (with_reducible refine Below.setCell ?_ ?_ _) | (with_reducible refine Flo.below_step ?_ (by assumption)) | (simp; done) | (simp; omega))) (by kernel_rfl) (by decide +kernel) ?_; clear L B Bz F; intro W w L X B; have Bz := B.size; have F := Locs.facts L; simp only [LocFacts] at F; repeat (first | (refine Flo.au_skip (by exact rfl) (by exact rfl) ?_; simp only [Act.put, List.setIfInBounds_toArray, List.set_cons_zero, List.set_cons_succ]) | (refine Flo.hx_free (by exact rfl) (by exact rfl) (by exact rfl) ?_; intro K hK; go_big_quiet_op; go_big_quiet_on) | (refine Flo.au_move (by exact rfl) (by exact rfl) ?_; intro K hK; go_wp2_with (first | (go_at_call 38; (with_reducible refine (C1 _).mono ?_); rintro e w1 ⟨rfl, hb⟩; replace X := Flo.InExt.below X (fun _ h => h) hb; (replace B := Flo.below_step B hb); clear hb) | (go_at_call 38; (with_reducible refine (C2 _).mono ?_); rintro e w1 ⟨rfl, hb⟩; replace X := Flo.InExt.below X (fun _ h => h) hb; (replace B := Flo.below_step B hb); clear hb) | (go_at_call 38; (with_reducible refine (C3 _).mono ?_); rintro e w1 ⟨rfl, hb⟩; replace X := Flo.InExt.below X (fun _ h => h) hb; (replace B := Flo.below_step B hb); clear hb) | (go_at_call 38; (with_reducible refine (C4 _).mono ?_); rintro e w1 ⟨rfl, hb⟩; replace X := Flo.InExt.below X (fun _ h => h) hb; (replace B := Flo.below_step B hb); clear hb) | (go_at_call 38; (with_reducible refine (C5 _).mono ?_); rintro e w1 ⟨rfl, hb⟩; replace X := Flo.InExt.below X (fun _ h => h) hb; (replace B := Flo.below_step B hb); clear hb) | (go_at_call 34; (with_reducible refine ((ours1_c _) _).mono ?_); rintro e w1 ⟨rfl, hb⟩; replace X := Flo.InExt.below X (fun _ h => h) hb; (replace B := Flo.below_step B hb); clear hb) | (go_at_call 37; (with_reducible refine (N0 _).mono ?_); rintro e w1 ⟨rfl, hb⟩; replace X := Flo.InExt.below X (fun _ h => h) hb; (replace B := Flo.below_step B hb); clear hb)); (try refine ⟨X, ?_⟩)) | (refine Flo.hx_done (w0 := w0) L X B ?_; clear L B Bz F X; intro w L B; have Bz := B.size; have F := Locs.facts L; simp only [LocFacts] at F)))
    (go_wp2_with (fail); refine bodyPost_ret (v := .bool true) (by simp [results, Try.results4, go_sem]) rfl ⟨rfl, ?_⟩; repeat' (first | (with_reducible exact Below.refl _ _) | (with_reducible assumption) | (with_reducible refine Below.drew ?_) | (with_reducible refine Below.alloc ?_ ?_ _) | (with_reducible refine Below.setCell ?_ ?_ _) | (with_reducible refine Flo.below_step ?_ (by assumption)) | (simp; done) | (simp; omega)))
end Go.Proofs.Ytkgjgdeaclefiaa
