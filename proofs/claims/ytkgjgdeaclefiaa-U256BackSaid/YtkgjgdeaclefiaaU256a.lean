/-
  u256 at this translation: Of, Add, Sub, Not.
-/
import Derived.Test.YtkgjgdeaclefiaaBits
namespace Go.Proofs.Ytkgjgdeaclefiaa
open Go Go.Proofs Go.RowKit Go.Flo

set_option maxHeartbeats 1000000 in
/-- Add. -/
theorem add_c (m n : Nat) (hm : m < top) (hn : n < top) (w : World) :
    Calls Try.prog 35 #[uV m, uV n] w fun e w' => e = .returned (.tuple #[uV ((m + n) % top), .bool (decide (top ≤ m + n))]) ∧ Below w.heap.size w w' := by
  have im := is4_of hm
  have jn := is4_of hn
  unfold uV
  generalize l0 m = a at *; generalize l1 m = b at *; generalize l2 m = c at *; generalize l3 m = d at *
  generalize l0 n = x at *; generalize l1 n = y at *; generalize l2 n = z at *; generalize l3 n = t at *
  obtain ⟨s0, c0, hs0, hc0, e0, r0⟩ := add64 im.wa jn.wa Cy.zero
  obtain ⟨s1, c1, hs1, hc1, e1, r1⟩ := add64 im.wb jn.wb hc0
  obtain ⟨s2, c2, hs2, hc2, e2, r2⟩ := add64 im.wc jn.wc hc1
  obtain ⟨s3, c3, hs3, hc3, e3, r3⟩ := add64 im.wd jn.wd hc2
  obtain ⟨s, is⟩ := is4_made hs0 hs1 hs2 hs3
  have fin : (Value.tuple #[.agg #[.int .u64 s0, .int .u64 s1, .int .u64 s2, .int .u64 s3], .bool (c3 != 0)]) = .tuple #[uV ((m + n) % top), .bool (decide (top ≤ m + n))] := by
    have hs := is.lt
    obtain ⟨im0, im1, im2, im3, im4⟩ := im
    obtain ⟨jn0, jn1, jn2, jn3, jn4⟩ := jn
    have is4 := is.eq
    obtain ⟨e0⟩ := e0; obtain ⟨e1⟩ := e1; obtain ⟨e2⟩ := e2; obtain ⟨e3⟩ := e3
    rw [top_eq] at *
    have h3 := hc3.cases
    have e : s = (m + n) % 115792089237316195423570985008687907853269984665640564039457584007913129639936 := by omega
    rw [is.uV, ← e]
    congr 4
    rcases h3 with rfl | rfl
    · have : ¬ 115792089237316195423570985008687907853269984665640564039457584007913129639936 ≤ m + n := by omega
      simp [this]
    · have : 115792089237316195423570985008687907853269984665640564039457584007913129639936 ≤ m + n := by omega
      simp [this]
  unfold uV at fin
  rw [← fin]
  clear fin is im jn
  go_enter Try.func35, Try.ntmps35
  go_wp2
  refine wp_loop_rounds 5 ?_
  repeat (first | (rw [rounds_succ]; go_wp2_with (fail)) | ((refine Flo.wp_region_auto (fun _ => True) Flo.rd (by kernel_rfl) (by decide +kernel) (trivial) ?_; repeat (first | (refine Flo.au_skip (by exact rfl) (by exact rfl) ?_; simp only [Act.put, List.setIfInBounds_toArray, List.set_cons_zero, List.set_cons_succ]) | (refine Flo.au_free (by exact rfl) (by exact rfl) (by exact rfl) ?_; intro K hK; go_big_quiet_op; go_big_quiet_on) | (refine Flo.au_still (by exact rfl) (by exact rfl) (by exact rfl) ?_; intro K hK; go_simp; refine hK _ ?_; clear hK K) | (refine Flo.au_move (by exact rfl) (by exact rfl) ?_; intro K hK; go_wp2_with (fail); try (with_reducible refine ⟨rfl, trivial, ?_⟩)) | (refine Flo.mix_nil ?_))); go_wp2_with (fail)))
  refine bodyPost_ret (v := .tuple #[.agg #[.int .u64 s0, .int .u64 s1, .int .u64 s2, .int .u64 s3], .bool (c3 != 0)]) (by simp [results, Try.results35, go_sem]) rfl ⟨rfl, ?_⟩
  repeat' (first | (with_reducible exact Below.refl _ _) | (with_reducible assumption) | (with_reducible refine Below.drew ?_) | (with_reducible refine Below.alloc ?_ ?_ _) | (with_reducible refine Below.setCell ?_ ?_ _) | (with_reducible refine Flo.below_step ?_ (by assumption)) | (simp; done) | (simp; omega))

set_option maxHeartbeats 1000000 in
/-- Sub. -/
theorem sub_c (m n : Nat) (hm : m < top) (hn : n < top) (w : World) :
    Calls Try.prog 36 #[uV m, uV n] w fun e w' => e = .returned (.tuple #[uV ((m + top - n) % top), .bool (decide (m < n))]) ∧ Below w.heap.size w w' := by
  have im := is4_of hm
  have jn := is4_of hn
  unfold uV
  generalize l0 m = a at *; generalize l1 m = b at *; generalize l2 m = c at *; generalize l3 m = d at *
  generalize l0 n = x at *; generalize l1 n = y at *; generalize l2 n = z at *; generalize l3 n = t at *
  obtain ⟨s0, c0, hs0, hc0, e0, r0⟩ := sub64 im.wa jn.wa Cy.zero
  obtain ⟨s1, c1, hs1, hc1, e1, r1⟩ := sub64 im.wb jn.wb hc0
  obtain ⟨s2, c2, hs2, hc2, e2, r2⟩ := sub64 im.wc jn.wc hc1
  obtain ⟨s3, c3, hs3, hc3, e3, r3⟩ := sub64 im.wd jn.wd hc2
  obtain ⟨s, is⟩ := is4_made hs0 hs1 hs2 hs3
  have fin : (Value.tuple #[.agg #[.int .u64 s0, .int .u64 s1, .int .u64 s2, .int .u64 s3], .bool (c3 != 0)]) = .tuple #[uV ((m + top - n) % top), .bool (decide (m < n))] := by
    have hs := is.lt
    obtain ⟨im0, im1, im2, im3, im4⟩ := im
    obtain ⟨jn0, jn1, jn2, jn3, jn4⟩ := jn
    have is4 := is.eq
    obtain ⟨e0⟩ := e0; obtain ⟨e1⟩ := e1; obtain ⟨e2⟩ := e2; obtain ⟨e3⟩ := e3
    rw [top_eq] at *
    have h3 := hc3.cases
    have e : s = (m + 115792089237316195423570985008687907853269984665640564039457584007913129639936 - n) % 115792089237316195423570985008687907853269984665640564039457584007913129639936 := by omega
    rw [is.uV, ← e]
    congr 4
    rcases h3 with rfl | rfl
    · have : ¬ m < n := by omega
      simp [this]
    · have : m < n := by omega
      simp [this]
  unfold uV at fin
  rw [← fin]
  clear fin is im jn
  go_enter Try.func36, Try.ntmps36
  go_wp2
  refine wp_loop_rounds 5 ?_
  repeat (first | (rw [rounds_succ]; go_wp2_with (fail)) | ((refine Flo.wp_region_auto (fun _ => True) Flo.rd (by kernel_rfl) (by decide +kernel) (trivial) ?_; repeat (first | (refine Flo.au_skip (by exact rfl) (by exact rfl) ?_; simp only [Act.put, List.setIfInBounds_toArray, List.set_cons_zero, List.set_cons_succ]) | (refine Flo.au_free (by exact rfl) (by exact rfl) (by exact rfl) ?_; intro K hK; go_big_quiet_op; go_big_quiet_on) | (refine Flo.au_still (by exact rfl) (by exact rfl) (by exact rfl) ?_; intro K hK; go_simp; refine hK _ ?_; clear hK K) | (refine Flo.au_move (by exact rfl) (by exact rfl) ?_; intro K hK; go_wp2_with (fail); try (with_reducible refine ⟨rfl, trivial, ?_⟩)) | (refine Flo.mix_nil ?_))); go_wp2_with (fail)))
  refine bodyPost_ret (v := .tuple #[.agg #[.int .u64 s0, .int .u64 s1, .int .u64 s2, .int .u64 s3], .bool (c3 != 0)]) (by simp [results, Try.results36, go_sem]) rfl ⟨rfl, ?_⟩
  repeat' (first | (with_reducible exact Below.refl _ _) | (with_reducible assumption) | (with_reducible refine Below.drew ?_) | (with_reducible refine Below.alloc ?_ ?_ _) | (with_reducible refine Below.setCell ?_ ?_ _) | (with_reducible refine Flo.below_step ?_ (by assumption)) | (simp; done) | (simp; omega))

set_option maxHeartbeats 1000000 in
/-- Of. -/
theorem of_c (x : Int) (h : Wd x) (w : World) :
    Calls Try.prog 72 #[.int .u64 x] w fun e w' => e = .returned (uV x.toNat) ∧ Below w.heap.size w w' := by
  have fin : Value.agg #[.int .u64 x, .int .u64 0, .int .u64 0, .int .u64 0] = uV x.toNat := by
    refine Is4.uV ⟨h, ⟨by decide, by decide⟩, ⟨by decide, by decide⟩, ⟨by decide, by decide⟩, ?_⟩
    have := h.lo
    omega
  rw [← fin]
  clear fin
  go_enter Try.func72, Try.ntmps72
  go_wp2
  refine bodyPost_ret (v := .agg #[.int .u64 x, .int .u64 0, .int .u64 0, .int .u64 0]) (by simp [results, Try.results72, go_sem]) rfl ⟨rfl, ?_⟩
  repeat' (first | (with_reducible exact Below.refl _ _) | (with_reducible assumption) | (with_reducible refine Below.drew ?_) | (with_reducible refine Below.alloc ?_ ?_ _) | (with_reducible refine Below.setCell ?_ ?_ _) | (with_reducible refine Flo.below_step ?_ (by assumption)) | (simp; done) | (simp; omega))

theorem xor_max {x : Int} (h : Wd x) : bits .xor .u64 IntKind.u64.max x = 18446744073709551615 - x := by
  have e : IntKind.u64.max = 18446744073709551615 := by decide
  rw [e, u64_xor _ _ (by decide) (by decide) h.lo h.hi]
  have h0 := h.lo
  have h1 : x.toNat < 2 ^ 64 := by have := h.hi; omega
  have k : (18446744073709551615 : Int).toNat ^^^ x.toNat = 2 ^ 64 - (x.toNat + 1) := by
    apply Nat.eq_of_testBit_eq
    intro i
    rw [Nat.testBit_two_pow_sub_succ h1, Nat.testBit_xor]
    have : (18446744073709551615 : Int).toNat = 2 ^ 64 - 1 := rfl
    rw [this, Nat.testBit_two_pow_sub_one]
    by_cases hi : i < 64
    · simp [hi]
    · have : x.toNat.testBit i = false := Nat.testBit_lt_two_pow (Nat.lt_of_lt_of_le h1 (Nat.pow_le_pow_right (by decide) (by omega)))
      simp [hi, this]
  rw [k]
  omega

set_option maxHeartbeats 1000000 in
/-- Not. -/
theorem not_c (m : Nat) (hm : m < top) (w : World) :
    Calls Try.prog 37 #[uV m] w fun e w' => e = .returned (uV (top - 1 - m)) ∧ Below w.heap.size w w' := by
  have im := is4_of hm
  unfold uV
  generalize l0 m = a at *; generalize l1 m = b at *; generalize l2 m = c at *; generalize l3 m = d at *
  have fin : (Value.agg #[.int .u64 (bits .xor .u64 IntKind.u64.max a), .int .u64 (bits .xor .u64 IntKind.u64.max b), .int .u64 (bits .xor .u64 IntKind.u64.max c), .int .u64 (bits .xor .u64 IntKind.u64.max d)]) = uV (top - 1 - m) := by
    rw [xor_max im.wa, xor_max im.wb, xor_max im.wc, xor_max im.wd]
    obtain ⟨⟨_, _⟩, ⟨_, _⟩, ⟨_, _⟩, ⟨_, _⟩, e⟩ := im
    rw [top_eq] at *
    exact Is4.uV ⟨⟨by omega, by omega⟩, ⟨by omega, by omega⟩, ⟨by omega, by omega⟩, ⟨by omega, by omega⟩, by omega⟩
  unfold uV at fin
  rw [← fin]
  clear fin im
  go_enter Try.func37, Try.ntmps37
  go_wp2
  refine wp_loop_rounds 5 ?_
  repeat (first | (rw [rounds_succ]; go_wp2_with (fail)) | ((refine Flo.wp_region_auto (fun _ => True) Flo.rd (by kernel_rfl) (by decide +kernel) (trivial) ?_; repeat (first | (refine Flo.au_skip (by exact rfl) (by exact rfl) ?_; simp only [Act.put, List.setIfInBounds_toArray, List.set_cons_zero, List.set_cons_succ]) | (refine Flo.au_free (by exact rfl) (by exact rfl) (by exact rfl) ?_; intro K hK; go_big_quiet_op; go_big_quiet_on) | (refine Flo.au_still (by exact rfl) (by exact rfl) (by exact rfl) ?_; intro K hK; go_simp; refine hK _ ?_; clear hK K) | (refine Flo.au_move (by exact rfl) (by exact rfl) ?_; intro K hK; go_wp2_with (fail); try (with_reducible refine ⟨rfl, trivial, ?_⟩)) | (refine Flo.mix_nil ?_))); go_wp2_with (fail)))
  refine bodyPost_ret (v := .agg #[.int .u64 (bits .xor .u64 IntKind.u64.max a), .int .u64 (bits .xor .u64 IntKind.u64.max b), .int .u64 (bits .xor .u64 IntKind.u64.max c), .int .u64 (bits .xor .u64 IntKind.u64.max d)]) (by simp [results, Try.results37, go_sem]) rfl ⟨rfl, ?_⟩
  repeat' (first | (with_reducible exact Below.refl _ _) | (with_reducible assumption) | (with_reducible refine Below.drew ?_) | (with_reducible refine Below.alloc ?_ ?_ _) | (with_reducible refine Below.setCell ?_ ?_ _) | (with_reducible refine Flo.below_step ?_ (by assumption)) | (simp; done) | (simp; omega))
end Go.Proofs.Ytkgjgdeaclefiaa
