/-
  u256 at this translation: Len, Mul.
-/
import Derived.Test.YtkgjgdeaclefiaaU256b
import Derived.Test.YtkgjgdeaclefiaaNum
namespace Go.Proofs.Ytkgjgdeaclefiaa
open Go Go.Proofs Go.RowKit Go.Flo

theorem len64 {x : Int} (h : Wd x) (w : World) : Calls Try.prog 126 #[.int .u64 x] w fun e w' => e = .returned (.int .i64 (lenN x.toNat)) ∧ w = w' := by
  refine (Try.bits_Len64 x w h.lo (by have := h.hi; omega)).mono ?_
  rintro e w' ⟨rfl, rfl⟩
  rw [bitLen_lenN (by have := h.hi; omega)]
  exact ⟨rfl, rfl⟩

set_option maxHeartbeats 1000000 in
/-- Len. -/
theorem len_c (m : Nat) (hm : m < top) (w : World) :
    Calls Try.prog 69 #[uV m] w fun e w' => e = .returned (.int .i64 (lenN m)) ∧ Below w.heap.size w w' := by
  have im := is4_of hm
  unfold uV
  generalize l0 m = a at *; generalize l1 m = b at *; generalize l2 m = c at *; generalize l3 m = d at *
  obtain ⟨v, hv⟩ : ∃ v, v = lenN m := ⟨_, rfl⟩
  rw [← hv]
  have key : ((d != 0) = true ∧ v = 192 + lenN d.toNat) ∨ (d = 0 ∧ (((c != 0) = true ∧ v = 128 + lenN c.toNat) ∨ (c = 0 ∧ (((b != 0) = true ∧ v = 64 + lenN b.toNat) ∨ (b = 0 ∧ (((a != 0) = true ∧ v = lenN a.toNat) ∨ (a = 0 ∧ v = 0))))))) := by
    obtain ⟨⟨_, _⟩, ⟨_, _⟩, ⟨_, _⟩, ⟨_, _⟩, e⟩ := im
    simp only [bne_iff_ne]
    by_cases h3 : d = 0
    · by_cases h2 : c = 0
      · by_cases h1 : b = 0
        · by_cases h0 : a = 0
          · have : m = 0 := by omega
            subst this
            simp [*, lenN_zero]
          · have : m = a.toNat := by omega
            subst this
            simp [*]
        · have := lenN_shift (m := m) (s := 64) (x := b.toNat) (by omega) (by omega)
          simp [*]
      · have := lenN_shift (m := m) (s := 128) (x := c.toNat) (by omega) (by omega)
        simp [*]
    · have := lenN_shift (m := m) (s := 192) (x := d.toNat) (by omega) (by omega)
      simp [*]
  have fin : ∀ x : Int, Wd x → lenN x.toNat ≤ 64 := fun x h => lenN_le.2 (by have := h.hi; have := h.lo; omega)
  have fa := fin a im.wa; have fb := fin b im.wb; have fc := fin c im.wc; have fd := fin d im.wd
  have ga := len64 im.wa; have gb := len64 im.wb; have gc := len64 im.wc; have gd := len64 im.wd
  have Ga := Lib.hid ga; have Gb := Lib.hid gb; have Gc := Lib.hid gc; have Gd := Lib.hid gd
  clear ga gb gc gd fin im hm
  rcases key with ⟨h, hk⟩ | ⟨rfl, ⟨h, hk⟩ | ⟨rfl, ⟨h, hk⟩ | ⟨rfl, ⟨h, hk⟩ | ⟨rfl, hk⟩⟩⟩⟩
  all_goals
    have Hk := Lib.hid hk; clear hk
    rw [Hk.out]
    go_enter Try.func69, Try.ntmps69
    go_wp2
    refine wp_loop_rounds 5 ?_
    repeat (first | (rw [rounds_succ]; go_wp2_with ((go_at_call 126; (first | (with_reducible refine (Gd.out _).mono ?_) | (with_reducible refine (Gc.out _).mono ?_) | (with_reducible refine (Gb.out _).mono ?_) | (with_reducible refine (Ga.out _).mono ?_)); rintro e w' ⟨rfl, rfl⟩))) | ((refine Flo.wp_region_auto (fun _ => True) Flo.rd (by kernel_rfl) (by decide +kernel) (trivial) ?_; repeat (first | (refine Flo.au_skip (by exact rfl) (by exact rfl) ?_; simp only [Act.put, List.setIfInBounds_toArray, List.set_cons_zero, List.set_cons_succ]) | (refine Flo.au_free (by exact rfl) (by exact rfl) (by exact rfl) ?_; intro K hK; go_big_quiet_op; go_big_quiet_on) | (refine Flo.au_still (by exact rfl) (by exact rfl) (by exact rfl) ?_; intro K hK; go_simp; refine hK _ ?_; clear hK K) | (refine Flo.au_move (by exact rfl) (by exact rfl) ?_; intro K hK; go_wp2_with ((go_at_call 126; (first | (with_reducible refine (Gd.out _).mono ?_) | (with_reducible refine (Gc.out _).mono ?_) | (with_reducible refine (Gb.out _).mono ?_) | (with_reducible refine (Ga.out _).mono ?_)); rintro e w' ⟨rfl, rfl⟩)); try (with_reducible refine ⟨rfl, trivial, ?_⟩)) | (refine Flo.mix_nil ?_))); go_wp2_with ((go_at_call 126; (first | (with_reducible refine (Gd.out _).mono ?_) | (with_reducible refine (Gc.out _).mono ?_) | (with_reducible refine (Gb.out _).mono ?_) | (with_reducible refine (Ga.out _).mono ?_)); rintro e w' ⟨rfl, rfl⟩))))
    go_ret
    refine ⟨?_, ?_⟩
    · first | rfl | (congr 2; omega)
    repeat' (first | (with_reducible exact Below.refl _ _) | (with_reducible assumption) | (with_reducible refine Below.drew ?_) | (with_reducible refine Below.alloc ?_ ?_ _) | (with_reducible refine Below.setCell ?_ ?_ _) | (with_reducible refine Flo.below_step ?_ (by assumption)) | (simp; done) | (simp; omega))

/-- Mul64: a product of words. -/
theorem mul64 {x y : Int} (hx : Wd x) (hy : Wd y) : ∃ hi lo : Int, Wd hi ∧ Wd lo ∧ Prods hi lo x y ∧
    Hid (∀ w, Calls Try.prog 124 #[.int .u64 x, .int .u64 y] w fun e w' => e = .returned (.tuple #[.int .u64 hi, .int .u64 lo]) ∧ w = w') := by
  obtain ⟨x0, x1⟩ := hx
  obtain ⟨y0, y1⟩ := hy
  obtain ⟨x, rfl⟩ := Int.eq_ofNat_of_zero_le x0
  obtain ⟨y, rfl⟩ := Int.eq_ofNat_of_zero_le y0
  have hb : x * y ≤ 18446744073709551615 * 18446744073709551615 := Nat.mul_le_mul (by omega) (by omega)
  refine ⟨((x * y / 18446744073709551616 : Nat) : Int), ((x * y % 18446744073709551616 : Nat) : Int), ⟨by omega, by omega⟩, ⟨by omega, by omega⟩, ⟨?_, ?_⟩, fun w => ?_⟩
  · rw [← Int.natCast_mul]; omega
  · omega
  · refine (Try.bits_Mul64 x y (by omega) (by omega) w).mono ?_
    rintro e w' ⟨rfl, rfl⟩
    exact ⟨rfl, rfl⟩

set_option maxHeartbeats 1000000 in
/-- Mul. -/
theorem mul_c (m k : Nat) (hm : m < top) (hk : k < 18446744073709551616) (w : World) :
    Calls Try.prog 65 #[uV m, .int .u64 k] w fun e w' => e = .returned (.tuple #[uV (m * k % top), .bool (decide (top ≤ m * k))]) ∧ Below w.heap.size w w' := by
  have im := is4_of hm
  unfold uV
  generalize l0 m = a at *; generalize l1 m = b at *; generalize l2 m = c at *; generalize l3 m = d at *
  have jk : Wd (k : Int) := ⟨by omega, by omega⟩
  obtain ⟨x, hx⟩ : ∃ x : Int, x = k := ⟨_, rfl⟩
  rw [← hx] at jk ⊢
  obtain ⟨h0, m0, wh0, wm0, q0, M0⟩ := mul64 im.wa jk
  obtain ⟨h1, m1, wh1, wm1, q1, M1⟩ := mul64 im.wb jk
  obtain ⟨h2, m2, wh2, wm2, q2, M2⟩ := mul64 im.wc jk
  obtain ⟨h3, m3, wh3, wm3, q3, M3⟩ := mul64 im.wd jk
  have step : ∀ {h c : Int}, Wd h → Cy c → h ≤ 18446744073709551614 → ∃ u, Wd u ∧ Hid (u = h + c) ∧ IntKind.u64.wrap (h + c) = u := fun {h c} wh hc hb => by
    obtain ⟨_, _⟩ := wh; obtain ⟨_, _⟩ := hc
    exact ⟨h + c, ⟨by omega, by omega⟩, rfl, by rw [IntKind.wrap_u64]; omega⟩
  obtain ⟨s0, c0, hs0, hc0, e0, r0⟩ := add64 wm0 ⟨Int.le_refl 0, by decide⟩ Cy.zero
  obtain ⟨u0, wu0, f0, g0⟩ := step wh0 hc0 q0.hi_le
  obtain ⟨s1, c1, hs1, hc1, e1, r1⟩ := add64 wm1 wu0 Cy.zero
  obtain ⟨u1, wu1, f1, g1⟩ := step wh1 hc1 q1.hi_le
  obtain ⟨s2, c2, hs2, hc2, e2, r2⟩ := add64 wm2 wu1 Cy.zero
  obtain ⟨u2, wu2, f2, g2⟩ := step wh2 hc2 q2.hi_le
  obtain ⟨s3, c3, hs3, hc3, e3, r3⟩ := add64 wm3 wu2 Cy.zero
  obtain ⟨u3, wu3, f3, g3⟩ := step wh3 hc3 q3.hi_le
  obtain ⟨s, is⟩ := is4_made hs0 hs1 hs2 hs3
  have fin : (Value.tuple #[.agg #[.int .u64 s0, .int .u64 s1, .int .u64 s2, .int .u64 s3], .bool (u3 != 0)]) = .tuple #[uV (m * k % top), .bool (decide (top ≤ m * k))] := by
    have hs := is.lt
    obtain ⟨_, _, _, _, em⟩ := im
    have is4 := is.eq
    obtain ⟨e0⟩ := e0; obtain ⟨e1⟩ := e1; obtain ⟨e2⟩ := e2; obtain ⟨e3⟩ := e3
    obtain ⟨q0, _⟩ := q0; obtain ⟨q1, _⟩ := q1; obtain ⟨q2, _⟩ := q2; obtain ⟨q3, _⟩ := q3
    have f0 := f0.out; have f1 := f1.out; have f2 := f2.out; have f3 := f3.out
    have wu := wu3.lo
    have em' : ((m * k : Nat) : Int) = a * x + 18446744073709551616 * (b * x) + 340282366920938463463374607431768211456 * (c * x) + 6277101735386680763835789423207666416102355444464034512896 * (d * x) := by
      rw [Int.natCast_mul, em, ← hx, Int.add_mul, Int.add_mul, Int.add_mul, Int.mul_assoc, Int.mul_assoc, Int.mul_assoc]
    generalize a * x = p0 at *; generalize b * x = p1 at *; generalize c * x = p2 at *; generalize d * x = p3 at *
    generalize m * k = mk at *
    rw [top_eq] at *
    have e : s = mk % 115792089237316195423570985008687907853269984665640564039457584007913129639936 := by omega
    rw [is.uV, ← e]
    congr 4
    by_cases hu : u3 = 0
    · have : ¬ 115792089237316195423570985008687907853269984665640564039457584007913129639936 ≤ mk := by omega
      simp [this, hu]
    · have : 115792089237316195423570985008687907853269984665640564039457584007913129639936 ≤ mk := by omega
      simp [this, hu]
  unfold uV at fin
  rw [← fin]
  clear fin is im step hx hk hm q0 q1 q2 q3
  go_enter Try.func65, Try.ntmps65
  go_wp2_with fail
  refine wp_loop_rounds 5 ?_
  repeat (first | (rw [rounds_succ]; go_wp2_with ((go_at_call 124; (first | (with_reducible refine (M0.out _).mono ?_) | (with_reducible refine (M1.out _).mono ?_) | (with_reducible refine (M2.out _).mono ?_) | (with_reducible refine (M3.out _).mono ?_)); rintro e w' ⟨rfl, rfl⟩))) | ((refine Flo.wp_region_auto (fun _ => True) Flo.rd (by kernel_rfl) (by decide +kernel) (trivial) ?_; repeat (first | (refine Flo.au_skip (by exact rfl) (by exact rfl) ?_; simp only [Act.put, List.setIfInBounds_toArray, List.set_cons_zero, List.set_cons_succ]) | (refine Flo.au_free (by exact rfl) (by exact rfl) (by exact rfl) ?_; intro K hK; go_big_quiet_op; go_big_quiet_on) | (refine Flo.au_still (by exact rfl) (by exact rfl) (by exact rfl) ?_; intro K hK; go_simp; refine hK _ ?_; clear hK K) | (refine Flo.au_move (by exact rfl) (by exact rfl) ?_; intro K hK; go_wp2_with ((go_at_call 124; (first | (with_reducible refine (M0.out _).mono ?_) | (with_reducible refine (M1.out _).mono ?_) | (with_reducible refine (M2.out _).mono ?_) | (with_reducible refine (M3.out _).mono ?_)); rintro e w' ⟨rfl, rfl⟩)); try (with_reducible refine ⟨rfl, trivial, ?_⟩)) | (refine Flo.mix_nil ?_))); go_wp2_with ((go_at_call 124; (first | (with_reducible refine (M0.out _).mono ?_) | (with_reducible refine (M1.out _).mono ?_) | (with_reducible refine (M2.out _).mono ?_) | (with_reducible refine (M3.out _).mono ?_)); rintro e w' ⟨rfl, rfl⟩))))
  refine bodyPost_ret (v := .tuple #[.agg #[.int .u64 s0, .int .u64 s1, .int .u64 s2, .int .u64 s3], .bool (u3 != 0)]) (by simp [results, Try.results65, go_sem]) rfl ⟨rfl, ?_⟩
  repeat' (first | (with_reducible exact Below.refl _ _) | (with_reducible assumption) | (with_reducible refine Below.drew ?_) | (with_reducible refine Below.alloc ?_ ?_ _) | (with_reducible refine Below.setCell ?_ ?_ _) | (with_reducible refine Flo.below_step ?_ (by assumption)) | (simp; done) | (simp; omega))
end Go.Proofs.Ytkgjgdeaclefiaa
