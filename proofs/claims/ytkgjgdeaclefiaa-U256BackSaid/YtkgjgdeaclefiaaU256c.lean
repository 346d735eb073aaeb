/-
  u256 at this translation: Shr, Shl.
-/
import Derived.Test.YtkgjgdeaclefiaaU256b2
import Derived.Test.YtkgjgdeaclefiaaNum2
namespace Go.Proofs.Ytkgjgdeaclefiaa
open Go Go.Proofs Go.RowKit Go.Flo

/-- The or of a word moved down and the next one moved up, as the walk spells it. -/
def dn (m i : Nat) (p : Int) : Int := bits .or .u64 (li i m / 2 ^ p.toNat) (IntKind.u64.wrap (li (i + 1) m * 2 ^ (64 - p).toNat))
def upw (m i : Nat) (p : Int) : Int := bits .or .u64 (IntKind.u64.wrap (li (i + 1) m * 2 ^ p.toNat)) (li i m / 2 ^ (64 - p).toNat)

theorem dn_eq (m q i : Nat) (p n : Int) (h0 : 0 ≤ p) (h1 : p < 64) (hn : n = 64 * q + p) : dn m (i + q) p = li i (m / 2 ^ n.toNat) := by
  unfold dn
  obtain ⟨k, rfl⟩ := Int.eq_ofNat_of_zero_le h0
  have e1 : (64 - (k : Int)).toNat = 64 - k := by omega
  have e2 : n.toNat = 64 * q + k := by omega
  rw [e1, e2]
  exact shr_or m q k i (by omega)
theorem dn_last (m q i : Nat) (p n : Int) (hm : m < top) (h0 : 0 ≤ p) (h1 : p < 64) (hn : n = 64 * q + p) (hi : i + q = 3) : li 3 m / 2 ^ p.toNat = li i (m / 2 ^ n.toNat) := by
  obtain ⟨k, rfl⟩ := Int.eq_ofNat_of_zero_le h0
  have e2 : n.toNat = 64 * q + k := by omega
  rw [e2]
  exact shr_last m q k i hm (by omega) hi
theorem dn_none (m q i : Nat) (p n : Int) (hm : m < top) (h0 : 0 ≤ p) (h1 : p < 64) (hn : n = 64 * q + p) (hi : 4 ≤ i + q) : (0 : Int) = li i (m / 2 ^ n.toNat) := by
  have e2 : n.toNat = 64 * q + p.toNat := by omega
  rw [e2]
  exact shr_none m q _ i hm hi

set_option maxHeartbeats 1000000 in
/-- Shr: within 256. -/
theorem shr_in (m : Nat) (hm : m < top) (n' n : Int) (hmx : max n' 0 = n) (h0 : 0 ≤ n) (h1 : n < 256) (w : World) :
    Calls Try.prog 76 #[.agg #[.int .u64 (li 0 m), .int .u64 (li 1 m), .int .u64 (li 2 m), .int .u64 (li 3 m)], .int .i64 n'] w fun e w' =>
      e = .returned (.agg #[.int .u64 (li 0 (m / 2 ^ n.toNat)), .int .u64 (li 1 (m / 2 ^ n.toNat)), .int .u64 (li 2 (m / 2 ^ n.toNat)), .int .u64 (li 3 (m / 2 ^ n.toNat))]) ∧ Below w.heap.size w w' := by
  obtain ⟨p, hp⟩ : ∃ p, p = n % 64 := ⟨_, rfl⟩
  have p0 : 0 ≤ p := by omega
  have p1 : p < 64 := by omega
  have hq : n / 64 = 0 ∨ n / 64 = 1 ∨ n / 64 = 2 ∨ n / 64 = 3 := by omega
  have hd : n = 64 * (n / 64) + p := by omega
  have hp' : n % 64 = p := hp.symm
  clear hp
  rcases hq with hq | hq | hq | hq
  · have e0 := dn_eq m 0 0 p n p0 p1 (by omega)
    have e1 := dn_eq m 0 1 p n p0 p1 (by omega)
    have e2 := dn_eq m 0 2 p n p0 p1 (by omega)
    have e3 := dn_last m 0 3 p n hm p0 p1 (by omega) (by omega)
    rw [← e0, ← e1, ← e2, ← e3]
    clear e0 e1 e2 e3 hd
    go_enter Try.func76, Try.ntmps76
    go_wp2
    refine wp_loop_rounds 5 ?_
    repeat (first | (rw [rounds_succ]; go_wp2_with (fail)) | ((refine Flo.wp_region_auto (fun _ => True) Flo.rd (by kernel_rfl) (by decide +kernel) (trivial) ?_; repeat (first | (refine Flo.au_skip (by exact rfl) (by exact rfl) ?_; simp only [Act.put, List.setIfInBounds_toArray, List.set_cons_zero, List.set_cons_succ]) | (refine Flo.au_free (by exact rfl) (by exact rfl) (by exact rfl) ?_; intro K hK; go_big_quiet_op; go_big_quiet_on) | (refine Flo.au_still (by exact rfl) (by exact rfl) (by exact rfl) ?_; intro K hK; go_simp; refine hK _ ?_; clear hK K) | (refine Flo.au_move (by exact rfl) (by exact rfl) ?_; intro K hK; go_wp2_with (fail); try (with_reducible refine ⟨rfl, trivial, ?_⟩)) | (refine Flo.mix_nil ?_))); go_wp2_with (fail)))
    refine bodyPost_ret (v := .agg #[.int .u64 (dn m 0 p), .int .u64 (dn m 1 p), .int .u64 (dn m 2 p), .int .u64 (li 3 m / 2 ^ p.toNat)]) (by simp [results, Try.results76, go_sem, dn]) rfl ⟨rfl, ?_⟩
    repeat' (first | (with_reducible exact Below.refl _ _) | (with_reducible assumption) | (with_reducible refine Below.drew ?_) | (with_reducible refine Below.alloc ?_ ?_ _) | (with_reducible refine Below.setCell ?_ ?_ _) | (with_reducible refine Flo.below_step ?_ (by assumption)) | (simp; done) | (simp; omega))
  · have e0 := dn_eq m 1 0 p n p0 p1 (by omega)
    have e1 := dn_eq m 1 1 p n p0 p1 (by omega)
    have e2 := dn_last m 1 2 p n hm p0 p1 (by omega) (by omega)
    have e3 := dn_none m 1 3 p n hm p0 p1 (by omega) (by omega)
    rw [← e0, ← e1, ← e2, ← e3]
    clear e0 e1 e2 e3 hd
    go_enter Try.func76, Try.ntmps76
    go_wp2
    refine wp_loop_rounds 5 ?_
    repeat (first | (rw [rounds_succ]; go_wp2_with (fail)) | ((refine Flo.wp_region_auto (fun _ => True) Flo.rd (by kernel_rfl) (by decide +kernel) (trivial) ?_; repeat (first | (refine Flo.au_skip (by exact rfl) (by exact rfl) ?_; simp only [Act.put, List.setIfInBounds_toArray, List.set_cons_zero, List.set_cons_succ]) | (refine Flo.au_free (by exact rfl) (by exact rfl) (by exact rfl) ?_; intro K hK; go_big_quiet_op; go_big_quiet_on) | (refine Flo.au_still (by exact rfl) (by exact rfl) (by exact rfl) ?_; intro K hK; go_simp; refine hK _ ?_; clear hK K) | (refine Flo.au_move (by exact rfl) (by exact rfl) ?_; intro K hK; go_wp2_with (fail); try (with_reducible refine ⟨rfl, trivial, ?_⟩)) | (refine Flo.mix_nil ?_))); go_wp2_with (fail)))
    refine bodyPost_ret (v := .agg #[.int .u64 (dn m 1 p), .int .u64 (dn m 2 p), .int .u64 (li 3 m / 2 ^ p.toNat), .int .u64 0]) (by simp [results, Try.results76, go_sem, dn]) rfl ⟨rfl, ?_⟩
    repeat' (first | (with_reducible exact Below.refl _ _) | (with_reducible assumption) | (with_reducible refine Below.drew ?_) | (with_reducible refine Below.alloc ?_ ?_ _) | (with_reducible refine Below.setCell ?_ ?_ _) | (with_reducible refine Flo.below_step ?_ (by assumption)) | (simp; done) | (simp; omega))
  · have e0 := dn_eq m 2 0 p n p0 p1 (by omega)
    have e1 := dn_last m 2 1 p n hm p0 p1 (by omega) (by omega)
    have e2 := dn_none m 2 2 p n hm p0 p1 (by omega) (by omega)
    have e3 := dn_none m 2 3 p n hm p0 p1 (by omega) (by omega)
    rw [← e0, ← e1, ← e2, ← e3]
    clear e0 e1 e2 e3 hd
    go_enter Try.func76, Try.ntmps76
    go_wp2
    refine wp_loop_rounds 5 ?_
    repeat (first | (rw [rounds_succ]; go_wp2_with (fail)) | ((refine Flo.wp_region_auto (fun _ => True) Flo.rd (by kernel_rfl) (by decide +kernel) (trivial) ?_; repeat (first | (refine Flo.au_skip (by exact rfl) (by exact rfl) ?_; simp only [Act.put, List.setIfInBounds_toArray, List.set_cons_zero, List.set_cons_succ]) | (refine Flo.au_free (by exact rfl) (by exact rfl) (by exact rfl) ?_; intro K hK; go_big_quiet_op; go_big_quiet_on) | (refine Flo.au_still (by exact rfl) (by exact rfl) (by exact rfl) ?_; intro K hK; go_simp; refine hK _ ?_; clear hK K) | (refine Flo.au_move (by exact rfl) (by exact rfl) ?_; intro K hK; go_wp2_with (fail); try (with_reducible refine ⟨rfl, trivial, ?_⟩)) | (refine Flo.mix_nil ?_))); go_wp2_with (fail)))
    refine bodyPost_ret (v := .agg #[.int .u64 (dn m 2 p), .int .u64 (li 3 m / 2 ^ p.toNat), .int .u64 0, .int .u64 0]) (by simp [results, Try.results76, go_sem, dn]) rfl ⟨rfl, ?_⟩
    repeat' (first | (with_reducible exact Below.refl _ _) | (with_reducible assumption) | (with_reducible refine Below.drew ?_) | (with_reducible refine Below.alloc ?_ ?_ _) | (with_reducible refine Below.setCell ?_ ?_ _) | (with_reducible refine Flo.below_step ?_ (by assumption)) | (simp; done) | (simp; omega))
  · have e0 := dn_last m 3 0 p n hm p0 p1 (by omega) (by omega)
    have e1 := dn_none m 3 1 p n hm p0 p1 (by omega) (by omega)
    have e2 := dn_none m 3 2 p n hm p0 p1 (by omega) (by omega)
    have e3 := dn_none m 3 3 p n hm p0 p1 (by omega) (by omega)
    rw [← e0, ← e1, ← e2, ← e3]
    clear e0 e1 e2 e3 hd
    go_enter Try.func76, Try.ntmps76
    go_wp2
    refine wp_loop_rounds 5 ?_
    repeat (first | (rw [rounds_succ]; go_wp2_with (fail)) | ((refine Flo.wp_region_auto (fun _ => True) Flo.rd (by kernel_rfl) (by decide +kernel) (trivial) ?_; repeat (first | (refine Flo.au_skip (by exact rfl) (by exact rfl) ?_; simp only [Act.put, List.setIfInBounds_toArray, List.set_cons_zero, List.set_cons_succ]) | (refine Flo.au_free (by exact rfl) (by exact rfl) (by exact rfl) ?_; intro K hK; go_big_quiet_op; go_big_quiet_on) | (refine Flo.au_still (by exact rfl) (by exact rfl) (by exact rfl) ?_; intro K hK; go_simp; refine hK _ ?_; clear hK K) | (refine Flo.au_move (by exact rfl) (by exact rfl) ?_; intro K hK; go_wp2_with (fail); try (with_reducible refine ⟨rfl, trivial, ?_⟩)) | (refine Flo.mix_nil ?_))); go_wp2_with (fail)))
    refine bodyPost_ret (v := .agg #[.int .u64 (li 3 m / 2 ^ p.toNat), .int .u64 0, .int .u64 0, .int .u64 0]) (by simp [results, Try.results76, go_sem]) rfl ⟨rfl, ?_⟩
    repeat' (first | (with_reducible exact Below.refl _ _) | (with_reducible assumption) | (with_reducible refine Below.drew ?_) | (with_reducible refine Below.alloc ?_ ?_ _) | (with_reducible refine Below.setCell ?_ ?_ _) | (with_reducible refine Flo.below_step ?_ (by assumption)) | (simp; done) | (simp; omega))

theorem uV_zero : Value.agg #[.int .u64 0, .int .u64 0, .int .u64 0, .int .u64 0] = uV 0 := Is4.uV ⟨⟨by decide, by decide⟩, ⟨by decide, by decide⟩, ⟨by decide, by decide⟩, ⟨by decide, by decide⟩, rfl⟩

set_option maxHeartbeats 1000000 in
/-- Shr. -/
theorem shr_c (m : Nat) (hm : m < top) (n' : Int) (w : World) :
    Calls Try.prog 76 #[uV m, .int .i64 n'] w fun e w' => e = .returned (uV (m / 2 ^ n'.toNat)) ∧ Below w.heap.size w w' := by
  obtain ⟨n, hn⟩ : ∃ n, n = max n' 0 := ⟨_, rfl⟩
  have e : n'.toNat = n.toNat := by omega
  have h0 : 0 ≤ n := by omega
  rw [e]
  clear e
  by_cases h1 : n < 256
  · unfold uV
    simp only [l0_li, l1_li, l2_li, l3_li]
    exact shr_in m hm n' n hn.symm h0 h1 w
  · have h2 : 256 ≤ n := by omega
    have z : m / 2 ^ n.toNat = 0 := Nat.div_eq_of_lt (by rw [top_pow] at hm; exact Nat.lt_of_lt_of_le hm (Nat.pow_le_pow_right (by decide) (by omega)))
    rw [z, ← uV_zero]
    have hmx := hn.symm
    clear z hn h1
    go_enter Try.func76, Try.ntmps76
    go_wp2
    refine bodyPost_ret (v := .agg #[.int .u64 0, .int .u64 0, .int .u64 0, .int .u64 0]) (by simp [results, Try.results76, go_sem]) rfl ⟨rfl, ?_⟩
    repeat' (first | (with_reducible exact Below.refl _ _) | (with_reducible assumption) | (with_reducible refine Below.drew ?_) | (with_reducible refine Below.alloc ?_ ?_ _) | (with_reducible refine Below.setCell ?_ ?_ _) | (with_reducible refine Flo.below_step ?_ (by assumption)) | (simp; done) | (simp; omega))
end Go.Proofs.Ytkgjgdeaclefiaa
