/-
  u256 at this translation: Shl.
-/
import Derived.Test.YtkgjgdeaclefiaaU256c
namespace Go.Proofs.Ytkgjgdeaclefiaa
open Go Go.Proofs Go.RowKit Go.Flo
theorem up_eq (m q i : Nat) (p n : Int) (h0 : 0 ≤ p) (h1 : p < 64) (hn : n = 64 * q + p) (hi : i + 1 + q ≤ 3) : upw m i p = li (i + 1 + q) (m * 2 ^ n.toNat % top) := by
  unfold upw
  obtain ⟨k, rfl⟩ := Int.eq_ofNat_of_zero_le h0
  have e1 : (64 - (k : Int)).toNat = 64 - k := by omega
  have e2 : n.toNat = 64 * q + k := by omega
  rw [e1, e2]
  exact shl_or m q k i (by omega) hi
theorem up_first (m q : Nat) (p n : Int) (h0 : 0 ≤ p) (hn : n = 64 * q + p) (hq : q ≤ 3) : IntKind.u64.wrap (li 0 m * 2 ^ p.toNat) = li q (m * 2 ^ n.toNat % top) := by
  have e2 : n.toNat = 64 * q + p.toNat := by omega
  rw [e2]
  exact shl_first m q _ hq
theorem up_none (m q i : Nat) (p n : Int) (h0 : 0 ≤ p) (hn : n = 64 * q + p) (hq : q ≤ 3) (hi : i < q) : (0 : Int) = li i (m * 2 ^ n.toNat % top) := by
  have e2 : n.toNat = 64 * q + p.toNat := by omega
  rw [e2]
  exact shl_none m q _ i hq hi

theorem lost_eq (m : Nat) (hm : m < top) (n : Int) (h0 : 0 ≤ n) (h1 : n < 256) : decide (top ≤ m * 2 ^ n.toNat) = decide (256 < (lenN m : Int) + n) := by
  by_cases h : m = 0
  · subst h
    rw [lenN_zero, Nat.zero_mul, decide_eq_false (by rw [top_eq]; omega), decide_eq_false (by omega)]
  · have e := lost_iff (n := n.toNat) h
    by_cases h2 : 256 < lenN m + n.toNat
    · rw [decide_eq_true (e.2 h2), decide_eq_true (by omega)]
    · rw [decide_eq_false (fun h3 => h2 (e.1 h3)), decide_eq_false (by omega)]

set_option maxHeartbeats 4000000 in
/-- Shl: within 256. -/
theorem shl_in (m : Nat) (hm : m < top) (n' n : Int) (hmx : max n' 0 = n) (h0 : 0 ≤ n) (h1 : n < 256) (w : World) :
    Calls Try.prog 74 #[.agg #[.int .u64 (li 0 m), .int .u64 (li 1 m), .int .u64 (li 2 m), .int .u64 (li 3 m)], .int .i64 n'] w fun e w' =>
      e = .returned (.tuple #[.agg #[.int .u64 (li 0 (m * 2 ^ n.toNat % top)), .int .u64 (li 1 (m * 2 ^ n.toNat % top)), .int .u64 (li 2 (m * 2 ^ n.toNat % top)), .int .u64 (li 3 (m * 2 ^ n.toNat % top))], .bool (decide (top ≤ m * 2 ^ n.toNat))]) ∧ Below w.heap.size w w' := by
  have hl := lenN_top hm
  have L : Hid (∀ w, Calls Try.prog 69 #[.agg #[.int .u64 (li 0 m), .int .u64 (li 1 m), .int .u64 (li 2 m), .int .u64 (li 3 m)]] w fun e w' => e = .returned (.int .i64 (lenN m)) ∧ Below w.heap.size w w') := fun w => by
    have := len_c m hm w
    unfold uV at this
    simpa only [l0_li, l1_li, l2_li, l3_li] using this
  rw [lost_eq m hm n h0 h1]
  clear hm
  obtain ⟨p, hp⟩ : ∃ p, p = n % 64 := ⟨_, rfl⟩
  have p0 : 0 ≤ p := by omega
  have p1 : p < 64 := by omega
  have hq : n / 64 = 0 ∨ n / 64 = 1 ∨ n / 64 = 2 ∨ n / 64 = 3 := by omega
  have hd : n = 64 * (n / 64) + p := by omega
  have hp' : n % 64 = p := hp.symm
  clear hp
  rcases hq with hq | hq | hq | hq
  · have e0 := up_first m 0 p n p0 (by omega) (by omega)
    have e1 := up_eq m 0 0 p n p0 p1 (by omega) (by omega)
    have e2 := up_eq m 0 1 p n p0 p1 (by omega) (by omega)
    have e3 := up_eq m 0 2 p n p0 p1 (by omega) (by omega)
    rw [← e0, ← e1, ← e2, ← e3]
    clear e0 e1 e2 e3 hd
    go_enter Try.func74, Try.ntmps74
    go_wp2
    refine wp_loop_rounds 5 ?_
    repeat (first | (rw [rounds_succ]; go_wp2_with (fail)) | ((refine Flo.wp_region_auto (fun _ => True) Flo.rd (by kernel_rfl) (by decide +kernel) (trivial) ?_; repeat (first | (refine Flo.au_skip (by exact rfl) (by exact rfl) ?_; simp only [Act.put, List.setIfInBounds_toArray, List.set_cons_zero, List.set_cons_succ]) | (refine Flo.au_free (by exact rfl) (by exact rfl) (by exact rfl) ?_; intro K hK; go_big_quiet_op; go_big_quiet_on) | (refine Flo.au_still (by exact rfl) (by exact rfl) (by exact rfl) ?_; intro K hK; go_simp; refine hK _ ?_; clear hK K) | (refine Flo.au_move (by exact rfl) (by exact rfl) ?_; intro K hK; go_wp2_with (fail); try (with_reducible refine ⟨rfl, trivial, ?_⟩)) | (refine Flo.mix_nil ?_))); go_wp2_with (fail)))
    (refine Flo.wp_region_held ((fun b => b < w.heap.size + 3 ∧ b ≠ w.heap.size + 1)) (by kernel_rfl) (by decide +kernel) ?_; repeat (first | (refine Flo.au_skip (by exact rfl) (by exact rfl) ?_; simp only [Act.put, List.setIfInBounds_toArray, List.set_cons_zero, List.set_cons_succ]) | (refine Flo.hx_free (by exact rfl) (by exact rfl) (by exact rfl) ?_; intro K hK; go_big_quiet_op; go_big_quiet_on) | (refine Flo.au_move (by exact rfl) (by exact rfl) ?_; intro K hK; go_wp2_with ((go_at_call 69; (with_reducible refine (L.out _).mono ?_); rintro e w1 ⟨rfl, hb⟩; obtain ⟨hc, hf, hz⟩ := bcell hb)); refine ⟨(by repeat' (first | (with_reducible assumption) | (with_reducible exact InExt.refl _ _) | (with_reducible refine InExt.drew ?_) | (with_reducible refine InExt.alloc ?_ ?_ _) | (with_reducible refine InExt.setCell ?_ ?_ _) | (with_reducible refine InExt.below ?_ ?_ (by assumption)) | (simp; done) | (simp; omega))), ?_⟩) | (refine Flo.mix_nil ?_)))
    rename_i w1 hb hc hf hz
    simp at hz
    go_wp2
    refine bodyPost_ret (v := .tuple #[.agg #[.int .u64 (IntKind.u64.wrap (li 0 m * 2 ^ p.toNat)), .int .u64 (upw m 0 p), .int .u64 (upw m 1 p), .int .u64 (upw m 2 p)], .bool (decide (256 < (lenN m : Int) + n))]) (by simp [results, Try.results74, go_sem, hc, upw]) rfl ⟨rfl, ?_⟩
    repeat' (first | (with_reducible exact Below.refl _ _) | (with_reducible assumption) | (with_reducible refine Below.drew ?_) | (with_reducible refine Below.alloc ?_ ?_ _) | (with_reducible refine Below.setCell ?_ ?_ _) | (with_reducible refine Flo.below_step ?_ (by assumption)) | (simp; done) | (simp; omega))
  · have e0 := up_none m 1 0 p n p0 (by omega) (by omega) (by omega)
    have e1 := up_first m 1 p n p0 (by omega) (by omega)
    have e2 := up_eq m 1 0 p n p0 p1 (by omega) (by omega)
    have e3 := up_eq m 1 1 p n p0 p1 (by omega) (by omega)
    rw [← e0, ← e1, ← e2, ← e3]
    clear e0 e1 e2 e3 hd
    go_enter Try.func74, Try.ntmps74
    go_wp2
    refine wp_loop_rounds 5 ?_
    repeat (first | (rw [rounds_succ]; go_wp2_with (fail)) | ((refine Flo.wp_region_auto (fun _ => True) Flo.rd (by kernel_rfl) (by decide +kernel) (trivial) ?_; repeat (first | (refine Flo.au_skip (by exact rfl) (by exact rfl) ?_; simp only [Act.put, List.setIfInBounds_toArray, List.set_cons_zero, List.set_cons_succ]) | (refine Flo.au_free (by exact rfl) (by exact rfl) (by exact rfl) ?_; intro K hK; go_big_quiet_op; go_big_quiet_on) | (refine Flo.au_still (by exact rfl) (by exact rfl) (by exact rfl) ?_; intro K hK; go_simp; refine hK _ ?_; clear hK K) | (refine Flo.au_move (by exact rfl) (by exact rfl) ?_; intro K hK; go_wp2_with (fail); try (with_reducible refine ⟨rfl, trivial, ?_⟩)) | (refine Flo.mix_nil ?_))); go_wp2_with (fail)))
    (refine Flo.wp_region_held ((fun b => b < w.heap.size + 3 ∧ b ≠ w.heap.size + 1)) (by kernel_rfl) (by decide +kernel) ?_; repeat (first | (refine Flo.au_skip (by exact rfl) (by exact rfl) ?_; simp only [Act.put, List.setIfInBounds_toArray, List.set_cons_zero, List.set_cons_succ]) | (refine Flo.hx_free (by exact rfl) (by exact rfl) (by exact rfl) ?_; intro K hK; go_big_quiet_op; go_big_quiet_on) | (refine Flo.au_move (by exact rfl) (by exact rfl) ?_; intro K hK; go_wp2_with ((go_at_call 69; (with_reducible refine (L.out _).mono ?_); rintro e w1 ⟨rfl, hb⟩; obtain ⟨hc, hf, hz⟩ := bcell hb)); refine ⟨(by repeat' (first | (with_reducible assumption) | (with_reducible exact InExt.refl _ _) | (with_reducible refine InExt.drew ?_) | (with_reducible refine InExt.alloc ?_ ?_ _) | (with_reducible refine InExt.setCell ?_ ?_ _) | (with_reducible refine InExt.below ?_ ?_ (by assumption)) | (simp; done) | (simp; omega))), ?_⟩) | (refine Flo.mix_nil ?_)))
    rename_i w1 hb hc hf hz
    simp at hz
    go_wp2
    refine bodyPost_ret (v := .tuple #[.agg #[.int .u64 (0), .int .u64 (IntKind.u64.wrap (li 0 m * 2 ^ p.toNat)), .int .u64 (upw m 0 p), .int .u64 (upw m 1 p)], .bool (decide (256 < (lenN m : Int) + n))]) (by simp [results, Try.results74, go_sem, hc, upw]) rfl ⟨rfl, ?_⟩
    repeat' (first | (with_reducible exact Below.refl _ _) | (with_reducible assumption) | (with_reducible refine Below.drew ?_) | (with_reducible refine Below.alloc ?_ ?_ _) | (with_reducible refine Below.setCell ?_ ?_ _) | (with_reducible refine Flo.below_step ?_ (by assumption)) | (simp; done) | (simp; omega))
  · have e0 := up_none m 2 0 p n p0 (by omega) (by omega) (by omega)
    have e1 := up_none m 2 1 p n p0 (by omega) (by omega) (by omega)
    have e2 := up_first m 2 p n p0 (by omega) (by omega)
    have e3 := up_eq m 2 0 p n p0 p1 (by omega) (by omega)
    rw [← e0, ← e1, ← e2, ← e3]
    clear e0 e1 e2 e3 hd
    go_enter Try.func74, Try.ntmps74
    go_wp2
    refine wp_loop_rounds 5 ?_
    repeat (first | (rw [rounds_succ]; go_wp2_with (fail)) | ((refine Flo.wp_region_auto (fun _ => True) Flo.rd (by kernel_rfl) (by decide +kernel) (trivial) ?_; repeat (first | (refine Flo.au_skip (by exact rfl) (by exact rfl) ?_; simp only [Act.put, List.setIfInBounds_toArray, List.set_cons_zero, List.set_cons_succ]) | (refine Flo.au_free (by exact rfl) (by exact rfl) (by exact rfl) ?_; intro K hK; go_big_quiet_op; go_big_quiet_on) | (refine Flo.au_still (by exact rfl) (by exact rfl) (by exact rfl) ?_; intro K hK; go_simp; refine hK _ ?_; clear hK K) | (refine Flo.au_move (by exact rfl) (by exact rfl) ?_; intro K hK; go_wp2_with (fail); try (with_reducible refine ⟨rfl, trivial, ?_⟩)) | (refine Flo.mix_nil ?_))); go_wp2_with (fail)))
    (refine Flo.wp_region_held ((fun b => b < w.heap.size + 3 ∧ b ≠ w.heap.size + 1)) (by kernel_rfl) (by decide +kernel) ?_; repeat (first | (refine Flo.au_skip (by exact rfl) (by exact rfl) ?_; simp only [Act.put, List.setIfInBounds_toArray, List.set_cons_zero, List.set_cons_succ]) | (refine Flo.hx_free (by exact rfl) (by exact rfl) (by exact rfl) ?_; intro K hK; go_big_quiet_op; go_big_quiet_on) | (refine Flo.au_move (by exact rfl) (by exact rfl) ?_; intro K hK; go_wp2_with ((go_at_call 69; (with_reducible refine (L.out _).mono ?_); rintro e w1 ⟨rfl, hb⟩; obtain ⟨hc, hf, hz⟩ := bcell hb)); refine ⟨(by repeat' (first | (with_reducible assumption) | (with_reducible exact InExt.refl _ _) | (with_reducible refine InExt.drew ?_) | (with_reducible refine InExt.alloc ?_ ?_ _) | (with_reducible refine InExt.setCell ?_ ?_ _) | (with_reducible refine InExt.below ?_ ?_ (by assumption)) | (simp; done) | (simp; omega))), ?_⟩) | (refine Flo.mix_nil ?_)))
    rename_i w1 hb hc hf hz
    simp at hz
    go_wp2
    refine bodyPost_ret (v := .tuple #[.agg #[.int .u64 (0), .int .u64 (0), .int .u64 (IntKind.u64.wrap (li 0 m * 2 ^ p.toNat)), .int .u64 (upw m 0 p)], .bool (decide (256 < (lenN m : Int) + n))]) (by simp [results, Try.results74, go_sem, hc, upw]) rfl ⟨rfl, ?_⟩
    repeat' (first | (with_reducible exact Below.refl _ _) | (with_reducible assumption) | (with_reducible refine Below.drew ?_) | (with_reducible refine Below.alloc ?_ ?_ _) | (with_reducible refine Below.setCell ?_ ?_ _) | (with_reducible refine Flo.below_step ?_ (by assumption)) | (simp; done) | (simp; omega))
  · have e0 := up_none m 3 0 p n p0 (by omega) (by omega) (by omega)
    have e1 := up_none m 3 1 p n p0 (by omega) (by omega) (by omega)
    have e2 := up_none m 3 2 p n p0 (by omega) (by omega) (by omega)
    have e3 := up_first m 3 p n p0 (by omega) (by omega)
    rw [← e0, ← e1, ← e2, ← e3]
    clear e0 e1 e2 e3 hd
    go_enter Try.func74, Try.ntmps74
    go_wp2
    refine wp_loop_rounds 5 ?_
    repeat (first | (rw [rounds_succ]; go_wp2_with (fail)) | ((refine Flo.wp_region_auto (fun _ => True) Flo.rd (by kernel_rfl) (by decide +kernel) (trivial) ?_; repeat (first | (refine Flo.au_skip (by exact rfl) (by exact rfl) ?_; simp only [Act.put, List.setIfInBounds_toArray, List.set_cons_zero, List.set_cons_succ]) | (refine Flo.au_free (by exact rfl) (by exact rfl) (by exact rfl) ?_; intro K hK; go_big_quiet_op; go_big_quiet_on) | (refine Flo.au_still (by exact rfl) (by exact rfl) (by exact rfl) ?_; intro K hK; go_simp; refine hK _ ?_; clear hK K) | (refine Flo.au_move (by exact rfl) (by exact rfl) ?_; intro K hK; go_wp2_with (fail); try (with_reducible refine ⟨rfl, trivial, ?_⟩)) | (refine Flo.mix_nil ?_))); go_wp2_with (fail)))
    (refine Flo.wp_region_held ((fun b => b < w.heap.size + 3 ∧ b ≠ w.heap.size + 1)) (by kernel_rfl) (by decide +kernel) ?_; repeat (first | (refine Flo.au_skip (by exact rfl) (by exact rfl) ?_; simp only [Act.put, List.setIfInBounds_toArray, List.set_cons_zero, List.set_cons_succ]) | (refine Flo.hx_free (by exact rfl) (by exact rfl) (by exact rfl) ?_; intro K hK; go_big_quiet_op; go_big_quiet_on) | (refine Flo.au_move (by exact rfl) (by exact rfl) ?_; intro K hK; go_wp2_with ((go_at_call 69; (with_reducible refine (L.out _).mono ?_); rintro e w1 ⟨rfl, hb⟩; obtain ⟨hc, hf, hz⟩ := bcell hb)); refine ⟨(by repeat' (first | (with_reducible assumption) | (with_reducible exact InExt.refl _ _) | (with_reducible refine InExt.drew ?_) | (with_reducible refine InExt.alloc ?_ ?_ _) | (with_reducible refine InExt.setCell ?_ ?_ _) | (with_reducible refine InExt.below ?_ ?_ (by assumption)) | (simp; done) | (simp; omega))), ?_⟩) | (refine Flo.mix_nil ?_)))
    rename_i w1 hb hc hf hz
    simp at hz
    go_wp2
    refine bodyPost_ret (v := .tuple #[.agg #[.int .u64 (0), .int .u64 (0), .int .u64 (0), .int .u64 (IntKind.u64.wrap (li 0 m * 2 ^ p.toNat))], .bool (decide (256 < (lenN m : Int) + n))]) (by simp [results, Try.results74, go_sem, hc]) rfl ⟨rfl, ?_⟩
    repeat' (first | (with_reducible exact Below.refl _ _) | (with_reducible assumption) | (with_reducible refine Below.drew ?_) | (with_reducible refine Below.alloc ?_ ?_ _) | (with_reducible refine Below.setCell ?_ ?_ _) | (with_reducible refine Flo.below_step ?_ (by assumption)) | (simp; done) | (simp; omega))

end Go.Proofs.Ytkgjgdeaclefiaa
