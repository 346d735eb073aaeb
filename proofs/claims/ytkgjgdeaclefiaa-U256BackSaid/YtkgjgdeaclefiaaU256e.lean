/-
  u256 at this translation: Shl, whatever the count.
-/
import Derived.Test.YtkgjgdeaclefiaaU256d
namespace Go.Proofs.Ytkgjgdeaclefiaa
open Go Go.Proofs Go.RowKit Go.Flo
set_option maxHeartbeats 1000000 in
/-- Shl. -/
theorem shl_c (m : Nat) (hm : m < top) (n' : Int) (w : World) :
    Calls Try.prog 74 #[uV m, .int .i64 n'] w fun e w' => e = .returned (.tuple #[uV (m * 2 ^ n'.toNat % top), .bool (decide (top ≤ m * 2 ^ n'.toNat))]) ∧ Below w.heap.size w w' := by
  obtain ⟨n, hn⟩ : ∃ n, n = max n' 0 := ⟨_, rfl⟩
  have e : n'.toNat = n.toNat := by omega
  have h0 : 0 ≤ n := by omega
  rw [e]
  clear e
  by_cases h1 : n < 256
  · unfold uV
    simp only [l0_li, l1_li, l2_li, l3_li]
    exact shl_in m hm n' n hn.symm h0 h1 w
  · have h2 : 256 ≤ n := by omega
    have z : m * 2 ^ n.toNat % top = 0 := by
      have e1 : n.toNat = 256 + (n.toNat - 256) := by omega
      rw [top_pow, e1, Nat.pow_add, Nat.mul_left_comm, Nat.mul_mod_right]
    have hmx := hn.symm
    by_cases hz : m = 0
    · subst hz
      have y : decide (top ≤ 0 * 2 ^ n.toNat) = false := decide_eq_false (by rw [Nat.zero_mul, top_eq]; omega)
      rw [z, y, ← uV_zero]
      clear z hn h1 y hm
      go_enter Try.func74, Try.ntmps74
      go_wp2
      (refine Flo.wp_region_held ((fun b => b = w.heap.size)) (by kernel_rfl) (by decide +kernel) ?_; repeat (first | (refine Flo.au_skip (by exact rfl) (by exact rfl) ?_; simp only [Act.put, List.setIfInBounds_toArray, List.set_cons_zero, List.set_cons_succ]) | (refine Flo.hx_free (by exact rfl) (by exact rfl) (by exact rfl) ?_; intro K hK; go_big_quiet_op; go_big_quiet_on) | (refine Flo.au_move (by exact rfl) (by exact rfl) ?_; intro K hK; go_wp2_with (fail); refine ⟨(by repeat' (first | (with_reducible assumption) | (with_reducible exact InExt.refl _ _) | (with_reducible refine InExt.drew ?_) | (with_reducible refine InExt.alloc ?_ ?_ _) | (with_reducible refine InExt.setCell ?_ ?_ _) | (with_reducible refine InExt.below ?_ ?_ (by assumption)) | (simp; done) | (simp; omega))), ?_⟩) | (refine Flo.mix_nil ?_)))
      go_wp2
      refine bodyPost_ret (v := .tuple #[.agg #[.int .u64 0, .int .u64 0, .int .u64 0, .int .u64 0], .bool false]) (by simp [results, Try.results74, go_sem]) rfl ⟨rfl, ?_⟩
      repeat' (first | (with_reducible exact Below.refl _ _) | (with_reducible assumption) | (with_reducible refine Below.drew ?_) | (with_reducible refine Below.alloc ?_ ?_ _) | (with_reducible refine Below.setCell ?_ ?_ _) | (with_reducible refine Flo.below_step ?_ (by assumption)) | (simp; done) | (simp; omega))
    · have y : decide (top ≤ m * 2 ^ n.toNat) = true := decide_eq_true ((lost_iff hz).2 (by have := lenN_pos hz; omega))
      have im := is4_of hm
      rw [z, y, ← uV_zero]
      unfold uV
      generalize l0 m = a at *; generalize l1 m = b at *; generalize l2 m = c at *; generalize l3 m = d at *
      have ne : (!(a == 0 && (b == 0 && (c == 0 && d == 0)))) = true := by
        have := im.eq
        by_cases h : a = 0 ∧ b = 0 ∧ c = 0 ∧ d = 0
        · obtain ⟨rfl, rfl, rfl, rfl⟩ := h; omega
        · simp; omega
      clear z hn h1 y hm im
      go_enter Try.func74, Try.ntmps74
      go_wp2
      (refine Flo.wp_region_held ((fun b => b = w.heap.size)) (by kernel_rfl) (by decide +kernel) ?_; repeat (first | (refine Flo.au_skip (by exact rfl) (by exact rfl) ?_; simp only [Act.put, List.setIfInBounds_toArray, List.set_cons_zero, List.set_cons_succ]) | (refine Flo.hx_free (by exact rfl) (by exact rfl) (by exact rfl) ?_; intro K hK; go_big_quiet_op; go_big_quiet_on) | (refine Flo.au_move (by exact rfl) (by exact rfl) ?_; intro K hK; go_wp2_with (fail); refine ⟨(by repeat' (first | (with_reducible assumption) | (with_reducible exact InExt.refl _ _) | (with_reducible refine InExt.drew ?_) | (with_reducible refine InExt.alloc ?_ ?_ _) | (with_reducible refine InExt.setCell ?_ ?_ _) | (with_reducible refine InExt.below ?_ ?_ (by assumption)) | (simp; done) | (simp; omega))), ?_⟩) | (refine Flo.mix_nil ?_)))
      go_wp2
      refine bodyPost_ret (v := .tuple #[.agg #[.int .u64 0, .int .u64 0, .int .u64 0, .int .u64 0], .bool true]) (by simp [results, Try.results74, go_sem]) rfl ⟨rfl, ?_⟩
      repeat' (first | (with_reducible exact Below.refl _ _) | (with_reducible assumption) | (with_reducible refine Below.drew ?_) | (with_reducible refine Below.alloc ?_ ?_ _) | (with_reducible refine Below.setCell ?_ ?_ _) | (with_reducible refine Flo.below_step ?_ (by assumption)) | (simp; done) | (simp; omega))
end Go.Proofs.Ytkgjgdeaclefiaa
