/-
  u256 at this translation: Cmp, Len, Mul.
-/
import Derived.Test.YtkgjgdeaclefiaaU256a
namespace Go.Proofs.Ytkgjgdeaclefiaa
open Go Go.Proofs Go.RowKit Go.Flo

set_option maxHeartbeats 1000000 in
/-- Cmp. -/
theorem cmp_c (m n : Nat) (hm : m < top) (hn : n < top) (w : World) :
    Calls Try.prog 38 #[uV m, uV n] w fun e w' => e = .returned (.int .i64 (cmpI m n)) ∧ Below w.heap.size w w' := by
  have im := is4_of hm
  have jn := is4_of hn
  unfold uV
  generalize l0 m = a at *; generalize l1 m = b at *; generalize l2 m = c at *; generalize l3 m = d at *
  generalize l0 n = x at *; generalize l1 n = y at *; generalize l2 n = z at *; generalize l3 n = t at *
  obtain ⟨v, hv⟩ : ∃ v, v = cmpI m n := ⟨_, rfl⟩
  rw [← hv]
  unfold cmpI at hv
  obtain ⟨⟨im0, im1⟩, ⟨im2, im3⟩, ⟨im4, im5⟩, ⟨im6, im7⟩, im8⟩ := im
  obtain ⟨⟨jn0, jn1⟩, ⟨jn2, jn3⟩, ⟨jn4, jn5⟩, ⟨jn6, jn7⟩, jn8⟩ := jn
  have key : (d < t ∧ v = -1) ∨ (¬ d < t ∧ t < d ∧ v = 1) ∨ (d = t ∧ ((c < z ∧ v = -1) ∨ (¬ c < z ∧ z < c ∧ v = 1) ∨ (c = z ∧ ((b < y ∧ v = -1) ∨ (¬ b < y ∧ y < b ∧ v = 1) ∨ (b = y ∧ ((a < x ∧ v = -1) ∨ (¬ a < x ∧ x < a ∧ v = 1) ∨ (a = x ∧ v = 0))))))) := by
    split at hv
    · omega
    · split at hv <;> omega
  clear hv im0 im1 im2 im3 im4 im5 im6 im7 im8 jn0 jn1 jn2 jn3 jn4 jn5 jn6 jn7 jn8 hm hn
  rcases key with ⟨h, rfl⟩ | ⟨h', h, rfl⟩ | ⟨rfl, ⟨h, rfl⟩ | ⟨h', h, rfl⟩ | ⟨rfl, ⟨h, rfl⟩ | ⟨h', h, rfl⟩ | ⟨rfl, ⟨h, rfl⟩ | ⟨h', h, rfl⟩ | ⟨rfl, rfl⟩⟩⟩⟩
  all_goals
    go_enter Try.func38, Try.ntmps38
    go_wp2
    refine wp_loop_rounds 5 ?_
    repeat (first | (rw [rounds_succ]; go_wp2_with (fail)) | ((refine Flo.wp_region_auto (fun _ => True) Flo.rd (by kernel_rfl) (by decide +kernel) (trivial) ?_; repeat (first | (refine Flo.au_skip (by exact rfl) (by exact rfl) ?_; simp only [Act.put, List.setIfInBounds_toArray, List.set_cons_zero, List.set_cons_succ]) | (refine Flo.au_free (by exact rfl) (by exact rfl) (by exact rfl) ?_; intro K hK; go_big_quiet_op; go_big_quiet_on) | (refine Flo.au_still (by exact rfl) (by exact rfl) (by exact rfl) ?_; intro K hK; go_simp; refine hK _ ?_; clear hK K) | (refine Flo.au_move (by exact rfl) (by exact rfl) ?_; intro K hK; go_wp2_with (fail); try (with_reducible refine ⟨rfl, trivial, ?_⟩)) | (refine Flo.mix_nil ?_))); go_wp2_with (fail)))
    go_ret
    refine ⟨rfl, ?_⟩
    repeat' (first | (with_reducible exact Below.refl _ _) | (with_reducible assumption) | (with_reducible refine Below.drew ?_) | (with_reducible refine Below.alloc ?_ ?_ _) | (with_reducible refine Below.setCell ?_ ?_ _) | (with_reducible refine Flo.below_step ?_ (by assumption)) | (simp; done) | (simp; omega))
end Go.Proofs.Ytkgjgdeaclefiaa
