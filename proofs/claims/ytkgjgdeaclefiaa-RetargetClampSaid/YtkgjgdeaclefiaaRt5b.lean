/-
  florinlaw13.RetargetClamp.
-/
import Derived.Test.YtkgjgdeaclefiaaRt4
import Derived.Test.YtkgjgdeaclefiaaLft
namespace Go.Proofs.Ytkgjgdeaclefiaa
open Go Go.Proofs Go.RowKit Go.Flo

set_option maxRecDepth 100000 in
set_option maxHeartbeats 16000000 in
theorem rclamp_2 (a b s h n x y f S : Int) (w0 : World) (hS : max 4 (min s 1099511627776) = S) (s1 : 4 ≤ S) (s2 : S ≤ 1099511627776) (C1 : Gives 100 #[.int .i64 a, .int .i64 s] (.int .i64 x)) (C2 : Gives 100 #[.int .i64 b, .int .i64 s] (.int .i64 y)) (C3 : Gives 100 #[.int .i64 x, .int .i64 s] (.int .i64 x))
    (F1 : Gives 101 #[.int .i64 h, .int .i64 n] (.int .i64 f)) (g1 : S / 4 ≤ x) (g2 : x ≤ 4 * S) (g3 : b < a ∨ (a ≤ b ∧ x ≤ y)) (g4 : S / 4 ≤ a) (k4 : 4 * S < a) (g5 : 0 ≤ f) (g6 : f ≤ max 0 h)
    (g7 : n < 1 ∨ (1 ≤ n ∧ 1048576 < n) ∨ (1 ≤ n ∧ n ≤ 1048576 ∧ h < n) ∨ (1 ≤ n ∧ n ≤ 1048576 ∧ n ≤ h ∧ f = h - n)) (hh : h ≤ 9223372036854775807) :
    Calls Try.prog 24 #[.int .i64 a, .int .i64 b, .int .i64 s, .int .i64 h, .int .i64 n] w0 fun e w' => e = .returned (.bool true) ∧ Below w0.heap.size w0 w' := by
  have M := Mem.nil w0; have F := Mem.facts M; simp only [MemFacts] at F; (try simp only [ApartFacts] at F)
  go_enter Try.func24, Try.ntmps24
  go_wp2_with (first | (go_at_call 97; (with_reducible refine (awake13 _).mono ?_); rintro o w1 ⟨rfl, hb⟩; replace M := Mem.call (w0 := w0) (by repeat' (first | (with_reducible exact M) | (with_reducible apply Mem.drew) | (with_reducible apply Mem.alloc))) hb; clear hb; (try clear F); (try simp only [World.size_alloc] at M); (try simp only [heap_drew] at M); have F := Mem.facts M; simp only [MemFacts] at F; (try simp only [ApartFacts] at F)) | (go_at_call 100; (first | (with_reducible refine (C1 _).mono ?_) | (with_reducible refine (C2 _).mono ?_) | (with_reducible refine (C3 _).mono ?_)); rintro o w1 ⟨rfl, hb⟩; replace M := Mem.call (w0 := w0) (by repeat' (first | (with_reducible exact M) | (with_reducible apply Mem.drew) | (with_reducible apply Mem.alloc))) hb; clear hb; (try clear F); (try simp only [World.size_alloc] at M); (try simp only [heap_drew] at M); have F := Mem.facts M; simp only [MemFacts] at F; (try simp only [ApartFacts] at F)) | (go_at_call 101; (with_reducible refine (F1 _).mono ?_); rintro o w1 ⟨rfl, hb⟩; replace M := Mem.call (w0 := w0) (by repeat' (first | (with_reducible exact M) | (with_reducible apply Mem.drew) | (with_reducible apply Mem.alloc))) hb; clear hb; (try clear F); (try simp only [World.size_alloc] at M); (try simp only [heap_drew] at M); have F := Mem.facts M; simp only [MemFacts] at F; (try simp only [ApartFacts] at F); (rcases g3 with g3 | ⟨g3, k3⟩); all_goals (rcases g7 with g7 | ⟨g7, k7⟩ | ⟨g7, k7, j7⟩ | ⟨g7, k7, j7, rfl⟩)))
  all_goals
    (go_wp2_with (fail); refine bodyPost_ret (v := .bool true) (by simp [results, Try.results24, go_sem]) rfl ⟨rfl, (Mem.below (w0 := w0) (by repeat' (first | (with_reducible exact M) | (with_reducible apply Mem.drew) | (with_reducible apply Mem.alloc))))⟩)
end Go.Proofs.Ytkgjgdeaclefiaa
