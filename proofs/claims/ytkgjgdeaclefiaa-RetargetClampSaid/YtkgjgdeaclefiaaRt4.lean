/-
  florinlaw13.awake.
-/
import Derived.Test.YtkgjgdeaclefiaaRt3
namespace Go.Proofs.Ytkgjgdeaclefiaa
open Go Go.Proofs Go.RowKit Go.Flo

theorem n13_1 : nextI 486604799 2 100 0 0 0 0 2 469827583 100 0 = 469827583 := by decide +kernel
theorem n13_2 : nextI 486604799 2 100 0 0 0 0 3 5 0 0 = 5 := by decide +kernel
theorem s13 : saneB 486604799 2 100 0 0 0 0 = true := by decide +kernel
theorem c13 : clampI 7 100 = 25 := by decide +kernel
set_option maxRecDepth 100000 in
set_option maxHeartbeats 2000000 in
theorem awake13_main (w0 : World) (C1 : Gives 100 #[.int .i64 7, .int .i64 100] (.int .i64 25)) (N1 : Gives 98 #[.agg #[.int .u32 486604799, .int .i64 2, .int .i64 100, .int .i64 0, .int .i64 0, .int .i64 0, .slice none 0 0], .int .i64 2, .agg ((Try.zeroCells115.setIfInBounds 65 (.int .u32 100)).setIfInBounds 66 (.int .u32 469827583)), .int .u32 0] (.int .u32 469827583))
    (N2 : Gives 98 #[.agg #[.int .u32 486604799, .int .i64 2, .int .i64 100, .int .i64 0, .int .i64 0, .int .i64 0, .slice none 0 0], .int .i64 3, .agg (Try.zeroCells115.setIfInBounds 66 (.int .u32 5)), .int .u32 0] (.int .u32 5)) (S1 : Gives 99 #[.agg #[.int .u32 486604799, .int .i64 2, .int .i64 100, .int .i64 0, .int .i64 0, .int .i64 0, .slice none 0 0]] (.bool true)) :
    Calls Try.prog 97 #[] w0 fun e w' => e = .returned (.bool true) ∧ Below w0.heap.size w0 w' := by
  have M := Mem.nil w0; have F := Mem.facts M; simp only [MemFacts] at F; (try simp only [ApartFacts] at F)
  go_enter Try.func97, Try.ntmps97
  go_wp2_with (first | (go_at_call 100; (with_reducible refine (C1 _).mono ?_); rintro o w1 ⟨rfl, hb⟩; replace M := Mem.call (w0 := w0) (by repeat' (first | (with_reducible exact M) | (with_reducible apply Mem.drew) | (with_reducible apply Mem.alloc))) hb; clear hb; (try clear F); (try simp only [World.size_alloc] at M); (try simp only [heap_drew] at M); have F := Mem.facts M; simp only [MemFacts] at F; (try simp only [ApartFacts] at F)) | (go_at_call 98; (first | (with_reducible refine (N1 _).mono ?_) | (with_reducible refine (N2 _).mono ?_)); rintro o w1 ⟨rfl, hb⟩; replace M := Mem.call (w0 := w0) (by repeat' (first | (with_reducible exact M) | (with_reducible apply Mem.drew) | (with_reducible apply Mem.alloc))) hb; clear hb; (try clear F); (try simp only [World.size_alloc] at M); (try simp only [heap_drew] at M); have F := Mem.facts M; simp only [MemFacts] at F; (try simp only [ApartFacts] at F)) | (go_at_call 99; (with_reducible refine (S1 _).mono ?_); rintro o w1 ⟨rfl, hb⟩; replace M := Mem.call (w0 := w0) (by repeat' (first | (with_reducible exact M) | (with_reducible apply Mem.drew) | (with_reducible apply Mem.alloc))) hb; clear hb; (try clear F); (try simp only [World.size_alloc] at M); (try simp only [heap_drew] at M); have F := Mem.facts M; simp only [MemFacts] at F; (try simp only [ApartFacts] at F)))
  (go_wp2_with (fail); refine bodyPost_ret (v := .bool true) (by simp [results, Try.results97, go_sem]) rfl ⟨rfl, (Mem.below (w0 := w0) (by repeat' (first | (with_reducible exact M) | (with_reducible apply Mem.drew) | (with_reducible apply Mem.alloc))))⟩)
theorem awake13 (w0 : World) : Calls Try.prog 97 #[] w0 fun e w' => e = .returned (.bool true) ∧ Below w0.heap.size w0 w' := by
  have C1 := clamp_c 7 100 (by decide) (by decide) (by decide) (by decide)
  rw [c13] at C1
  have N1 := next_c 486604799 2 100 0 0 0 none 0 0 2 ((Try.zeroCells115.setIfInBounds 65 (.int .u32 100)).setIfInBounds 66 (.int .u32 469827583)) 469827583 100 0 (by decide) (by decide) (by kernel_rfl) (by kernel_rfl) (by decide) (by decide) (by decide) (by decide) (by decide)
  rw [n13_1] at N1
  have N2 := next_c 486604799 2 100 0 0 0 none 0 0 3 (Try.zeroCells115.setIfInBounds 66 (.int .u32 5)) 5 0 0 (by decide) (by decide) (by kernel_rfl) (by kernel_rfl) (by decide) (by decide) (by decide) (by decide) (by decide)
  rw [n13_2] at N2
  have S1 := sane_g 486604799 2 100 0 0 0 none 0 0 (by decide)
  rw [s13] at S1
  exact awake13_main w0 C1 N1 N2 S1
end Go.Proofs.Ytkgjgdeaclefiaa
