/-
  florinlaw05.TargetMeets.
-/
import Derived.Test.YtkgjgdeaclefiaaMeets
namespace Go.Proofs.Ytkgjgdeaclefiaa
open Go Go.Proofs Go.RowKit Go.Flo

set_option maxRecDepth 100000 in
set_option maxHeartbeats 4000000 in
theorem tmeets_bad (k : List UInt8) (hk : k.length = 32) (a b c t s l : Nat) (e f g y c1 : Int) (w0 : World)
    (X1 : Gives 89 #[.int .u32 (a : Int)] (.tuple #[uV t, .int .i64 e])) (X2 : Gives 89 #[.int .u32 (b : Int)] (.tuple #[uV s, .int .i64 f])) (X3 : Gives 89 #[.int .u32 (c : Int)] (.tuple #[uV l, .int .i64 g]))
    (M1 : Gives 96 #[.agg (bA k), .int .u32 (a : Int), .int .u32 (c : Int)] (.int .i64 7)) (M2 : Gives 96 #[.agg (bA k), .int .u32 (b : Int), .int .u32 (c : Int)] (.int .i64 y)) (C1 : Gives 38 #[uV t, uV l] (.int .i64 c1))
    (h : e = 7 ∨ (e = 0 ∧ g = 7) ∨ (e = 0 ∧ g = 0 ∧ decide (0 < c1) = true)) :
    Calls Try.prog 21 #[.agg (bA k), .int .u32 (a : Int), .int .u32 (b : Int), .int .u32 (c : Int)] w0 fun e w' => e = .returned (.bool true) ∧ Below w0.heap.size w0 w' := by
  rcases h with rfl | ⟨rfl, rfl⟩ | ⟨rfl, rfl, h⟩
  all_goals
    have M := Mem.nil w0; have F := Mem.facts M; simp only [MemFacts] at F; (try simp only [ApartFacts] at F)
    go_enter Try.func21, Try.ntmps21
    go_wp2_with (first | (refine wl_box rfl 23 _ rfl rfl ?_) | (refine wl_alloc rfl 23 rfl hshZ ?_) | (refine wl_load rfl 23 _ rfl hshT rfl (Mem.at (w0 := w0) 3 (by repeat' (first | (with_reducible exact M) | (with_reducible apply Mem.drew) | (with_reducible apply Mem.alloc') | (simp only [World.size_alloc]; exact rfl) | exact rfl)) (by rfl)) (by rw [bA_size]; exact hk) ?_) | (go_at_call 86; (with_reducible refine (awake5 _).mono ?_); rintro e w1 ⟨rfl, hb⟩; replace M := Mem.call (w0 := w0) (by repeat' (first | (with_reducible exact M) | (with_reducible apply Mem.drew) | (with_reducible apply Mem.alloc))) hb; clear hb; (try clear F); (try simp only [World.size_alloc] at M); (try simp only [heap_drew] at M); have F := Mem.facts M; simp only [MemFacts] at F; (try simp only [ApartFacts] at F)) | (go_at_call 89; (first | (with_reducible refine (X1 _).mono ?_) | (with_reducible refine (X2 _).mono ?_) | (with_reducible refine (X3 _).mono ?_)); rintro e w1 ⟨rfl, hb⟩; replace M := Mem.call (w0 := w0) (by repeat' (first | (with_reducible exact M) | (with_reducible apply Mem.drew) | (with_reducible apply Mem.alloc))) hb; clear hb; (try clear F); (try simp only [World.size_alloc] at M); (try simp only [heap_drew] at M); have F := Mem.facts M; simp only [MemFacts] at F; (try simp only [ApartFacts] at F)) | (go_at_call 96; (first | (with_reducible refine (M1 _).mono ?_) | (with_reducible refine (M2 _).mono ?_)); rintro e w1 ⟨rfl, hb⟩; replace M := Mem.call (w0 := w0) (by repeat' (first | (with_reducible exact M) | (with_reducible apply Mem.drew) | (with_reducible apply Mem.alloc))) hb; clear hb; (try clear F); (try simp only [World.size_alloc] at M); (try simp only [heap_drew] at M); have F := Mem.facts M; simp only [MemFacts] at F; (try simp only [ApartFacts] at F)) | (go_at_call 38; (with_reducible refine (C1 _).mono ?_); rintro e w1 ⟨rfl, hb⟩; replace M := Mem.call (w0 := w0) (by repeat' (first | (with_reducible exact M) | (with_reducible apply Mem.drew) | (with_reducible apply Mem.alloc))) hb; clear hb; (try clear F); (try simp only [World.size_alloc] at M); (try simp only [heap_drew] at M); have F := Mem.facts M; simp only [MemFacts] at F; (try simp only [ApartFacts] at F)))
    (go_wp2_with (fail); refine bodyPost_ret (v := .bool true) (by simp [results, Try.results21, go_sem]) rfl ⟨rfl, (Mem.below (w0 := w0) (by repeat' (first | (with_reducible exact M) | (with_reducible apply Mem.drew) | (with_reducible apply Mem.alloc))))⟩)
end Go.Proofs.Ytkgjgdeaclefiaa
