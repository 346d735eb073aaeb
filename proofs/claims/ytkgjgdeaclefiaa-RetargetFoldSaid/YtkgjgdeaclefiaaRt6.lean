/-
  florinlaw13.RetargetHolds.
-/
import Derived.Test.YtkgjgdeaclefiaaRt4
import Derived.Test.YtkgjgdeaclefiaaOpn
namespace Go.Proofs.Ytkgjgdeaclefiaa
open Go Go.Proofs Go.RowKit Go.Flo

set_option maxRecDepth 100000 in
set_option maxHeartbeats 4000000 in
theorem rholds_short (c n cp : Nat) (i s f x o height first : Int) (a : Option Addr) (hc : Array Value) (w0 : World) (hn : 200 < (n : Int)) :
    Calls Try.prog 22 #[prm c i s f x o a n cp, .int .i64 height, .agg hc, .int .u32 first] w0 fun e w' => e = .returned (.bool true) ∧ Below w0.heap.size w0 w' := by
  have M := Mem.nil w0; have F := Mem.facts M; simp only [MemFacts] at F; (try simp only [ApartFacts] at F)
  go_enter Try.func22, Try.ntmps22
  go_wp2_with (first | (refine wl_box rfl 115 (.tmp 2) rfl rfl ?_; (try simp only [World.size_alloc])) | (go_at_call 97; (with_reducible refine (awake13 _).mono ?_); rintro o w1 ⟨rfl, hb⟩; replace M := Mem.call (w0 := w0) (by repeat' (first | (with_reducible exact M) | (with_reducible apply Mem.drew) | (with_reducible apply Mem.alloc))) hb; clear hb; (try clear F); (try simp only [World.size_alloc] at M); (try simp only [heap_drew] at M); have F := Mem.facts M; simp only [MemFacts] at F; (try simp only [ApartFacts] at F)))
  (go_wp2_with (fail); refine bodyPost_ret (v := .bool true) (by simp [results, Try.results22, go_sem]) rfl ⟨rfl, (Mem.below (w0 := w0) (by repeat' (first | (with_reducible exact M) | (with_reducible apply Mem.drew) | (with_reducible apply Mem.alloc))))⟩)
set_option maxRecDepth 100000 in
set_option maxHeartbeats 4000000 in
theorem rholds_main (c n cp b l t : Nat) (i s f x o height first bits e e2 c1 : Int) (a : Option Addr) (hc : Array Value) (q : Bool) (w0 : World) (hn : ¬ (200 < (n : Int))) (HSZ : Hid (hc.size = 68)) (h66 : hc[66]? = some (.int .u32 bits))
    (NX : Gives 98 #[prm c i s f x o a n cp, .int .i64 height, .agg hc, .int .u32 first] (.int .u32 (b : Int))) (X1 : Gives 89 #[.int .u32 (c : Int)] (.tuple #[uV l, .int .i64 e])) (X2 : Gives 89 #[.int .u32 (b : Int)] (.tuple #[uV t, .int .i64 e2]))
    (SG : Gives 99 #[prm c i s f x o a n cp] (.bool q)) (C1 : Gives 38 #[uV t, uV l] (.int .i64 c1)) (hh2 : height ≤ 9223372036854775807)
    (h : (q = false ∧ b = c) ∨ (q = true ∧ 0 < i ∧ i ≤ 1048576 ∧ height ≤ 0 ∧ (b : Int) = bits) ∨ (q = true ∧ 0 < i ∧ i ≤ 1048576 ∧ 0 < height ∧ (height % i != 0) = true ∧ (b : Int) = bits) ∨ (q = true ∧ 0 < i ∧ i ≤ 1048576 ∧ 0 < height ∧ height % i = 0 ∧ e = 0 ∧ e2 = 0 ∧ decide (c1 ≤ 0) = true)) :
    Calls Try.prog 22 #[prm c i s f x o a n cp, .int .i64 height, .agg hc, .int .u32 first] w0 fun e w' => e = .returned (.bool true) ∧ Below w0.heap.size w0 w' := by
  rcases h with ⟨rfl, rfl⟩ | ⟨rfl, h1, h2, h3, rfl⟩ | ⟨rfl, h1, h2, h3, h4, rfl⟩ | ⟨rfl, h1, h2, h3, h4, rfl, rfl, h5⟩
  all_goals
    have M := Mem.nil w0; have F := Mem.facts M; simp only [MemFacts] at F; (try simp only [ApartFacts] at F)
    go_enter Try.func22, Try.ntmps22
    go_wp2_with (first | (refine wl_box rfl 115 (.tmp 2) rfl rfl ?_; (try simp only [World.size_alloc])) | (refine wl_isLoad 115 (.tmp 6) rfl ?_; refine wpList_load_row rfl 115 (.tmp 6) rfl _ rfl _ hc (0, 0) _ (Mem.at (w0 := w0) 0 (by repeat' (first | (with_reducible exact M) | (with_reducible apply Mem.drew) | (with_reducible apply Mem.alloc') | (simp only [World.size_alloc]; exact rfl) | exact rfl)) (by rfl)) Try.underlying115 rfl (by rw [HSZ.out]; kernel_rfl) ?_) | (go_at_call 97; (with_reducible refine (awake13 _).mono ?_); rintro o w1 ⟨rfl, hb⟩; replace M := Mem.call (w0 := w0) (by repeat' (first | (with_reducible exact M) | (with_reducible apply Mem.drew) | (with_reducible apply Mem.alloc))) hb; clear hb; (try clear F); (try simp only [World.size_alloc] at M); (try simp only [heap_drew] at M); have F := Mem.facts M; simp only [MemFacts] at F; (try simp only [ApartFacts] at F)) | (go_at_call 98; (with_reducible refine (NX _).mono ?_); rintro o w1 ⟨rfl, hb⟩; replace M := Mem.call (w0 := w0) (by repeat' (first | (with_reducible exact M) | (with_reducible apply Mem.drew) | (with_reducible apply Mem.alloc))) hb; clear hb; (try clear F); (try simp only [World.size_alloc] at M); (try simp only [heap_drew] at M); have F := Mem.facts M; simp only [MemFacts] at F; (try simp only [ApartFacts] at F)) | (go_at_call 89; (first | (with_reducible refine (X1 _).mono ?_) | (with_reducible refine (X2 _).mono ?_)); rintro o w1 ⟨rfl, hb⟩; replace M := Mem.call (w0 := w0) (by repeat' (first | (with_reducible exact M) | (with_reducible apply Mem.drew) | (with_reducible apply Mem.alloc))) hb; clear hb; (try clear F); (try simp only [World.size_alloc] at M); (try simp only [heap_drew] at M); have F := Mem.facts M; simp only [MemFacts] at F; (try simp only [ApartFacts] at F)) | (go_at_call 99; (with_reducible refine (SG _).mono ?_); rintro o w1 ⟨rfl, hb⟩; replace M := Mem.call (w0 := w0) (by repeat' (first | (with_reducible exact M) | (with_reducible apply Mem.drew) | (with_reducible apply Mem.alloc))) hb; clear hb; (try clear F); (try simp only [World.size_alloc] at M); (try simp only [heap_drew] at M); have F := Mem.facts M; simp only [MemFacts] at F; (try simp only [ApartFacts] at F)) | (go_at_call 38; (with_reducible refine (C1 _).mono ?_); rintro o w1 ⟨rfl, hb⟩; replace M := Mem.call (w0 := w0) (by repeat' (first | (with_reducible exact M) | (with_reducible apply Mem.drew) | (with_reducible apply Mem.alloc))) hb; clear hb; (try clear F); (try simp only [World.size_alloc] at M); (try simp only [heap_drew] at M); have F := Mem.facts M; simp only [MemFacts] at F; (try simp only [ApartFacts] at F)))
    (go_wp2_with (fail); refine bodyPost_ret (v := .bool true) (by simp [results, Try.results22, go_sem]) rfl ⟨rfl, (Mem.below (w0 := w0) (by repeat' (first | (with_reducible exact M) | (with_reducible apply Mem.drew) | (with_reducible apply Mem.alloc))))⟩)
end Go.Proofs.Ytkgjgdeaclefiaa
