/-
  sha2.Initial; florinref02: Constant, Initial.
-/
import Derived.Test.YtkgjgdeaclefiaaShaI
namespace Go.Proofs.Ytkgjgdeaclefiaa
open Go Go.Proofs Go.RowKit Go.Flo

set_option maxRecDepth 100000 in
set_option maxHeartbeats 2000000 in
theorem initial_c (i : Int) : Gives 61 #[.int .i64 i] (.int .u32 ((wordAt h0L i).toNat : Int)) := fun w0 => by
  have C := initials_c
  by_cases h0 : 0 ≤ i
  · obtain ⟨n, rfl⟩ := Int.eq_ofNat_of_zero_le h0
    rcases Nat.lt_or_ge n 8 with h1 | h1
    · have hx := fun w => run_index_wA (P := Try.prog) w 44 43 8 h0L n Try.underlying44 Try.underlying43 (by kernel_rfl) rfl h1
      have hn : ¬ (8 ≤ (n : Int)) := by omega
      rw [wordAt_nat]
      generalize (h0L.getD n 0).toNat = v at *
      have M := Mem.nil w0; have F := Mem.facts M; simp only [MemFacts] at F; (try simp only [ApartFacts] at F)
      go_enter Try.func61, Try.ntmps61
      go_wp2_with (first | (go_at_call 115; (with_reducible refine (C _).mono ?_); rintro e w1 ⟨rfl, hb⟩; replace M := Mem.call (w0 := w0) (by repeat' (first | (with_reducible exact M) | (with_reducible apply Mem.drew) | (with_reducible apply Mem.alloc))) hb; clear hb; (try clear F); (try simp only [World.size_alloc] at M); (try simp only [heap_drew] at M); have F := Mem.facts M; simp only [MemFacts] at F; (try simp only [ApartFacts] at F)))
      (go_wp2_with (fail); refine bodyPost_ret (v := .int .u32 (v : Int)) (by simp [results, Try.results61, go_sem]) rfl ⟨rfl, (Mem.below (w0 := w0) (by repeat' (first | (with_reducible exact M) | (with_reducible apply Mem.drew) | (with_reducible apply Mem.alloc))))⟩)
    · rw [wordAt_out _ _ (.inr (by show (8 : Int) ≤ _; omega))]
      have hn : 8 ≤ (n : Int) := by omega
      have M := Mem.nil w0; have F := Mem.facts M; simp only [MemFacts] at F; (try simp only [ApartFacts] at F)
      go_enter Try.func61, Try.ntmps61
      go_wp2_with (first | (go_at_call 115; (with_reducible refine (C _).mono ?_); rintro e w1 ⟨rfl, hb⟩; replace M := Mem.call (w0 := w0) (by repeat' (first | (with_reducible exact M) | (with_reducible apply Mem.drew) | (with_reducible apply Mem.alloc))) hb; clear hb; (try clear F); (try simp only [World.size_alloc] at M); (try simp only [heap_drew] at M); have F := Mem.facts M; simp only [MemFacts] at F; (try simp only [ApartFacts] at F)))
      (go_wp2_with (fail); refine bodyPost_ret (v := .int .u32 0) (by simp [results, Try.results61, go_sem]) rfl ⟨rfl, (Mem.below (w0 := w0) (by repeat' (first | (with_reducible exact M) | (with_reducible apply Mem.drew) | (with_reducible apply Mem.alloc))))⟩)
  · rw [wordAt_out _ _ (.inl (by omega))]
    have hn : i < 0 := by omega
    have M := Mem.nil w0; have F := Mem.facts M; simp only [MemFacts] at F; (try simp only [ApartFacts] at F)
    go_enter Try.func61, Try.ntmps61
    go_wp2_with (first | (go_at_call 115; (with_reducible refine (C _).mono ?_); rintro e w1 ⟨rfl, hb⟩; replace M := Mem.call (w0 := w0) (by repeat' (first | (with_reducible exact M) | (with_reducible apply Mem.drew) | (with_reducible apply Mem.alloc))) hb; clear hb; (try clear F); (try simp only [World.size_alloc] at M); (try simp only [heap_drew] at M); have F := Mem.facts M; simp only [MemFacts] at F; (try simp only [ApartFacts] at F)))
    (go_wp2_with (fail); refine bodyPost_ret (v := .int .u32 0) (by simp [results, Try.results61, go_sem]) rfl ⟨rfl, (Mem.below (w0 := w0) (by repeat' (first | (with_reducible exact M) | (with_reducible apply Mem.drew) | (with_reducible apply Mem.alloc))))⟩)
set_option maxRecDepth 100000 in
set_option maxHeartbeats 2000000 in
theorem rconstant_c (i : Int) : Gives 60 #[.int .i64 i] (.int .u32 ((wordAt kL i).toNat : Int)) := fun w0 => by
  have C := rconstants_c
  by_cases h0 : 0 ≤ i
  · obtain ⟨n, rfl⟩ := Int.eq_ofNat_of_zero_le h0
    rcases Nat.lt_or_ge n 64 with h1 | h1
    · have hx := wA_get (l := kL) (i := n) h1
      have hn : ¬ (63 < (n : Int)) := by omega
      have hn2 : (n : Int) < 64 := by omega
      rw [wordAt_nat]
      generalize (kL.getD n 0).toNat = v at *
      have M := Mem.nil w0; have F := Mem.facts M; simp only [MemFacts] at F; (try simp only [ApartFacts] at F)
      go_enter Try.func60, Try.ntmps60
      go_wp2_with (first | (go_at_call 120; (with_reducible refine (C _).mono ?_); rintro o w1 ⟨rfl, hb⟩; replace M := Mem.call (w0 := w0) (by repeat' (first | (with_reducible exact M) | (with_reducible apply Mem.drew) | (with_reducible apply Mem.alloc))) hb; clear hb; (try clear F); (try simp only [World.size_alloc] at M); (try simp only [heap_drew] at M); have F := Mem.facts M; simp only [MemFacts] at F; (try simp only [ApartFacts] at F)) | (refine wl_alloc rfl 136 rfl tab2Z ?_; (try simp only [World.size_alloc])) | (refine wl_isStore 136 (.tmp 3) _ rfl ?_; refine wl_storeM (w0 := w0) rfl 136 (.tmp 3) _ rfl tab2T rfl rfl 0 (by repeat' (first | (with_reducible exact M) | (with_reducible apply Mem.drew) | (with_reducible apply Mem.alloc') | (simp only [World.size_alloc]; exact rfl) | exact rfl)) (by rfl) (by first | (rw [wA_size]; exact kL_length) | (rw [bA_size]; exact kL_length) | exact kL_length | exact rfl) (by first | (rw [wA_size]; exact z64) | (rw [bA_size]; exact z64) | exact z64 | exact rfl) (by first | exact wA_one _ | exact bA_one _ | decide) ?_; clear M F; intro M; (try simp only [World.size_alloc, size_setRow] at M); (try simp only [List.set_cons_succ] at M); (try simp only [List.set_cons_zero] at M); have F := Mem.facts M; simp only [MemFacts] at F; (try simp only [ApartFacts] at F)))
      refine bodyPost_ret (v := .int .u32 (v : Int)) (by simp [results, Try.results60, go_sem]) rfl ⟨rfl, M.below⟩
    · rw [wordAt_out _ _ (.inr (by show (64 : Int) ≤ _; omega))]
      have hn : 63 < (n : Int) := by omega
      have M := Mem.nil w0; have F := Mem.facts M; simp only [MemFacts] at F; (try simp only [ApartFacts] at F)
      go_enter Try.func60, Try.ntmps60
      go_wp2_with (first | (go_at_call 120; (with_reducible refine (C _).mono ?_); rintro e w1 ⟨rfl, hb⟩; replace M := Mem.call (w0 := w0) (by repeat' (first | (with_reducible exact M) | (with_reducible apply Mem.drew) | (with_reducible apply Mem.alloc))) hb; clear hb; (try clear F); (try simp only [World.size_alloc] at M); (try simp only [heap_drew] at M); have F := Mem.facts M; simp only [MemFacts] at F; (try simp only [ApartFacts] at F)))
      (go_wp2_with (fail); refine bodyPost_ret (v := .int .u32 0) (by simp [results, Try.results60, go_sem]) rfl ⟨rfl, (Mem.below (w0 := w0) (by repeat' (first | (with_reducible exact M) | (with_reducible apply Mem.drew) | (with_reducible apply Mem.alloc))))⟩)
  · rw [wordAt_out _ _ (.inl (by omega))]
    have hn : i < 0 := by omega
    have M := Mem.nil w0; have F := Mem.facts M; simp only [MemFacts] at F; (try simp only [ApartFacts] at F)
    go_enter Try.func60, Try.ntmps60
    go_wp2_with (first | (go_at_call 120; (with_reducible refine (C _).mono ?_); rintro e w1 ⟨rfl, hb⟩; replace M := Mem.call (w0 := w0) (by repeat' (first | (with_reducible exact M) | (with_reducible apply Mem.drew) | (with_reducible apply Mem.alloc))) hb; clear hb; (try clear F); (try simp only [World.size_alloc] at M); (try simp only [heap_drew] at M); have F := Mem.facts M; simp only [MemFacts] at F; (try simp only [ApartFacts] at F)))
    (go_wp2_with (fail); refine bodyPost_ret (v := .int .u32 0) (by simp [results, Try.results60, go_sem]) rfl ⟨rfl, (Mem.below (w0 := w0) (by repeat' (first | (with_reducible exact M) | (with_reducible apply Mem.drew) | (with_reducible apply Mem.alloc))))⟩)
set_option maxRecDepth 100000 in
set_option maxHeartbeats 2000000 in
theorem rinitial_c (i : Int) : Gives 62 #[.int .i64 i] (.int .u32 ((wordAt h0L i).toNat : Int)) := fun w0 => by
  by_cases h0 : 0 ≤ i
  · obtain ⟨n, rfl⟩ := Int.eq_ofNat_of_zero_le h0
    rcases Nat.lt_or_ge n 8 with h1 | h1
    · have hx := wA_get (l := h0L) (i := n) h1
      have hn : ¬ (7 < (n : Int)) := by omega
      have hn2 : (n : Int) < 8 := by omega
      rw [wordAt_nat]
      generalize (h0L.getD n 0).toNat = v at *
      have M := Mem.nil w0; have F := Mem.facts M; simp only [MemFacts] at F; (try simp only [ApartFacts] at F)
      go_enter Try.func62, Try.ntmps62
      go_wp2_with (first | (refine wl_alloc rfl 44 rfl octZ ?_; (try simp only [World.size_alloc])) | (refine wl_isStore 44 (.tmp 3) _ rfl ?_; refine wl_store (c := wA h0L) rfl 44 _ _ rfl octT rfl (by unfold wA; kernel_rfl) (heap_alloc_new _ _) (by rw [wA_size]; rfl) (by rw [wA_size]; rfl) (wA_one _) ?_; rw [World.setRow_alloc_new]; replace M := Mem.alloc M (cs := wA h0L) (t := 44); have F := Mem.facts M; simp only [MemFacts] at F; (try simp only [ApartFacts] at F)))
      refine bodyPost_ret (v := .int .u32 (v : Int)) (by simp [results, Try.results62, go_sem]) rfl ⟨rfl, M.below⟩
    · rw [wordAt_out _ _ (.inr (by show (8 : Int) ≤ _; omega))]
      have hn : 7 < (n : Int) := by omega
      have M := Mem.nil w0; have F := Mem.facts M; simp only [MemFacts] at F; (try simp only [ApartFacts] at F)
      go_enter Try.func62, Try.ntmps62
      go_wp2
      refine bodyPost_ret (v := .int .u32 0) (by simp [results, Try.results62, go_sem]) rfl ⟨rfl, (Mem.alloc M).below⟩
  · rw [wordAt_out _ _ (.inl (by omega))]
    have hn : i < 0 := by omega
    have M := Mem.nil w0; have F := Mem.facts M; simp only [MemFacts] at F; (try simp only [ApartFacts] at F)
    go_enter Try.func62, Try.ntmps62
    go_wp2
    refine bodyPost_ret (v := .int .u32 0) (by simp [results, Try.results62, go_sem]) rfl ⟨rfl, (Mem.alloc M).below⟩
end Go.Proofs.Ytkgjgdeaclefiaa
