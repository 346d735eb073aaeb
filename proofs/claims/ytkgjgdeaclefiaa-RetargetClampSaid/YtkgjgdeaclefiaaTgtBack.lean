/-
  florinlaw05: awake, our; TargetBack.
-/
import Derived.Test.YtkgjgdeaclefiaaTgt2
namespace Go.Proofs.Ytkgjgdeaclefiaa
open Go Go.Proofs Go.RowKit Go.Flo

theorem our5_c (n : Nat) (w : World) : Calls Try.prog 87 #[uV n] w fun e w' => e = .returned (uV n) ∧ Below w.heap.size w w' := by
  unfold uV
  go_enter Try.func87, Try.ntmps87
  go_wp2
  refine bodyPost_ret (v := .agg #[.int .u64 (l0 n), .int .u64 (l1 n), .int .u64 (l2 n), .int .u64 (l3 n)]) (by simp [results, Try.results87, go_sem]) rfl ⟨rfl, ?_⟩
  repeat' (first | (with_reducible exact Below.refl _ _) | (with_reducible assumption) | (with_reducible refine Below.drew ?_) | (with_reducible refine Below.alloc ?_ ?_ _) | (with_reducible refine Below.setCell ?_ ?_ _) | (with_reducible refine Flo.below_step ?_ (by assumption)) | (simp; done) | (simp; omega))

set_option maxRecDepth 100000 in
set_option maxHeartbeats 4000000 in
theorem awake5_main (t : Nat) (lo : Bool) (w0 : World) (X1 : Gives 89 #[.int .u32 486604799] (.tuple #[uV t, .int .i64 0])) (O1 : Gives 72 #[.int .u64 65535] (uV 65535))
    (S1 : Gives 74 #[uV 65535, .int .i64 208] (.tuple #[uV t, .bool lo])) (K1 : Gives 88 #[uV t] (.int .u32 486604799)) (W1 : Gives 90 #[.int .u32 545259519] (uV 2)) (O2 : Gives 72 #[.int .u64 2] (uV 2)) :
    Calls Try.prog 86 #[] w0 fun e w' => e = .returned (.bool true) ∧ Below w0.heap.size w0 w' := by
  have M := Mem.nil w0; have F := Mem.facts M; simp only [MemFacts] at F; (try simp only [ApartFacts] at F)
  go_enter Try.func86, Try.ntmps86
  go_wp2_with (first | (go_at_call 89; (with_reducible refine (X1 _).mono ?_); rintro e w1 ⟨rfl, hb⟩; replace M := Mem.call (w0 := w0) (by repeat' (first | (with_reducible exact M) | (with_reducible apply Mem.drew) | (with_reducible apply Mem.alloc))) hb; clear hb; (try clear F); (try simp only [World.size_alloc] at M); (try simp only [heap_drew] at M); have F := Mem.facts M; simp only [MemFacts] at F; (try simp only [ApartFacts] at F)) | (go_at_call 72; (with_reducible refine (O1 _).mono ?_); rintro e w1 ⟨rfl, hb⟩; replace M := Mem.call (w0 := w0) (by repeat' (first | (with_reducible exact M) | (with_reducible apply Mem.drew) | (with_reducible apply Mem.alloc))) hb; clear hb; (try clear F); (try simp only [World.size_alloc] at M); (try simp only [heap_drew] at M); have F := Mem.facts M; simp only [MemFacts] at F; (try simp only [ApartFacts] at F)) | (go_at_call 72; (with_reducible refine (O2 _).mono ?_); rintro e w1 ⟨rfl, hb⟩; replace M := Mem.call (w0 := w0) (by repeat' (first | (with_reducible exact M) | (with_reducible apply Mem.drew) | (with_reducible apply Mem.alloc))) hb; clear hb; (try clear F); (try simp only [World.size_alloc] at M); (try simp only [heap_drew] at M); have F := Mem.facts M; simp only [MemFacts] at F; (try simp only [ApartFacts] at F)) | (go_at_call 74; (with_reducible refine (S1 _).mono ?_); rintro e w1 ⟨rfl, hb⟩; replace M := Mem.call (w0 := w0) (by repeat' (first | (with_reducible exact M) | (with_reducible apply Mem.drew) | (with_reducible apply Mem.alloc))) hb; clear hb; (try clear F); (try simp only [World.size_alloc] at M); (try simp only [heap_drew] at M); have F := Mem.facts M; simp only [MemFacts] at F; (try simp only [ApartFacts] at F)) | (go_at_call 88; (with_reducible refine (K1 _).mono ?_); rintro e w1 ⟨rfl, hb⟩; replace M := Mem.call (w0 := w0) (by repeat' (first | (with_reducible exact M) | (with_reducible apply Mem.drew) | (with_reducible apply Mem.alloc))) hb; clear hb; (try clear F); (try simp only [World.size_alloc] at M); (try simp only [heap_drew] at M); have F := Mem.facts M; simp only [MemFacts] at F; (try simp only [ApartFacts] at F)) | (go_at_call 90; (with_reducible refine (W1 _).mono ?_); rintro e w1 ⟨rfl, hb⟩; replace M := Mem.call (w0 := w0) (by repeat' (first | (with_reducible exact M) | (with_reducible apply Mem.drew) | (with_reducible apply Mem.alloc))) hb; clear hb; (try clear F); (try simp only [World.size_alloc] at M); (try simp only [heap_drew] at M); have F := Mem.facts M; simp only [MemFacts] at F; (try simp only [ApartFacts] at F)))
  (go_wp2_with (fail); refine bodyPost_ret (v := .bool true) (by simp [results, Try.results86, go_sem]) rfl ⟨rfl, (Mem.below (w0 := w0) (by repeat' (first | (with_reducible exact M) | (with_reducible apply Mem.drew) | (with_reducible apply Mem.alloc))))⟩)
theorem exp_awake : expandN 486604799 = (65535 * 2 ^ 208, 0) := by decide +kernel
theorem shl_awake : 65535 * 2 ^ (208 : Int).toNat % top = 65535 * 2 ^ 208 := by decide +kernel
theorem shr_awake : shrinkN (65535 * 2 ^ 208) = 486604799 := by decide +kernel
theorem wrk_awake : workN 545259519 = 2 := by decide +kernel
theorem t_awake : 65535 * 2 ^ 208 < top := by decide +kernel
theorem awake5 (w0 : World) : Calls Try.prog 86 #[] w0 fun e w' => e = .returned (.bool true) ∧ Below w0.heap.size w0 w' := by
  have X1 := expand_c 486604799 (by decide)
  have S1 := shl_c 65535 (Nat.lt_trans (by decide) top_24) 208
  have K1 := shrink_c _ t_awake
  have W1 := work_c 545259519 (by decide)
  rw [exp_awake] at X1
  rw [shl_awake] at S1
  rw [shr_awake] at K1
  rw [wrk_awake] at W1
  exact awake5_main _ _ w0 X1 (of_lit 65535 (by decide)) S1 K1 W1 (of_lit 2 (by decide))

set_option maxRecDepth 100000 in
set_option maxHeartbeats 4000000 in
theorem tback_zero (w0 : World) (z : isZ 0 = true) (K1 : Gives 88 #[uV 0] (.int .u32 0)) (X1 : Gives 89 #[.int .u32 0] (.tuple #[uV 0, .int .i64 7])) :
    Calls Try.prog 16 #[uV 0] w0 fun e w' => e = .returned (.bool true) ∧ Below w0.heap.size w0 w' := by
  unfold isZ at z
  have M := Mem.nil w0; have F := Mem.facts M; simp only [MemFacts] at F; (try simp only [ApartFacts] at F)
  go_enter Try.func16, Try.ntmps16
  go_wp2_with (first | (go_at_call 86; (with_reducible refine (awake5 _).mono ?_); rintro e w1 ⟨rfl, hb⟩; replace M := Mem.call (w0 := w0) (by repeat' (first | (with_reducible exact M) | (with_reducible apply Mem.drew) | (with_reducible apply Mem.alloc))) hb; clear hb; (try clear F); (try simp only [World.size_alloc] at M); (try simp only [heap_drew] at M); have F := Mem.facts M; simp only [MemFacts] at F; (try simp only [ApartFacts] at F)) | (go_at_call 87; (with_reducible refine ((our5_c _) _).mono ?_); rintro e w1 ⟨rfl, hb⟩; replace M := Mem.call (w0 := w0) (by repeat' (first | (with_reducible exact M) | (with_reducible apply Mem.drew) | (with_reducible apply Mem.alloc))) hb; clear hb; (try clear F); (try simp only [World.size_alloc] at M); (try simp only [heap_drew] at M); have F := Mem.facts M; simp only [MemFacts] at F; (try simp only [ApartFacts] at F)) | (go_at_call 88; (with_reducible refine (K1 _).mono ?_); rintro e w1 ⟨rfl, hb⟩; replace M := Mem.call (w0 := w0) (by repeat' (first | (with_reducible exact M) | (with_reducible apply Mem.drew) | (with_reducible apply Mem.alloc))) hb; clear hb; (try clear F); (try simp only [World.size_alloc] at M); (try simp only [heap_drew] at M); have F := Mem.facts M; simp only [MemFacts] at F; (try simp only [ApartFacts] at F)) | (go_at_call 89; (with_reducible refine (X1 _).mono ?_); rintro e w1 ⟨rfl, hb⟩; replace M := Mem.call (w0 := w0) (by repeat' (first | (with_reducible exact M) | (with_reducible apply Mem.drew) | (with_reducible apply Mem.alloc))) hb; clear hb; (try clear F); (try simp only [World.size_alloc] at M); (try simp only [heap_drew] at M); have F := Mem.facts M; simp only [MemFacts] at F; (try simp only [ApartFacts] at F)))
  (go_wp2_with (fail); refine bodyPost_ret (v := .bool true) (by simp [results, Try.results16, go_sem]) rfl ⟨rfl, (Mem.below (w0 := w0) (by repeat' (first | (with_reducible exact M) | (with_reducible apply Mem.drew) | (with_reducible apply Mem.alloc))))⟩)

set_option maxRecDepth 100000 in
set_option maxHeartbeats 4000000 in
theorem tback_main (t y b d s : Nat) (c1 c2 sg : Int) (lo : Bool) (w0 : World) (z : isZ t = false) (K1 : Gives 88 #[uV t] (.int .u32 (b : Int))) (X1 : Gives 89 #[.int .u32 (b : Int)] (.tuple #[uV y, .int .i64 0]))
    (S1 : Gives 36 #[uV t, uV y] (.tuple #[uV d, .bool lo])) (C1 : Gives 38 #[uV y, uV t] (.int .i64 c1)) (K2 : Gives 88 #[uV y] (.int .u32 (b : Int))) (R1 : Gives 76 #[uV t, .int .i64 14] (uV s)) (C2 : Gives 38 #[uV d, uV s] (.int .i64 c2))
    (h1 : decide (c1 ≤ 0) = true) (h2 : decide (c2 ≤ 0) = true) (h3 : bits .and .u32 (b : Int) 8388608 = sg) (h4 : (sg == 0) = true) :
    Calls Try.prog 16 #[uV t] w0 fun e w' => e = .returned (.bool true) ∧ Below w0.heap.size w0 w' := by
  unfold isZ at z
  have M := Mem.nil w0; have F := Mem.facts M; simp only [MemFacts] at F; (try simp only [ApartFacts] at F)
  go_enter Try.func16, Try.ntmps16
  go_wp2_with (first | (go_at_call 86; (with_reducible refine (awake5 _).mono ?_); rintro e w1 ⟨rfl, hb⟩; replace M := Mem.call (w0 := w0) (by repeat' (first | (with_reducible exact M) | (with_reducible apply Mem.drew) | (with_reducible apply Mem.alloc))) hb; clear hb; (try clear F); (try simp only [World.size_alloc] at M); (try simp only [heap_drew] at M); have F := Mem.facts M; simp only [MemFacts] at F; (try simp only [ApartFacts] at F)) | (go_at_call 87; (with_reducible refine ((our5_c _) _).mono ?_); rintro e w1 ⟨rfl, hb⟩; replace M := Mem.call (w0 := w0) (by repeat' (first | (with_reducible exact M) | (with_reducible apply Mem.drew) | (with_reducible apply Mem.alloc))) hb; clear hb; (try clear F); (try simp only [World.size_alloc] at M); (try simp only [heap_drew] at M); have F := Mem.facts M; simp only [MemFacts] at F; (try simp only [ApartFacts] at F)) | (go_at_call 88; (with_reducible refine (K1 _).mono ?_); rintro e w1 ⟨rfl, hb⟩; replace M := Mem.call (w0 := w0) (by repeat' (first | (with_reducible exact M) | (with_reducible apply Mem.drew) | (with_reducible apply Mem.alloc))) hb; clear hb; (try clear F); (try simp only [World.size_alloc] at M); (try simp only [heap_drew] at M); have F := Mem.facts M; simp only [MemFacts] at F; (try simp only [ApartFacts] at F)) | (go_at_call 89; (with_reducible refine (X1 _).mono ?_); rintro e w1 ⟨rfl, hb⟩; replace M := Mem.call (w0 := w0) (by repeat' (first | (with_reducible exact M) | (with_reducible apply Mem.drew) | (with_reducible apply Mem.alloc))) hb; clear hb; (try clear F); (try simp only [World.size_alloc] at M); (try simp only [heap_drew] at M); have F := Mem.facts M; simp only [MemFacts] at F; (try simp only [ApartFacts] at F)) | (go_at_call 36; (with_reducible refine (S1 _).mono ?_); rintro e w1 ⟨rfl, hb⟩; replace M := Mem.call (w0 := w0) (by repeat' (first | (with_reducible exact M) | (with_reducible apply Mem.drew) | (with_reducible apply Mem.alloc))) hb; clear hb; (try clear F); (try simp only [World.size_alloc] at M); (try simp only [heap_drew] at M); have F := Mem.facts M; simp only [MemFacts] at F; (try simp only [ApartFacts] at F)))
  replace M := Mem.alloc M (cs := #[.int .u64 (l0 d), .int .u64 (l1 d), .int .u64 (l2 d), .int .u64 (l3 d)]) (t := 32)
  ((try simp only [List.append_eq, List.cons_append, List.nil_append]); refine Flo.N.wp_made (by kernel_rfl) (by decide +kernel) ?_; (repeat (first | (refine Flo.N.sx_skip (by exact rfl) (by exact rfl) ?_; simp only [Act.put, List.setIfInBounds_toArray, List.set_cons_zero, List.set_cons_succ]) | (refine Flo.N.sx_pure (by exact rfl) (by exact rfl) (by exact rfl) ?_; intro K hK; go_big_quiet_op; go_big_quiet_on) | (refine Flo.N.sx_free (by exact rfl) (by exact rfl) (by exact rfl) (by exact rfl) ?_; intro K hK; go_big_quiet_op; go_big_quiet_on) | (apply Flo.N.sx_alloc (by exact rfl) (by exact rfl); (focus (intro w; go_simp; first | done | exact rfl | exact ⟨rfl, rfl⟩)); intro b hn hfr; (try have hne := Flo.Fresh.ne hfr); simp only [Act.put, List.setIfInBounds_toArray, List.set_cons_zero, List.set_cons_succ]) | (apply Flo.N.sx_build _ (by exact rfl) (by exact rfl); (focus (intro w; go_simp; first | done | exact rfl | exact ⟨rfl, rfl⟩)); intro b hn hfr; (try have hne := Flo.Fresh.ne hfr); simp only [Act.put, List.setIfInBounds_toArray, List.set_cons_zero, List.set_cons_succ]) | (apply Flo.N.sx_give (by exact rfl) (by exact rfl); (focus (intro w hbW hh; apply Flo.gives_of; intro G hG; go_simp; apply hG _ _ (by kernel_rfl); clear hG G; first | (with_reducible exact C1 _) | (with_reducible exact K2 _) | (with_reducible exact R1 _) | (with_reducible exact C2 _))); simp only [Act.put, List.setIfInBounds_toArray, List.set_cons_zero, List.set_cons_succ]) | (refine Flo.N.sx_last (by exact rfl) (by exact rfl) ?_; intro w2 hJ K hK; first | (have hJ : Flo.Holds _ _ _ _ := hJ; (try have HJB := Lib.hid hJ.below); (first | (have hu1 := Flo.Holds.uncover (by exact rfl) hJ; have hu2 := Flo.Holds.uncover (by exact rfl) hu1.2; replace M := Flo.N.got2 (w0 := w0) (by repeat' (first | (with_reducible exact M) | (with_reducible apply Mem.drew) | (with_reducible apply Mem.alloc))) hJ.below hu2.1 hu1.1 hne; clear hu1 hu2) | (have hu1 := Flo.Holds.uncover (by exact rfl) hJ; replace M := Mem.got (w0 := w0) (x := .c _ _ _) (by repeat' (first | (with_reducible exact M) | (with_reducible apply Mem.drew) | (with_reducible apply Mem.alloc))) hJ.below hu1.1; clear hu1) | (replace M := Mem.call (w0 := w0) (by repeat' (first | (with_reducible exact M) | (with_reducible apply Mem.drew) | (with_reducible apply Mem.alloc))) hJ.below) | (have hB2 := hJ.below)); clear hJ; (try clear F); (try simp only [World.size_alloc] at M); (try simp only [heap_drew] at M); (try (have F := Mem.facts M; simp only [MemFacts] at F; (try simp only [ApartFacts] at F))); go_wp2_with (fail); (try refine ⟨rfl, ?_⟩)) | (have hJ : w2 = _ := hJ; subst hJ; go_wp2_with (fail); (try refine ⟨rfl, ?_⟩))))); (first | (refine Flo.N.sx_end ?_) | (refine Flo.N.sx_nil ?_; intro w2 hJ; (try have HJB := Lib.hid hJ.below); (first | (have hu1 := Flo.Holds.uncover (by exact rfl) hJ; have hu2 := Flo.Holds.uncover (by exact rfl) hu1.2; replace M := Flo.N.got2 (w0 := w0) (by repeat' (first | (with_reducible exact M) | (with_reducible apply Mem.drew) | (with_reducible apply Mem.alloc))) hJ.below hu2.1 hu1.1 hne; clear hu1 hu2) | (have hu1 := Flo.Holds.uncover (by exact rfl) hJ; replace M := Mem.got (w0 := w0) (x := .c _ _ _) (by repeat' (first | (with_reducible exact M) | (with_reducible apply Mem.drew) | (with_reducible apply Mem.alloc))) hJ.below hu1.1; clear hu1) | (replace M := Mem.call (w0 := w0) (by repeat' (first | (with_reducible exact M) | (with_reducible apply Mem.drew) | (with_reducible apply Mem.alloc))) hJ.below) | (have hB2 := hJ.below)); clear hJ; (try clear F); (try simp only [World.size_alloc] at M); (try simp only [heap_drew] at M); (try (have F := Mem.facts M; simp only [MemFacts] at F; (try simp only [ApartFacts] at F))))))
  (go_wp2_with (fail); refine bodyPost_ret (v := .bool true) (by simp [results, Try.results16, go_sem]) rfl ⟨rfl, (Mem.below (w0 := w0) (by repeat' (first | (with_reducible exact M) | (with_reducible apply Mem.drew) | (with_reducible apply Mem.alloc))))⟩)

theorem tback_walk (w0 : World) (t : Nat) (ht : t < top) :
    Calls Try.prog 16 #[uV t] w0 fun e w' => e = .returned (.bool true) ∧ Below w0.heap.size w0 w' := by
  by_cases h0 : t = 0
  · subst h0
    have K1 := shrink_c 0 ht
    rw [shrinkN_zero] at K1
    have X1 := expand_c 0 (by decide)
    rw [show expandN 0 = (0, 7) by decide +kernel] at X1
    exact tback_zero w0 (by rw [isZ_eq ht]; rfl) K1 X1
  · obtain ⟨K, h1, h2, h3, h4, h5, h6, h7⟩ := back_core h0 ht top_24
    have X1 := expand_c (shrinkN t) h7
    rw [expandN_of h2, h1] at X1
    have hle := Nat.div_mul_le_self t (2 ^ K)
    have hy : t / 2 ^ K * 2 ^ K < top := by omega
    have hcut := cut_small (t := t) h4
    have S1 := sub_c t (t / 2 ^ K * 2 ^ K) ht hy
    have hd : (t + top - t / 2 ^ K * 2 ^ K) % top = t - t / 2 ^ K * 2 ^ K := by
      rw [show t + top - t / 2 ^ K * 2 ^ K = (t - t / 2 ^ K * 2 ^ K) + top by omega, Nat.add_mod_right, Nat.mod_eq_of_lt (by omega)]
    rw [hd] at S1
    have K2 := shrink_c _ hy
    rw [h5] at K2
    have R1 := shr_c t ht 14
    rw [show 2 ^ (14 : Int).toNat = 16384 from rfl] at R1
    have hs : t / 16384 < top := Nat.lt_of_le_of_lt (Nat.div_le_self _ _) ht
    have hc : ∀ m n, m ≤ n → decide (cmpI m n ≤ 0) = true := fun m n h => by
      unfold cmpI
      split
      · decide
      · rw [if_neg (by omega)]; decide
    have h8 := and_sign (shrinkN t) h7
    rw [decide_eq_false (by omega)] at h8
    exact tback_main t _ (shrinkN t) _ (t / 16384) _ _ _ _ w0 (by rw [isZ_eq ht, decide_eq_false h0]) (shrink_c t ht) X1 S1 (cmp_c _ _ hy ht) K2 R1 (cmp_c _ _ (by omega) hs) (hc _ _ hle) (hc _ _ hcut) rfl (by
      rw [bne_eq_false_iff_eq] at h8; rw [h8]; rfl)

open Go.ChangeShapes Go.WideShapes Go.ChangeAt
theorem targetBack_joined : joinedFacts Try.pinned.checked.prog 16 Try.f16 Rows.targetBackSpec Rows.targetBackRow = true := and_mk (and_mk (and_mk (and_mk (and_mk (and_mk (and_mk (and_mk (and_mk (and_mk (and_mk (and_mk (and_mk (and_mk (and_mk (and_mk (and_mk (and_mk (and_mk (and_mk (and_mk (and_mk (and_mk (and_mk (and_mk (and_mk (and_mk (and_mk (and_mk (and_mk (and_mk (by as_aux_lemma => kernel_rfl) laidOut) pf_maps) (by as_aux_lemma => kernel_rfl)) (by as_aux_lemma => kernel_rfl)) (by as_aux_lemma => kernel_rfl)) pf_stops) (by as_aux_lemma => kernel_rfl)) pf_knobs) (by as_aux_lemma => kernel_rfl)) (by as_aux_lemma => kernel_rfl)) (by as_aux_lemma => kernel_rfl)) (by as_aux_lemma => kernel_rfl)) (by as_aux_lemma => kernel_rfl)) (by as_aux_lemma => kernel_rfl)) (by as_aux_lemma => kernel_rfl)) (by as_aux_lemma => kernel_rfl)) (by as_aux_lemma => kernel_rfl)) (by as_aux_lemma => kernel_rfl)) (by as_aux_lemma => kernel_rfl)) (by as_aux_lemma => kernel_rfl)) (by as_aux_lemma => kernel_rfl)) pf_plain) (by as_aux_lemma => kernel_rfl)) pf_heard) pf_enter) pf_lifts) pf_make) (by as_aux_lemma => kernel_rfl)) (by as_aux_lemma => kernel_rfl)) (by as_aux_lemma => kernel_rfl)) (by as_aux_lemma => kernel_rfl)
set_option maxRecDepth 100000 in
theorem targetBack_lifted (os : Os) (started : os.Started) (H : Type) (enc : TypeId × Value → H) :
    ReturnsInHanded {} Try.checked os 16 .any (Rows.targetBackSpec.pre6 enc Try.prog Try.f16 Rows.targetBackRow.domain false) (Rows.targetBackSpec.post enc Try.prog Try.f16 false true false false) := by
  refine returnsInHanded_of_change (C := Try.checked) own started (by kernel_rfl) Try.func16
    (ChangeSpec.witness6 (enc := enc) (C := Try.checked) false ⟨#[], #[.agg #[.int .u64 0, .int .u64 0, .int .u64 0, .int .u64 0]], []⟩ 8 (by kernel_rfl) (by kernel_rfl) (by kernel_rfl) (by kernel_rfl)) ?_
  intro W base args ds gs before hval0 hW hcnd _
  have hval : ∀ (j : Nat) t v, Try.f16.params[j]? = some t → args[j]? = some v → Value.okWide Try.prog W .any base t v := hval0
  have hW' := hW
  obtain ⟨p, q, hA0, hV, rfl, hfz, hnd⟩ := hW
  have hA : DataW.TrodAll enc Try.prog W 0 (fun _ => true) true Try.f16.params.toList args.toList ds p := hA0
  rw [Try.params16] at hA hval
  obtain ⟨v0, vs0, d0, ds0, p0, q0, hargs, rfl, rfl, h0, r0⟩ := trodAll_cons hA
  obtain ⟨rfl, rfl, rfl⟩ := trodAll_nil r0
  obtain rfl : args = #[v0] := by cases args; simp_all
  obtain ⟨rfl, rfl⟩ := trodVars_none hV
  have k0 := h0
  have lt0 : ∀ x ∈ p0, x.block < W.heap.size := by obtain ⟨m, hm⟩ := k0; exact DataW.trod_lt m _ _ _ hm
  obtain ⟨a0, w0, rfl⟩ := open_four Try.underlying35 (by kernel_rfl) (hval 0 35 v0 rfl rfl) h0
  clear hA0 hval0
  refine (tback_walk W a0 w0).mono fun e W' ⟨he, bel⟩ => ?_
  subst he
  exact ⟨_, rfl, _, _, _, [], _, [], hW', trodAll_mk1 (shut_bool Try.underlying4 _), (trodAll_cons_mk (Below.trod laidOut (by kernel_rfl) (of_decide_eq_true (by kernel_rfl)) k0 bel lt0) trodAll_mk0), rfl, bel.frame _, fun h => by cases h⟩
theorem targetBack_over : Rows.targetBackRow.holds Try.pinned (OpenSpec.ofChange Rows.targetBackSpec) :=
  OpenClaim.holds_of_wide 16 Try.f16 rfl rfl rfl rfl rfl rfl rfl ⟨rfl, rfl, rfl, rfl, rfl⟩ rfl rfl rfl rfl rfl (by kernel_rfl) Try.func16 targetBack_joined
    (of_decide_eq_true (by kernel_rfl)) (by unfold Func.isWrapper; first | (rw [if_pos (by decide +kernel)]; kernel_rfl) | (rw [if_neg (by decide +kernel)]; exact ⟨rfl, rfl⟩))
    (fun os started H enc _ => targetBack_lifted os started H enc)
/-- The statement. -/
theorem targetBack_proved : Rows.TargetBackSaid := targetBack_over
#print axioms targetBack_proved
end Go.Proofs.Ytkgjgdeaclefiaa
