/-
  hash.Pair.
-/
import Derived.Test.YtkgjgdeaclefiaaCat
import Derived.Deep.RegionWith
namespace Go.Proofs.Ytkgjgdeaclefiaa
open Go Go.Proofs Go.RowKit Go.Flo

set_option maxRecDepth 100000 in
set_option maxHeartbeats 1000000 in
theorem pair_main (k l : List UInt8) (hk : k.length = 32) (hl : l.length = 32) (w0 : World) :
    Calls Try.prog 93 #[.agg (bA k), .agg (bA l)] w0 fun e w' => e = .returned (.agg (bA (dblV (k ++ l)))) ∧ Below w0.heap.size w0 w' := by
  have h2 : (dblV (k ++ l)).length = 32 := dblV_length _
  have M := Mem.nil w0; have F := Mem.facts M; simp only [MemFacts] at F; (try simp only [ApartFacts] at F)
  go_enter Try.func93, Try.ntmps93
  go_wp2_with (first | (refine wl_box rfl 23 _ rfl rfl ?_) | (refine wl_alloc rfl 23 rfl hshZ ?_))
  replace M := Mem.alloc (Mem.alloc (Mem.alloc M (cs := bA k) (t := 23)) (cs := bA l) (t := 23)) (cs := bA nought) (t := 23)
  simp only [World.size_alloc] at M ⊢
  simp only [Act.put, List.setIfInBounds_toArray, List.set_cons_zero, List.set_cons_succ]
  ((try clear F); obtain ⟨wg, eg, M⟩ : ∃ wg, wg = _ ∧ Mem w0 wg _ := ⟨_, rfl, M⟩; (try unfold Flo.put4 at eg); rw [← eg]; clear eg; have F := Mem.facts M; simp only [MemFacts] at F; (try simp only [ApartFacts] at F))
  ((try simp only [List.append_eq, List.cons_append, List.nil_append]); refine Flo.N.wp_made5 (by kernel_rfl) (by decide +kernel) ?_; (repeat (first | (refine Flo.N.sx_skip (by exact rfl) (by exact rfl) ?_; simp only [Act.put, List.setIfInBounds_toArray, List.set_cons_zero, List.set_cons_succ]) | (refine Flo.N.sx_pure (by exact rfl) (by exact rfl) (by exact rfl) ?_; intro K hK; go_big_quiet_op; go_big_quiet_on) | (refine Flo.N.sx_free (by exact rfl) (by exact rfl) (by exact rfl) (by exact rfl) ?_; intro K hK; go_big_quiet_op; go_big_quiet_on) | (apply Flo.N.sx_alloc (by exact rfl) (by exact rfl); (focus (intro w; go_simp; first | done | exact rfl | exact ⟨rfl, rfl⟩)); intro b hn hfr; (try have hne := Flo.Fresh.ne hfr); simp only [Act.put, List.setIfInBounds_toArray, List.set_cons_zero, List.set_cons_succ]) | (apply Flo.N.sx_build _ (by exact rfl) (by exact rfl); (focus (intro w; go_simp; first | done | exact rfl | exact ⟨rfl, rfl⟩)); intro b hn hfr; (try have hne := Flo.Fresh.ne hfr); simp only [Act.put, List.setIfInBounds_toArray, List.set_cons_zero, List.set_cons_succ]))))
  (refine Flo.N.sx_last (by exact rfl) (by exact rfl) ?_; intro w2 hJ K hK; have hJ : Flo.Holds _ _ _ _ := hJ; (try have HJB := Lib.hid hJ.below); (first | (have hu1 := Flo.Holds.uncover (by exact rfl) hJ; have hu2 := Flo.Holds.uncover (by exact rfl) hu1.2; replace M := Flo.N.got2 (w0 := w0) (by repeat' (first | (with_reducible exact M) | (with_reducible apply Mem.drew) | (with_reducible apply Mem.alloc))) hJ.below hu2.1 hu1.1 hne; clear hu1 hu2) | (have hu1 := Flo.Holds.uncover (by exact rfl) hJ; replace M := Mem.got (w0 := w0) (x := .c _ _ _) (by repeat' (first | (with_reducible exact M) | (with_reducible apply Mem.drew) | (with_reducible apply Mem.alloc))) hJ.below hu1.1; clear hu1) | (replace M := Mem.call (w0 := w0) (by repeat' (first | (with_reducible exact M) | (with_reducible apply Mem.drew) | (with_reducible apply Mem.alloc))) hJ.below) | (have hB2 := hJ.below)); clear hJ; (try clear F); (try simp only [World.size_alloc] at M); (try simp only [heap_drew] at M); (try (have F := Mem.facts M; simp only [MemFacts] at F; (try simp only [ApartFacts] at F))))
  clear hJ hn hfr HJB
  go_wp2_with (go_at_call 130; (refine (concat_c b _ _ 42 (0, 0) k l hk hl _ (M.at 0 rfl) (Mem.rd8 (w0 := w0) 3 M rfl hk (by decide)) (Mem.rd8 (w0 := w0) 2 M rfl hl (by decide))).mono ?_); rintro o w3 ⟨v, rfl, hv, hb⟩; replace M := Mem.call (w0 := w0) (by repeat' (first | (with_reducible exact M) | (with_reducible apply Mem.drew) | (with_reducible apply Mem.alloc))) hb; clear hb; (try clear F); (try simp only [World.size_alloc] at M); (try simp only [heap_drew] at M); have F := Mem.facts M; simp only [MemFacts] at F; (try simp only [ApartFacts] at F))
  (try clear hK)
  refine Flo.N.sx_last (md := Flo.N.se) (by exact rfl) (by exact rfl) ?_
  intro w2 hJ K hK
  have hJ : w2 = _ := hJ
  subst hJ
  go_wp2_with (go_at_call 50; (refine (double_c v (k ++ l) (by rw [List.length_append, hk, hl]; decide) _ hv).mono ?_); rintro o w4 ⟨rfl, hb⟩; replace M := Mem.call (w0 := w0) (by repeat' (first | (with_reducible exact M) | (with_reducible apply Mem.drew) | (with_reducible apply Mem.alloc))) hb; clear hb; (try clear F); (try simp only [World.size_alloc] at M); (try simp only [heap_drew] at M); have F := Mem.facts M; simp only [MemFacts] at F; (try simp only [ApartFacts] at F))
  (try clear hK)
  clear hv
  refine Flo.N.sx_last (md := Flo.N.se) (by exact rfl) (by exact rfl) ?_
  intro w2 hJ K hK
  have hJ : w2 = _ := hJ
  subst hJ
  refine op_storeM (w0 := w0) 23 _ _ rfl hshT rfl rfl 1 M rfl (by rw [bA_size, h2]) (by rw [bA_size, nought_length]) (bA_one _) ?_
  clear M F
  intro M
  simp only [List.set_cons_succ, List.set_cons_zero] at M
  refine hK _ _ ⟨rfl, ?_⟩
  clear hK
  refine Flo.N.sx_end ?_
  go_wp2
  refine bodyPost_ret (results_cell_row Try.results93 _ _ _ 23 (bA (dblV (k ++ l))) (0, 0) _ rfl (M.at 1 rfl) hshT.under rfl (by rw [bA_size, h2]; exact hshT.size)) rfl ⟨rfl, M.below⟩
end Go.Proofs.Ytkgjgdeaclefiaa
