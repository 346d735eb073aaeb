/-
  florinref02.Block.
-/
import Derived.Test.YtkgjgdeaclefiaaShaN
import Derived.Test.YtkgjgdeaclefiaaWc
import Derived.Deep.QuietTactic
import Derived.BigQuiet
namespace Go.Proofs.Ytkgjgdeaclefiaa
open Go Go.Proofs Go.RowKit Go.Flo

set_option maxRecDepth 100000 in
set_option maxHeartbeats 1500000 in
theorem rblock_short (v : Value) (l : List UInt8) (h : List UInt32) (hh : h.length = 8) (hl : l.length ≠ 64) (w0 : World) (hI : Rd8 w0 v l) :
    Calls Try.prog 55 #[.agg (wA h), v] w0 fun e w' => e = .returned (.agg (wA h)) ∧ Below w0.heap.size w0 w' := by
  obtain ⟨a, cap, rfl⟩ := hI.shape
  have hl' : ((l.length : Int) == 64) = false := by rw [beq_eq_false_iff_ne]; omega
  have hl2 : ((l.length : Int) != 64) = true := by rw [bne, hl']; rfl
  clear hI
  have HL := Lib.hid hl
  clear hl
  have M := Mem.nil w0; have F := Mem.facts M; simp only [MemFacts] at F; (try simp only [ApartFacts] at F)
  go_enter Try.func55, Try.ntmps55
  go_wp2_with (first | (refine wl_alloc rfl 44 rfl octZ ?_; (try simp only [World.size_alloc])) | (refine wl_box rfl 44 _ rfl rfl ?_; (try simp only [World.size_alloc])) | (refine wl_isLoad 44 (.tmp 2) rfl ?_; refine wl_load rfl 44 (.tmp 2) rfl octT rfl (Mem.at (w0 := w0) 1 (by repeat' (first | (with_reducible exact M) | (with_reducible apply Mem.drew) | (with_reducible apply Mem.alloc') | (simp only [World.size_alloc]; exact rfl) | exact rfl)) (by rfl)) (by first | (rw [wA_size]; exact hh) | (rw [bA_size]; exact hh) | exact hh | exact rfl) ?_) | (refine wl_isStore 44 (.tmp 4) _ rfl ?_; refine wl_storeM (w0 := w0) rfl 44 (.tmp 4) _ rfl octT rfl rfl 0 (by repeat' (first | (with_reducible exact M) | (with_reducible apply Mem.drew) | (with_reducible apply Mem.alloc') | (simp only [World.size_alloc]; exact rfl) | exact rfl)) (by rfl) (by first | (rw [wA_size]; exact hh) | (rw [bA_size]; exact hh) | exact hh | exact rfl) (by first | (rw [wA_size]; exact z8) | (rw [bA_size]; exact z8) | exact z8 | exact rfl) (by first | exact wA_one _ | exact bA_one _ | decide) ?_; clear M F; intro M; (try simp only [World.size_alloc, size_setRow] at M); (try simp only [List.set_cons_succ] at M); (try simp only [List.set_cons_zero] at M); have F := Mem.facts M; simp only [MemFacts] at F; (try simp only [ApartFacts] at F)))
  refine bodyPost_ret (results_cell_row Try.results55 _ _ _ 44 (wA h) (0, 0) _ rfl (M.at 0 rfl) octT.under rfl (by rw [wA_size, hh]; exact octT.size)) rfl ⟨rfl, M.below⟩
theorem drewNM {w0 w : World} {l : List It} (h : Mem w0 w l) : ∀ n, Mem w0 (w.drewN n) l
  | 0 => h
  | n + 1 => (drewNM h n).drew
theorem not_val (e : UInt32) : bits .xor .u32 (if IntKind.u32.signed = true then -1 else IntKind.u32.max) (e.toNat : Int) = ((~~~e).toNat : Int) := by
  have h : (if IntKind.u32.signed = true then (-1 : Int) else IntKind.u32.max) = (((4294967295 : UInt32).toNat : Nat) : Int) := by rfl
  rw [h, u32_xor]
  congr 2 <;> (apply UInt32.toBitVec_inj.1; simp only [UInt32.toBitVec_xor, UInt32.toBitVec_not]; apply BitVec.eq_of_getElem_eq; intro i hi; rw [BitVec.getElem_xor, BitVec.getElem_not]; have : (4294967295 : UInt32).toBitVec = BitVec.allOnes 32 := by decide; simp [this])
structure RBlk2 (l : List UInt8) (h v : List UInt32) (w0 : World) (b2 b4 b5 b6 b7 : Nat) (k : Value) (wr : World) (t : Nat) : Prop where
  le : t ≤ 8
  k : k = .int .i64 (t : Int)
  mem : Mem w0 wr [.c b7 (wA (mixL v h t)) 44, .c b6 (wA kL) 136, .c b5 (wA (schL l)) 136, .c b4 (wA (zw 8)) 44, .c b2 (wA h) 44]
structure RBlk1 (l : List UInt8) (h : List UInt32) (w0 : World) (b2 b4 b5 b6 b7 : Nat) (k : Value) (wr : World) (i : Nat) : Prop where
  le : i ≤ 64
  k : k = .int .i64 (i : Int)
  mem : Mem w0 wr [.c b7 (wA (rndG (schL l) h i)) 44, .c b6 (wA kL) 136, .c b5 (wA (schL l)) 136, .c b4 (wA (zw 8)) 44, .c b2 (wA h) 44]
set_option maxRecDepth 100000 in
set_option maxHeartbeats 1500000 in
theorem rblock_full (v : Value) (l : List UInt8) (h : List UInt32) (hh : h.length = 8) (hl : l.length = 64) (w0 : World) (hI : Rd8 w0 v l) :
    Calls Try.prog 55 #[.agg (wA h), v] w0 fun e w' => e = .returned (.agg (wA (blkV h l))) ∧ Below w0.heap.size w0 w' := by
  have hg := schL_length l
  obtain ⟨a, cap, rfl⟩ := hI.shape
  rw [hl] at hI ⊢
  have HL := Lib.hid hl
  have HI := Lib.hid hI
  clear hl hI
  have C1 := rconstants_c
  have M := Mem.nil w0; have F := Mem.facts M; simp only [MemFacts] at F; (try simp only [ApartFacts] at F)
  go_enter Try.func55, Try.ntmps55
  go_wp2_with (first | (refine wl_alloc rfl 44 rfl octZ ?_; (try simp only [World.size_alloc])) | (refine wl_box rfl 44 _ rfl rfl ?_; (try simp only [World.size_alloc])) | (go_at_call 119; (refine (rwords_c _ _ HL.out _ (Flo.Rd8.below HI.out (Mem.below (w0 := w0) (by repeat' (first | (with_reducible exact M) | (with_reducible apply Mem.drew) | (with_reducible apply Mem.alloc') | (simp only [World.size_alloc]; exact rfl) | exact rfl))))).mono ?_); rintro e w1 ⟨rfl, hb⟩; replace M := Mem.call (w0 := w0) (by repeat' (first | (with_reducible exact M) | (with_reducible apply Mem.drew) | (with_reducible apply Mem.alloc))) hb; clear hb; (try clear F); (try simp only [World.size_alloc] at M); (try simp only [heap_drew] at M); have F := Mem.facts M; simp only [MemFacts] at F; (try simp only [ApartFacts] at F)) | (go_at_call 120; (refine (C1 _).mono ?_); rintro e w2 ⟨rfl, hb⟩; replace M := Mem.call (w0 := w0) (by repeat' (first | (with_reducible exact M) | (with_reducible apply Mem.drew) | (with_reducible apply Mem.alloc))) hb; clear hb; (try clear F); (try simp only [World.size_alloc] at M); (try simp only [heap_drew] at M); have F := Mem.facts M; simp only [MemFacts] at F; (try simp only [ApartFacts] at F)) | (refine wl_alloc rfl 136 rfl tab2Z ?_; (try simp only [World.size_alloc])) | (refine wl_isStore 136 (.tmp 5) _ rfl ?_; refine wl_storeM (w0 := w0) rfl 136 (.tmp 5) _ rfl tab2T rfl rfl 0 (by repeat' (first | (with_reducible exact M) | (with_reducible apply Mem.drew) | (with_reducible apply Mem.alloc') | (simp only [World.size_alloc]; exact rfl) | exact rfl)) (by rfl) (by first | (rw [wA_size]; exact hg) | (rw [bA_size]; exact hg) | exact hg | exact rfl) (by first | (rw [wA_size]; exact z64) | (rw [bA_size]; exact z64) | exact z64 | exact rfl) (by first | exact wA_one _ | exact bA_one _ | decide) ?_; clear M F; intro M; (try simp only [World.size_alloc, size_setRow] at M); (try simp only [List.set_cons_succ] at M); (try simp only [List.set_cons_zero] at M); have F := Mem.facts M; simp only [MemFacts] at F; (try simp only [ApartFacts] at F)) | (refine wl_isStore 136 (.tmp 6) _ rfl ?_; refine wl_storeM (w0 := w0) rfl 136 (.tmp 6) _ rfl tab2T rfl rfl 0 (by repeat' (first | (with_reducible exact M) | (with_reducible apply Mem.drew) | (with_reducible apply Mem.alloc') | (simp only [World.size_alloc]; exact rfl) | exact rfl)) (by rfl) (by first | (rw [wA_size]; exact kL_length) | (rw [bA_size]; exact kL_length) | exact kL_length | exact rfl) (by first | (rw [wA_size]; exact z64) | (rw [bA_size]; exact z64) | exact z64 | exact rfl) (by first | exact wA_one _ | exact bA_one _ | decide) ?_; clear M F; intro M; (try simp only [World.size_alloc, size_setRow] at M); (try simp only [List.set_cons_succ] at M); (try simp only [List.set_cons_zero] at M); have F := Mem.facts M; simp only [MemFacts] at F; (try simp only [ApartFacts] at F)) | (refine wl_isLoad 44 (.tmp 2) rfl ?_; refine wl_load rfl 44 (.tmp 2) rfl octT rfl (Mem.at (w0 := w0) 3 (by repeat' (first | (with_reducible exact M) | (with_reducible apply Mem.drew) | (with_reducible apply Mem.alloc') | (simp only [World.size_alloc]; exact rfl) | exact rfl)) (by rfl)) (by first | (rw [wA_size]; exact hh) | (rw [bA_size]; exact hh) | exact hh | exact rfl) ?_) | (refine wl_isStore 44 (.tmp 7) _ rfl ?_; refine wl_storeM (w0 := w0) rfl 44 (.tmp 7) _ rfl octT rfl rfl 0 (by repeat' (first | (with_reducible exact M) | (with_reducible apply Mem.drew) | (with_reducible apply Mem.alloc') | (simp only [World.size_alloc]; exact rfl) | exact rfl)) (by rfl) (by first | (rw [wA_size]; exact hh) | (rw [bA_size]; exact hh) | exact hh | exact rfl) (by first | (rw [wA_size]; exact z8) | (rw [bA_size]; exact z8) | exact z8 | exact rfl) (by first | exact wA_one _ | exact bA_one _ | decide) ?_; clear M F; intro M; (try simp only [World.size_alloc, size_setRow] at M); (try simp only [List.set_cons_succ] at M); (try simp only [List.set_cons_zero] at M); have F := Mem.facts M; simp only [MemFacts] at F; (try simp only [ApartFacts] at F)))
  generalize w2.heap.size + 1 = b7 at M F ⊢
  generalize w2.heap.size = b6 at M F ⊢
  generalize w1.heap.size = b5 at M F ⊢
  go_loopw [8] (fun k wr => ∃ i, RBlk1 l h w0 w0.heap.size (w0.heap.size + 1) b5 b6 b7 k wr i) (fun k _ => (64 - intOf k).toNat)
  case atStart => exact ⟨0, Nat.zero_le _, rfl, M⟩
  case round =>
    clear M F
    obtain ⟨i, le, rfl, M⟩ := hrel
    rcases Nat.lt_or_ge i 64 with hlt | hge
    · obtain ⟨a, b', c, d, e, f, g, k, hv⟩ := eight_of (rndG_length (schL l) h hh i)
      have hn : rndG (schL l) h (i + 1) = rndV (kL.getD i 0) ((schL l).getD i 0) [a, b', c, d, e, f, g, k] := by rw [← hv]; rfl
      rw [hv, wA8] at M
      have g1 := wA_get (l := kL) (i := i) hlt
      have g2 := wA_get (l := schL l) (i := i) (by rw [hg]; exact hlt)
      generalize kL.getD i 0 = kk at *
      generalize (schL l).getD i 0 = ww at *
      have HN := Lib.hid hn
      clear hn hv
      have F := Mem.facts M; simp only [MemFacts] at F; (try simp only [ApartFacts] at F)
      have hlt' : (i : Int) < 64 := by omega
      have T1 := turn_g e 6 6 rfl (by decide) (by decide)
      have T2 := turn_g e 11 11 rfl (by decide) (by decide)
      have T3 := turn_g e 25 25 rfl (by decide) (by decide)
      have T4 := turn_g a 2 2 rfl (by decide) (by decide)
      have T5 := turn_g a 13 13 rfl (by decide) (by decide)
      have T6 := turn_g a 22 22 rfl (by decide) (by decide)
      have HE1 := Lib.hid (turn3 e 6 11 25)
      have HE2 := Lib.hid (turn3 a 2 13 22)
      generalize rot e 6 = r1 at *
      generalize rot e 11 = r2 at *
      generalize rot e 25 = r3 at *
      generalize rot a 2 = r4 at *
      generalize rot a 13 = r5 at *
      generalize rot a 22 = r6 at *
      go_wp2
      ((try simp only [List.append_eq, List.cons_append, List.nil_append]); refine Flo.N.wp_made (by kernel_rfl) (by decide +kernel) ?_; (repeat (first | (refine Flo.N.sx_skip (by exact rfl) (by exact rfl) ?_; simp only [Act.put, List.setIfInBounds_toArray, List.set_cons_zero, List.set_cons_succ]) | (refine Flo.N.sx_pure (by exact rfl) (by exact rfl) (by exact rfl) ?_; intro K hK; go_big_quiet_op; go_big_quiet_on) | (refine Flo.N.sx_free (by exact rfl) (by exact rfl) (by exact rfl) (by exact rfl) ?_; intro K hK; go_big_quiet_op; go_big_quiet_on) | (apply Flo.N.sx_alloc (by exact rfl) (by exact rfl); (focus (intro w; go_simp; first | done | exact rfl | exact ⟨rfl, rfl⟩)); intro b hn hfr; (try have hne := Flo.Fresh.ne hfr); simp only [Act.put, List.setIfInBounds_toArray, List.set_cons_zero, List.set_cons_succ]) | (apply Flo.N.sx_build _ (by exact rfl) (by exact rfl); (focus (intro w; go_simp; first | done | exact rfl | exact ⟨rfl, rfl⟩)); intro b hn hfr; (try have hne := Flo.Fresh.ne hfr); simp only [Act.put, List.setIfInBounds_toArray, List.set_cons_zero, List.set_cons_succ]) | (apply Flo.N.sx_give (by exact rfl) (by exact rfl); (focus (intro w hbW hh; apply Flo.gives_of; intro G hG; go_simp; apply hG _ _ (by kernel_rfl); clear hG G; first | (with_reducible exact T1 _) | (with_reducible exact T2 _) | (with_reducible exact T3 _))); simp only [Act.put, List.setIfInBounds_toArray, List.set_cons_zero, List.set_cons_succ]) | (refine Flo.N.sx_last (by exact rfl) (by exact rfl) ?_; intro w2 hJ K hK; first | (have hJ : Flo.Holds _ _ _ _ := hJ; (try have HJB := Lib.hid hJ.below); (first | (have hu1 := Flo.Holds.uncover (by exact rfl) hJ; have hu2 := Flo.Holds.uncover (by exact rfl) hu1.2; replace M := Flo.N.got2 (w0 := w0) (by repeat' (first | (with_reducible exact M) | (with_reducible apply Mem.drew) | (with_reducible apply Mem.alloc))) hJ.below hu2.1 hu1.1 hne; clear hu1 hu2) | (have hu1 := Flo.Holds.uncover (by exact rfl) hJ; replace M := Mem.got (w0 := w0) (x := .c _ _ _) (by repeat' (first | (with_reducible exact M) | (with_reducible apply Mem.drew) | (with_reducible apply Mem.alloc))) hJ.below hu1.1; clear hu1) | (replace M := Mem.call (w0 := w0) (by repeat' (first | (with_reducible exact M) | (with_reducible apply Mem.drew) | (with_reducible apply Mem.alloc))) hJ.below) | (have hB2 := hJ.below)); clear hJ; (try clear F); (try simp only [World.size_alloc] at M); (try simp only [heap_drew] at M); (try (have F := Mem.facts M; simp only [MemFacts] at F; (try simp only [ApartFacts] at F))); go_wp2_with (fail); (try refine ⟨rfl, ?_⟩)) | (have hJ : w2 = _ := hJ; subst hJ; go_wp2_with (fail); (try refine ⟨rfl, ?_⟩))))); (first | (refine Flo.N.sx_end ?_) | (refine Flo.N.sx_nil ?_; intro w2 hJ; (try have HJB := Lib.hid hJ.below); (first | (have hu1 := Flo.Holds.uncover (by exact rfl) hJ; have hu2 := Flo.Holds.uncover (by exact rfl) hu1.2; replace M := Flo.N.got2 (w0 := w0) (by repeat' (first | (with_reducible exact M) | (with_reducible apply Mem.drew) | (with_reducible apply Mem.alloc))) hJ.below hu2.1 hu1.1 hne; clear hu1 hu2) | (have hu1 := Flo.Holds.uncover (by exact rfl) hJ; replace M := Mem.got (w0 := w0) (x := .c _ _ _) (by repeat' (first | (with_reducible exact M) | (with_reducible apply Mem.drew) | (with_reducible apply Mem.alloc))) hJ.below hu1.1; clear hu1) | (replace M := Mem.call (w0 := w0) (by repeat' (first | (with_reducible exact M) | (with_reducible apply Mem.drew) | (with_reducible apply Mem.alloc))) hJ.below) | (have hB2 := hJ.below)); clear hJ; (try clear F); (try simp only [World.size_alloc] at M); (try simp only [heap_drew] at M); (try (have F := Mem.facts M; simp only [MemFacts] at F; (try simp only [ApartFacts] at F))))))
      simp only [not_val, u32_xor, u32_and]
      rw [chV_eq, ← HE1.out, u32_add, t_val]
      obtain ⟨t, ht⟩ : ∃ x, x = k + turnV e [6, 11, 25] + chV e f g + kk + ww := ⟨_, rfl⟩
      rw [← ht]
      have HT := Lib.hid ht
      clear ht HE1 T1 T2 T3 HJB
      go_wp2
      ((try simp only [List.append_eq, List.cons_append, List.nil_append]); refine Flo.N.wp_made (by kernel_rfl) (by decide +kernel) ?_; (repeat (first | (refine Flo.N.sx_skip (by exact rfl) (by exact rfl) ?_; simp only [Act.put, List.setIfInBounds_toArray, List.set_cons_zero, List.set_cons_succ]) | (refine Flo.N.sx_pure (by exact rfl) (by exact rfl) (by exact rfl) ?_; intro K hK; go_big_quiet_op; go_big_quiet_on) | (refine Flo.N.sx_free (by exact rfl) (by exact rfl) (by exact rfl) (by exact rfl) ?_; intro K hK; go_big_quiet_op; go_big_quiet_on) | (apply Flo.N.sx_alloc (by exact rfl) (by exact rfl); (focus (intro w; go_simp; first | done | exact rfl | exact ⟨rfl, rfl⟩)); intro b hn hfr; (try have hne := Flo.Fresh.ne hfr); simp only [Act.put, List.setIfInBounds_toArray, List.set_cons_zero, List.set_cons_succ]) | (apply Flo.N.sx_build _ (by exact rfl) (by exact rfl); (focus (intro w; go_simp; first | done | exact rfl | exact ⟨rfl, rfl⟩)); intro b hn hfr; (try have hne := Flo.Fresh.ne hfr); simp only [Act.put, List.setIfInBounds_toArray, List.set_cons_zero, List.set_cons_succ]) | (apply Flo.N.sx_give (by exact rfl) (by exact rfl); (focus (intro w hbW hh; apply Flo.gives_of; intro G hG; go_simp; apply hG _ _ (by kernel_rfl); clear hG G; first | (with_reducible exact T4 _) | (with_reducible exact T5 _) | (with_reducible exact T6 _))); simp only [Act.put, List.setIfInBounds_toArray, List.set_cons_zero, List.set_cons_succ]) | (refine Flo.N.sx_last (by exact rfl) (by exact rfl) ?_; intro w2 hJ K hK; first | (have hJ : Flo.Holds _ _ _ _ := hJ; (try have HJB := Lib.hid hJ.below); (first | (have hu1 := Flo.Holds.uncover (by exact rfl) hJ; have hu2 := Flo.Holds.uncover (by exact rfl) hu1.2; replace M := Flo.N.got2 (w0 := w0) (by repeat' (first | (with_reducible exact M) | (with_reducible apply Mem.drew) | (with_reducible apply Mem.alloc))) hJ.below hu2.1 hu1.1 hne; clear hu1 hu2) | (have hu1 := Flo.Holds.uncover (by exact rfl) hJ; replace M := Mem.got (w0 := w0) (x := .c _ _ _) (by repeat' (first | (with_reducible exact M) | (with_reducible apply Mem.drew) | (with_reducible apply Mem.alloc))) hJ.below hu1.1; clear hu1) | (replace M := Mem.call (w0 := w0) (by repeat' (first | (with_reducible exact M) | (with_reducible apply Mem.drew) | (with_reducible apply Mem.alloc))) hJ.below) | (have hB2 := hJ.below)); clear hJ; (try clear F); (try simp only [World.size_alloc] at M); (try simp only [heap_drew] at M); (try (have F := Mem.facts M; simp only [MemFacts] at F; (try simp only [ApartFacts] at F))); go_wp2_with (fail); (try refine ⟨rfl, ?_⟩)) | (have hJ : w2 = _ := hJ; subst hJ; go_wp2_with (fail); (try refine ⟨rfl, ?_⟩))))); (first | (refine Flo.N.sx_end ?_) | (refine Flo.N.sx_nil ?_; intro w2 hJ; (try have HJB := Lib.hid hJ.below); (first | (have hu1 := Flo.Holds.uncover (by exact rfl) hJ; have hu2 := Flo.Holds.uncover (by exact rfl) hu1.2; replace M := Flo.N.got2 (w0 := w0) (by repeat' (first | (with_reducible exact M) | (with_reducible apply Mem.drew) | (with_reducible apply Mem.alloc))) hJ.below hu2.1 hu1.1 hne; clear hu1 hu2) | (have hu1 := Flo.Holds.uncover (by exact rfl) hJ; replace M := Mem.got (w0 := w0) (x := .c _ _ _) (by repeat' (first | (with_reducible exact M) | (with_reducible apply Mem.drew) | (with_reducible apply Mem.alloc))) hJ.below hu1.1; clear hu1) | (replace M := Mem.call (w0 := w0) (by repeat' (first | (with_reducible exact M) | (with_reducible apply Mem.drew) | (with_reducible apply Mem.alloc))) hJ.below) | (have hB2 := hJ.below)); clear hJ; (try clear F); (try simp only [World.size_alloc] at M); (try simp only [heap_drew] at M); (try (have F := Mem.facts M; simp only [MemFacts] at F; (try simp only [ApartFacts] at F))))))
      simp only [u32_xor, u32_and]
      rw [majV_eq, ← HE2.out, u32_add]
      obtain ⟨s, hs⟩ : ∃ x, x = turnV a [2, 13, 22] + majV a b' c := ⟨_, rfl⟩
      rw [← hs]
      have HS := Lib.hid hs
      clear hs HE2 T4 T5 T6 HJB
      have h1 := u32_add t s
      have h2 := u32_add d t
      obtain ⟨y1, hy1⟩ : ∃ x, x = t + s := ⟨_, rfl⟩
      obtain ⟨y2, hy2⟩ : ∃ x, x = d + t := ⟨_, rfl⟩
      rw [← hy1] at h1
      rw [← hy2] at h2
      have HY1 := Lib.hid hy1
      have HY2 := Lib.hid hy2
      clear hy1 hy2
      go_wp2
      have e9 : rndG (schL l) h (i + 1) = [y1, a, b', c, y2, e, f, g] := by
        rw [HN.out, HY1.out, HY2.out, HT.out, HS.out]
        show [_, _, _, _, _, _, _, _] = _
        unfold rndT
        rw [UInt32.add_assoc]
      refine ⟨⟨i + 1, by omega, by simp, ?_⟩, by simp only [intOf]; omega⟩
      rw [e9, wA8]
      exact M.put8r 0 rfl (.int .u32 (y1.toNat : Int)) (.int .u32 (a.toNat : Int)) (.int .u32 (b'.toNat : Int)) (.int .u32 (c.toNat : Int)) (.int .u32 (y2.toNat : Int)) (.int .u32 (e.toNat : Int)) (.int .u32 (f.toNat : Int)) (.int .u32 (g.toNat : Int))
    · obtain rfl : i = 64 := by omega
      have hr := rndG_length (schL l) h hh 64
      obtain ⟨v, hv⟩ : ∃ v, v = rndG (schL l) h 64 := ⟨_, rfl⟩
      rw [← hv] at hr M
      have HV := Lib.hid hv
      clear hv
      rw [show ((64 : Nat) : Int) = 64 from rfl]
      have F := Mem.facts M; simp only [MemFacts] at F; (try simp only [ApartFacts] at F)
      go_wp2
      rw [← mixL_zero v h] at M
      go_loopw [11] (fun k wr => ∃ t, RBlk2 l h v w0 w0.heap.size (w0.heap.size + 1) b5 b6 b7 k wr t) (fun k _ => (8 - intOf k).toNat)
      case atStart => exact ⟨0, Nat.zero_le _, rfl, M⟩
      case round =>
        clear M F
        obtain ⟨t, le, rfl, M⟩ := hrel
        rcases Nat.lt_or_ge t 8 with hlt | hge
        · have g1 := wA_get (l := mixL v h t) (i := t) (by rw [mixL_length v h t hr hh (by omega)]; exact hlt)
          have g2 := wA_get (l := h) (i := t) (by rw [hh]; exact hlt)
          rw [mixL_at v h t hr hh hlt] at g1
          have hn := mixL_next v h t hr hh hlt
          have hx := u32_add (v.getD t 0) (h.getD t 0)
          generalize v.getD t 0 + h.getD t 0 = z at *
          generalize v.getD t 0 = x at *
          generalize h.getD t 0 = y at *
          have HN := Lib.hid hn
          clear hn
          have F := Mem.facts M; simp only [MemFacts] at F; (try simp only [ApartFacts] at F)
          have hlt' : (t : Int) < 8 := by omega
          go_wp2
          (refine Flo.wp_region_auto (fun _ => True) Flo.rd (by kernel_rfl) (by decide +kernel) (trivial) ?_; repeat (first | (refine Flo.au_skip (by exact rfl) (by exact rfl) ?_; simp only [Act.put, List.setIfInBounds_toArray, List.set_cons_zero, List.set_cons_succ]) | (refine Flo.au_free (by exact rfl) (by exact rfl) (by exact rfl) ?_; intro K hK; go_big_quiet_op; go_big_quiet_on) | (refine Flo.au_still (by exact rfl) (by exact rfl) (by exact rfl) ?_; intro K hK; go_simp; refine hK _ ?_; clear hK K) | (refine Flo.au_move (by exact rfl) (by exact rfl) ?_; intro K hK; go_wp2_with (fail); try (with_reducible refine ⟨rfl, trivial, ?_⟩)) | (refine Flo.mix_nil ?_)))
          go_wp2
          have M2 := (M.put 0 rfl t (.int .u32 (z.toNat : Int))).drew
          rw [wA_set, ← HN.out] at M2
          exact ⟨⟨t + 1, by omega, by simp, M2⟩, by simp only [intOf]; omega⟩
        · obtain rfl : t = 8 := by omega
          rw [mixL_end v h hr hh] at M
          have hz : (List.zipWith (· + ·) v h).length = 8 := by rw [List.length_zipWith, hr, hh]; rfl
          have F := Mem.facts M; simp only [MemFacts] at F; (try simp only [ApartFacts] at F)
          go_wp2_with (first | (refine wl_isLoad 44 (.tmp 7) rfl ?_; refine wl_load rfl 44 (.tmp 7) rfl octT rfl (Mem.at (w0 := w0) 0 (by repeat' (first | (with_reducible exact M) | (with_reducible apply Mem.drew) | (with_reducible apply Mem.alloc') | (simp only [World.size_alloc]; exact rfl) | exact rfl)) (by rfl)) (by first | (rw [wA_size]; exact hz) | (rw [bA_size]; exact hz) | exact hz | exact rfl) ?_) | (refine wl_isStore 44 (.tmp 4) _ rfl ?_; refine wl_storeM (w0 := w0) rfl 44 (.tmp 4) _ rfl octT rfl rfl 3 (by repeat' (first | (with_reducible exact M) | (with_reducible apply Mem.drew) | (with_reducible apply Mem.alloc') | (simp only [World.size_alloc]; exact rfl) | exact rfl)) (by rfl) (by first | (rw [wA_size]; exact hz) | (rw [bA_size]; exact hz) | exact hz | exact rfl) (by first | (rw [wA_size]; exact z8) | (rw [bA_size]; exact z8) | exact z8 | exact rfl) (by first | exact wA_one _ | exact bA_one _ | decide) ?_; clear M F; intro M; (try simp only [World.size_alloc, size_setRow] at M); (try simp only [List.set_cons_succ] at M); (try simp only [List.set_cons_zero] at M); have F := Mem.facts M; simp only [MemFacts] at F; (try simp only [ApartFacts] at F)))
          refine bodyPost_ret (results_cell_row Try.results55 _ _ _ 44 (wA (List.zipWith (· + ·) v h)) (0, 0) _ rfl (M.at 3 rfl) octT.under rfl (by rw [wA_size, hz]; exact octT.size)) rfl ⟨?_, M.below⟩
          unfold blkV
          rw [if_pos HL.out, HV.out]
theorem rblock_c (v : Value) (l : List UInt8) (h : List UInt32) (hh : h.length = 8) (w0 : World) (hI : Rd8 w0 v l) :
    Calls Try.prog 55 #[.agg (wA h), v] w0 fun e w' => e = .returned (.agg (wA (blkV h l))) ∧ Below w0.heap.size w0 w' := by
  by_cases hl : l.length = 64
  · exact rblock_full v l h hh hl w0 hI
  · have := rblock_short v l h hh hl w0 hI
    have e : blkV h l = h := by unfold blkV; rw [if_neg hl]
    rw [e]
    exact this
end Go.Proofs.Ytkgjgdeaclefiaa
